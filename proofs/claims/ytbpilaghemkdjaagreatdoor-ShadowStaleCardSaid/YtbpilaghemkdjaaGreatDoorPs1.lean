/- Part 1: A heap logic over the model's worlds: lists of parts that hold apart from each o; A walk's rules over the heap logic: what is known of the temporaries is a list,; The operations, one rule each: what each yields, of which heap; Tests that part the walk; statements whose order is drawn; Slices of one's own; append, copy, make; make, copy; what is one's own is read; Drawn orders, all of them; branches that meet; bytes as strings; parts of slices; Rules whose lists stand in full; Maps whose keys are ints; Aggregates by cells; clear; structs of whole numbers compared. -/
import Derived.WalkKit
import Derived.Deep.Quiet
import Derived.OrdersHeld
import Derived.Laws.BytesArg
import Derived.MapKept
import Derived.Laws.StructEq
set_option linter.all false
/- A heap logic over the model's worlds: lists of parts that hold apart from each other; frames by lists. No program in sight. -/
namespace Go.Sep
open Go

/-- A part of a heap: which object a block holds, where it is known. -/
abbrev PH := Nat → Option Obj
/-- What is said of a part of a heap. -/
abbrev HP := PH → Prop

def sub (h g : PH) : Prop := ∀ b o, h b = some o → g b = some o
def disj (h g : PH) : Prop := ∀ b, h b = none ∨ g b = none
def union (h g : PH) : PH := fun b => match h b with | some o => some o | none => g b

theorem sub_refl (h : PH) : sub h h := fun _ _ x => x
theorem sub_trans {a b c : PH} (h : sub a b) (k : sub b c) : sub a c := fun x o e => k x o (h x o e)
theorem disj_symm {a b : PH} (h : disj a b) : disj b a := fun x => (h x).symm
theorem disj_sub {a b a' : PH} (h : disj a b) (k : sub a' a) : disj a' b := fun x => by
  rcases h x with e | e
  · left
    cases q : a' x with
    | none => rfl
    | some o => have := k x o q; rw [e] at this; cases this
  · exact .inr e
theorem disj_sub2 {a b b' : PH} (h : disj a b) (k : sub b' b) : disj a b' := disj_symm (disj_sub (disj_symm h) k)
theorem union_sub {a b c : PH} (h : sub a c) (k : sub b c) : sub (union a b) c := fun x o e => by
  unfold union at e
  cases q : a x with
  | none => rw [q] at e; exact k x o e
  | some o' => rw [q] at e; cases e; exact h x o q
theorem sub_union_left (a b : PH) : sub a (union a b) := fun x o e => by simp [union, e]
theorem sub_union_right {a b : PH} (h : disj a b) : sub b (union a b) := fun x o e => by
  rcases h x with q | q
  · simp [union, q, e]
  · rw [q] at e; cases e
theorem disj_union {a b c : PH} (h : disj a c) (k : disj b c) : disj (union a b) c := fun x => by
  rcases h x with q | q
  · rcases k x with r | r
    · left; simp [union, q, r]
    · exact .inr r
  · exact .inr q

def Holds : List HP → PH → Prop
  | [], _ => True
  | p :: l, h => ∃ h1 h2, sub h1 h ∧ sub h2 h ∧ disj h1 h2 ∧ p h1 ∧ Holds l h2

theorem Holds.mono {l : List HP} {h g : PH} (k : sub h g) (x : Holds l h) : Holds l g := by
  cases l with
  | nil => trivial
  | cons p l =>
    obtain ⟨h1, h2, a, b, c, d, e⟩ := x
    exact ⟨h1, h2, sub_trans a k, sub_trans b k, c, d, e⟩

theorem Holds.perm {l l' : List HP} (p : l.Perm l') : ∀ {h : PH}, Holds l h → Holds l' h := by
  induction p with
  | nil => exact fun x => x
  | cons x _ ih => exact fun ⟨h1, h2, a, b, c, d, e⟩ => ⟨h1, h2, a, b, c, d, ih e⟩
  | swap x y l =>
    rintro h ⟨h1, h2, a, b, c, d, h3, h4, a', b', c', d', e'⟩
    refine ⟨h3, union h1 h4, sub_trans a' b, union_sub a (sub_trans b' b), ?_, d', h1, h4, sub_union_left _ _, ?_, disj_sub2 c b', d, e'⟩
    · exact disj_symm (disj_union (disj_sub2 c a') (disj_symm c'))
    · exact sub_union_right (disj_sub2 c b')
  | trans _ _ ih1 ih2 => exact fun x => ih2 (ih1 x)

theorem Holds.append {l l' : List HP} : ∀ {h : PH}, Holds (l ++ l') h ↔ ∃ h1 h2, sub h1 h ∧ sub h2 h ∧ disj h1 h2 ∧ Holds l h1 ∧ Holds l' h2 := by
  induction l with
  | nil =>
    intro h
    constructor
    · intro x; exact ⟨fun _ => none, h, fun _ _ e => (by cases e), sub_refl _, fun _ => .inl rfl, trivial, x⟩
    · rintro ⟨_, h2, _, b, _, _, e⟩; exact Holds.mono b e
  | cons p l ih =>
    intro h
    constructor
    · rintro ⟨h1, h2, a, b, c, d, e⟩
      obtain ⟨h3, h4, a', b', c', d', e'⟩ := ih.1 e
      refine ⟨union h1 h3, h4, union_sub a (sub_trans a' b), sub_trans b' b, disj_union (disj_sub2 c b') c', ⟨h1, h3, sub_union_left _ _, sub_union_right (disj_sub2 c a'), disj_sub2 c a', d, d'⟩, e'⟩
    · rintro ⟨h1, h2, a, b, c, ⟨h3, h4, a', b', c', d', e'⟩, e⟩
      refine ⟨h3, union h4 h2, sub_trans a' a, union_sub (sub_trans b' a) b, disj_symm (disj_union (disj_symm c') (disj_symm (disj_sub c a'))), d', ih.2 ⟨h4, h2, sub_union_left _ _, sub_union_right (disj_sub c b'), disj_sub c b', e', e⟩⟩

/-- Several parts as one. -/
def star (l : List HP) : HP := Holds l
/-- Block b holds the object o. -/
def pt (b : Nat) (o : Obj) : HP := fun h => h b = some o
/-- What there is one of. -/
def ex {α : Type} (p : α → HP) : HP := fun h => ∃ x, p x h
/-- A plain fact. -/
def pure (p : Prop) : HP := fun _ => p

theorem Holds.star {l l' : List HP} {h : PH} : Holds (star l :: l') h ↔ Holds (l ++ l') h := Holds.append.symm
theorem Holds.ex {α : Type} {p : α → HP} {l : List HP} {h : PH} : Holds (ex p :: l) h ↔ ∃ x, Holds (p x :: l) h :=
  ⟨fun ⟨h1, h2, a, b, c, ⟨x, d⟩, e⟩ => ⟨x, h1, h2, a, b, c, d, e⟩, fun ⟨x, h1, h2, a, b, c, d, e⟩ => ⟨h1, h2, a, b, c, ⟨x, d⟩, e⟩⟩
theorem Holds.pure {p : Prop} {l : List HP} {h : PH} : Holds (Sep.pure p :: l) h ↔ p ∧ Holds l h :=
  ⟨fun ⟨_, _, _, b, _, d, e⟩ => ⟨d, Holds.mono b e⟩, fun ⟨d, e⟩ => ⟨fun _ => none, h, fun _ _ e => (by cases e), sub_refl _, fun _ => .inl rfl, d, e⟩⟩
theorem Holds.imp {p q : HP} {l : List HP} (k : ∀ h, p h → q h) {h : PH} : Holds (p :: l) h → Holds (q :: l) h :=
  fun ⟨h1, h2, a, b, c, d, e⟩ => ⟨h1, h2, a, b, c, k _ d, e⟩
theorem Holds.drop {p : HP} {l : List HP} {h : PH} : Holds (p :: l) h → Holds l h := fun ⟨_, _, _, b, _, _, e⟩ => Holds.mono b e
theorem Holds.tail {p : HP} {l l' : List HP} (k : ∀ h, Holds l h → Holds l' h) {h : PH} : Holds (p :: l) h → Holds (p :: l') h :=
  fun ⟨h1, h2, a, b, c, d, e⟩ => ⟨h1, h2, a, b, c, d, k _ e⟩

/-- A heap with one block's object changed. -/
def upd (h : PH) (b : Nat) (o : Obj) : PH := fun x => if x = b then some o else h x

theorem Holds.get {b : Nat} {o : Obj} {l : List HP} {h : PH} : Holds (pt b o :: l) h → h b = some o := fun ⟨_, _, a, _, _, d, _⟩ => a _ _ d
theorem Holds.ne {b b' : Nat} {o o' : Obj} {l : List HP} {h : PH} : Holds (pt b o :: pt b' o' :: l) h → b ≠ b' := by
  rintro ⟨h1, h2, a, b1, c, d, h3, h4, a', b', c', d', e'⟩ rfl
  have e1 : h1 b = some o := d
  have e2 : h2 b = some o' := a' _ _ d'
  rcases c b with q | q
  · rw [e1] at q; cases q
  · rw [e2] at q; cases q
theorem Holds.set {b : Nat} {o o' : Obj} {l : List HP} {h : PH} : Holds (pt b o :: l) h → Holds (pt b o' :: l) (upd h b o') := by
  rintro ⟨h1, h2, a, b1, c, d, e⟩
  refine ⟨fun x => if x = b then some o' else none, h2, fun x y q => ?_, fun x y q => ?_, fun x => ?_, ?_, e⟩
  · by_cases hx : x = b
    · simp [hx] at q; simp [upd, hx, q]
    · simp [hx] at q
  · by_cases hx : x = b
    · subst hx
      rcases c x with r | r
      · have : h1 x = some o := d
        rw [r] at this; cases this
      · rw [r] at q; cases q
    · simp [upd, hx]; exact b1 _ _ q
  · by_cases hx : x = b
    · subst hx
      right
      rcases c x with r | r
      · have : h1 x = some o := d
        rw [r] at this; cases this
      · exact r
    · left; simp [hx]
  · simp [pt]
theorem Holds.new {b : Nat} {o : Obj} {l : List HP} {h : PH} (hb : h b = none) : Holds l h → Holds (pt b o :: l) (upd h b o) := by
  intro e
  refine ⟨fun x => if x = b then some o else none, h, fun x y q => ?_, fun x y q => ?_, fun x => ?_, ?_, e⟩
  · by_cases hx : x = b
    · simp [hx] at q; simp [upd, hx, q]
    · simp [hx] at q
  · by_cases hx : x = b
    · subst hx; rw [hb] at q; cases q
    · simp [upd, hx, q]
  · by_cases hx : x = b
    · subst hx; exact .inr hb
    · left; simp [hx]
  · simp [pt]

/-! ### Worlds -/

/-- What of a world stays as it is but for the heap, and the count of draws. -/
structure Sig where
  os : Os
  tape : Nat → Question → Nat
  output : Array (Nat × ByteArray)

def sigOf (w : World) : Sig := ⟨w.os, w.tape, w.output⟩
def heapOf (w : World) : PH := fun b => w.heap[b]?

/-- The world w is of the signature, and its heap has the parts. -/
def Sat (σ : Sig) (w : World) (l : List HP) : Prop := sigOf w = σ ∧ Holds l (heapOf w)

section
variable {σ : Sig} {w : World} {l l' : List HP}

theorem Sat.perm (p : l.Perm l') (h : Sat σ w l) : Sat σ w l' := ⟨h.1, h.2.perm p⟩
theorem Sat.star {l1 : List HP} : Sat σ w (Sep.star l1 :: l) ↔ Sat σ w (l1 ++ l) := and_congr_right fun _ => Holds.star
theorem Sat.ex {α : Type} {p : α → HP} : Sat σ w (Sep.ex p :: l) ↔ ∃ x, Sat σ w (p x :: l) :=
  ⟨fun ⟨a, b⟩ => let ⟨x, h⟩ := Holds.ex.1 b; ⟨x, a, h⟩, fun ⟨x, a, b⟩ => ⟨a, Holds.ex.2 ⟨x, b⟩⟩⟩
theorem Sat.pure {p : Prop} : Sat σ w (Sep.pure p :: l) ↔ p ∧ Sat σ w l :=
  ⟨fun ⟨a, b⟩ => let ⟨x, h⟩ := Holds.pure.1 b; ⟨x, a, h⟩, fun ⟨x, a, b⟩ => ⟨a, Holds.pure.2 ⟨x, b⟩⟩⟩
theorem Sat.drop {p : HP} (h : Sat σ w (p :: l)) : Sat σ w l := ⟨h.1, h.2.drop⟩
theorem Sat.imp {p q : HP} (k : ∀ h, p h → q h) (h : Sat σ w (p :: l)) : Sat σ w (q :: l) := ⟨h.1, h.2.imp k⟩
theorem Sat.get {b : Nat} {o : Obj} (h : Sat σ w (pt b o :: l)) : w.heap[b]? = some o := h.2.get
theorem Sat.drew (h : Sat σ w l) : Sat σ { w with drawn := w.drawn + 1 } l := h
theorem Sat.drawn (h : Sat σ w l) (n : Nat) : Sat σ { w with drawn := n } l := h

theorem heapOf_set (w : World) (b : Nat) (o o' : Obj) (h : w.heap[b]? = some o') : heapOf { w with heap := w.heap.setIfInBounds b o } = upd (heapOf w) b o := by
  funext x
  have hb : b < w.heap.size := by
    rcases Nat.lt_or_ge b w.heap.size with q | q
    · exact q
    · rw [Array.getElem?_eq_none q] at h; cases h
  simp only [heapOf, upd, Array.getElem?_setIfInBounds]
  by_cases e : x = b
  · subst e; simp [hb]
  · have e' : b ≠ x := fun q => e q.symm
    simp [e, e']

theorem heapOf_push (w : World) (o : Obj) : heapOf { w with heap := w.heap.push o } = upd (heapOf w) w.heap.size o := by
  funext x
  simp only [heapOf, upd, Array.getElem?_push]

theorem Sat.set {b : Nat} {o o' : Obj} (h : Sat σ w (pt b o :: l)) : Sat σ { w with heap := w.heap.setIfInBounds b o' } (pt b o' :: l) :=
  ⟨h.1, by rw [heapOf_set _ _ _ _ h.get]; exact h.2.set⟩
theorem Sat.new {o : Obj} (h : Sat σ w l) : Sat σ { w with heap := w.heap.push o } (pt w.heap.size o :: l) :=
  ⟨h.1, by rw [heapOf_push]; exact h.2.new (by simp [heapOf])⟩

theorem modify_eq_set (w : World) (b : Nat) (f : Obj → Obj) (o : Obj) (h : w.heap[b]? = some o) : w.heap.modify b f = w.heap.setIfInBounds b (f o) := by
  apply Array.ext_getElem?
  intro i
  rw [Array.getElem?_modify, Array.getElem?_setIfInBounds]
  by_cases e : b = i
  · subst e
    have hb : b < w.heap.size := by
      rcases Nat.lt_or_ge b w.heap.size with q | q
      · exact q
      · rw [Array.getElem?_eq_none q] at h; cases h
    simp [hb]
    have : w.heap[b] = o := by
      have := Array.getElem?_eq_getElem hb
      rw [h] at this; exact (Option.some.inj this).symm
    rw [this]
  · simp [e]

end

/-- A row of cells, none of which is frozen. -/
def arr (b : Nat) (T : TypeId) (vs : List Value) : HP := fun h => ∃ lo hi, h b = some (.cells vs.toArray T (lo, hi)) ∧ (lo = hi ∨ vs.length ≤ lo)

theorem arr_pt {b : Nat} {T : TypeId} {vs : List Value} {l : List HP} {h : PH} : Holds (arr b T vs :: l) h ↔ ∃ lo hi, (lo = hi ∨ vs.length ≤ lo) ∧ Holds (pt b (.cells vs.toArray T (lo, hi)) :: l) h :=
  ⟨fun ⟨h1, h2, a, b, c, ⟨lo, hi, d, f⟩, e⟩ => ⟨lo, hi, f, h1, h2, a, b, c, d, e⟩, fun ⟨lo, hi, f, h1, h2, a, b, c, d, e⟩ => ⟨h1, h2, a, b, c, ⟨lo, hi, d, f⟩, e⟩⟩

section
variable {σ : Sig} {w : World} {l : List HP} {b : Nat} {T : TypeId} {vs : List Value}
theorem Sat.arr : Sat σ w (arr b T vs :: l) ↔ ∃ lo hi, (lo = hi ∨ vs.length ≤ lo) ∧ Sat σ w (pt b (.cells vs.toArray T (lo, hi)) :: l) :=
  ⟨fun ⟨a, h⟩ => let ⟨lo, hi, f, h⟩ := arr_pt.1 h; ⟨lo, hi, f, a, h⟩, fun ⟨lo, hi, f, a, h⟩ => ⟨a, arr_pt.2 ⟨lo, hi, f, h⟩⟩⟩
theorem Sat.cell (h : Sat σ w (Sep.arr b T vs :: l)) (o : Nat) : w.cell? ⟨b, o, none⟩ = vs[o]? := by
  obtain ⟨lo, hi, _, h⟩ := Sat.arr.1 h
  have := Sat.get h
  simp [World.cell?, this]
theorem Sat.shape (h : Sat σ w (Sep.arr b T vs :: l)) : w.shape? b = some (T, vs.length) := by
  obtain ⟨lo, hi, _, h⟩ := Sat.arr.1 h
  have := Sat.get h
  simp [World.shape?, this]
theorem Sat.unfrozen (h : Sat σ w (Sep.arr b T vs :: l)) {o : Nat} (ho : o < vs.length) (s : Option Nat) : w.frozen? ⟨b, o, s⟩ = false := by
  obtain ⟨lo, hi, f, h⟩ := Sat.arr.1 h
  have := Sat.get h
  simp [World.frozen?, this]
  omega
theorem Sat.setCell (h : Sat σ w (Sep.arr b T vs :: l)) (o : Nat) (v : Value) : Sat σ (w.setCell ⟨b, o, none⟩ v) (Sep.arr b T (vs.set o v) :: l) := by
  obtain ⟨lo, hi, f, h⟩ := Sat.arr.1 h
  have hb := Sat.get h
  have e : w.setCell ⟨b, o, none⟩ v = { w with heap := w.heap.setIfInBounds b (.cells (vs.set o v).toArray T (lo, hi)) } := by
    simp only [World.setCell]
    rw [modify_eq_set _ _ _ _ hb]
    simp
  rw [e]; exact Sat.arr.2 ⟨lo, hi, by simpa using f, Sat.set h⟩
theorem Sat.newRow (h : Sat σ w l) (T : TypeId) (c : Array Value) : Sat σ { w with heap := w.heap.push (.cells c T) } (Sep.arr w.heap.size T c.toList :: l) :=
  Sat.arr.2 ⟨0, 0, .inl rfl, by simpa using Sat.new (o := .cells c T) h⟩
end

/-! ### Where a part stands in a list -/

/-- p is one of l, the rest is r. -/
def Pick (p : HP) (l r : List HP) : Prop := l.Perm (p :: r)
theorem Pick.here {p : HP} {l : List HP} : Pick p (p :: l) l := List.Perm.refl _
theorem Pick.there {p q : HP} {l r : List HP} (h : Pick p l r) : Pick p (q :: l) (q :: r) := (List.Perm.cons q h).trans (List.Perm.swap _ _ _)
/-- all of p are of l, the rest is r. -/
def Take (p l r : List HP) : Prop := l.Perm (p ++ r)
theorem Take.nil {l : List HP} : Take [] l l := List.Perm.refl _
theorem Take.cons {p : HP} {ps l r s : List HP} (h : Pick p l r) (k : Take ps r s) : Take (p :: ps) l s := h.trans (List.Perm.cons p k)

#print axioms Holds.perm
#print axioms Sat.setCell
end Go.Sep
/- A walk's rules over the heap logic: what is known of the temporaries is a list, what is known of the heap is a list; no frame and no world stands in a goal. -/
namespace Go.Sep
open Go

abbrev Env := List (Nat × Value)
def look : Env → Nat → Option Value
  | [], _ => none
  | (i, v) :: e, t => match Nat.beq i t with
    | true => some v
    | false => look e t

structure Kn (n : Nat) (a : Act) (env : Env) : Prop where
  size : a.tmps.size = n
  know : ∀ t v, look env t = some v → a.tmps[t]? = some v

def ev (env : Env) : Operand → Option Value
  | .tmp t => look env t
  | .const v => some v
  | .global g => some (.pointer (some ⟨g, 0, none⟩))
  | .func f => some (.func (.func f) #[] #[])

section
variable {n : Nat} {a : Act} {env : Env}

theorem Kn.ev (k : Kn n a env) {x : Operand} {v : Value} (h : ev env x = some v) : a.eval x = v := by
  cases x with
  | tmp t => simp [Act.eval, Array.getD_eq_getD_getElem?, k.know t v h]
  | const v' => exact Option.some.inj h
  | global g => exact Option.some.inj h
  | func f => exact Option.some.inj h

theorem Kn.put (k : Kn n a env) (d : Nat) (v : Value) (hd : Nat.blt d n = true) : Kn n (a.put (some d) v) ((d, v) :: env) := by
  have hd' : d < a.tmps.size := by rw [k.size]; simpa using hd
  refine ⟨by simp [Act.put, k.size], fun t u h => ?_⟩
  simp only [look] at h
  simp only [Act.put, Array.getElem?_setIfInBounds]
  cases q : Nat.beq d t with
  | true =>
    rw [q] at h
    have e := Nat.eq_of_beq_eq_true q
    subst e
    simp [hd', Option.some.inj h]
  | false =>
    rw [q] at h
    have e : d ≠ t := Nat.ne_of_beq_eq_false q
    rw [if_neg e]
    exact k.know t u h

theorem Kn.put_none (k : Kn n a env) (v : Value) : Kn n (a.put none v) env := k

/-- What stands in the second list is known by the first one. -/
def Has (env : Env) : Env → Prop
  | [] => True
  | (t, v) :: r => look env t = some v ∧ Has env r

theorem Kn.forget (k : Kn n a env) : ∀ {env' : Env}, Has env env' → Kn n a env'
  | [], _ => ⟨k.size, fun t v h => by cases h⟩
  | (t, v) :: r, ⟨h1, h2⟩ => ⟨k.size, fun t' v' h => by
      simp only [look] at h
      cases q : Nat.beq t t' with
      | true => rw [q] at h; have e := Nat.eq_of_beq_eq_true q; subst e; cases h; exact k.know _ _ h1
      | false => rw [q] at h; exact (Kn.forget k h2).know _ _ h⟩

theorem Act.put_defers' (a : Act) (d : Option Nat) (v : Value) : (a.put d v).defers = a.defers := by cases d <;> rfl
end

/-! ### One operation -/
/-- The operation yields v, and leaves the world alone. -/
def Ru (P : Program) (σ : Sig) (n : Nat) (env : Env) (l : List HP) (o : Oper) (v : Value) : Prop :=
  ∀ a w, Kn n a env → Sat σ w l → (execOp a.eval o).run P w = .ok (.value v) w
/-- The operation yields a value, and leaves a heap, of which post is told. -/
def Do (P : Program) (σ : Sig) (n : Nat) (env : Env) (l : List HP) (o : Oper) (post : Value → List HP → Prop) : Prop :=
  ∀ a w, Kn n a env → Sat σ w l → ∀ (K : Act → World → Prop) (Q : Exit → Act → World → Prop),
    (∀ v l' w', post v l' → Sat σ w' l' → K (a.put o.dst v) w') → o.wp P a w K Q

section
variable {P : Program} {σ : Sig} {n : Nat} {env : Env} {l : List HP} {o : Oper} {post : Value → List HP → Prop}

theorem Ru.do {v : Value} (h : Ru P σ n env l o v) : Do P σ n env l o (fun v' l' => v' = v ∧ l' = l) := by
  intro a w k s K Q hK
  unfold Oper.wp
  rw [h a w k s]
  exact hK v l w ⟨rfl, rfl⟩ s

theorem Do.value (h : ∀ a w, Kn n a env → Sat σ w l → ∃ v w' l', (execOp a.eval o).run P w = .ok (.value v) w' ∧ Sat σ w' l' ∧ post v l') : Do P σ n env l o post := by
  intro a w k s K Q hK
  obtain ⟨v, w', l', e, s', p⟩ := h a w k s
  unfold Oper.wp
  rw [e]
  exact hK v l' w' p s'

theorem Do.skip (h : ∀ a w, Kn n a env → Sat σ w l → ∃ w' l', (execOp a.eval o).run P w = .ok .skip w' ∧ Sat σ w' l' ∧ post undef l') : Do P σ n env l o post := by
  intro a w k s K Q hK
  obtain ⟨w', l', e, s', p⟩ := h a w k s
  unfold Oper.wp
  rw [e]
  exact hK undef l' w' p s'
end

/-! ### A function -/
/-- What a call's end is said to be. -/
def Post (σ : Sig) (post : Value → List HP → Prop) : Ending → World → Prop :=
  fun e w' => ∃ v l', e = .returned v ∧ post v l' ∧ Sat σ w' l'
/-- The function f, called with args in a heap l, returns; post tells what, and what the heap is then. -/
def Fn (P : Program) (σ : Sig) (f : FuncId) (args : Array Value) (l : List HP) (post : Value → List HP → Prop) : Prop :=
  ∀ w, Sat σ w l → Calls P f args w (Post σ post)

/-! ### Lists of operations, and code -/
section
variable (P : Program) (σ : Sig) (n : Nat) (ds : List Deferred)
def JO (ops : Array Oper) (Q : Exit → Act → World → Prop) (rest : List Oper) (env : Env) (l : List HP) : Prop :=
  ∀ a w, Kn n a env → a.defers = ds → Sat σ w l → wpList P ops Q rest a w
def JC (c : Code) (Q : Exit → Act → World → Prop) (env : Env) (l : List HP) : Prop :=
  ∀ a w, Kn n a env → a.defers = ds → Sat σ w l → c.wp P Q a w
def JE (Q : Exit → Act → World → Prop) (e : Exit) (env : Env) (l : List HP) : Prop :=
  ∀ a w, Kn n a env → a.defers = ds → Sat σ w l → Q e a w
end

section
variable {P : Program} {σ : Sig} {n : Nat} {ds : List Deferred} {ops : Array Oper} {Q : Exit → Act → World → Prop} {rest : List Oper} {env : Env} {l : List HP} {o : Oper}

theorem JO.do {d : Nat} {post : Value → List HP → Prop} (hg : o.guard = none) (hd : o.dst = some d) (hlt : Nat.blt d n = true) (h : Do P σ n env l o post)
    (k : ∀ v l', post v l' → JO P σ n ds ops Q rest ((d, v) :: env) l') : JO P σ n ds ops Q (o :: rest) env l := by
  intro a w ka kd s
  refine wpList_plain hg fun K hK => h a w ka s K Q fun v l' w' hp s' => hK _ _ ?_
  rw [hd]
  exact k v l' hp _ _ (ka.put d v hlt) kd s'

theorem JO.do0 {post : Value → List HP → Prop} (hg : o.guard = none) (hd : o.dst = none) (h : Do P σ n env l o post)
    (k : ∀ v l', post v l' → JO P σ n ds ops Q rest env l') : JO P σ n ds ops Q (o :: rest) env l := by
  intro a w ka kd s
  refine wpList_plain hg fun K hK => h a w ka s K Q fun v l' w' hp s' => hK _ _ ?_
  rw [hd]
  exact k v l' hp _ _ ka kd s'

theorem JO.ru {d : Nat} {v : Value} (hg : o.guard = none) (hd : o.dst = some d) (hlt : Nat.blt d n = true) (h : Ru P σ n env l o v)
    (k : JO P σ n ds ops Q rest ((d, v) :: env) l) : JO P σ n ds ops Q (o :: rest) env l :=
  JO.do hg hd hlt h.do (by rintro v l' ⟨rfl, rfl⟩; exact k)

theorem JO.ru0 {v : Value} (hg : o.guard = none) (hd : o.dst = none) (h : Ru P σ n env l o v)
    (k : JO P σ n ds ops Q rest env l) : JO P σ n ds ops Q (o :: rest) env l :=
  JO.do0 hg hd h.do (by rintro v l' ⟨rfl, rfl⟩; exact k)

/-- An operation with a guard that is met. -/
theorem JO.guardT {g : Nat} {b : Bool} {og : Oper} {d : Nat} (hg : o.guard = some (g, b)) (ho : ops[g]? = some og) (hd : og.dst = some d) (hv : look env d = some (.bool b))
    (k : JO P σ n ds ops Q ({ o with guard := none } :: rest) env l) : JO P σ n ds ops Q (o :: rest) env l := by
  intro a w ka kd s
  have hk := k a w ka kd s
  have hw : Region.wanted o (yielded ops a.tmps) = true := by
    simp [Region.wanted, hg, yielded, ho, hd, ka.know d _ hv]
  unfold wpList at hk ⊢
  rw [if_pos hw]
  rw [if_pos (by simp [Region.wanted])] at hk
  exact hk

/-- An operation with a guard that isn't met. -/
theorem JO.guardF {g : Nat} {b b' : Bool} {og : Oper} {d d' : Nat} (hg : o.guard = some (g, b)) (ho : ops[g]? = some og) (hd : og.dst = some d) (hv : look env d = some (.bool b')) (hb : (b' == b) = false)
    (hd' : o.dst = some d') (hlt : Nat.blt d' n = true)
    (k : JO P σ n ds ops Q rest ((d', undef) :: env) l) : JO P σ n ds ops Q (o :: rest) env l := by
  intro a w ka kd s
  have hw : Region.wanted o (yielded ops a.tmps) = false := by
    simp [Region.wanted, hg, yielded, ho, hd, ka.know d _ hv]
    simpa using hb
  unfold wpList
  rw [if_neg (by simp [hw]), hd']
  exact k _ _ (ka.put d' _ hlt) kd s
theorem JO.guardF0 {g : Nat} {b b' : Bool} {og : Oper} {d : Nat} (hg : o.guard = some (g, b)) (ho : ops[g]? = some og) (hd : og.dst = some d) (hv : look env d = some (.bool b')) (hb : (b' == b) = false)
    (hd' : o.dst = none)
    (k : JO P σ n ds ops Q rest env l) : JO P σ n ds ops Q (o :: rest) env l := by
  intro a w ka kd s
  have hw : Region.wanted o (yielded ops a.tmps) = false := by
    simp [Region.wanted, hg, yielded, ho, hd, ka.know d _ hv]
    simpa using hb
  unfold wpList
  rw [if_neg (by simp [hw]), hd']
  exact k _ _ ka kd s

theorem JO.nil (h : JE σ n ds Q .normal env l) : JO P σ n ds ops Q [] env l := fun a w k d s => wpList_nil (h a w k d s)

theorem JC.region {id : Nat} {r : List Oper} (h : JO P σ n ds r.toArray Q r env l) : JC P σ n ds (.region id r.toArray false) Q env l :=
  fun a w k d s => wp_region_lit (h a w k d s)
theorem JC.seq {x y : Code} (h : JC P σ n ds x (Exit.then (y.wp P Q) Q) env l) : JC P σ n ds (.seq x y) Q env l := fun a w k d s => wp_seq (h a w k d s)
theorem JC.skip (h : JE σ n ds Q .normal env l) : JC P σ n ds .skip Q env l := fun a w k d s => wp_skip (h a w k d s)
theorem JC.ret (h : JE σ n ds Q .ret env l) : JC P σ n ds .ret Q env l := fun a w k d s => wp_ret (h a w k d s)
theorem JC.exit {id : Nat} (h : JE σ n ds Q (.exit id) env l) : JC P σ n ds (.exit id) Q env l := fun a w k d s => wp_exit (h a w k d s)
theorem JC.label {id : Nat} (h : JE σ n ds Q .normal env l) : JC P σ n ds (.label id) Q env l := fun a w k d s => wp_label (h a w k d s)
theorem JC.block {id : Nat} {c : Code} (h : JC P σ n ds c (Exit.inBlock id Q) env l) : JC P σ n ds (.block id c) Q env l := fun a w k d s => wp_block (h a w k d s)
theorem JC.cond {c : Operand} {x y : Code} {b : Bool} (hc : ev env c = some (.bool b)) (ht : b = true → JC P σ n ds x Q env l) (hf : b = false → JC P σ n ds y Q env l) : JC P σ n ds (.cond c x y) Q env l :=
  fun a w k d s => wp_cond_split (k.ev hc) (fun e => ht e a w k d s) (fun e => hf e a w k d s)
theorem JC.condT {c : Operand} {x y : Code} (hc : ev env c = some (.bool true)) (h : JC P σ n ds x Q env l) : JC P σ n ds (.cond c x y) Q env l :=
  fun a w k d s => wp_cond_true (k.ev hc) (h a w k d s)
theorem JC.condF {c : Operand} {x y : Code} (hc : ev env c = some (.bool false)) (h : JC P σ n ds y Q env l) : JC P σ n ds (.cond c x y) Q env l :=
  fun a w k d s => wp_cond_false (k.ev hc) (h a w k d s)

theorem JE.thenN {y : Code} (h : JC P σ n ds y Q env l) : JE σ n ds (Exit.then (y.wp P Q) Q) .normal env l := h
theorem JE.thenR {K : Act → World → Prop} (h : JE σ n ds Q .ret env l) : JE σ n ds (Exit.then K Q) .ret env l := h
theorem JE.thenE {K : Act → World → Prop} {i : Nat} (h : JE σ n ds Q (.exit i) env l) : JE σ n ds (Exit.then K Q) (.exit i) env l := h
theorem JE.blockN {i : Nat} (h : JE σ n ds Q .normal env l) : JE σ n ds (Exit.inBlock i Q) .normal env l := h
theorem JE.blockR {i : Nat} (h : JE σ n ds Q .ret env l) : JE σ n ds (Exit.inBlock i Q) .ret env l := h
theorem JE.blockE {i : Nat} (h : JE σ n ds Q .normal env l) : JE σ n ds (Exit.inBlock i Q) (.exit i) env l := fun a w k d s => by
  simp only [Exit.inBlock, if_true]; exact h a w k d s
theorem JE.blockO {i j : Nat} (hne : Nat.beq j i = false) (h : JE σ n ds Q (.exit j) env l) : JE σ n ds (Exit.inBlock i Q) (.exit j) env l := fun a w k d s => by
  have : j ≠ i := Nat.ne_of_beq_eq_false hne
  simp only [Exit.inBlock, if_neg this]; exact h a w k d s

/-- What is asked where a loop's round ends. -/
def Inv {α : Type} (σ : Sig) (n : Nat) (ds : List Deferred) (E : α → Env) (L : α → List HP) (ok : α → Prop) (μ : α → Nat) (m : Nat) : Act → World → Prop :=
  fun a w => ∃ x, ok x ∧ μ x < m ∧ Kn n a (E x) ∧ a.defers = ds ∧ Sat σ w (L x)

theorem JC.loop {α : Type} {c : Code} (E : α → Env) (L : α → List HP) (ok : α → Prop) (μ : α → Nat) (x0 : α) (h0 : ok x0) (hE : Has env (E x0)) (hL : ∀ w, Sat σ w l → Sat σ w (L x0))
    (round : ∀ x, ok x → JC P σ n ds c (Exit.then (Inv σ n ds E L ok μ (μ x)) Q) (E x) (L x)) : JC P σ n ds (.loop c) Q env l := by
  intro a w k d s b kk cs
  have key : ∀ (m : Nat) (x : α), μ x = m → ok x → ∀ a w, Kn n a (E x) → a.defers = ds → Sat σ w (L x) →
      ∃ e a' w', Q e a' w' ∧ Arrives P (lone (b.at a (.code c :: .inLoop c :: kk)) cs w) b kk cs e a' w' := by
    intro m
    induction m using Nat.strongRecOn with
    | _ m ih =>
      intro x hm hx a w k d s
      obtain ⟨e, a₁, w₁, hq, harr⟩ := round x hx a w k d s b (.inLoop c :: kk) cs
      cases e with
      | normal =>
        obtain ⟨x', hx', hlt, k', d', s'⟩ := hq
        obtain ⟨e₂, a₂, w₂, hq₂, harr₂⟩ := ih (μ x') (hm ▸ hlt) x' rfl hx' a₁ w₁ k' d' s'
        exact ⟨e₂, a₂, w₂, hq₂, .of_steps (Steps.trans harr (.one step_inLoop)) harr₂⟩
      | exit id => exact ⟨_, a₁, w₁, hq, .pass (x := .inLoop c) rfl (fun _ _ => .inl (by simp)) harr⟩
      | goto l => exact ⟨_, a₁, w₁, hq, .pass (x := .inLoop c) rfl (fun _ _ => .inl (by simp)) harr⟩
      | ret => exact ⟨_, a₁, w₁, hq, .pass (x := .inLoop c) rfl (fun _ _ => .inl (by simp)) harr⟩
      | panic ch => exact ⟨_, a₁, w₁, hq, .pass (x := .inLoop c) rfl (fun _ _ => .inl (by simp)) harr⟩
      | outgrown => exact ⟨_, a₁, w₁, hq, .pass (x := .inLoop c) rfl (fun _ _ => .inl (by simp)) harr⟩
  obtain ⟨e, a', w', hq, harr⟩ := key _ x0 rfl h0 a w (k.forget hE) d (hL w s)
  exact ⟨e, a', w', hq, .of_steps (.one step_loop) harr⟩

theorem JE.round {α : Type} {E : α → Env} {L : α → List HP} {ok : α → Prop} {μ : α → Nat} {m : Nat} (x : α) (hx : ok x) (hμ : μ x < m) (hE : Has env (E x)) (hL : ∀ w, Sat σ w l → Sat σ w (L x)) :
    JE σ n ds (Exit.then (Inv σ n ds E L ok μ m) Q) .normal env l := fun _ w k d s => ⟨x, hx, hμ, k.forget hE, d, hL w s⟩

/-- A weaker heap, fewer facts. -/
theorem JC.weaken {c : Code} {env' : Env} {l' : List HP} (hE : Has env env') (hL : ∀ w, Sat σ w l → Sat σ w l') (h : JC P σ n ds c Q env' l') : JC P σ n ds c Q env l :=
  fun a w k d s => h a w (k.forget hE) d (hL w s)
theorem JO.heap {l' : List HP} (hL : ∀ w, Sat σ w l → Sat σ w l') (h : JO P σ n ds ops Q rest env l') : JO P σ n ds ops Q rest env l :=
  fun a w k d s => h a w k d (hL w s)
theorem JC.heap {c : Code} {l' : List HP} (hL : ∀ w, Sat σ w l → Sat σ w l') (h : JC P σ n ds c Q env l') : JC P σ n ds c Q env l :=
  fun a w k d s => h a w k d (hL w s)
theorem JO.pick {p : HP} {r : List HP} (hp : Pick p l r) (h : JO P σ n ds ops Q rest env (p :: r)) : JO P σ n ds ops Q rest env l :=
  JO.heap (fun _ s => s.perm hp) h
theorem JO.star {l1 : List HP} (h : JO P σ n ds ops Q rest env (l1 ++ l)) : JO P σ n ds ops Q rest env (Sep.star l1 :: l) :=
  JO.heap (fun _ s => Sat.star.1 s) h
theorem JO.ex {α : Type} {p : α → HP} (h : ∀ x, JO P σ n ds ops Q rest env (p x :: l)) : JO P σ n ds ops Q rest env (Sep.ex p :: l) :=
  fun a w k d s => let ⟨x, s'⟩ := Sat.ex.1 s; h x a w k d s'
theorem JO.pure {p : Prop} (h : p → JO P σ n ds ops Q rest env l) : JO P σ n ds ops Q rest env (Sep.pure p :: l) :=
  fun a w k d s => let ⟨x, s'⟩ := Sat.pure.1 s; h x a w k d s'
theorem JC.ex {c : Code} {α : Type} {p : α → HP} (h : ∀ x, JC P σ n ds c Q env (p x :: l)) : JC P σ n ds c Q env (Sep.ex p :: l) :=
  fun a w k d s => let ⟨x, s'⟩ := Sat.ex.1 s; h x a w k d s'
theorem JC.pure {c : Code} {p : Prop} (h : p → JC P σ n ds c Q env l) : JC P σ n ds c Q env (Sep.pure p :: l) :=
  fun a w k d s => let ⟨x, s'⟩ := Sat.pure.1 s; h x a w k d s'

/-! ### A function's body, and its end -/
def argEnv : Nat → List Value → Env
  | _, [] => []
  | i, v :: r => (i, v) :: argEnv (i + 1) r

theorem look_argEnv : ∀ (vs : List Value) (i t : Nat) (v : Value), look (argEnv i vs) t = some v → i ≤ t ∧ vs[t - i]? = some v
  | [], _, _, _, h => by cases h
  | u :: r, i, t, v, h => by
    simp only [argEnv, look] at h
    cases q : Nat.beq i t with
    | true => rw [q] at h; have e := Nat.eq_of_beq_eq_true q; subst e; simpa using h
    | false =>
      rw [q] at h
      have e : i ≠ t := Nat.ne_of_beq_eq_false q
      have ⟨h1, h2⟩ := look_argEnv r (i + 1) t v h
      refine ⟨by omega, ?_⟩
      have : t - i = (t - (i + 1)) + 1 := by omega
      rw [this]; simpa using h2

theorem kn_args {args : List Value} {n : Nat} (hn : args.length ≤ n) : Kn n { tmps := args.toArray ++ Array.replicate (n - args.length) undef, defers := [] } (argEnv 0 args) := by
  refine ⟨by simp; omega, fun t v h => ?_⟩
  have ⟨_, h2⟩ := look_argEnv args 0 t v h
  simp only [Nat.sub_zero] at h2
  have ht : t < args.length := by
    rcases Nat.lt_or_ge t args.length with q | q
    · exact q
    · rw [List.getElem?_eq_none q] at h2; cases h2
  simp [Array.getElem?_append, ht]
  rw [List.getElem?_eq_getElem ht] at h2
  exact Option.some.inj h2

theorem Fn.of {f : FuncId} {fn : Func} {c : Code} {args : List Value} {post : Value → List HP → Prop} (hf : P.funcs[f]? = some fn) (hb : fn.body = some c) (hn : fn.ntmps = n) (ha : Nat.ble args.length n = true)
    (h : JC P σ n [] c (bodyPost P fn (Post σ post)) (argEnv 0 args) l) : Fn P σ f args.toArray l post := by
  intro w s
  refine calls_of_wp hf hb ?_
  have ha' : args.length ≤ n := by simpa using ha
  simp only [List.size_toArray, hn]
  exact h _ _ (kn_args ha') rfl s

theorem Fn.mono {f : FuncId} {args : Array Value} {post post' : Value → List HP → Prop} (h : Fn P σ f args l post) (k : ∀ v l', post v l' → post' v l') : Fn P σ f args l post' :=
  fun w s => (h w s).mono fun _ _ ⟨v, l', e, p, s'⟩ => ⟨v, l', e, k v l' p, s'⟩
theorem Fn.heap {f : FuncId} {args : Array Value} {l0 : List HP} {post : Value → List HP → Prop} (hL : ∀ w, Sat σ w l → Sat σ w l0) (h : Fn P σ f args l0 post) : Fn P σ f args l post :=
  fun w s => h w (hL w s)

/-- What one result reads as. -/
def resSem (tmps : Array Value) : ResultVar → Sem Value
  | .tmp t => Pure.pure (tmps.getD t undef)
  | .cell a t => do loadVar t (← asAddr (tmps.getD a undef))
theorem results_eq (fn : Func) (tmps : Array Value) : results fn tmps = (do let vs ← fn.results.mapM (resSem tmps); Pure.pure (if h : vs.size = 1 then vs[0] else .tuple vs)) := by
  unfold results
  congr 1
def Res (P : Program) (σ : Sig) (n : Nat) (env : Env) (l : List HP) (r : ResultVar) (v : Value) : Prop :=
  ∀ a w, Kn n a env → Sat σ w l → (resSem a.tmps r).run P w = .ok v w
theorem Res.tmp {t : Nat} {v : Value} (h : look env t = some v) : Res P σ n env l (.tmp t) v := by
  intro a w k _
  have := k.know t v h
  simp [resSem, Array.getD_eq_getD_getElem?, this, Pure.pure]

def fin (post : Value → List HP → Prop) (v : Value) (l : List HP) (σ : Sig) : Prop := ∃ l', (∀ w, Sat σ w l → Sat σ w l') ∧ post v l'

theorem JE.done0 {fn : Func} {post : Value → List HP → Prop} (hr : fn.results = #[]) (h : fin post (.tuple #[]) l σ) : JE σ n [] (bodyPost P fn (Post σ post)) .ret env l := by
  intro a w k d s
  obtain ⟨l', e, p⟩ := h
  exact ⟨d, .tuple #[], results_none hr _ _ _, _, l', rfl, p, e w s⟩
theorem JE.done0N {fn : Func} {post : Value → List HP → Prop} (hr : fn.results = #[]) (h : fin post (.tuple #[]) l σ) : JE σ n [] (bodyPost P fn (Post σ post)) .normal env l := by
  intro a w k d s
  obtain ⟨l', e, p⟩ := h
  exact ⟨d, .tuple #[], results_none hr _ _ _, _, l', rfl, p, e w s⟩
theorem JE.done1 {fn : Func} {post : Value → List HP → Prop} {r : ResultVar} {v : Value} (hr : fn.results = #[r]) (hv : Res P σ n env l r v) (h : fin post v l σ) : JE σ n [] (bodyPost P fn (Post σ post)) .ret env l := by
  intro a w k d s
  obtain ⟨l', e, p⟩ := h
  refine ⟨d, v, ?_, _, l', rfl, p, e w s⟩
  rw [results_eq, hr]
  simp [hv a w k s]
theorem JE.done3 {fn : Func} {post : Value → List HP → Prop} {r1 r2 r3 : ResultVar} {v1 v2 v3 : Value} (hr : fn.results = #[r1, r2, r3]) (h1 : Res P σ n env l r1 v1) (h2 : Res P σ n env l r2 v2) (h3 : Res P σ n env l r3 v3) (h : fin post (.tuple #[v1, v2, v3]) l σ) :
    JE σ n [] (bodyPost P fn (Post σ post)) .ret env l := by
  intro a w k d s
  obtain ⟨l', e, p⟩ := h
  refine ⟨d, .tuple #[v1, v2, v3], ?_, _, l', rfl, p, e w s⟩
  rw [results_eq, hr]
  simp [Sem.run_bind, h1 a w k s, h2 a w k s, h3 a w k s]
theorem JE.done2 {fn : Func} {post : Value → List HP → Prop} {r1 r2 : ResultVar} {v1 v2 : Value} (hr : fn.results = #[r1, r2]) (h1 : Res P σ n env l r1 v1) (h2 : Res P σ n env l r2 v2) (h : fin post (.tuple #[v1, v2]) l σ) :
    JE σ n [] (bodyPost P fn (Post σ post)) .ret env l := by
  intro a w k d s
  obtain ⟨l', e, p⟩ := h
  refine ⟨d, .tuple #[v1, v2], ?_, _, l', rfl, p, e w s⟩
  rw [results_eq, hr]
  simp [Sem.run_bind, h1 a w k s, h2 a w k s]
end
end Go.Sep
/- The operations, one rule each: what each yields, of which heap. -/
namespace Go.Sep
open Go

/-! ### What is known of a program's types -/
class UT (P : Program) (t : TypeId) (d : outParam TypeDesc) : Prop where
  eq : P.underlying t = some d
class SZ (P : Program) (t : TypeId) (z : outParam Nat) : Prop where
  eq : ∀ w, (sizeOf t).run P w = .ok z w
class ZV (P : Program) (t : TypeId) (v : outParam Value) : Prop where
  eq : ∀ w, (zeroValue t).run P w = .ok v w
class TI (P : Program) (t : TypeId) (i : outParam TypeInfo) : Prop where
  eq : ∀ w, (typeInfo t).run P w = .ok i w

class AG (P : Program) (t : TypeId) (b : outParam Bool) : Prop where
  eq : ∀ w, (isAgg t).run P w = .ok b w
/-- Field i of the struct type s: where it lies, how many cells it has, its type, whether that is an aggregate. -/
class FA (P : Program) (s : TypeId) (i : Nat) (off z : outParam Nat) (ft : outParam TypeId) (b : outParam Bool) : Prop where
  eq : ∃ fs f, P.underlying s = some (.struct fs) ∧ fs[i]? = some f ∧ f.offset = off ∧ f.type = ft ∧ (∀ w, (sizeOf ft).run P w = .ok z w) ∧ (∀ w, (isAgg ft).run P w = .ok b w) ∧ z ≠ 0
theorem FA.of {P : Program} {s : TypeId} {i z : Nat} {ft : TypeId} {b : Bool} {fs : Array Field} {f : Field} (h1 : P.underlying s = some (.struct fs)) (h2 : fs[i]? = some f) (h4 : f.type = ft) (h5 : ∀ w, (sizeOf ft).run P w = .ok z w) (h6 : ∀ w, (isAgg ft).run P w = .ok b w) (h7 : Nat.beq z 0 = false) : FA P s i f.offset z ft b :=
  ⟨fs, f, h1, h2, rfl, h4, h5, h6, Nat.ne_of_beq_eq_false h7⟩
theorem FA.of' {P : Program} {s : TypeId} {i off z : Nat} {ft : TypeId} {b : Bool} {fs : Array Field} {f : Field} (h1 : P.underlying s = some (.struct fs)) (h2 : fs[i]? = some f) (h3 : f.offset = off) (h4 : f.type = ft) (h5 : ∀ w, (sizeOf ft).run P w = .ok z w) (h6 : ∀ w, (isAgg ft).run P w = .ok b w) (h7 : Nat.beq z 0 = false) : FA P s i off z ft b :=
  ⟨fs, f, h1, h2, h3, h4, h5, h6, Nat.ne_of_beq_eq_false h7⟩

def isAggD : TypeDesc → Bool
  | .struct _ => true
  | .array _ _ => true
  | _ => false

section
variable {P : Program} {σ : Sig} {n : Nat} {env : Env} {l r : List HP} {dst : Option Tmp} {ty : TypeId} {pos : String} {af : Array Edge} {gd : Option (Nat × Bool)}

theorem UT.run {t : TypeId} {d : TypeDesc} [h : UT P t d] (w : World) : (underlying t).run P w = .ok d w := by
  simp [underlying, h.eq]
theorem UT.agg {t : TypeId} {d : TypeDesc} [h : UT P t d] (w : World) : (isAgg t).run P w = .ok (isAggD d) w := by
  have h1 := h.eq
  cases d <;> simp [isAgg, underlying, h1, isAggD]

/-! ### Pure operations -/
theorem Ru.move {x : Operand} {v : Value} (h : ev env x = some v) : Ru P σ n env l ⟨dst, .move x, ty, pos, af, gd⟩ v := by
  intro a w k _; simp [execOp, k.ev h]
theorem Ru.assign {x : Operand} {v : Value} (h : ev env x = some v) : Ru P σ n env l ⟨dst, .assign x, ty, pos, af, gd⟩ v := by
  intro a w k _; simp [execOp, k.ev h]
theorem Ru.pick {c x y : Operand} {b : Bool} {v u : Value} (hc : ev env c = some (.bool b)) (hx : ev env x = some v) (hy : ev env y = some u) : Ru P σ n env l ⟨dst, .pick c x y, ty, pos, af, gd⟩ (if b then v else u) := by
  intro a w k _; cases b <;> simp [execOp, k.ev hc, k.ev hx, k.ev hy, asBool]
theorem Ru.nilP {x : Operand} {p : Addr} (h : ev env x = some (.pointer (some p))) : Ru P σ n env l ⟨dst, .nilCheck x, ty, pos, af, gd⟩ (.pointer (some p)) := by
  intro a w k _; simp [execOp, k.ev h]
theorem Ru.nilF {x : Operand} {f : FuncId} {c d : Array Value} (h : ev env x = some (.func (.func f) c d)) : Ru P σ n env l ⟨dst, .nilCheck x, ty, pos, af, gd⟩ (.func (.func f) c d) := by
  intro a w k _; simp [execOp, k.ev h]
theorem Ru.nilI {x : Operand} {t : TypeId} {v : Value} (h : ev env x = some (.iface t v)) : Ru P σ n env l ⟨dst, .nilCheck x, ty, pos, af, gd⟩ (.iface t v) := by
  intro a w k _; simp [execOp, k.ev h]

theorem run_bin {a : Act} {w : World} {op : BinOp} {t t' : TypeId} {x y : Operand} {u v : Value} (hx : a.eval x = u) (hy : a.eval y = v) : (execOp a.eval ⟨dst, .binOp op t x y t', ty, pos, af, gd⟩).run P w =
    ((eqGuard op t x y u v).run P w).andThen fun _ w => ((Go.binOp op t u v).run P w).andThen fun v w => .ok (.value v) w := by
  subst hx; subst hy
  simp only [execOp, Sem.run_bind, Sem.run_pure]
  cases (eqGuard op t x y (a.eval x) (a.eval y)).run P w <;> rfl

section ints
variable {x y : Operand} {k : IntKind} {p q z : Int} {t t' : TypeId}
theorem Ru.add (hx : ev env x = some (.int k p)) (hy : ev env y = some (.int k q)) (hz : k.wrap (p + q) = z) : Ru P σ n env l ⟨dst, .binOp .add t x y t', ty, pos, af, gd⟩ (.int k z) := by
  intro a w kn _; simp [execOp, kn.ev hx, kn.ev hy, eqGuard, binOp, Op.intArith, hz]
theorem Ru.sub (hx : ev env x = some (.int k p)) (hy : ev env y = some (.int k q)) (hz : k.wrap (p - q) = z) : Ru P σ n env l ⟨dst, .binOp .sub t x y t', ty, pos, af, gd⟩ (.int k z) := by
  intro a w kn _; simp [execOp, kn.ev hx, kn.ev hy, eqGuard, binOp, Op.intArith, hz]
theorem Ru.mul (hx : ev env x = some (.int k p)) (hy : ev env y = some (.int k q)) (hz : k.wrap (p * q) = z) : Ru P σ n env l ⟨dst, .binOp .mul t x y t', ty, pos, af, gd⟩ (.int k z) := by
  intro a w kn _; simp [execOp, kn.ev hx, kn.ev hy, eqGuard, binOp, Op.intArith, hz]
theorem Ru.quo (hx : ev env x = some (.int k p)) (hy : ev env y = some (.int k q)) (h0 : q ≠ 0) (hz : k.wrap (p.tdiv q) = z) : Ru P σ n env l ⟨dst, .binOp .quo t x y t', ty, pos, af, gd⟩ (.int k z) := by
  intro a w kn _; simp [execOp, kn.ev hx, kn.ev hy, eqGuard, binOp, Op.intDiv, h0, hz]
theorem Ru.rem (hx : ev env x = some (.int k p)) (hy : ev env y = some (.int k q)) (h0 : q ≠ 0) (hz : p.tmod q = z) : Ru P σ n env l ⟨dst, .binOp .rem t x y t', ty, pos, af, gd⟩ (.int k z) := by
  intro a w kn _; simp [execOp, kn.ev hx, kn.ev hy, eqGuard, binOp, Op.intDiv, h0, hz]
theorem Ru.quoN (hx : ev env x = some (.int .i64 p)) (hy : ev env y = some (.int .i64 q)) (h0 : 0 ≤ p) (h1 : 0 < q) (h2 : p ≤ 9223372036854775807) : Ru P σ n env l ⟨dst, .binOp .quo t x y t', ty, pos, af, gd⟩ (.int .i64 (p / q)) := by
  refine Ru.quo hx hy (by omega) ?_
  rw [Int.tdiv_eq_ediv_of_nonneg h0]
  have a1 : 0 ≤ p / q := Int.ediv_nonneg h0 (by omega)
  have a2 : p / q ≤ p := Int.ediv_le_self _ h0
  simp [IntKind.wrap, IntKind.bits, IntKind.signed]; omega
theorem Ru.remN (hx : ev env x = some (.int k p)) (hy : ev env y = some (.int k q)) (h0 : 0 ≤ p) (h1 : 0 < q) : Ru P σ n env l ⟨dst, .binOp .rem t x y t', ty, pos, af, gd⟩ (.int k (p % q)) :=
  Ru.rem hx hy (by omega) (Int.tmod_eq_emod_of_nonneg h0)
theorem Ru.bits {op : BinOp} (hop : op = .and ∨ op = .or ∨ op = .xor ∨ op = .andNot) (hx : ev env x = some (.int k p)) (hy : ev env y = some (.int k q)) (hz : Go.bits op k p q = z) : Ru P σ n env l ⟨dst, .binOp op t x y t', ty, pos, af, gd⟩ (.int k z) := by
  intro a w kn _
  rw [run_bin (kn.ev hx) (kn.ev hy)]
  subst hz
  rcases hop with rfl | rfl | rfl | rfl <;> simp only [eqGuard_at_int, binOp_and, binOp_or, binOp_xor, binOp_andNot, intBits_and, intBits_or, intBits_xor, intBits_andNot] <;> rfl
theorem Ru.and (hx : ev env x = some (.int k p)) (hy : ev env y = some (.int k q)) : Ru P σ n env l ⟨dst, .binOp .and t x y t', ty, pos, af, gd⟩ (.int k (Go.bits .and k p q)) := Ru.bits (.inl rfl) hx hy rfl
theorem Ru.or (hx : ev env x = some (.int k p)) (hy : ev env y = some (.int k q)) : Ru P σ n env l ⟨dst, .binOp .or t x y t', ty, pos, af, gd⟩ (.int k (Go.bits .or k p q)) := Ru.bits (.inr (.inl rfl)) hx hy rfl
theorem Ru.xor (hx : ev env x = some (.int k p)) (hy : ev env y = some (.int k q)) : Ru P σ n env l ⟨dst, .binOp .xor t x y t', ty, pos, af, gd⟩ (.int k (Go.bits .xor k p q)) := Ru.bits (.inr (.inr (.inl rfl))) hx hy rfl
theorem Ru.andNot (hx : ev env x = some (.int k p)) (hy : ev env y = some (.int k q)) : Ru P σ n env l ⟨dst, .binOp .andNot t x y t', ty, pos, af, gd⟩ (.int k (Go.bits .andNot k p q)) := Ru.bits (.inr (.inr (.inr rfl))) hx hy rfl
theorem Ru.shl {k' : IntKind} (hx : ev env x = some (.int k p)) (hy : ev env y = some (.int k' q)) (h0 : 0 ≤ q) (hz : k.wrap (p * 2 ^ min q.toNat k.bits) = z) : Ru P σ n env l ⟨dst, .binOp .shl t x y t', ty, pos, af, gd⟩ (.int k z) := by
  intro a w kn _; simp [execOp, kn.ev hx, kn.ev hy, eqGuard, binOp, Op.shift, Int.not_lt.2 h0, hz]
theorem Ru.shr {k' : IntKind} (hx : ev env x = some (.int k p)) (hy : ev env y = some (.int k' q)) (h0 : 0 ≤ q) (hz : p.fdiv (2 ^ min q.toNat k.bits) = z) : Ru P σ n env l ⟨dst, .binOp .shr t x y t', ty, pos, af, gd⟩ (.int k z) := by
  intro a w kn _; simp [execOp, kn.ev hx, kn.ev hy, eqGuard, binOp, Op.shift, Int.not_lt.2 h0, hz]
theorem Ru.lss {b : Bool} (hx : ev env x = some (.int k p)) (hy : ev env y = some (.int k q)) (hb : decide (p < q) = b) : Ru P σ n env l ⟨dst, .binOp .lss t x y t', ty, pos, af, gd⟩ (.bool b) := by
  intro a w kn _; simp [execOp, kn.ev hx, kn.ev hy, eqGuard, binOp, Op.intCmp, hb]
theorem Ru.leq {b : Bool} (hx : ev env x = some (.int k p)) (hy : ev env y = some (.int k q)) (hb : decide (p ≤ q) = b) : Ru P σ n env l ⟨dst, .binOp .leq t x y t', ty, pos, af, gd⟩ (.bool b) := by
  intro a w kn _; simp [execOp, kn.ev hx, kn.ev hy, eqGuard, binOp, Op.intCmp, hb]
theorem Ru.gtr {b : Bool} (hx : ev env x = some (.int k p)) (hy : ev env y = some (.int k q)) (hb : decide (q < p) = b) : Ru P σ n env l ⟨dst, .binOp .gtr t x y t', ty, pos, af, gd⟩ (.bool b) := by
  intro a w kn _; simp [execOp, kn.ev hx, kn.ev hy, eqGuard, binOp, Op.intCmp, hb]
theorem Ru.geq {b : Bool} (hx : ev env x = some (.int k p)) (hy : ev env y = some (.int k q)) (hb : decide (q ≤ p) = b) : Ru P σ n env l ⟨dst, .binOp .geq t x y t', ty, pos, af, gd⟩ (.bool b) := by
  intro a w kn _; simp [execOp, kn.ev hx, kn.ev hy, eqGuard, binOp, Op.intCmp, hb]
theorem Ru.eql {b : Bool} (hx : ev env x = some (.int k p)) (hy : ev env y = some (.int k q)) (hb : decide (p = q) = b) : Ru P σ n env l ⟨dst, .binOp .eql t x y t', ty, pos, af, gd⟩ (.bool b) := by
  intro a w kn _
  rw [run_bin (kn.ev hx) (kn.ev hy), eqGuard_at_int, binOp_eql]
  have : (p == q) = b := by rw [← hb, Bool.eq_iff_iff]; simp
  rw [this]; rfl
theorem Ru.neq {b : Bool} (hx : ev env x = some (.int k p)) (hy : ev env y = some (.int k q)) (hb : (!decide (p = q)) = b) : Ru P σ n env l ⟨dst, .binOp .neq t x y t', ty, pos, af, gd⟩ (.bool b) := by
  intro a w kn _
  rw [run_bin (kn.ev hx) (kn.ev hy), eqGuard_at_int, binOp_neq]
  have : (p != q) = b := by rw [← hb, Bool.eq_iff_iff]; simp
  rw [this]; rfl
theorem Ru.not {b : Bool} (hx : ev env x = some (.bool b)) : Ru P σ n env l ⟨dst, .unOp .not t x, ty, pos, af, gd⟩ (.bool !b) := by
  intro a w kn _; simp [execOp, kn.ev hx, Op.unary]
theorem Ru.neg (hx : ev env x = some (.int k p)) (hz : k.wrap (0 - p) = z) : Ru P σ n env l ⟨dst, .unOp .neg t x, ty, pos, af, gd⟩ (.int k z) := by
  intro a w kn _
  have hz' : k.wrap (-p) = z := by rw [← hz]; congr 1; omega
  simp [execOp, kn.ev hx, Op.unary, Op.intArith, hz']
theorem Ru.com (hx : ev env x = some (.int k p)) (hz : Go.bits .xor k (if k.signed then -1 else k.max) p = z) : Ru P σ n env l ⟨dst, .unOp .xor t x, ty, pos, af, gd⟩ (.int k z) := by
  intro a w kn _; simp only [execOp, kn.ev hx, Op.unary, intBits_xor, hz]; simp
theorem Ru.conv {k' : IntKind} {d : TypeDesc} [UT P t d] [UT P t' (.int k')] (hx : ev env x = some (.int k p)) (hz : k'.wrap p = z) : Ru P σ n env l ⟨dst, .convert t t' x, ty, pos, af, gd⟩ (.int k' z) := by
  intro a w kn _
  have h1 := UT.run (P := P) (t := t) w
  have h2 := UT.run (P := P) (t := t') w
  simp [execOp, kn.ev hx, convert, h1, h2, Conv.intToInt, hz]
end ints

theorem equal_at {w : World} {t : TypeId} {x y : Value} {b : Bool} (he : ∀ k, (Op.equalIn (k + 1) t x y).run P w = .ok b w) : (Op.equal t x y).run P w = .ok b w := he 9999
theorem Ru.eqlB {x y : Operand} {b c r : Bool} {t t' : TypeId} [UT P t .bool] (hx : ev env x = some (.bool b)) (hy : ev env y = some (.bool c)) (hr : (b == c) = r) : Ru P σ n env l ⟨dst, .binOp .eql t x y t', ty, pos, af, gd⟩ (.bool r) := by
  intro a w kn _
  have h1 := UT.run (P := P) (t := t) w
  have h2 := equal_at (P := P) (w := w) (t := t) (x := .bool b) (y := .bool c) (b := b == c) (fun k => by simp [Op.equalIn, h1])
  rw [run_bin (kn.ev hx) (kn.ev hy), eqGuard_at_bool]
  simp only [binOp]
  simp [h2, ← hr]
theorem Ru.neqB {x y : Operand} {b c r : Bool} {t t' : TypeId} [UT P t .bool] (hx : ev env x = some (.bool b)) (hy : ev env y = some (.bool c)) (hr : (b != c) = r) : Ru P σ n env l ⟨dst, .binOp .neq t x y t', ty, pos, af, gd⟩ (.bool r) := by
  intro a w kn _
  have h1 := UT.run (P := P) (t := t) w
  have h2 := equal_at (P := P) (w := w) (t := t) (x := .bool b) (y := .bool c) (b := b == c) (fun k => by simp [Op.equalIn, h1])
  rw [run_bin (kn.ev hx) (kn.ev hy), eqGuard_at_bool]
  simp only [binOp]
  simp [h2, ← hr, bne]
theorem Ru.eqlPN {x y : Operand} {p : Option Addr} {e t t' : TypeId} [UT P t (.pointer e)] (hx : ev env x = some (.pointer p)) (hy : ev env y = some (.pointer none)) : Ru P σ n env l ⟨dst, .binOp .eql t x y t', ty, pos, af, gd⟩ (.bool p.isNone) := by
  intro a w kn _
  have h1 := UT.run (P := P) (t := t) w
  have h2 := equal_at (P := P) (w := w) (t := t) (x := .pointer p) (y := .pointer none) (b := p.isNone) (fun k => by cases p <;> simp [Op.equalIn, h1])
  rw [run_bin (kn.ev hx) (kn.ev hy), eqGuard_at_pointer]
  simp only [binOp]
  simp [h2]
theorem Ru.neqPN {x y : Operand} {p : Option Addr} {e t t' : TypeId} [UT P t (.pointer e)] (hx : ev env x = some (.pointer p)) (hy : ev env y = some (.pointer none)) : Ru P σ n env l ⟨dst, .binOp .neq t x y t', ty, pos, af, gd⟩ (.bool (!p.isNone)) := by
  intro a w kn _
  have h1 := UT.run (P := P) (t := t) w
  have h2 := equal_at (P := P) (w := w) (t := t) (x := .pointer p) (y := .pointer none) (b := p.isNone) (fun k => by cases p <;> simp [Op.equalIn, h1])
  rw [run_bin (kn.ev hx) (kn.ev hy), eqGuard_at_pointer]
  simp only [binOp]
  simp [h2]
theorem Ru.eqlSN {x y : Operand} {p : Option Addr} {m c : Nat} {e t t' : TypeId} [UT P t (.slice e)] (hx : ev env x = some (.slice p m c)) (hy : ev env y = some (.slice none 0 0)) : Ru P σ n env l ⟨dst, .binOp .eql t x y t', ty, pos, af, gd⟩ (.bool p.isNone) := by
  intro a w kn _
  have h1 := UT.run (P := P) (t := t) w
  have h2 := equal_at (P := P) (w := w) (t := t) (x := .slice p m c) (y := .slice none 0 0) (b := p.isNone) (fun k => by cases p <;> simp [Op.equalIn, h1])
  rw [run_bin (kn.ev hx) (kn.ev hy), eqGuard_at_slice]
  simp only [binOp]
  simp [h2]
theorem Ru.neqSN {x y : Operand} {p : Option Addr} {m c : Nat} {e t t' : TypeId} [UT P t (.slice e)] (hx : ev env x = some (.slice p m c)) (hy : ev env y = some (.slice none 0 0)) : Ru P σ n env l ⟨dst, .binOp .neq t x y t', ty, pos, af, gd⟩ (.bool (!p.isNone)) := by
  intro a w kn _
  have h1 := UT.run (P := P) (t := t) w
  have h2 := equal_at (P := P) (w := w) (t := t) (x := .slice p m c) (y := .slice none 0 0) (b := p.isNone) (fun k => by cases p <;> simp [Op.equalIn, h1])
  rw [run_bin (kn.ev hx) (kn.ev hy), eqGuard_at_slice]
  simp only [binOp]
  simp [h2]
theorem Ru.eqlS {x y : Operand} {p q : ByteArray} {r : Bool} {t t' : TypeId} (hx : ev env x = some (.string p)) (hy : ev env y = some (.string q)) (hr : (p.toList == q.toList) = r) : Ru P σ n env l ⟨dst, .binOp .eql t x y t', ty, pos, af, gd⟩ (.bool r) := by
  intro a w kn _
  rw [run_bin (kn.ev hx) (kn.ev hy), eqGuard_at_string]
  simp only [binOp, Op.stringOp, hr]
  rfl
theorem Ru.neqS {x y : Operand} {p q : ByteArray} {r : Bool} {t t' : TypeId} (hx : ev env x = some (.string p)) (hy : ev env y = some (.string q)) (hr : (!(p.toList == q.toList)) = r) : Ru P σ n env l ⟨dst, .binOp .neq t x y t', ty, pos, af, gd⟩ (.bool r) := by
  intro a w kn _
  rw [run_bin (kn.ev hx) (kn.ev hy), eqGuard_at_string]
  simp only [binOp, Op.stringOp, hr]
  rfl

theorem Ru.extract {x : Operand} {i : Nat} {vs : Array Value} {v : Value} (hx : ev env x = some (.tuple vs)) (hv : vs[i]? = some v) : Ru P σ n env l ⟨dst, .extract x i, ty, pos, af, gd⟩ v := by
  intro a w kn _; simp [execOp, kn.ev hx, Instr.extract, hv]
theorem Ru.makeFunc {f : Go.Fn} {xs ys : Array Operand} {vs us : List Value} (hx : xs.toList.mapM (ev env) = some vs) (hy : ys.toList.mapM (ev env) = some us) : Ru P σ n env l ⟨dst, .makeFunc f xs ys, ty, pos, af, gd⟩ (.func f vs.toArray us.toArray) := by
  intro a w kn _
  have key : ∀ (l : List Operand) (vs : List Value), l.mapM (ev env) = some vs → l.map a.eval = vs := by
    intro l
    induction l with
    | nil => intro vs h; simp at h; exact h.symm ▸ rfl
    | cons x l ih =>
      intro vs h
      simp only [List.mapM_cons, Option.bind_eq_bind, Option.bind_eq_some_iff] at h
      obtain ⟨v, hv, us, hus, h⟩ := h
      have e : v :: us = vs := by simpa using h
      rw [← e, List.map_cons, ih us hus, kn.ev hv]
  have e1 : xs.map a.eval = vs.toArray := by apply Array.ext'; rw [Array.toList_map]; exact key _ _ hx
  have e2 : ys.map a.eval = us.toArray := by apply Array.ext'; rw [Array.toList_map]; exact key _ _ hy
  simp [execOp, Instr.makeFunc, e1, e2]
theorem Ru.makeIface {x : Operand} {v : Value} {t : TypeId} {d : TypeDesc} [UT P t d] (hx : ev env x = some v) (hd : (match d with | .interface _ => false | _ => true) = true := by rfl) : Ru P σ n env l ⟨dst, .makeInterface t x, ty, pos, af, gd⟩ (.iface t v) := by
  intro a w kn _
  have h1 := UT.run (P := P) (t := t) w
  cases d <;> simp_all [execOp, kn.ev hx, Instr.makeInterface]

/-! ### Parts -/
theorem Ru.field {x : Operand} {s ft : TypeId} {i off z : Nat} {cs : Array Value} {v : Value} [hf : FA P s i off z ft false]
    (hx : ev env x = some (.agg cs)) (hv : cs[off]? = some v) : Ru P σ n env l ⟨dst, .field s x i, ty, pos, af, gd⟩ v := by
  intro a w kn _
  obtain ⟨fs, f, h1, h2, rfl, rfl, h5, h6, h7⟩ := hf.eq
  have h1' : (underlying s).run P w = .ok (.struct fs) w := by simp [underlying, h1]
  simp [execOp, kn.ev hx, Instr.field, h1', h2, part, asAgg, h6, hv]
theorem Ru.fieldA {x : Operand} {s ft : TypeId} {i off z : Nat} {cs : Array Value} [hf : FA P s i off z ft true]
    (hx : ev env x = some (.agg cs)) : Ru P σ n env l ⟨dst, .field s x i, ty, pos, af, gd⟩ (.agg (cs.extract off (off + z))) := by
  intro a w kn _
  obtain ⟨fs, f, h1, h2, rfl, rfl, h5, h6, h7⟩ := hf.eq
  have h1' : (underlying s).run P w = .ok (.struct fs) w := by simp [underlying, h1]
  simp [execOp, kn.ev hx, Instr.field, h1', h2, part, asAgg, h6, h5]
theorem Ru.fieldAddr {x : Operand} {s ft : TypeId} {i off z b o : Nat} {g : Bool} [hf : FA P s i off z ft g]
    (hx : ev env x = some (.pointer (some ⟨b, o, none⟩))) : Ru P σ n env l ⟨dst, .fieldAddr s x i, ty, pos, af, gd⟩ (.pointer (some ⟨b, o + off, none⟩)) := by
  intro a w kn _
  obtain ⟨fs, f, h1, h2, rfl, rfl, h5, h6, h7⟩ := hf.eq
  have h1' : (underlying s).run P w = .ok (.struct fs) w := by simp [underlying, h1]
  simp [execOp, kn.ev hx, Instr.fieldAt, h1', h2, Instr.sureAddr, fieldPlace, h5, h7, Addr.add]
theorem Ru.indexAddr {x y : Operand} {t e : TypeId} {b o len cap z : Nat} {k : IntKind} {i : Int} [UT P t (.slice e)] [SZ P e z] (hx : ev env x = some (.slice (some ⟨b, o, none⟩) len cap)) (hy : ev env y = some (.int k i)) (h0 : 0 ≤ i) (h1 : i < len) :
    Ru P σ n env l ⟨dst, .indexAddr t x y, ty, pos, af, gd⟩ (.pointer (some ⟨b, o + i.toNat * z, none⟩)) := by
  intro a w kn _
  have e1 := UT.run (P := P) (t := t) w
  have e2 := SZ.eq (P := P) (t := e) w
  simp [execOp, kn.ev hx, kn.ev hy, Instr.indexAt, asIntOf, e1, e2, h0, h1, Addr.add]
theorem Ru.indexAddrA {x y : Operand} {t e : TypeId} {b o len z : Nat} {k : IntKind} {i : Int} [UT P t (.array len e)] [SZ P e z] (hx : ev env x = some (.pointer (some ⟨b, o, none⟩))) (hy : ev env y = some (.int k i)) (h0 : 0 ≤ i) (h1 : i < len) :
    Ru P σ n env l ⟨dst, .indexAddr t x y, ty, pos, af, gd⟩ (.pointer (some ⟨b, o + i.toNat * z, none⟩)) := by
  intro a w kn _
  have e1 := UT.run (P := P) (t := t) w
  have e2 := SZ.eq (P := P) (t := e) w
  simp [execOp, kn.ev hx, kn.ev hy, Instr.indexAt, Instr.sureAddr, asIntOf, e1, e2, h0, h1, Addr.add]
theorem Ru.indexA {x y : Operand} {t e : TypeId} {len z : Nat} {k : IntKind} {i : Int} {cs : Array Value} {v : Value} [UT P t (.array len e)] [SZ P e z] [AG P e false] (hx : ev env x = some (.agg cs)) (hy : ev env y = some (.int k i)) (h0 : 0 ≤ i) (h1 : i < len)
    (hv : cs[i.toNat * z]? = some v) : Ru P σ n env l ⟨dst, .index t x y, ty, pos, af, gd⟩ v := by
  intro a w kn _
  have e1 := UT.run (P := P) (t := t) w
  have e2 := SZ.eq (P := P) (t := e) w
  have h2 := AG.eq (P := P) (t := e) w
  simp [execOp, kn.ev hx, kn.ev hy, Instr.index, asIntOf, e1, e2, h0, h1, part, h2, hv]
theorem Ru.lenS {x : Operand} {t e : TypeId} {p : Option Addr} {m c : Nat} [UT P t (.slice e)] (hx : ev env x = some (.slice p m c)) : Ru P σ n env l ⟨dst, .call ⟨.builtin .len, #[x], #[t]⟩, ty, pos, af, gd⟩ (.int .i64 m) := by
  intro a w kn _
  have e1 := UT.run (P := P) (t := t) w
  simp [execOp, resolve, invoke, builtin, Builtin.len_, kn.ev hx, e1, goInt]
theorem Ru.lenStr {x : Operand} {t : TypeId} {s : ByteArray} [UT P t .string] (hx : ev env x = some (.string s)) : Ru P σ n env l ⟨dst, .call ⟨.builtin .len, #[x], #[t]⟩, ty, pos, af, gd⟩ (.int .i64 s.size) := by
  intro a w kn _
  have e1 := UT.run (P := P) (t := t) w
  simp [execOp, resolve, invoke, builtin, Builtin.len_, kn.ev hx, e1, goInt]
theorem Ru.capS {x : Operand} {t e : TypeId} {p : Option Addr} {m c : Nat} [UT P t (.slice e)] (hx : ev env x = some (.slice p m c)) : Ru P σ n env l ⟨dst, .call ⟨.builtin .cap, #[x], #[t]⟩, ty, pos, af, gd⟩ (.int .i64 c) := by
  intro a w kn _
  have e1 := UT.run (P := P) (t := t) w
  simp [execOp, resolve, invoke, builtin, Builtin.cap_, kn.ev hx, e1, goInt]
theorem Ru.max2 {x y : Operand} {t : Array TypeId} {k : IntKind} {p q : Int} (hx : ev env x = some (.int k p)) (hy : ev env y = some (.int k q)) : Ru P σ n env l ⟨dst, .call ⟨.builtin .max, #[x, y], t⟩, ty, pos, af, gd⟩ (.int k (if q > p then q else p)) := by
  intro a w kn _
  simp [execOp, resolve, invoke, builtin, Builtin.max_, kn.ev hx, kn.ev hy, Builtin.max2]
theorem Ru.min2 {x y : Operand} {t : Array TypeId} {k : IntKind} {p q : Int} (hx : ev env x = some (.int k p)) (hy : ev env y = some (.int k q)) : Ru P σ n env l ⟨dst, .call ⟨.builtin .min, #[x, y], t⟩, ty, pos, af, gd⟩ (.int k (if q < p then q else p)) := by
  intro a w kn _
  simp [execOp, resolve, invoke, builtin, Builtin.min_, kn.ev hx, kn.ev hy, Builtin.min2]

def Places (P : Program) : List Field → List (Nat × Nat) → Prop
  | [], [] => True
  | f :: fs, p :: ps => (f.offset = p.1 ∧ ∀ w, (sizeOf f.type).run P w = .ok p.2 w) ∧ Places P fs ps
  | _, _ => False
/-- A struct type's zero cells, and where its fields lie. -/
class BT (P : Program) (t : TypeId) (zs : outParam (Array Value)) (pl : outParam (List (Nat × Nat))) : Prop where
  z : ∀ w, (zeroValue t).run P w = .ok (.agg zs) w
  u : ∃ fs : Array Field, P.underlying t = some (.struct fs) ∧ Places P fs.toList pl

theorem run_sizes : ∀ (fs : List Field) (pl : List (Nat × Nat)) (w : World), Places P fs pl →
    Sem.run P (fs.mapM (fun f => (do Pure.pure (f.offset, ← sizeOf f.type) : Sem (Nat × Nat)))) w = .ok pl w
  | [], [], w, _ => rfl
  | f :: fs, p :: pl, w, ⟨⟨h1, h2⟩, h⟩ => by
    have ih := run_sizes fs pl w h
    simp only [List.mapM_cons, Sem.run_bind, h2, Result.andThen_ok, Sem.run_pure, ih, h1]
  | [], _ :: _, _, h => h.elim
  | _ :: _, [], _, h => h.elim

theorem Ru.build {t : TypeId} {zs : Array Value} {pl : List (Nat × Nat)} {parts : Array (Nat × Operand)} {vs : List Value} {cells : Array Value} [h : BT P t zs pl] (hx : parts.toList.mapM (fun p => ev env p.2) = some vs)
    (hf : Instr.fill (fun i => pl[i]?) zs ((parts.toList.map (·.1)).zip vs) = some cells := by rfl) : Ru P σ n env l ⟨dst, .build t parts, ty, pos, af, gd⟩ (.agg cells) := by
  intro a w kn _
  obtain ⟨fs, hu, hp⟩ := h.u
  have h1 := h.z w
  have h2 : (underlying t).run P w = .ok (.struct fs) w := by simp [underlying, hu]
  have h3 := run_sizes (P := P) fs.toList pl w hp
  have key : ∀ (ps : List (Nat × Operand)) (vs : List Value), ps.mapM (fun p => ev env p.2) = some vs → ps.map (fun p => (p.1, a.eval p.2)) = (ps.map (·.1)).zip vs := by
    intro ps
    induction ps with
    | nil => intro vs h; simp at h; subst h; rfl
    | cons x ps ih =>
      intro vs h
      simp only [List.mapM_cons, Option.bind_eq_bind, Option.bind_eq_some_iff] at h
      obtain ⟨v, hv, us, hus, h⟩ := h
      have e : v :: us = vs := by simpa using h
      rw [← e, List.map_cons, ih us hus, kn.ev hv]
      rfl
  have e1 : (parts.map fun (i, x) => (i, a.eval x)).toList = (parts.toList.map (·.1)).zip vs := by rw [Array.toList_map]; exact key _ _ hx
  have h4 : Sem.run P (fs.mapM (fun f => (do Pure.pure (f.offset, ← sizeOf f.type) : Sem (Nat × Nat)))) w = .ok pl.toArray w := by
    rw [Array.mapM_eq_mapM_toList]
    simp only [Sem.run_map, h3, Result.andThen_ok]
  have h5 : (fun i : Nat => pl.toArray[i]?) = fun i : Nat => pl[i]? := by funext i; simp
  simp only [execOp, Instr.build, Sem.run_bind, h1, Result.andThen_ok, h2, h4, Value.cells, e1, h5, hf]
  rfl

theorem mapM_parts {a : Act} (kn : Kn n a env) : ∀ (ps : List (Nat × Operand)) (vs : List Value), ps.mapM (fun p => ev env p.2) = some vs → ps.map (fun p => (p.1, a.eval p.2)) = (ps.map (·.1)).zip vs := by
  intro ps
  induction ps with
  | nil => intro vs h; simp at h; subst h; rfl
  | cons x ps ih =>
    intro vs h
    simp only [List.mapM_cons, Option.bind_eq_bind, Option.bind_eq_some_iff] at h
    obtain ⟨v, hv, us, hus, h⟩ := h
    have e : v :: us = vs := by simpa using h
    rw [← e, List.map_cons, ih us hus, kn.ev hv]
    rfl
theorem Ru.buildArr {t e : TypeId} {m z : Nat} {zs : Array Value} {parts : Array (Nat × Operand)} {vs : List Value} {cells : Array Value} [UT P t (.array m e)] [SZ P e z] [ZV P t (.agg zs)] (hx : parts.toList.mapM (fun p => ev env p.2) = some vs)
    (hf : Instr.fill (fun i => some (i * z, z)) zs ((parts.toList.map (·.1)).zip vs) = some cells := by rfl) : Ru P σ n env l ⟨dst, .build t parts, ty, pos, af, gd⟩ (.agg cells) := by
  intro a w kn _
  have h1 := ZV.eq (P := P) (t := t) w
  have h2 := UT.run (P := P) (t := t) w
  have h3 := SZ.eq (P := P) (t := e) w
  have e1 : (parts.map fun (i, x) => (i, a.eval x)).toList = (parts.toList.map (·.1)).zip vs := by rw [Array.toList_map]; exact mapM_parts kn _ _ hx
  simp only [execOp, Instr.build, Sem.run_bind, h1, Result.andThen_ok, h2, h3, Value.cells, e1, hf]
  rfl

/-! ### Memory -/
theorem run_loadPart {w : World} {b o : Nat} {vs : List Value} {m : Nat} (hc : ∀ i, w.cell? ⟨b, i, none⟩ = vs[i]?) (hm : o + m ≤ vs.length) : (loadCells ⟨b, o, none⟩ m).run P w = .ok ((vs.drop o).take m).toArray w := by
  have hlen : ((vs.drop o).take m).length = m := by simp; omega
  have := run_loadCells_list (P := P) (w := w) ⟨b, o, none⟩ ((vs.drop o).take m) (fun j v hv => by
    have hj : j < m := by
      rcases Nat.lt_or_ge j m with q | q
      · exact q
      · rw [List.getElem?_eq_none (by omega)] at hv; cases hv
    have e : Addr.add ⟨b, o, none⟩ j = ⟨b, o + j, none⟩ := by simp [Addr.add]
    rw [e, hc]
    rw [List.getElem?_take_of_lt hj, List.getElem?_drop] at hv
    exact hv)
  rw [hlen] at this
  exact this

theorem Ru.load {x : Operand} {t E : TypeId} {b o : Nat} {vs : List Value} {v : Value} [AG P t false] (hx : ev env x = some (.pointer (some ⟨b, o, none⟩))) (hp : Pick (arr b E vs) l r) (hv : vs[o]? = some v) :
    Ru P σ n env l ⟨dst, .load t x, ty, pos, af, gd⟩ v := by
  intro a w kn s
  have h2 := AG.eq (P := P) (t := t) w
  have hc := (s.perm hp).cell o
  simp [execOp, kn.ev hx, Instr.loadAt, Instr.sureAddr, loadVar, h2, hc, hv]
theorem Ru.loadA {x : Operand} {t E : TypeId} {b o z : Nat} {vs cs : List Value} [AG P t true] [SZ P t z] (hx : ev env x = some (.pointer (some ⟨b, o, none⟩))) (hp : Pick (arr b E vs) l r) (hm : Nat.ble (o + z) vs.length = true := by rfl) (hcs : (vs.drop o).take z = cs := by rfl) :
    Ru P σ n env l ⟨dst, .load t x, ty, pos, af, gd⟩ (.agg cs.toArray) := by
  intro a w kn s
  have h2 := AG.eq (P := P) (t := t) w
  have h3 := SZ.eq (P := P) (t := t) w
  have hc := run_loadPart (P := P) (fun i => (s.perm hp).cell i) (by simpa using hm : o + z ≤ vs.length)
  simp [execOp, kn.ev hx, Instr.loadAt, Instr.sureAddr, loadVar, h2, h3, hc, hcs]

theorem Ru.loadC {x : Operand} {t : TypeId} {p : Addr} {v : Value} [AG P t false] (hx : ev env x = some (.pointer (some p))) (hv : ∀ w, Sat σ w l → w.cell? p = some v) :
    Ru P σ n env l ⟨dst, .load t x, ty, pos, af, gd⟩ v := by
  intro a w kn s
  have h2 := AG.eq (P := P) (t := t) w
  simp [execOp, kn.ev hx, Instr.loadAt, Instr.sureAddr, loadVar, h2, hv w s]

/-- What is stored, cell by cell. -/
def splice (vs : List Value) (o : Nat) : List Value → List Value
  | [] => vs
  | c :: cs => splice (vs.set o c) (o + 1) cs
theorem splice_length : ∀ (cs vs : List Value) (o : Nat), (splice vs o cs).length = vs.length
  | [], _, _ => rfl
  | c :: cs, vs, o => by simp [splice, splice_length cs]

theorem Sat.storeCells {b E : Nat} : ∀ (cs : List Value) (vs : List Value) (o i : Nat) (w : World), (∀ c ∈ cs, c.oneCell' = true) → o + i + cs.length ≤ vs.length → Sat σ w (Sep.arr b E vs :: l) →
    ∃ w', (storeCells ⟨b, o, none⟩ cs i).run P w = .ok () w' ∧ Sat σ w' (Sep.arr b E (splice vs (o + i) cs) :: l)
  | [], vs, o, i, w, _, _, s => ⟨w, rfl, s⟩
  | c :: cs, vs, o, i, w, h1, hl, s => by
    have hlt : o + i < vs.length := by simp at hl; omega
    have hc : w.cell? ⟨b, o + i, none⟩ = some (vs[o + i]'hlt) := by rw [s.cell]; exact List.getElem?_eq_getElem hlt
    have hf := s.unfrozen hlt none
    have e : Addr.add ⟨b, o, none⟩ i = ⟨b, o + i, none⟩ := by simp [Addr.add]
    obtain ⟨w', hr, s'⟩ := Sat.storeCells cs (vs.set (o + i) c) o (i + 1) (w.setCell ⟨b, o + i, none⟩ c) (fun x hx => h1 x (List.mem_cons_of_mem _ hx)) (by simp at hl ⊢; omega) (s.setCell (o + i) c)
    refine ⟨w', ?_, by simpa [splice, Nat.add_assoc] using s'⟩
    have hst := run_store P w ⟨b, o + i, none⟩ c .plain (h1 c (List.mem_cons_self ..))
    rw [hc] at hst
    simp only [hf] at hst
    simp only [Go.storeCells, Sem.run_bind, e, hst]
    exact hr

theorem Do.store {x y : Operand} {t E : TypeId} {b o : Nat} {vs : List Value} {v : Value} [SZ P t 1] (hx : ev env x = some (.pointer (some ⟨b, o, none⟩))) (hy : ev env y = some v) (h1 : v.oneCell' = true) (hp : Pick (arr b E vs) l r) (ho : Nat.blt o vs.length = true) :
    Do P σ n env l ⟨dst, .store t x y, ty, pos, af, gd⟩ (fun u l' => u = undef ∧ l' = arr b E (vs.set o v) :: r) := by
  refine Do.skip fun a w kn s => ?_
  have h3 := SZ.eq (P := P) (t := t) w
  have ho' : o < vs.length := by simpa using ho
  have hcs : v.cells = #[v] := by cases v <;> first | rfl | cases h1
  obtain ⟨w', hr, s'⟩ := Sat.storeCells (P := P) (σ := σ) [v] vs o 0 w (by simpa using h1) (by simp; omega) (s.perm hp)
  refine ⟨w', _, ?_, s', rfl, rfl⟩
  simp [execOp, kn.ev hx, kn.ev hy, Instr.storeAt, Instr.sureAddr, storeVar, hcs, h3, hr]
theorem Do.storeA {x y : Operand} {t E : TypeId} {b o z : Nat} {vs cs : List Value} [SZ P t z] (hx : ev env x = some (.pointer (some ⟨b, o, none⟩))) (hy : ev env y = some (.agg cs.toArray)) (hp : Pick (arr b E vs) l r) (hz : Nat.beq cs.length z = true := by rfl) (h1 : cs.all Value.oneCell' = true := by rfl) (ho : Nat.ble (o + cs.length) vs.length = true := by rfl) :
    Do P σ n env l ⟨dst, .store t x y, ty, pos, af, gd⟩ (fun u l' => u = undef ∧ l' = arr b E (splice vs o cs) :: r) := by
  refine Do.skip fun a w kn s => ?_
  have h3 := SZ.eq (P := P) (t := t) w
  have ho' : o + cs.length ≤ vs.length := by simpa using ho
  have hz' : cs.length = z := Nat.eq_of_beq_eq_true hz
  obtain ⟨w', hr, s'⟩ := Sat.storeCells (P := P) (σ := σ) cs vs o 0 w (by simpa using h1) (by omega) (s.perm hp)
  refine ⟨w', _, ?_, s', rfl, rfl⟩
  simp [execOp, kn.ev hx, kn.ev hy, Instr.storeAt, Instr.sureAddr, storeVar, Value.cells, h3, hz', hr]

theorem Do.alloc {t : TypeId} {v : Value} [ZV P t v] : Do P σ n env l ⟨dst, .alloc t, ty, pos, af, gd⟩ (fun u l' => ∃ b, u = .pointer (some ⟨b, 0, none⟩) ∧ l' = arr b t v.cells.toList :: l) := by
  refine Do.value fun a w kn s => ?_
  have h1 := ZV.eq (P := P) (t := t) w
  refine ⟨_, _, _, ?_, s.newRow t v.cells, _, rfl, rfl⟩
  simp [execOp, Instr.alloc, h1, newVar, newRow]
theorem Do.box {t : TypeId} {x : Operand} {v : Value} (hx : ev env x = some v) : Do P σ n env l ⟨dst, .box t x, ty, pos, af, gd⟩ (fun u l' => ∃ b, u = .pointer (some ⟨b, 0, none⟩) ∧ l' = arr b t v.cells.toList :: l) := by
  refine Do.value fun a w kn s => ?_
  refine ⟨_, _, _, ?_, s.newRow t v.cells, _, rfl, rfl⟩
  simp [execOp, Instr.box, kn.ev hx, newVar, newRow]
theorem Do.makeMap {t : TypeId} : Do P σ n env l ⟨dst, .makeMap t none, ty, pos, af, gd⟩ (fun u l' => ∃ b, u = .map (some b) ∧ l' = pt b (.map #[] 0) :: l) := by
  refine Do.value fun a w kn s => ?_
  refine ⟨_, _, _, ?_, s.new (o := .map #[] 0), _, rfl, rfl⟩
  simp [execOp, Instr.makeMap]

theorem Do.buildSlice {t e : TypeId} {z len : Nat} {zv : Value} {parts : Array (Nat × Operand)} {vs : List Value} {cells : Array Value} [UT P t (.slice e)] [SZ P e z] [ZV P e zv] (hx : parts.toList.mapM (fun p => ev env p.2) = some vs)
    (hl : Nat.ble (len * z) (2 ^ 24) = true := by rfl) (hn : Nat.beq (len * z) 0 = false := by rfl)
    (hf : Instr.fill (fun i => some (i * z, z)) ((List.range (len * z)).map (fun i => zv.cells[i % zv.cells.size]!)).toArray ((parts.toList.map (·.1)).zip vs) = some cells := by rfl) :
    Do P σ n env l ⟨dst, .buildSlice t len parts, ty, pos, af, gd⟩ (fun u l' => ∃ b, u = .slice (some ⟨b, 0, none⟩) len len ∧ l' = arr b e cells.toList :: l) := by
  refine Do.value fun a w kn s => ?_
  have h1 := UT.run (P := P) (t := t) w
  have h2 := SZ.eq (P := P) (t := e) w
  have h3 := ZV.eq (P := P) (t := e) w
  have e1 : (parts.map fun (i, x) => (i, a.eval x)).toList = (parts.toList.map (·.1)).zip vs := by rw [Array.toList_map]; exact mapM_parts kn _ _ hx
  have hl' : ¬ (len * z > 2 ^ 24) := by have : len * z ≤ 2 ^ 24 := by simpa using hl
                                        omega
  have hn' : len * z ≠ 0 := Nat.ne_of_beq_eq_false hn
  have hrg : (Array.range (len * z)).map (zv.cells[· % zv.cells.size]!) = ((List.range (len * z)).map (fun i => zv.cells[i % zv.cells.size]!)).toArray := by apply Array.ext'; simp
  refine ⟨_, _, _, ?_, s.newRow e cells, _, rfl, rfl⟩
  simp only [execOp, Instr.buildSlice, Sem.run_bind, h1, Result.andThen_ok, h2, if_neg hl', if_neg hn', h3, Sem.run_pure, e1, hrg, hf, newRow, run_newObj]

theorem Do.buildSlice0 {t e : TypeId} {z : Nat} [UT P t (.slice e)] [SZ P e z] :
    Do P σ n env l ⟨dst, .buildSlice t 0 #[], ty, pos, af, gd⟩ (fun u l' => ∃ b, u = .slice (some ⟨b, 0, none⟩) 0 0 ∧ l' = arr b e [] :: l) := by
  refine Do.value fun a w kn s => ?_
  have h1 := UT.run (P := P) (t := t) w
  have h2 := SZ.eq (P := P) (t := e) w
  have hr : ∀ zs : Array Value, (Array.range 0).map (zs[· % zs.size]!) = (#[] : Array Value) := fun zs => by apply Array.ext'; simp
  refine ⟨_, _, _, ?_, s.newRow e #[], _, rfl, rfl⟩
  simp only [execOp, Instr.buildSlice, Sem.run_bind, h1, Result.andThen_ok, h2, Nat.zero_mul, Sem.run_pure, Array.map_empty, if_true, hr, Instr.fill, newRow, run_newObj]
  rfl

/-! ### Calls -/
theorem mapM_ev {a : Act} (kn : Kn n a env) : ∀ (l : List Operand) (vs : List Value), l.mapM (ev env) = some vs → l.map a.eval = vs := by
  intro l
  induction l with
  | nil => intro vs h; simp at h; exact h.symm ▸ rfl
  | cons x l ih =>
    intro vs h
    simp only [List.mapM_cons, Option.bind_eq_bind, Option.bind_eq_some_iff] at h
    obtain ⟨v, hv, us, hus, h⟩ := h
    have e : v :: us = vs := by simpa using h
    rw [← e, List.map_cons, ih us hus, kn.ev hv]

/-- The function has a body. -/
class HasBody (P : Program) (f : FuncId) : Prop where
  run : ∀ args w, (callFunc f args).run P w = .ok (.enter f args) w

theorem Do.call {f : FuncId} {xs : Array Operand} {ts : Array TypeId} {vs : List Value} {post : Value → List HP → Prop} [HasBody P f] (hx : xs.toList.mapM (ev env) = some vs) (h : Fn P σ f vs.toArray l post) :
    Do P σ n env l ⟨dst, .call ⟨.value (.func f), xs, ts⟩, ty, pos, af, gd⟩ post := by
  intro a w kn s K Q hK
  have e : xs.map a.eval = vs.toArray := by apply Array.ext'; rw [Array.toList_map]; exact mapM_ev kn _ _ hx
  have hr := HasBody.run (P := P) (f := f) vs.toArray w
  unfold Oper.wp
  have he : (execOp a.eval ⟨dst, .call ⟨.value (.func f), xs, ts⟩, ty, pos, af, gd⟩).run P w = .ok (.enter f vs.toArray) w := by
    simp [execOp, resolve, invoke, Act.eval, Deferred.ofValue, e, hr]
  rw [he, Oper.upon_enter]
  refine (h w s).mono ?_
  rintro e' w' ⟨v, l', rfl, p, s'⟩
  exact hK v l' w' p s'
/-- A call through a function's value. -/
theorem Do.callV {f : FuncId} {x : Operand} {xs : Array Operand} {ts : Array TypeId} {vs : List Value} {c d : Array Value} {post : Value → List HP → Prop} [HasBody P f] (hf : ev env x = some (.func (.func f) c d)) (hx : xs.toList.mapM (ev env) = some vs) (h : Fn P σ f (c ++ vs.toArray ++ d) l post) :
    Do P σ n env l ⟨dst, .call ⟨.value x, xs, ts⟩, ty, pos, af, gd⟩ post := by
  intro a w kn s K Q hK
  have e : xs.map a.eval = vs.toArray := by apply Array.ext'; rw [Array.toList_map]; exact mapM_ev kn _ _ hx
  have hr := HasBody.run (P := P) (f := f) (c ++ vs.toArray ++ d) w
  unfold Oper.wp
  have he : (execOp a.eval ⟨dst, .call ⟨.value x, xs, ts⟩, ty, pos, af, gd⟩).run P w = .ok (.enter f (c ++ vs.toArray ++ d)) w := by
    simp only [execOp, resolve, kn.ev hf, Deferred.ofValue, e, Sem.run_bind, Sem.run_pure, Result.andThen_ok, invoke]
    simpa using hr
  rw [he, Oper.upon_enter]
  refine (h w s).mono ?_
  rintro e' w' ⟨v, l', rfl, p, s'⟩
  exact hK v l' w' p s'

/-- A call of a function that leaves the heap as it is, and answers v. -/
theorem Ru.ofDo {o : Oper} {v : Value} (h : Ru P σ n env l o v) : Do P σ n env l o (fun v' l' => v' = v ∧ l' = l) := h.do
end

theorem wrapI {x : Int} (h0 : -9223372036854775808 ≤ x) (h1 : x ≤ 9223372036854775807) : IntKind.i64.wrap x = x := by
  simp [IntKind.wrap, IntKind.bits, IntKind.signed]; omega
theorem wrapU8 {x : Int} (h0 : 0 ≤ x) (h1 : x ≤ 255) : IntKind.u8.wrap x = x := by
  simp [IntKind.wrap, IntKind.bits, IntKind.signed]; omega
theorem wrapU32 {x : Int} (h0 : 0 ≤ x) (h1 : x ≤ 4294967295) : IntKind.u32.wrap x = x := by
  simp [IntKind.wrap, IntKind.bits, IntKind.signed]; omega
theorem wrapU64 {x : Int} (h0 : 0 ≤ x) (h1 : x ≤ 18446744073709551615) : IntKind.u64.wrap x = x := by
  simp [IntKind.wrap, IntKind.bits, IntKind.signed]; omega
theorem decT {p : Prop} [Decidable p] (h : p) : decide p = true := decide_eq_true h
theorem decF {p : Prop} [Decidable p] (h : ¬ p) : decide p = false := decide_eq_false h
theorem ndecT {p : Prop} [Decidable p] (h : ¬ p) : (!decide p) = true := by simp [h]
theorem ndecF {p : Prop} [Decidable p] (h : p) : (!decide p) = false := by simp [h]
end Go.Sep
/- Tests that part the walk; statements whose order is drawn. -/
namespace Go.Sep
open Go

section
variable {P : Program} {σ : Sig} {n : Nat} {ds : List Deferred} {ops : Array Oper} {Q : Exit → Act → World → Prop} {rest : List Oper} {env : Env} {l r : List HP} {o : Oper}
  {dst : Option Tmp} {ty : TypeId} {pos : String} {af : Array Edge} {gd : Option (Nat × Bool)}

theorem JO.split {d : Nat} {p : Prop} {dp : Decidable p} (hg : o.guard = none) (hd : o.dst = some d) (hlt : Nat.blt d n = true) (h : Ru P σ n env l o (.bool (decide p)))
    (ht : p → JO P σ n ds ops Q rest ((d, .bool true) :: env) l) (hf : ¬ p → JO P σ n ds ops Q rest ((d, .bool false) :: env) l) : JO P σ n ds ops Q (o :: rest) env l := by
  refine JO.ru hg hd hlt h ?_
  by_cases hp : p
  · rw [decide_eq_true hp]; exact ht hp
  · rw [decide_eq_false hp]; exact hf hp
theorem JO.splitN {d : Nat} {p : Prop} {dp : Decidable p} (hg : o.guard = none) (hd : o.dst = some d) (hlt : Nat.blt d n = true) (h : Ru P σ n env l o (.bool (!decide p)))
    (ht : p → JO P σ n ds ops Q rest ((d, .bool false) :: env) l) (hf : ¬ p → JO P σ n ds ops Q rest ((d, .bool true) :: env) l) : JO P σ n ds ops Q (o :: rest) env l := by
  refine JO.ru hg hd hlt h ?_
  by_cases hp : p
  · rw [decide_eq_true hp]; exact ht hp
  · rw [decide_eq_false hp]; exact hf hp

theorem Ru.pickT {c x y : Operand} {v : Value} (hc : ev env c = some (.bool true)) (hx : ev env x = some v) : Ru P σ n env l ⟨dst, .pick c x y, ty, pos, af, gd⟩ v := by
  intro a w k _; simp [execOp, k.ev hc, k.ev hx, asBool]
theorem Ru.pickF {c x y : Operand} {v : Value} (hc : ev env c = some (.bool false)) (hy : ev env y = some v) : Ru P σ n env l ⟨dst, .pick c x y, ty, pos, af, gd⟩ v := by
  intro a w k _; simp [execOp, k.ev hc, k.ev hy, asBool]

theorem Res.cell {c t b o E : Nat} {vs : List Value} {v : Value} [AG P t false] (h : look env c = some (.pointer (some ⟨b, o, none⟩))) (hp : Pick (arr b E vs) l r) (hv : vs[o]? = some v := by rfl) : Res P σ n env l (.cell c t) v := by
  intro a w kn s
  have h2 := AG.eq (P := P) (t := t) w
  have hc := (s.perm hp).cell o
  have hk := kn.know _ _ h
  simp [resSem, Array.getD_eq_getD_getElem?, hk, asAddr, loadVar, h2, hc, hv]
theorem Res.cellA {c t b o z E : Nat} {vs cs : List Value} [AG P t true] [SZ P t z] (h : look env c = some (.pointer (some ⟨b, o, none⟩))) (hp : Pick (arr b E vs) l r) (hm : Nat.ble (o + z) vs.length = true := by rfl) (hcs : (vs.drop o).take z = cs := by rfl) :
    Res P σ n env l (.cell c t) (.agg cs.toArray) := by
  intro a w kn s
  have h2 := AG.eq (P := P) (t := t) w
  have h3 := SZ.eq (P := P) (t := t) w
  have hc := run_loadPart (P := P) (fun i => (s.perm hp).cell i) (by simpa using hm : o + z ≤ vs.length)
  have hk := kn.know _ _ h
  simp [resSem, Array.getD_eq_getD_getElem?, hk, asAddr, loadVar, h2, h3, hc, hcs]

/-! ### Drawn orders -/
/-- Which operations have come up: the first k. -/
def lst (m k : Nat) : Array Bool := (List.replicate k true ++ List.replicate (m - k) false).toArray
theorem lst_zero (m : Nat) : lst m 0 = Array.replicate m false := by simp [lst]
theorem lst_succ {m k : Nat} (h : k < m) : (lst m k).setIfInBounds k true = lst m (k + 1) := by
  simp only [lst, List.setIfInBounds_toArray]
  congr 1
  rw [List.set_append_right _ _ (by simp)]
  simp only [List.length_replicate, Nat.sub_self]
  obtain ⟨j, hj⟩ : ∃ j, m - k = j + 1 := ⟨m - k - 1, by omega⟩
  rw [hj, show m - (k + 1) = j from by omega, List.replicate_succ (n := j), List.set_cons_zero, List.replicate_succ', List.append_assoc]
  rfl

/-- Where a panic leaves by, the temporaries don't count. -/
class PQ (Q : Exit → Act → World → Prop) : Prop where
  h : ∀ c a d v w, Q (.panic c) (a.put d v) w → Q (.panic c) a w
instance {K : Act → World → Prop} [h : PQ Q] : PQ (Exit.then K Q) := ⟨fun c a d v w x => h.h c a d v w x⟩
instance {i : Nat} [h : PQ Q] : PQ (Exit.inBlock i Q) := ⟨fun c a d v w x => h.h c a d v w x⟩
instance {fn : Func} {R : Ending → World → Prop} : PQ (bodyPost P fn R) := ⟨fun c a d v w ⟨x, y⟩ => ⟨by rw [← Act.put_defers' a d v]; exact x, y⟩⟩

/-- Whatever order is drawn, from the k-th operation on; l0: what the loads among them read. -/
def JA (P : Program) (σ : Sig) (n : Nat) (ds : List Deferred) (ops : Array Oper) (Q : Exit → Act → World → Prop) (l0 : List HP) (k : Nat) (rest : List Oper) (env : Env) (l : List HP) : Prop :=
  (ops.toList.drop k = rest ∧ k + rest.length = ops.size) → ∀ a w, Kn n a env → a.defers = ds → Sat σ w l → wpAnyH P .any ops Q (fun w => Sat σ w l0) rest.length (lst ops.size k) a w

theorem JC.regionA {id : Nat} {r0 : List Oper} (l0 : List HP) (hm : P.follows .mixedOrders = true) (h : JA P σ n ds r0.toArray Q l0 0 r0 env l) : JC P σ n ds (.region id r0.toArray true) Q env l := by
  intro a w k d s
  refine wp_region_held (S := fun w => Sat σ w l0) hm ?_
  have := h ⟨by simp, by simp⟩ a _ k d (Sat.drew s)
  simp only [List.size_toArray] at this ⊢
  rw [← lst_zero]
  exact this

theorem JC.regionS {id : Nat} {r0 : List Oper} (hm : P.follows .mixedOrders = true) (h : JA P σ n ds r0.toArray Q l 0 r0 env l) : JC P σ n ds (.region id r0.toArray true) Q env l := JC.regionA l hm h

/-- Whether an operation is to be carried out, as far as is known. -/
def want (env : Env) (ops : Array Oper) (o : Oper) : Option Bool :=
  match o.guard with
  | none => some true
  | some (g, b) => match (ops[g]?).bind (·.dst) with
    | some d => match look env d with
      | some (.bool b') => some (b' == b)
      | _ => none
    | none => none
theorem want_spec {a : Act} {b : Bool} (k : Kn n a env) (h : want env ops o = some b) : Region.wanted o (yielded ops a.tmps) = b := by
  unfold want at h
  unfold Region.wanted
  split at h
  · rename_i hg; rw [hg]; simpa using h
  · rename_i g b' hg
    rw [hg]
    split at h
    · rename_i d hd
      split at h
      · rename_i b'' hl
        have := k.know _ _ hl
        simp only [yielded, hd, Option.bind_some, this]
        simp at h
        rw [← h]
        cases b'' <;> cases b' <;> rfl
      · cases h
    · cases h

theorem wpOp_do {i : Nat} {a : Act} {w : World} {K : Act → World → Prop} {post : Value → List HP → Prop} (hi : ops[i]? = some o) (hw : Region.wanted o (yielded ops a.tmps) = true) (k : Kn n a env) (s : Sat σ w l) (h : Do P σ n env l o post)
    (hK : ∀ v l' w', post v l' → Sat σ w' l' → K (a.put o.dst v) w') : wpOp P ops Q i K a w := by
  unfold wpOp
  simp only [hi, hw, if_true]
  exact .inl (h a w k s K Q hK)

theorem JA.head {k : Nat} (h : ops.toList.drop k = o :: rest) : ops[k]? = some o ∧ ops.toList.drop (k + 1) = rest ∧ k < ops.size := by
  have hk : k < ops.toList.length := by
    rcases Nat.lt_or_ge k ops.toList.length with q | q
    · exact q
    · rw [List.drop_eq_nil_of_le q] at h; cases h
  rw [List.drop_eq_getElem_cons hk] at h
  injection h with h1 h2
  refine ⟨?_, h2, by simpa using hk⟩
  rw [← Array.getElem?_toList, List.getElem?_eq_getElem hk, h1]

/-- An operation that only reads what nobody of the region writes may be taken first. -/
theorem JA.ru {l0 : List HP} {k d : Nat} {v : Value} [hq : PQ Q] (hd : o.dst = some d) (hlt : Nat.blt d n = true) (hwt : want env ops o = some true) (h : Ru P σ n env l0 o v)
    (hs : Region.noSelect ops = true) (hf : Region.free .any ops (lst ops.size k) k = true) (hr : (Region.ready .any ops (lst ops.size k)).contains k = true) (hL : ∀ w, Sat σ w l → Sat σ w l0)
    (hn : JA P σ n ds ops Q l0 (k + 1) rest ((d, v) :: env) l) : JA P σ n ds ops Q l0 k (o :: rest) env l := by
  rintro ⟨hdr, hsz⟩ a w ka kd s
  obtain ⟨hi, hdr', hk⟩ := JA.head hdr
  refine wpAnyH_take (v := v) hi hs hf hr (fun c a w x => hq.h c a _ v w x) (.inl ⟨want_spec ka hwt, fun w' s' => h a w' ka s'⟩) (hL w s) ?_
  rw [lst_succ hk, hd]
  exact hn ⟨hdr', by simp at hsz; omega⟩ _ w (ka.put d v hlt) (by rw [Act.put_defers']; exact kd) s
theorem JA.skip {l0 : List HP} {k d : Nat} [hq : PQ Q] (hd : o.dst = some d) (hlt : Nat.blt d n = true) (hwt : want env ops o = some false)
    (hs : Region.noSelect ops = true) (hf : Region.free .any ops (lst ops.size k) k = true) (hr : (Region.ready .any ops (lst ops.size k)).contains k = true) (hL : ∀ w, Sat σ w l → Sat σ w l0)
    (hn : JA P σ n ds ops Q l0 (k + 1) rest ((d, undef) :: env) l) : JA P σ n ds ops Q l0 k (o :: rest) env l := by
  rintro ⟨hdr, hsz⟩ a w ka kd s
  obtain ⟨hi, hdr', hk⟩ := JA.head hdr
  refine wpAnyH_take (v := undef) hi hs hf hr (fun c a w x => hq.h c a _ _ w x) (.inr ⟨want_spec ka hwt, rfl⟩) (hL w s) ?_
  rw [lst_succ hk, hd]
  exact hn ⟨hdr', by simp at hsz; omega⟩ _ w (ka.put d _ hlt) (by rw [Act.put_defers']; exact kd) s
/-- The one that may come up now. -/
theorem JA.do {l0 : List HP} {k d : Nat} {post : Value → List HP → Prop} (hd : o.dst = some d) (hlt : Nat.blt d n = true) (hwt : want env ops o = some true) (h : Do P σ n env l o post)
    (hr : Region.ready .any ops (lst ops.size k) = [k]) (hn : ∀ v l', post v l' → (∀ w, Sat σ w l' → Sat σ w l0) ∧ JA P σ n ds ops Q l0 (k + 1) rest ((d, v) :: env) l') : JA P σ n ds ops Q l0 k (o :: rest) env l := by
  rintro ⟨hdr, hsz⟩ a w ka kd s
  obtain ⟨hi, hdr', hk⟩ := JA.head hdr
  refine wpAnyH_all hr (by simp) fun i hi' => ?_
  obtain rfl := List.mem_singleton.1 hi'
  refine wpOp_do hi (want_spec ka hwt) ka s h fun v l' w' p s' => ?_
  have ⟨q1, q2⟩ := hn v l' p
  refine ⟨q1 w' s', ?_⟩
  rw [lst_succ hk, hd]
  exact q2 ⟨hdr', by simp at hsz; omega⟩ _ w' (ka.put d v hlt) (by rw [Act.put_defers']; exact kd) s'
theorem JA.do0 {l0 : List HP} {k : Nat} {post : Value → List HP → Prop} (hd : o.dst = none) (hwt : want env ops o = some true) (h : Do P σ n env l o post)
    (hr : Region.ready .any ops (lst ops.size k) = [k]) (hn : ∀ v l', post v l' → (∀ w, Sat σ w l' → Sat σ w l0) ∧ JA P σ n ds ops Q l0 (k + 1) rest env l') : JA P σ n ds ops Q l0 k (o :: rest) env l := by
  rintro ⟨hdr, hsz⟩ a w ka kd s
  obtain ⟨hi, hdr', hk⟩ := JA.head hdr
  refine wpAnyH_all hr (by simp) fun i hi' => ?_
  obtain rfl := List.mem_singleton.1 hi'
  refine wpOp_do hi (want_spec ka hwt) ka s h fun v l' w' p s' => ?_
  have ⟨q1, q2⟩ := hn v l' p
  refine ⟨q1 w' s', ?_⟩
  rw [lst_succ hk, hd]
  exact q2 ⟨hdr', by simp at hsz; omega⟩ _ w' ka kd s'
theorem JA.nil {l0 : List HP} {k : Nat} (hr : Region.ready .any ops (lst ops.size k) = []) (h : JE σ n ds Q .normal env l) : JA P σ n ds ops Q l0 k [] env l := by
  rintro ⟨_, hsz⟩ a w ka kd s
  exact wpAnyH_done hr (h a w ka kd s) 0
theorem JA.heap {l0 l' : List HP} {k : Nat} (hL : ∀ w, Sat σ w l → Sat σ w l') (h : JA P σ n ds ops Q l0 k rest env l') : JA P σ n ds ops Q l0 k rest env l :=
  fun hh a w k d s => h hh a w k d (hL w s)
/-! ### Drawn orders of what leaves the heap as it is -/
def JQ (P : Program) (σ : Sig) (n : Nat) (ds : List Deferred) (ops : Array Oper) (Q : Exit → Act → World → Prop) (rest : List Oper) (env : Env) (l : List HP) : Prop :=
  ∀ a, Kn n a env → a.defers = ds → wpQuiet P ops (fun w => Sat σ w l) (fun a' => ∀ w', Sat σ w' l → Q .normal a' w') rest a
theorem JC.regionQ {id : Nat} {r0 : List Oper} (hm : P.follows .mixedOrders = true) (hB : Region.lexB .any r0.toArray = true) (h : JQ P σ n ds r0.toArray Q r0 env l) : JC P σ n ds (.region id r0.toArray true) Q env l := by
  intro a w k d s
  refine wp_region_quiet (C := fun w => Sat σ w l) hm hB (Sat.drew s) ?_
  simpa using h a k d
theorem JQ.ru {d : Nat} {v : Value} (hd : o.dst = some d) (hlt : Nat.blt d n = true) (hwt : want env ops o = some true) (h : Ru P σ n env l o v) (hn : JQ P σ n ds ops Q rest ((d, v) :: env) l) : JQ P σ n ds ops Q (o :: rest) env l := by
  intro a k kd
  unfold wpQuiet
  rw [if_pos (want_spec k hwt)]
  refine ⟨v, fun w s => ?_, ?_⟩
  · unfold Oper.quietAt
    rw [h a w k s]
    exact ⟨rfl, rfl⟩
  · rw [hd]; exact hn _ (k.put d v hlt) kd
theorem JQ.skip {d : Nat} (hd : o.dst = some d) (hlt : Nat.blt d n = true) (hwt : want env ops o = some false) (hn : JQ P σ n ds ops Q rest ((d, undef) :: env) l) : JQ P σ n ds ops Q (o :: rest) env l := by
  intro a k kd
  unfold wpQuiet
  rw [if_neg (by simp [want_spec k hwt]), hd]
  exact hn _ (k.put d _ hlt) kd
theorem JQ.call {d : Nat} {v : Value} {f : FuncId} {xs : Array Operand} {ts : Array TypeId} {vs : List Value} {post : Value → List HP → Prop} [HasBody P f] (hlt : Nat.blt d n = true) (hwt : want env ops ⟨some d, .call ⟨.value (.func f), xs, ts⟩, ty, pos, af, gd⟩ = some true) (hx : xs.toList.mapM (ev env) = some vs) (h : Fn P σ f vs.toArray l post)
    (hp : ∀ v' l', post v' l' → v' = v ∧ l' = l) (hn : JQ P σ n ds ops Q rest ((d, v) :: env) l) : JQ P σ n ds ops Q (⟨some d, .call ⟨.value (.func f), xs, ts⟩, ty, pos, af, gd⟩ :: rest) env l := by
  intro a k kd
  unfold wpQuiet
  rw [if_pos (want_spec k hwt)]
  refine ⟨v, fun w s => ?_, hn _ (k.put d v hlt) kd⟩
  have e : xs.map a.eval = vs.toArray := by apply Array.ext'; rw [Array.toList_map]; exact mapM_ev k _ _ hx
  have he : (execOp a.eval ⟨some d, .call ⟨.value (.func f), xs, ts⟩, ty, pos, af, gd⟩).run P w = .ok (.enter f vs.toArray) w := by
    simp [execOp, resolve, invoke, Act.eval, Deferred.ofValue, e, HasBody.run (P := P) (f := f) vs.toArray w]
  unfold Oper.quietAt
  rw [he]
  refine ⟨rfl, (h w s).mono ?_⟩
  rintro e' w' ⟨v', l', rfl, p, s'⟩
  obtain ⟨rfl, rfl⟩ := hp _ _ p
  exact ⟨rfl, s'⟩
theorem JQ.nil (h : JE σ n ds Q .normal env l) : JQ P σ n ds ops Q [] env l := fun a k d => wpQuiet_nil fun w' s => h a w' k d s
theorem JQ.split {d : Nat} {p : Prop} {dp : Decidable p} (hd : o.dst = some d) (hlt : Nat.blt d n = true) (hwt : want env ops o = some true) (h : Ru P σ n env l o (.bool (decide p)))
    (ht : p → JQ P σ n ds ops Q rest ((d, .bool true) :: env) l) (hf : ¬ p → JQ P σ n ds ops Q rest ((d, .bool false) :: env) l) : JQ P σ n ds ops Q (o :: rest) env l := by
  refine JQ.ru hd hlt hwt h ?_
  by_cases hp : p
  · rw [decide_eq_true hp]; exact ht hp
  · rw [decide_eq_false hp]; exact hf hp
theorem JQ.splitN {d : Nat} {p : Prop} {dp : Decidable p} (hd : o.dst = some d) (hlt : Nat.blt d n = true) (hwt : want env ops o = some true) (h : Ru P σ n env l o (.bool (!decide p)))
    (ht : p → JQ P σ n ds ops Q rest ((d, .bool false) :: env) l) (hf : ¬ p → JQ P σ n ds ops Q rest ((d, .bool true) :: env) l) : JQ P σ n ds ops Q (o :: rest) env l := by
  refine JQ.ru hd hlt hwt h ?_
  by_cases hp : p
  · rw [decide_eq_true hp]; exact ht hp
  · rw [decide_eq_false hp]; exact hf hp

theorem JA.split {l0 : List HP} {k d : Nat} {p : Prop} {dp : Decidable p} [hq : PQ Q] (hd : o.dst = some d) (hlt : Nat.blt d n = true) (hwt : want env ops o = some true) (h : Ru P σ n env l0 o (.bool (decide p)))
    (hs : Region.noSelect ops = true) (hf : Region.free .any ops (lst ops.size k) k = true) (hr : (Region.ready .any ops (lst ops.size k)).contains k = true) (hL : ∀ w, Sat σ w l → Sat σ w l0)
    (ht : p → JA P σ n ds ops Q l0 (k + 1) rest ((d, .bool true) :: env) l) (hf' : ¬ p → JA P σ n ds ops Q l0 (k + 1) rest ((d, .bool false) :: env) l) : JA P σ n ds ops Q l0 k (o :: rest) env l := by
  refine JA.ru hd hlt hwt h hs hf hr hL ?_
  by_cases hp : p
  · rw [decide_eq_true hp]; exact ht hp
  · rw [decide_eq_false hp]; exact hf' hp
theorem JA.splitN {l0 : List HP} {k d : Nat} {p : Prop} {dp : Decidable p} [hq : PQ Q] (hd : o.dst = some d) (hlt : Nat.blt d n = true) (hwt : want env ops o = some true) (h : Ru P σ n env l0 o (.bool (!decide p)))
    (hs : Region.noSelect ops = true) (hf : Region.free .any ops (lst ops.size k) k = true) (hr : (Region.ready .any ops (lst ops.size k)).contains k = true) (hL : ∀ w, Sat σ w l → Sat σ w l0)
    (ht : p → JA P σ n ds ops Q l0 (k + 1) rest ((d, .bool false) :: env) l) (hf' : ¬ p → JA P σ n ds ops Q l0 (k + 1) rest ((d, .bool true) :: env) l) : JA P σ n ds ops Q l0 k (o :: rest) env l := by
  refine JA.ru hd hlt hwt h hs hf hr hL ?_
  by_cases hp : p
  · rw [decide_eq_true hp]; exact ht hp
  · rw [decide_eq_false hp]; exact hf' hp
end

/-! ### Reading a slice -/
/-- The slice v reads as cs, in each world with the heap l. -/
def RdS (σ : Sig) (l : List HP) (v : Value) (cs : List Value) : Prop :=
  ∃ p cap, v = .slice p cs.length cap ∧ cs.length ≤ cap ∧ (cs = [] ∨ ∃ b o, p = some ⟨b, o, none⟩ ∧ ∀ w, Sat σ w l → ∀ i u, cs[i]? = some u → w.cell? ⟨b, o + i, none⟩ = some u)
theorem RdS.heap {σ : Sig} {l l' : List HP} {v : Value} {cs : List Value} (h : RdS σ l v cs) (k : ∀ w, Sat σ w l' → Sat σ w l) : RdS σ l' v cs :=
  let ⟨p, cap, e, hc, r⟩ := h
  ⟨p, cap, e, hc, r.imp id fun ⟨b, o, e, r⟩ => ⟨b, o, e, fun w s => r w (k w s)⟩⟩
theorem RdS.cons {σ : Sig} {l : List HP} {p : HP} {v : Value} {cs : List Value} (h : RdS σ l v cs) : RdS σ (p :: l) v cs := h.heap fun _ s => Sat.drop s
/-- A part of a block. -/
theorem RdS.arr {σ : Sig} {l r : List HP} {b E : Nat} {vs : List Value} (hp : Pick (arr b E vs) l r) (o m cap : Nat) (hm : o + m ≤ vs.length) (hc : m ≤ cap) : RdS σ l (.slice (some ⟨b, o, none⟩) m cap) ((vs.drop o).take m) := by
  have hl : ((vs.drop o).take m).length = m := by simp; omega
  refine ⟨some ⟨b, o, none⟩, cap, by rw [hl], by omega, .inr ⟨b, o, rfl, fun w s i u hu => ?_⟩⟩
  rw [(s.perm hp).cell]
  have hi : i < m := by
    rcases Nat.lt_or_ge i m with q | q
    · exact q
    · rw [List.getElem?_eq_none (by omega)] at hu; cases hu
  rw [List.getElem?_take_of_lt hi, List.getElem?_drop] at hu
  exact hu
end Go.Sep
/- Slices of one's own; append, copy, make. -/
namespace Go.Sep
open Go

/-- v is a slice of n elements (z cells each) whose block is its own; its cells are xs, what lies behind them is spare. -/
def ownS (v : Value) (E : TypeId) (z n : Nat) (xs : List Value) : HP := fun h =>
  (v = .slice none 0 0 ∧ n = 0 ∧ xs = []) ∨
  ∃ b cap spare, v = .slice (some ⟨b, 0, none⟩) n cap ∧ n ≤ cap ∧ xs.length = n * z ∧ cap * z ≤ (xs ++ spare).length ∧ arr b E (xs ++ spare) h

section
variable {P : Program} {σ : Sig} {n : Nat} {env : Env} {l r : List HP} {dst : Option Tmp} {ty : TypeId} {pos : String} {af : Array Edge} {gd : Option (Nat × Bool)}

theorem Sat.ownS {w : World} {v : Value} {E : TypeId} {z k : Nat} {xs : List Value} (h : Sat σ w (Sep.ownS v E z k xs :: l)) :
    (v = .slice none 0 0 ∧ k = 0 ∧ xs = [] ∧ Sat σ w l) ∨ ∃ b cap spare, v = .slice (some ⟨b, 0, none⟩) k cap ∧ k ≤ cap ∧ xs.length = k * z ∧ cap * z ≤ (xs ++ spare).length ∧ Sat σ w (Sep.arr b E (xs ++ spare) :: l) := by
  obtain ⟨hs, h1, h2, a, b, c, d, e⟩ := h
  rcases d with ⟨e1, e2, e3⟩ | ⟨bb, cap, spare, e1, e2, e3, e4, e5⟩
  · exact .inl ⟨e1, e2, e3, hs, Holds.mono b e⟩
  · exact .inr ⟨bb, cap, spare, e1, e2, e3, e4, hs, h1, h2, a, b, c, e5, e⟩
theorem Sat.ownS_nil {w : World} {E : TypeId} {z : Nat} (h : Sat σ w l) : Sat σ w (Sep.ownS (.slice none 0 0) E z 0 [] :: l) :=
  ⟨h.1, fun _ => none, heapOf w, fun _ _ e => (by cases e), sub_refl _, fun _ => .inl rfl, .inl ⟨rfl, rfl, rfl⟩, h.2⟩
theorem Sat.ownS_arr {w : World} {E b : TypeId} {z k cap : Nat} {xs spare : List Value} (h1 : k ≤ cap) (h2 : xs.length = k * z) (h3 : cap * z ≤ (xs ++ spare).length) (h : Sat σ w (Sep.arr b E (xs ++ spare) :: l)) : Sat σ w (Sep.ownS (.slice (some ⟨b, 0, none⟩) k cap) E z k xs :: l) :=
  Sat.imp (fun _ x => .inr ⟨b, cap, spare, rfl, h1, h2, h3, x⟩) h

theorem run_firstCells {w : World} {v : Value} {cs : List Value} {m z : Nat} (h : RdS σ l v cs) (s : Sat σ w l) (hm : m * z ≤ cs.length) : (Builtin.firstCells z m v).run P w = .ok (cs.take (m * z)).toArray w := by
  obtain ⟨p, cap, rfl, _, hr⟩ := h
  rcases hr with rfl | ⟨b, o, rfl, hc⟩
  · have h0 : m * z = 0 := by simpa using hm
    cases p with
    | none => simp [Builtin.firstCells]
    | some a => simp [Builtin.firstCells, h0, loadCells, loadCellsFrom]
  · have hlen : (cs.take (m * z)).length = m * z := by rw [List.length_take]; omega
    have := run_loadCells_list (P := P) (w := w) ⟨b, o, none⟩ (cs.take (m * z)) (fun j v hv => by
      have hj : j < m * z := by
        rcases Nat.lt_or_ge j (m * z) with q | q
        · exact q
        · rw [List.getElem?_eq_none (by omega)] at hv; cases hv
      have e : Addr.add ⟨b, o, none⟩ j = ⟨b, o + j, none⟩ := by simp [Addr.add]
      rw [e]
      rw [List.getElem?_take_of_lt hj] at hv
      exact hc w s j v hv)
    rw [hlen] at this
    exact this

theorem splice_append : ∀ (cs xs spare : List Value), cs.length ≤ spare.length → splice (xs ++ spare) xs.length cs = xs ++ cs ++ spare.drop cs.length
  | [], xs, spare, _ => by simp [splice]
  | c :: cs, xs, [], h => by simp at h
  | c :: cs, xs, s0 :: spare, h => by
    have ih := splice_append cs (xs ++ [c]) spare (by simpa using h)
    simp only [splice]
    rw [show (xs ++ s0 :: spare).set xs.length c = (xs ++ [c]) ++ spare by rw [List.set_append_right _ _ (Nat.le_refl _)]; simp]
    rw [show xs.length + 1 = (xs ++ [c]).length by simp, ih]
    simp

/-- A slice's elements, m of them with z cells each. -/
theorem Do.append {x y : Operand} {t e t' e' : TypeId} {z k m : Nat} {zv : Value} {i : TypeInfo} {v u : Value} {xs ys : List Value} {p : Option Addr} {c : Nat} [UT P t (.slice e)] [UT P t' (.slice e')] [SZ P e z] [TI P e i] [ZV P e zv]
    (hx : ev env x = some v) (hy : ev env y = some u) (hp : Pick (ownS v e z k xs) l r) (hu : u = .slice p m c) (hrd : RdS σ l (.slice p ys.length (c * z)) ys) (hys : ys.length = m * z) (h1 : ∀ q ∈ ys, q.oneCell' = true)
    (hsz : (k + m) * i.bytes ≤ 140737488355328) (hb : Nat.beq i.bytes 0 = false := by rfl) (hz : Nat.beq zv.cells.size z = true := by rfl) :
    Do P σ n env l ⟨dst, .call ⟨.builtin .append, #[x, y], #[t, t']⟩, ty, pos, af, gd⟩ (fun v' l' => l' = ownS v' e z (k + m) (xs ++ ys) :: r ∧ (v' = .slice none 0 0 → v = .slice none 0 0 ∧ m = 0)) := by
  refine Do.value fun a w kn s => ?_
  subst hu
  have e1 := UT.run (P := P) (t := t) w
  have e2 := UT.run (P := P) (t := t') w
  have e3 := SZ.eq (P := P) (t := e) w
  have e4 := TI.eq (P := P) (t := e) w
  have e5 := ZV.eq (P := P) (t := e) w
  have hb' : i.bytes ≠ 0 := Nat.ne_of_beq_eq_false hb
  have hz' : zv.cells.size = z := Nat.eq_of_beq_eq_true hz
  have hfirst : (Builtin.firstCells z m (.slice p m c)).run P w = .ok ys.toArray w := by
    have := run_firstCells (P := P) (m := m) (z := z) hrd s (by omega)
    rw [← hys, List.take_length] at this
    cases p <;> simpa [Builtin.firstCells] using this
  have hopen := (s.perm hp).ownS
  have hrun : ∀ res w', (Builtin.append_ #[t, t'] ty #[v, .slice p m c]).run P w = .ok res w' → (execOp a.eval ⟨dst, .call ⟨.builtin .append, #[x, y], #[t, t']⟩, ty, pos, af, gd⟩).run P w = .ok (.value res) w' := by
    intro res w' h
    simp [execOp, resolve, invoke, builtin, kn.ev hx, kn.ev hy, h]
  have grow : ∀ (base : Option Addr) (cap : Nat), v = .slice base k cap → cap < k + m → (Builtin.firstCells z k v).run P w = .ok xs.toArray w → ∃ res w' l', (Builtin.append_ #[t, t'] ty #[v, .slice p m c]).run P w = .ok res w' ∧ Sat σ w' l' ∧ l' = ownS res e z (k + m) (xs ++ ys) :: r ∧ (res = .slice none 0 0 → v = .slice none 0 0 ∧ m = 0) := by
    intro base cap hv hcap hold
    subst hv
    have hfit := growslice_fits (need := k + m) (old := cap) hcap hsz
    have hx' : xs.length = k * z := by
      rcases hopen with ⟨q1, q2, q3, _⟩ | ⟨_, _, _, _, _, q, _⟩
      · subst q2; subst q3; simp
      · exact q
    have hd := (s.perm hp).drop.drew
    have hd2 : Sat σ ({ w with drawn := w.drawn + 1 } : World) r := hd
    obtain ⟨cp, hcp⟩ : ∃ cp, (Question.appendCap (k + m) cap e).cut (w.tape w.drawn (.appendCap (k + m) cap e)) = cp := ⟨_, rfl⟩
    have hcut : k + m ≤ cp := by rw [← hcp]; simp [Question.cut]
    obtain ⟨spare, hsp⟩ : ∃ spare : List Value, (xs.toArray ++ ys.toArray ++ Builtin.zeroCells zv.cells (cp - (k + m))).toList = (xs ++ ys) ++ spare ∧ spare.length = (cp - (k + m)) * z :=
      ⟨(Builtin.zeroCells zv.cells (cp - (k + m))).toList, by simp, by simp [Builtin.zeroCells, hz']⟩
    have hnew := hd2.newRow e (xs.toArray ++ ys.toArray ++ Builtin.zeroCells zv.cells (cp - (k + m)))
    rw [hsp.1] at hnew
    refine ⟨.slice (some ⟨w.heap.size, 0, none⟩) (k + m) cp, _, _, ?_, Sat.ownS_arr hcut (by rw [List.length_append, hx', hys, Nat.add_mul]) ?_ hnew, rfl, fun h => by cases h⟩
    · have hold' : ∀ w2 : World, w2.heap = w.heap → (Builtin.firstCells z k (.slice base k cap)).run P w2 = .ok xs.toArray w2 := by
        intro w2 hw2
        have hs2 : Sat σ { w with drawn := w2.drawn } l := s
        rcases hopen with ⟨q1, q2, q3, _⟩ | ⟨b, cap', spare', q1, q2, q3, q4, q5⟩
        · cases q1; subst q3; simp [Builtin.firstCells]
        · cases q1
          have hl2 := run_loadPart (P := P) (w := w2) (b := b) (o := 0) (vs := xs ++ spare') (m := k * z) (fun i => by
            have := q5.cell i
            simp only [World.cell?, hw2] at this ⊢
            exact this) (by rw [List.length_append]; omega)
          simp only [Builtin.firstCells]
          rw [hl2, List.drop_zero, ← q3, List.take_left]
      have hfirst' : ∀ w2 : World, w2.heap = w.heap → (Builtin.firstCells z m (.slice p m c)).run P w2 = .ok ys.toArray w2 := by
        intro w2 hw2
        obtain ⟨p', cap', q1, _, hr⟩ := hrd
        cases q1
        rcases hr with h0 | ⟨b, o, rfl, hc⟩
        · subst h0
          have h0 : m * z = 0 := by simpa using hys.symm
          cases p with
          | none => simp [Builtin.firstCells]
          | some a => simp [Builtin.firstCells, h0, loadCells, loadCellsFrom]
        · have := run_loadCells_list (P := P) (w := w2) ⟨b, o, none⟩ ys (fun j u hu => by
            have e : Addr.add ⟨b, o, none⟩ j = ⟨b, o + j, none⟩ := by simp [Addr.add]
            rw [e]
            have := hc w s j u hu
            simp only [World.cell?, hw2] at this ⊢
            exact this)
          simp only [Builtin.firstCells]
          rw [← hys]; exact this
      have n1 : ¬ (k + m ≤ cap) := by omega
      have n2 : ¬ (((k + m : Nat) : Int) > IntKind.i64.max ∧ (false = true ∨ i.bytes = 0)) := by simp [hb']
      have n3 : ¬ (Builtin.nextslicecap (k + m) cap * i.bytes > 2 ^ 48) := by omega
      simp [Builtin.append_, e1, e2, e3, e4, e5, Builtin.lenOf, n1, n3, hb', hcp, TI.eq (P := P) (t := e) w.drew, ZV.eq (P := P) (t := e) w.drew, hold' w.drew rfl, hfirst' w.drew rfl, Question.forced, hold' { w with drawn := w.drawn + 1 } rfl, hfirst' { w with drawn := w.drawn + 1 } rfl, newRow]
      rw [← List.append_toArray, Array.append_assoc]
      rfl
    · refine Nat.le_of_eq (Eq.symm ?_)
      rw [List.length_append, List.length_append, hx', hys, hsp.2, ← Nat.add_mul, ← Nat.add_mul]
      congr 1
      omega
  rcases hopen with ⟨q1, q2, q3, _⟩ | ⟨b, cap, spare, q1, q2, q3, q4, q5⟩
  · subst q2; subst q3
    by_cases h0 : m = 0
    · subst h0
      have hy0 : ys = [] := List.eq_nil_of_length_eq_zero (by simpa using hys)
      subst hy0
      refine ⟨.slice none 0 0, w, _, hrun _ _ ?_, Sat.ownS_nil (E := e) (z := z) (s.perm hp).drop, by simp, fun _ => ⟨q1, rfl⟩⟩
      subst q1
      simp [Builtin.append_, e1, e2, e3, Builtin.lenOf, hfirst]
    · obtain ⟨res, w', l', g1, g2, g3⟩ := grow none 0 q1 (by omega) (by subst q1; simp [Builtin.firstCells])
      exact ⟨res, w', l', hrun _ _ g1, g2, g3⟩
  · by_cases hroom : k + m ≤ cap
    · have hle : ys.length ≤ spare.length := by
        have h3 : cap * z ≤ xs.length + spare.length := by rw [← List.length_append]; exact q4
        have h4 : (k + m) * z ≤ cap * z := Nat.mul_le_mul_right _ hroom
        rw [Nat.add_mul] at h4
        omega
      obtain ⟨w', hr, s'⟩ := Sat.storeCells (P := P) (σ := σ) ys (xs ++ spare) xs.length 0 w h1 (by rw [List.length_append]; omega) q5
      rw [Nat.add_zero, splice_append _ _ _ hle] at s'
      have hal : Addr.add ⟨b, 0, none⟩ (k * z) = ⟨b, xs.length, none⟩ := by simp [Addr.add, q3]; intro h; exact h.symm
      refine ⟨.slice (some ⟨b, 0, none⟩) (k + m) cap, w', _, hrun _ _ ?_, Sat.ownS_arr hroom (by rw [List.length_append, q3, hys, Nat.add_mul]) (by
        have h3 : cap * z ≤ xs.length + spare.length := by rw [← List.length_append]; exact q4
        rw [List.length_append, List.length_append, List.length_drop]; omega) s', rfl, fun h => by cases h⟩
      subst q1
      simp [Builtin.append_, e1, e2, e3, Builtin.lenOf, hroom, hfirst, hal, hr]
    · obtain ⟨res, w', l', g1, g2, g3⟩ := grow (some ⟨b, 0, none⟩) cap q1 (by omega) (by
        subst q1
        have hl2 := run_loadPart (P := P) (w := w) (b := b) (o := 0) (vs := xs ++ spare) (m := k * z) (fun i => q5.cell i) (by rw [List.length_append]; omega)
        simp only [Builtin.firstCells]
        rw [hl2, List.drop_zero, ← q3, List.take_left])
      exact ⟨res, w', l', hrun _ _ g1, g2, g3⟩
end
end Go.Sep
/- make, copy; what is one's own is read. -/
namespace Go.Sep
open Go

section
variable {P : Program} {σ : Sig} {n : Nat} {env : Env} {l r : List HP} {dst : Option Tmp} {ty : TypeId} {pos : String} {af : Array Edge} {gd : Option (Nat × Bool)}

theorem Do.makeSlice {x y : Operand} {t e : TypeId} {i : TypeInfo} {zv : Value} {k c : Nat} [UT P t (.slice e)] [SZ P e 1] [TI P e i] [ZV P e zv] (hx : ev env x = some (.int .i64 k)) (hy : ev env y = some (.int .i64 c))
    (hkc : k ≤ c) (hc : c * i.bytes ≤ 281474976710656) (hc2 : c ≤ 9223372036854775807) (hz : zv.oneCell' = true := by rfl) :
    Do P σ n env l ⟨dst, .makeSlice t x y, ty, pos, af, gd⟩ (fun u l' => ∃ b, u = .slice (some ⟨b, 0, none⟩) k c ∧ l' = arr b e (List.replicate c zv) :: l) := by
  refine Do.value fun a w kn s => ?_
  have e1 := UT.run (P := P) (t := t) w
  have e2 := TI.eq (P := P) (t := e) w
  have e3 := SZ.eq (P := P) (t := e) w
  have e4 := ZV.eq (P := P) (t := e) w
  have hcs : zv.cells = #[zv] := by cases zv <;> first | rfl | cases hz
  have w1 : IntKind.i64.wrap (k : Int) = k := wrapI (by omega) (by omega)
  have w2 : IntKind.i64.wrap (c : Int) = c := wrapI (by omega) (by omega)
  have h48 : (2 : Int) ^ 48 = 281474976710656 := by rfl
  have t1 : ¬ ((i.bytes : Int) * (c : Int) > 2 ^ 48) := by
    have h : ((i.bytes * c : Nat) : Int) ≤ ((281474976710656 : Nat) : Int) := Int.ofNat_le.2 (by rw [Nat.mul_comm]; exact hc)
    rw [Int.natCast_mul] at h
    rw [h48]
    omega
  have hnew := s.newRow e (Array.replicate c zv)
  simp only [Array.toList_replicate] at hnew
  refine ⟨.slice (some ⟨w.heap.size, 0, none⟩) k c, _, _, ?_, hnew, _, rfl, rfl⟩
  have hm : ∀ zs : Array Value, (zs = if c = 0 then #[] else #[zv]) → (Array.range c).map (zs[· % zs.size]!) = Array.replicate c zv := by
    intro zs hzs
    apply Array.ext'
    simp only [Array.toList_map, Array.toList_range, Array.toList_replicate]
    by_cases h0 : c = 0
    · subst h0; rfl
    · rw [if_neg h0] at hzs
      subst hzs
      apply List.ext_getElem
      · simp
      · intro j h1 h2; simp [Nat.mod_one]
  have q1 : ¬ ((c : Int) < 0) := by omega
  have q2 : ¬ ((k : Int) < 0) := by omega
  have q3 : ¬ ((k : Int) > (c : Int)) := by omega
  have hcond : (((decide ((c : Int) < 0) || decide ((i.bytes : Int) * (c : Int) > 2 ^ 48)) || decide ((k : Int) < 0)) || decide ((k : Int) > (c : Int))) = true ↔ False := by
    rw [decide_eq_false q1, decide_eq_false t1, decide_eq_false q2, decide_eq_false q3]; decide
  simp only [execOp, Instr.makeSlice, kn.ev hx, kn.ev hy, asInt, asIntOf, Sem.run_bind, e1, e2, Sem.run_pure, Result.andThen_ok, w1, w2]
  rw [if_neg (by simpa using hcond.1)]
  by_cases h0 : c = 0
  · subst h0
    obtain rfl : k = 0 := by omega
    have hr : ∀ zs : Array Value, (Array.range 0).map (zs[· % zs.size]!) = (#[] : Array Value) := fun zs => by apply Array.ext'; simp
    simp only [Int.toNat_natCast, Nat.zero_mul, Sem.run_bind, run_askRoom, Result.andThen_ok, e3, if_true, Sem.run_pure, hr, newRow, run_newObj]
    rfl
  · have h1 : ¬ c * 1 = 0 := by omega
    have hm' := hm #[zv] (by rw [if_neg h0])
    simp only [Int.toNat_natCast, Sem.run_bind, run_askRoom, Result.andThen_ok, e3, if_neg h0, if_neg h1, e4, hcs, Sem.run_pure, newRow, run_newObj, Nat.mul_one, hm']

/-- x[i:j], x[i:j:m] of a slice. -/
def loOf (env : Env) (m : Nat) : Option Operand → Option Int
  | none => some m
  | some x => match ev env x with
    | some (.int _ i) => some i
    | _ => none
theorem run_bound {w : World} {k : IntKind} {i : Int} {y : Nat} {c : BoundsCode} (h : 0 ≤ i ∧ i ≤ y) : (Instr.sliceBound (.int k i) y c).run P w = .ok i.toNat w := by
  simp [Instr.sliceBound, asIntOf, h]
theorem Ru.sliceS {x : Operand} {t e : TypeId} {z b o len cap : Nat} {lo hi mx : Option Operand} {i j m : Int} [UT P t (.slice e)] [SZ P e z] (hx : ev env x = some (.slice (some ⟨b, o, none⟩) len cap))
    (h1 : loOf env 0 lo = some i) (h2 : loOf env len hi = some j) (h3 : loOf env cap mx = some m) (hmh : mx.isSome = true → hi.isSome = true) (hij : 0 ≤ i ∧ i ≤ j ∧ j ≤ m ∧ m ≤ cap) (hlm : i < m ∨ i = 0) (hlen : len ≤ cap) :
    Ru P σ n env l ⟨dst, .slice t x lo hi mx, ty, pos, af, gd⟩ (.slice (some ⟨b, o + i.toNat * z, none⟩) (j - i).toNat (m - i).toNat) := by
  intro a w kn s
  have e1 := UT.run (P := P) (t := t) w
  have e2 := SZ.eq (P := P) (t := e) w
  have hm : ∀ (q : Option Operand) (d : Nat) (v : Int), loOf env d q = some v → (q = none ∧ v = d) ∨ ∃ u k, q = some u ∧ a.eval u = .int k v := by
    intro q d v h
    cases q with
    | none => simp [loOf] at h; exact .inl ⟨rfl, h.symm⟩
    | some u =>
      simp only [loOf] at h
      split at h
      · rename_i k i he
        simp at h; subst h
        exact .inr ⟨u, k, rfl, kn.ev he⟩
      · cases h
  have hadd : (if m.toNat = i.toNat then some (⟨b, o, none⟩ : Addr) else some (Addr.add ⟨b, o, none⟩ (i.toNat * z))) = some ⟨b, o + i.toNat * z, none⟩ := by
    split
    · have : i.toNat = 0 := by omega
      simp [this]
    · simp [Addr.add]
  have hb1 := fun k c => run_bound (P := P) (w := w) (k := k) (i := i) (y := j.toNat) (c := c) (by omega)
  have hb2 := fun k c => run_bound (P := P) (w := w) (k := k) (i := j) (y := m.toNat) (c := c) (by omega)
  have hb3 := fun k c => run_bound (P := P) (w := w) (k := k) (i := m) (y := cap) (c := c) (by omega)
  have hb2' := fun k c => run_bound (P := P) (w := w) (k := k) (i := j) (y := cap) (c := c) (by omega)
  have hb1' := fun k c => run_bound (P := P) (w := w) (k := k) (i := i) (y := len) (c := c)
  have key : ∀ (L H M : Option Value), L = lo.map a.eval → H = hi.map a.eval → M = mx.map a.eval → (Instr.sliceBounds true len cap L H M).run P w = .ok (i.toNat, j.toNat, m.toNat) w := by
    intro L H M hL hH hM
    rcases hm _ _ _ h3 with ⟨rfl, rfl⟩ | ⟨u3, k3, rfl, g3⟩ <;> rcases hm _ _ _ h2 with ⟨rfl, rfl⟩ | ⟨u2, k2, rfl, g2⟩ <;> rcases hm _ _ _ h1 with ⟨rfl, rfl⟩ | ⟨u1, k1, rfl, g1⟩
    all_goals try (exfalso; have := hmh rfl; exact absurd this Bool.false_ne_true)
    all_goals subst hL; subst hH; subst hM
    all_goals simp [Instr.sliceBounds, *]
    all_goals first | omega | skip
  have hk := key _ _ _ rfl rfl rfl
  have hj : j.toNat - i.toNat = (j - i).toNat := by omega
  have hmm : m.toNat - i.toNat = (m - i).toNat := by omega
  have hadd' : (if m.toNat = i.toNat then some (⟨b, o, none⟩ : Addr) else (some (⟨b, o, none⟩ : Addr)).map (·.add (i.toNat * z))) = some ⟨b, o + i.toNat * z, none⟩ := hadd
  simp only [execOp, Instr.sliceAt, kn.ev hx, Sem.run_bind, e1, Result.andThen_ok, Instr.slice, hk, e2, Sem.run_pure, hadd', hj, hmm]

/-- copy of one slice's cells into another's. -/
theorem Do.copy {x y : Operand} {t t' e : TypeId} {b o len cap m c E : Nat} {p : Option Addr} {vs ys : List Value} [UT P t (.slice e)] [SZ P e 1] (hx : ev env x = some (.slice (some ⟨b, o, none⟩) len cap)) (hy : ev env y = some (.slice p m c))
    (hp : Pick (arr b E vs) l r) (hrd : RdS σ l (.slice p m c) ys) (hl : o + len ≤ vs.length) (h1 : ∀ q ∈ ys, q.oneCell' = true) :
    Do P σ n env l ⟨dst, .call ⟨.builtin .copy, #[x, y], #[t, t']⟩, ty, pos, af, gd⟩ (fun u l' => u = .int .i64 (min m len : Nat) ∧ l' = arr b E (splice vs o (ys.take (min m len))) :: r) := by
  refine Do.value fun a w kn s => ?_
  have e1 := UT.run (P := P) (t := t) w
  have e2 := SZ.eq (P := P) (t := e) w
  obtain ⟨p', cap', q1, q2, q3⟩ := hrd
  cases q1
  have hf := run_firstCells (P := P) (m := min ys.length len) (z := 1) (v := .slice p ys.length c) (cs := ys) (l := l) (w := w) ⟨p, c, rfl, q2, q3⟩ s (by omega)
  rw [Nat.mul_one] at hf
  obtain ⟨w', hr, s'⟩ := Sat.storeCells (P := P) (σ := σ) (ys.take (min ys.length len)) vs o 0 w (fun q hq => h1 q (List.mem_of_mem_take hq)) (by rw [List.length_take]; omega) (s.perm hp)
  refine ⟨_, w', _, ?_, s', rfl, rfl⟩
  have hnm : Nat.min ys.length len = min ys.length len := rfl
  simp [execOp, resolve, invoke, builtin, kn.ev hx, kn.ev hy, Builtin.copy_, e1, e2, Builtin.lenOf, hnm, hf, hr, goInt]

/-- A slice of bytes converted to its own type: marked, no cell of it. -/
theorem Do.convSS {x : Operand} {t e : TypeId} {b o len cap E : Nat} {vs : List Value} [UT P t (.slice e)] [UT P e (.int .u8)] (hx : ev env x = some (.slice (some ⟨b, o, none⟩) len cap)) (hp : Pick (arr b E vs) l r) :
    Do P σ n env l ⟨dst, .convert t t x, ty, pos, af, gd⟩ (fun u l' => u = .slice (some ⟨b, o, none⟩) len cap ∧ l' = arr b E vs :: r) := by
  refine Do.value fun a w kn s => ?_
  have e1 := UT.run (P := P) (t := t) w
  have e2 := UT.run (P := P) (t := e) w
  have hs := (s.perm hp).shape
  obtain ⟨lo, hi, hf, s1⟩ := Sat.arr.1 (s.perm hp)
  have hb := Sat.get s1
  obtain ⟨lo', hi', hw, hcond⟩ : ∃ lo' hi', w.freeze { block := b, off := vs.length } 1 = { w with heap := w.heap.setIfInBounds b (.cells vs.toArray E (lo', hi')) } ∧ (lo' = hi' ∨ vs.length ≤ lo') := by
    by_cases h : lo = hi
    · refine ⟨vs.length, vs.length + 1, ?_, .inr (Nat.le_refl _)⟩
      subst h
      simp only [World.freeze, if_neg (Nat.one_ne_zero)]
      rw [modify_eq_set _ _ _ _ hb]
      simp
    · have hlo : vs.length ≤ lo := hf.resolve_left h
      refine ⟨min lo vs.length, max hi (vs.length + 1), ?_, .inr (by omega)⟩
      simp only [World.freeze, if_neg (Nat.one_ne_zero)]
      rw [modify_eq_set _ _ _ _ hb]
      simp [h]
  refine ⟨_, w.freeze { block := b, off := vs.length } 1, arr b E vs :: r, ?_, ?_, rfl, rfl⟩
  · simp [execOp, kn.ev hx, convert, e1, e2, markStringish, hs]
  · rw [hw]
    exact Sat.arr.2 ⟨_, _, hcond, Sat.set s1⟩

theorem Do.append1 {x y : Operand} {t e t' e' : TypeId} {k : Nat} {zv : Value} {i : TypeInfo} {v u : Value} {xs ys : List Value} [UT P t (.slice e)] [UT P t' (.slice e')] [SZ P e 1] [TI P e i] [ZV P e zv]
    (hx : ev env x = some v) (hy : ev env y = some u) (hp : Pick (ownS v e 1 k xs) l r) (hrd : RdS σ l u ys) (h1 : ∀ q ∈ ys, q.oneCell' = true)
    (hsz : (k + ys.length) * i.bytes ≤ 140737488355328) (hb : Nat.beq i.bytes 0 = false := by rfl) (hz : Nat.beq zv.cells.size 1 = true := by rfl) :
    Do P σ n env l ⟨dst, .call ⟨.builtin .append, #[x, y], #[t, t']⟩, ty, pos, af, gd⟩ (fun v' l' => l' = ownS v' e 1 (k + ys.length) (xs ++ ys) :: r ∧ (v' = .slice none 0 0 → v = .slice none 0 0 ∧ ys.length = 0)) := by
  obtain ⟨p, cap, rfl, hc, hr⟩ := hrd
  exact Do.append hx hy hp rfl ⟨p, cap * 1, rfl, by omega, hr⟩ (Nat.mul_one _).symm h1 hsz hb hz

theorem RdS.nil {c : Nat} {p : Option Addr} : RdS σ l (.slice p 0 c) [] := ⟨p, c, rfl, Nat.zero_le _, .inl rfl⟩
/-- The first k cells of a block. -/
theorem RdS.arr0 {b E k cap : Nat} {xs spare : List Value} (hp : Pick (Sep.arr b E (xs ++ spare)) l r) (hk : xs.length = k) (hc : k ≤ cap) : RdS σ l (.slice (some ⟨b, 0, none⟩) k cap) xs := by
  have := RdS.arr (σ := σ) hp 0 k cap (by rw [List.length_append]; omega) hc
  rw [List.drop_zero, ← hk, List.take_left] at this
  rw [← hk]; exact this

/-- l' is a part of l. -/
def Weak (l l' : List HP) : Prop := ∀ h : PH, Holds l h → Holds l' h
theorem Weak.refl {l : List HP} : Weak l l := fun _ s => s
theorem Weak.cons {p : HP} {l r l' : List HP} (h : Pick p l r) (k : Weak r l') : Weak l (p :: l') := fun _ s => Holds.tail k (Holds.perm h s)
theorem Weak.drop {p : HP} {l l' : List HP} (k : Weak l l') : Weak (p :: l) l' := fun h s => k h (Holds.drop s)
theorem Sat.weak {l l' : List HP} (k : Weak l l') : ∀ w, Sat σ w l → Sat σ w l' := fun _ s => ⟨s.1, k _ s.2⟩
theorem finW {post : Value → List HP → Prop} {v : Value} {l l' : List HP} (h : post v l') (k : Weak l l') : fin post v l σ := ⟨l', Sat.weak k, h⟩

/-- A heap with a slice of one's own, opened. -/
theorem JO.own {ds : List Deferred} {ops : Array Oper} {Q : Exit → Act → World → Prop} {rest : List Oper} {v : Value} {E : TypeId} {z k : Nat} {xs : List Value}
    (h1 : v = .slice none 0 0 → k = 0 → xs = [] → JO P σ n ds ops Q rest env l)
    (h2 : ∀ b cap spare, v = .slice (some ⟨b, 0, none⟩) k cap → k ≤ cap → xs.length = k * z → cap * z ≤ (xs ++ spare).length → JO P σ n ds ops Q rest env (arr b E (xs ++ spare) :: l)) :
    JO P σ n ds ops Q rest env (ownS v E z k xs :: l) := by
  intro a w ka kd s
  rcases s.ownS with ⟨q1, q2, q3, s'⟩ | ⟨b, cap, spare, q1, q2, q3, q4, s'⟩
  · exact h1 q1 q2 q3 a w ka kd s'
  · exact h2 b cap spare q1 q2 q3 q4 a w ka kd s'
theorem JC.own {ds : List Deferred} {c : Code} {Q : Exit → Act → World → Prop} {v : Value} {E : TypeId} {z k : Nat} {xs : List Value}
    (h1 : v = .slice none 0 0 → k = 0 → xs = [] → JC P σ n ds c Q env l)
    (h2 : ∀ b cap spare, v = .slice (some ⟨b, 0, none⟩) k cap → k ≤ cap → xs.length = k * z → cap * z ≤ (xs ++ spare).length → JC P σ n ds c Q env (arr b E (xs ++ spare) :: l)) :
    JC P σ n ds c Q env (ownS v E z k xs :: l) := by
  intro a w ka kd s
  rcases s.ownS with ⟨q1, q2, q3, s'⟩ | ⟨b, cap, spare, q1, q2, q3, q4, s'⟩
  · exact h1 q1 q2 q3 a w ka kd s'
  · exact h2 b cap spare q1 q2 q3 q4 a w ka kd s'
theorem Fn.own {f : FuncId} {args : Array Value} {post : Value → List HP → Prop} {v : Value} {E : TypeId} {z k : Nat} {xs : List Value}
    (h1 : v = .slice none 0 0 → k = 0 → xs = [] → Fn P σ f args l post)
    (h2 : ∀ b cap spare, v = .slice (some ⟨b, 0, none⟩) k cap → k ≤ cap → xs.length = k * z → cap * z ≤ (xs ++ spare).length → Fn P σ f args (arr b E (xs ++ spare) :: l) post) :
    Fn P σ f args (ownS v E z k xs :: l) post := by
  intro w s
  rcases s.ownS with ⟨q1, q2, q3, s'⟩ | ⟨b, cap, spare, q1, q2, q3, q4, s'⟩
  · exact h1 q1 q2 q3 w s'
  · exact h2 b cap spare q1 q2 q3 q4 w s'
end
end Go.Sep
/- Drawn orders, all of them; branches that meet; bytes as strings; parts of slices. -/
namespace Go.Sep
open Go

section
variable {P : Program} {σ : Sig} {n : Nat} {ds : List Deferred} {ops : Array Oper} {Q : Exit → Act → World → Prop} {rest : List Oper} {env : Env} {l r : List HP} {o : Oper}
  {dst : Option Tmp} {ty : TypeId} {pos : String} {af : Array Edge} {gd : Option (Nat × Bool)}

/-! ### A state in the midst -/
def Mid {α : Type} (σ : Sig) (n : Nat) (ds : List Deferred) (E : α → Env) (L : α → List HP) (ok : α → Prop) : Act → World → Prop :=
  fun a w => ∃ x, ok x ∧ Kn n a (E x) ∧ a.defers = ds ∧ Sat σ w (L x)
theorem then_mono {K K' : Act → World → Prop} (h : ∀ a w, K a w → K' a w) : ∀ e a w, Exit.then K Q e a w → Exit.then K' Q e a w := by
  intro e a w x
  cases e <;> first | exact h _ _ x | exact x
theorem JC.mid {α : Type} {c y : Code} (E : α → Env) (L : α → List HP) (ok : α → Prop) (hm : ∀ x, ok x → JC P σ n ds y Q (E x) (L x)) (h : JC P σ n ds c (Exit.then (Mid σ n ds E L ok) Q) env l) :
    JC P σ n ds c (Exit.then (y.wp P Q) Q) env l := fun a w k d s =>
  wp_mono (h a w k d s) (then_mono (fun a w ⟨x, hx, k, d, s⟩ => hm x hx a w k d s))
theorem JE.mid {α : Type} {E : α → Env} {L : α → List HP} {ok : α → Prop} (x : α) (hx : ok x) (hE : Has env (E x)) (hL : ∀ w, Sat σ w l → Sat σ w (L x)) : JE σ n ds (Exit.then (Mid σ n ds E L ok) Q) .normal env l :=
  fun _ w k d s => ⟨x, hx, k.forget hE, d, hL w s⟩

/-! ### Drawn orders: what has come up is a number's bits -/
def lsb (m mask : Nat) : List Bool := (List.range m).map fun i => mask.testBit i
theorem lsb_length (m mask : Nat) : (lsb m mask).length = m := by simp [lsb]
theorem lsb_zero (m : Nat) : (lsb m 0).toArray = Array.replicate m false := by
  apply Array.ext'
  apply List.ext_getElem
  · simp [lsb]
  · intro i h1 h2
    simp [lsb]
theorem lsb_set (m mask i : Nat) : (lsb m mask).toArray.setIfInBounds i true = (lsb m (mask ||| 2 ^ i)).toArray := by
  apply Array.ext'
  rw [Array.toList_setIfInBounds]
  apply List.ext_getElem
  · simp [lsb]
  · intro j h1 h2
    simp only [lsb, List.getElem_set, List.getElem_map, List.getElem_range, Nat.testBit_or, Nat.testBit_two_pow]
    by_cases h : i = j
    · subst h; simp
    · simp [h]

/-- Whether what an operation waits for has come up (fun b: the bits). -/
def bitm (m mask i : Nat) : Bool := match Nat.blt i m with
  | true => mask.testBit i
  | false => false
def waitsL (m mask : Nat) : List Edge → Bool
  | [] => false
  | e :: r => match Region.binds .any e with
    | true => match bitm m mask e.on with
      | true => waitsL m mask r
      | false => true
    | false => waitsL m mask r
/-- Those that may come up now. -/
def rdyL (m mask : Nat) : Nat → List Oper → List Nat
  | _, [] => []
  | j, o :: r => match mask.testBit j with
    | true => rdyL m mask (j + 1) r
    | false => match waitsL m mask o.after.toList with
      | true => rdyL m mask (j + 1) r
      | false => j :: rdyL m mask (j + 1) r
def quietOp : Op → Bool
  | .call c => match c.callee with
    | .builtin .len | .builtin .cap | .builtin .max | .builtin .min => true
    | _ => false
  | .store .. | .alloc .. | .box .. | .buildSlice .. | .makeMap .. | .makeSlice .. | .mapUpdate .. => false
  | .convert a b _ => !(Nat.beq a b)
  | _ => true
/-- The first of those that only reads. -/
def nextL (m mask : Nat) : Nat → List Oper → Option (Nat × Oper)
  | _, [] => none
  | j, o :: r => match mask.testBit j with
    | true => nextL m mask (j + 1) r
    | false => match quietOp o.op with
      | false => nextL m mask (j + 1) r
      | true => match waitsL m mask o.after.toList with
        | true => nextL m mask (j + 1) r
        | false => some (j, o)

theorem lsb_get {m mask j : Nat} (d : Bool) (h : j < m) : (lsb m mask).toArray.getD j d = mask.testBit j := by
  simp [lsb, Array.getD_eq_getD_getElem?, h]
theorem waitsL_spec {m mask : Nat} : ∀ {es : List Edge}, waitsL m mask es = false ↔ ∀ e ∈ es, Region.binds .any e = true → (lsb m mask).toArray.getD e.on false = true
  | [] => by simp [waitsL]
  | e :: r => by
    have ih := waitsL_spec (m := m) (mask := mask) (es := r)
    have hb : bitm m mask e.on = (lsb m mask).toArray.getD e.on false := by
      unfold bitm
      cases q : Nat.blt e.on m with
      | true => rw [lsb_get false (by simpa using q)]
      | false =>
        have : ¬ e.on < m := by intro h; rw [← Nat.blt_eq] at h; rw [h] at q; cases q
        simp [lsb, Array.getD_eq_getD_getElem?, this]
    simp only [waitsL, List.mem_cons, forall_eq_or_imp]
    cases q1 : Region.binds .any e with
    | false => simp [ih]
    | true =>
      cases q2 : bitm m mask e.on with
      | true => rw [← hb, q2]; simp [ih]
      | false => rw [← hb, q2]; simp
theorem rdyL_mem {m mask : Nat} : ∀ (r : List Oper) (j i : Nat), j + r.length = m → (i ∈ rdyL m mask j r ↔ j ≤ i ∧ ∃ o, r[i - j]? = some o ∧ (lsb m mask).toArray.getD i true = false ∧ waitsL m mask o.after.toList = false)
  | [], j, i, _ => by simp [rdyL]
  | o :: r, j, i, hm => by
    have ih := rdyL_mem (m := m) (mask := mask) r (j + 1) i (by simp at hm; omega)
    have hj : j < m := by simp at hm; omega
    have hstep : (j ≤ i ∧ ∃ o', (o :: r)[i - j]? = some o' ∧ (lsb m mask).toArray.getD i true = false ∧ waitsL m mask o'.after.toList = false) ↔
        (i = j ∧ mask.testBit j = false ∧ waitsL m mask o.after.toList = false) ∨ (j + 1 ≤ i ∧ ∃ o', r[i - (j + 1)]? = some o' ∧ (lsb m mask).toArray.getD i true = false ∧ waitsL m mask o'.after.toList = false) := by
      by_cases h : i = j
      · subst h
        rw [lsb_get true hj]
        simp
        intro h; omega
      · by_cases h2 : j ≤ i
        · have e : i - j = (i - (j + 1)) + 1 := by omega
          have h3 : j + 1 ≤ i := by omega
          rw [e, List.getElem?_cons_succ]
          simp [h, h2, h3]
        · simp [h, h2]; omega
    rw [hstep, ← ih]
    simp only [rdyL]
    cases q1 : mask.testBit j with
    | true => simp
    | false =>
      cases q2 : waitsL m mask o.after.toList with
      | true => simp
      | false => simp
theorem rdyL_sorted {m mask : Nat} : ∀ (r : List Oper) (j : Nat), (rdyL m mask j r).Pairwise (· < ·) ∧ ∀ i ∈ rdyL m mask j r, j ≤ i
  | [], j => by simp [rdyL]
  | o :: r, j => by
    have ih := rdyL_sorted (m := m) (mask := mask) r (j + 1)
    have h : ∀ i ∈ rdyL m mask (j + 1) r, j ≤ i := fun i hi => by have := ih.2 i hi; omega
    simp only [rdyL]
    cases q1 : mask.testBit j with
    | true => exact ⟨ih.1, h⟩
    | false =>
      cases q2 : waitsL m mask o.after.toList with
      | true => exact ⟨ih.1, h⟩
      | false => exact ⟨List.pairwise_cons.2 ⟨fun i hi => by have := ih.2 i hi; omega, ih.1⟩, fun i hi => by
          rcases List.mem_cons.1 hi with rfl | hi
          · exact Nat.le_refl _
          · exact h i hi⟩
theorem ready_mem {ops : Array Oper} {mask i : Nat} : i ∈ Region.ready .any ops (lsb ops.size mask).toArray ↔ i ∈ rdyL ops.size mask 0 ops.toList := by
  rw [mem_ready, rdyL_mem _ _ _ (by simp)]
  constructor
  · rintro ⟨h1, o, h2, h3⟩
    exact ⟨Nat.zero_le _, o, by simpa using h2, h1, waitsL_spec.2 fun e he => h3 e (by simpa using he)⟩
  · rintro ⟨_, o, h2, h1, h3⟩
    exact ⟨h1, o, by simpa using h2, fun e he => waitsL_spec.1 h3 e (by simpa using he)⟩
theorem nextL_spec {m mask : Nat} : ∀ {r : List Oper} {j i : Nat} {o : Oper}, nextL m mask j r = some (i, o) → j ≤ i ∧ r[i - j]? = some o ∧ mask.testBit i = false ∧ waitsL m mask o.after.toList = false
  | [], _, _, _, h => by cases h
  | o :: r, j, i, o', h => by
    have ih := fun h => nextL_spec (m := m) (mask := mask) (r := r) (j := j + 1) (i := i) (o := o') h
    have up : nextL m mask (j + 1) r = some (i, o') → j ≤ i ∧ (o :: r)[i - j]? = some o' ∧ mask.testBit i = false ∧ waitsL m mask o'.after.toList = false := fun h => by
      obtain ⟨h1, h2, h3, h4⟩ := ih h
      have e : i - j = (i - (j + 1)) + 1 := by omega
      exact ⟨by omega, by rw [e, List.getElem?_cons_succ]; exact h2, h3, h4⟩
    simp only [nextL] at h
    split at h
    · exact up h
    · split at h
      · exact up h
      · split at h
        · exact up h
        · rename_i q1 _ q2 _ q3
          injection h with h; injection h with h1 h2
          subst h1; subst h2
          exact ⟨Nat.le_refl _, by simp, by assumption, by assumption⟩

def JB (P : Program) (σ : Sig) (n : Nat) (ds : List Deferred) (ops : Array Oper) (Q : Exit → Act → World → Prop) (l0 : List HP) (mask fuel : Nat) (env : Env) (l : List HP) : Prop :=
  ∀ a w, Kn n a env → a.defers = ds → Sat σ w l → wpAnyH P .any ops Q (fun w => Sat σ w l0) fuel (lsb ops.size mask).toArray a w
theorem JC.regionB {id : Nat} {r0 : List Oper} (l0 : List HP) (hm : P.follows .mixedOrders = true) (h : JB P σ n ds r0.toArray Q l0 0 r0.length env l) : JC P σ n ds (.region id r0.toArray true) Q env l := by
  intro a w k d s
  refine wp_region_held (S := fun w => Sat σ w l0) hm ?_
  have := h a _ k d (Sat.drew s)
  rw [lsb_zero] at this
  simpa using this

theorem JC.regionBS {id : Nat} {r0 : List Oper} (hm : P.follows .mixedOrders = true) (h : JB P σ n ds r0.toArray Q l 0 r0.length env l) : JC P σ n ds (.region id r0.toArray true) Q env l := JC.regionB l hm h
theorem next_spec {mask i : Nat} (hn : nextL ops.size mask 0 ops.toList = some (i, o)) : ops[i]? = some o ∧ (Region.ready .any ops (lsb ops.size mask).toArray).contains i = true := by
  obtain ⟨_, h2, h3, h4⟩ := nextL_spec hn
  have h2' : ops[i]? = some o := by simpa using h2
  have hi : i < ops.size := (Array.getElem?_eq_some_iff.1 h2').1
  refine ⟨h2', ?_⟩
  rw [List.contains_iff_mem, ready_mem, rdyL_mem _ _ _ (by simp)]
  exact ⟨Nat.zero_le _, o, h2, by rw [lsb_get true hi]; exact h3, h4⟩
theorem JB.ru {l0 : List HP} {mask mask' fuel i d : Nat} {v : Value} [hq : PQ Q] (hn : nextL ops.size mask 0 ops.toList = some (i, o)) (hd : o.dst = some d) (hlt : Nat.blt d n = true) (hwt : want env ops o = some true) (h : Ru P σ n env l0 o v)
    (hs : Region.noSelect ops = true) (hf : Region.free .any ops (lsb ops.size mask).toArray i = true) (hL : ∀ w, Sat σ w l → Sat σ w l0)
    (hm : mask ||| 2 ^ i = mask') (hk : JB P σ n ds ops Q l0 mask' fuel ((d, v) :: env) l) : JB P σ n ds ops Q l0 mask (fuel + 1) env l := by
  subst hm
  intro a w ka kd s
  obtain ⟨ho, hr⟩ := next_spec hn
  refine wpAnyH_take (v := v) ho hs hf hr (fun c a w x => hq.h c a _ v w x) (.inl ⟨want_spec ka hwt, fun w' s' => h a w' ka s'⟩) (hL w s) ?_
  rw [lsb_set, hd]
  exact hk _ w (ka.put d v hlt) (by rw [Act.put_defers']; exact kd) s
theorem JB.skip {l0 : List HP} {mask mask' fuel i d : Nat} [hq : PQ Q] (hn : nextL ops.size mask 0 ops.toList = some (i, o)) (hd : o.dst = some d) (hlt : Nat.blt d n = true) (hwt : want env ops o = some false)
    (hs : Region.noSelect ops = true) (hf : Region.free .any ops (lsb ops.size mask).toArray i = true) (hL : ∀ w, Sat σ w l → Sat σ w l0)
    (hm : mask ||| 2 ^ i = mask') (hk : JB P σ n ds ops Q l0 mask' fuel ((d, undef) :: env) l) : JB P σ n ds ops Q l0 mask (fuel + 1) env l := by
  subst hm
  intro a w ka kd s
  obtain ⟨ho, hr⟩ := next_spec hn
  refine wpAnyH_take (v := undef) ho hs hf hr (fun c a w x => hq.h c a _ _ w x) (.inr ⟨want_spec ka hwt, rfl⟩) (hL w s) ?_
  rw [lsb_set, hd]
  exact hk _ w (ka.put d _ hlt) (by rw [Act.put_defers']; exact kd) s

/-- Operation i comes up. -/
def JI (P : Program) (σ : Sig) (n : Nat) (ds : List Deferred) (ops : Array Oper) (Q : Exit → Act → World → Prop) (l0 : List HP) (mask fuel i : Nat) (env : Env) (l : List HP) : Prop :=
  ∀ a w, Kn n a env → a.defers = ds → Sat σ w l → wpOp P ops Q i (fun a' w' => Sat σ w' l0 ∧ wpAnyH P .any ops Q (fun w => Sat σ w l0) fuel ((lsb ops.size mask).toArray.setIfInBounds i true) a' w') a w
def allI (p : Nat → Prop) : List Nat → Prop
  | [] => True
  | [i] => p i
  | i :: r => p i ∧ allI p r
theorem allI_spec {p : Nat → Prop} : ∀ {rs : List Nat}, allI p rs → ∀ i ∈ rs, p i
  | [], _, _, h => by cases h
  | [_], h, i, hi => by rw [List.mem_singleton.1 hi]; exact h
  | _ :: b :: r, ⟨h1, h2⟩, i, hi => by
    rcases List.mem_cons.1 hi with rfl | hi
    · exact h1
    · exact allI_spec h2 i hi
theorem JB.all {l0 : List HP} {mask fuel : Nat} {rs : List Nat} (hr : rdyL ops.size mask 0 ops.toList = rs) (hne : rs.isEmpty = false) (h : allI (fun i => JI P σ n ds ops Q l0 mask fuel i env l) rs) : JB P σ n ds ops Q l0 mask (fuel + 1) env l :=
  fun a w k d s => by
    subst hr
    refine wpAnyH_all rfl ?_ fun i hi => allI_spec h i (ready_mem.1 hi) a w k d s
    intro h0
    cases q : rdyL ops.size mask 0 ops.toList with
    | nil => rw [q] at hne; cases hne
    | cons i r =>
      have : i ∈ Region.ready .any ops (lsb ops.size mask).toArray := ready_mem.2 (by rw [q]; exact List.mem_cons_self)
      rw [h0] at this; cases this
theorem JB.one {l0 : List HP} {mask fuel : Nat} (i : Nat) (hr : rdyL ops.size mask 0 ops.toList = [i]) (h : JI P σ n ds ops Q l0 mask fuel i env l) : JB P σ n ds ops Q l0 mask (fuel + 1) env l := JB.all hr rfl h
theorem JB.two {l0 : List HP} {mask fuel : Nat} (i j : Nat) (hr : rdyL ops.size mask 0 ops.toList = [i, j]) (h1 : JI P σ n ds ops Q l0 mask fuel i env l) (h2 : JI P σ n ds ops Q l0 mask fuel j env l) : JB P σ n ds ops Q l0 mask (fuel + 1) env l := JB.all hr rfl ⟨h1, h2⟩
theorem JB.three {l0 : List HP} {mask fuel : Nat} (i j k : Nat) (hr : rdyL ops.size mask 0 ops.toList = [i, j, k]) (h1 : JI P σ n ds ops Q l0 mask fuel i env l) (h2 : JI P σ n ds ops Q l0 mask fuel j env l) (h3 : JI P σ n ds ops Q l0 mask fuel k env l) : JB P σ n ds ops Q l0 mask (fuel + 1) env l := JB.all hr rfl ⟨h1, h2, h3⟩
theorem JB.nil {l0 : List HP} {mask fuel : Nat} (hr : rdyL ops.size mask 0 ops.toList = []) (h : JE σ n ds Q .normal env l) : JB P σ n ds ops Q l0 mask fuel env l :=
  fun a w k d s => wpAnyH_done (by
    cases q : Region.ready .any ops (lsb ops.size mask).toArray with
    | nil => rfl
    | cons i r =>
      have : i ∈ rdyL ops.size mask 0 ops.toList := ready_mem.1 (by rw [q]; exact List.mem_cons_self)
      rw [hr] at this; cases this) (h a w k d s) _
theorem JI.do {l0 : List HP} {mask mask' fuel i d : Nat} {post : Value → List HP → Prop} (ho : ops[i]? = some o) (hd : o.dst = some d) (hlt : Nat.blt d n = true) (hwt : want env ops o = some true) (h : Do P σ n env l o post)
    (hm : mask ||| 2 ^ i = mask') (hn : ∀ v l', post v l' → (∀ w, Sat σ w l' → Sat σ w l0) ∧ JB P σ n ds ops Q l0 mask' fuel ((d, v) :: env) l') : JI P σ n ds ops Q l0 mask fuel i env l := by
  subst hm
  intro a w ka kd s
  refine wpOp_do ho (want_spec ka hwt) ka s h fun v l' w' p s' => ?_
  have ⟨q1, q2⟩ := hn v l' p
  refine ⟨q1 w' s', ?_⟩
  rw [lsb_set, hd]
  exact q2 _ w' (ka.put d v hlt) (by rw [Act.put_defers']; exact kd) s'
theorem JI.do0 {l0 : List HP} {mask mask' fuel i : Nat} {post : Value → List HP → Prop} (ho : ops[i]? = some o) (hd : o.dst = none) (hwt : want env ops o = some true) (h : Do P σ n env l o post)
    (hm : mask ||| 2 ^ i = mask') (hn : ∀ v l', post v l' → (∀ w, Sat σ w l' → Sat σ w l0) ∧ JB P σ n ds ops Q l0 mask' fuel env l') : JI P σ n ds ops Q l0 mask fuel i env l := by
  subst hm
  intro a w ka kd s
  refine wpOp_do ho (want_spec ka hwt) ka s h fun v l' w' p s' => ?_
  have ⟨q1, q2⟩ := hn v l' p
  refine ⟨q1 w' s', ?_⟩
  rw [lsb_set, hd]
  exact q2 _ w' ka kd s'
theorem JB.heap {l0 l' : List HP} {mask fuel : Nat} (hL : ∀ w, Sat σ w l → Sat σ w l') (h : JB P σ n ds ops Q l0 mask fuel env l') : JB P σ n ds ops Q l0 mask fuel env l :=
  fun a w k d s => h a w k d (hL w s)

/-! ### Parts of a slice that reads as a list -/
theorem RdS.part {b o len cap : Nat} {cs : List Value} (h : RdS σ l (.slice (some ⟨b, o, none⟩) len cap) cs) (i m c : Nat) (him : i + m ≤ len) (hc : m ≤ c) : RdS σ l (.slice (some ⟨b, o + i * 1, none⟩) m c) ((cs.drop i).take m) := by
  obtain ⟨p', cap', e, h1, h2⟩ := h
  cases e
  have hl : ((cs.drop i).take m).length = m := by simp; omega
  refine ⟨_, c, by rw [hl], by omega, ?_⟩
  rcases h2 with rfl | ⟨b', o', e, hr⟩
  · left; simp
  · cases e
    right
    refine ⟨b, o + i * 1, rfl, fun w s j u hu => ?_⟩
    have hj : j < m := by
      rcases Nat.lt_or_ge j m with q | q
      · exact q
      · rw [List.getElem?_eq_none (by omega)] at hu; cases hu
    rw [List.getElem?_take_of_lt hj, List.getElem?_drop] at hu
    have := hr w s (i + j) u hu
    rwa [Nat.mul_one, Nat.add_assoc]

/-! ### Bytes as a string -/
theorem Ru.bytesStr {x : Operand} {t t' e : TypeId} {v : Value} {bs : List UInt8} [UT P t (.slice e)] [UT P e (.int .u8)] [UT P t' .string] (hx : ev env x = some v) (hr : RdS σ l v (bs.map fun b => Value.int .u8 (b.toNat : Int))) :
    Ru P σ n env l ⟨dst, .convert t t' x, ty, pos, af, gd⟩ (.string ⟨bs.toArray⟩) := by
  intro a w kn s
  have e1 := UT.eq (P := P) (t := t)
  have e2 := UT.eq (P := P) (t := e)
  have e3 := UT.eq (P := P) (t := t')
  obtain ⟨p, cap, rfl, _, hr⟩ := hr
  have hstr : strOfNums (bs.map fun b => (b.toNat : Int)) = ⟨bs.toArray⟩ := by
    simp [strOfNums, Function.comp_def]
  have key : (convert t t' (.slice p (bs.map fun b => Value.int .u8 (b.toNat : Int)).length cap)).run P w = .ok (.string ⟨bs.toArray⟩) w := by
    cases p with
    | none =>
      rcases hr with h | ⟨_, _, h, _⟩
      · have : bs = [] := by simpa using h
        subst this
        exact run_convert_bytes_nil w t e e1 e2 _ _ t' e3
      · cases h
    | some ad =>
      rcases hr with h | ⟨b, o, h, hc⟩
      · have : bs = [] := by simpa using h
        subst this
        have h1 := run_convert_bytes_string (P := P) w t t' e (some ad) 0 cap e1 e2 e3
        have h2 := run_bytesToString (P := P) w ad 0 cap [] (by simp [loadCells, loadCellsFrom])
        exact h1.trans h2
      · cases h
        rw [← hstr]
        refine run_convert_bytes_arg w t e e1 e2 b o _ cap _ (by simp) (fun i hi => ?_) t' e3
        have hi' : i < bs.length := by simpa using hi
        apply hc w s i
        simp [List.getElem?_eq_getElem hi', List.getD]
  simp only [execOp, kn.ev hx, Sem.run_bind, key, Result.andThen_ok, Sem.run_pure]

/-! ### What is one's own is read -/
theorem Sat.ownR {w : World} {v : Value} {E k : Nat} {xs : List Value} (s : Sat σ w (Sep.ownS v E 1 k xs :: l)) : RdS σ (Sep.ownS v E 1 k xs :: l) v xs ∧ xs.length = k ∧ ((v = .slice none 0 0 ∧ k = 0) ∨ ∃ b cap, v = .slice (some ⟨b, 0, none⟩) k cap ∧ k ≤ cap) := by
  rcases s.ownS with ⟨rfl, rfl, rfl, _⟩ | ⟨b, cap, spare, rfl, q2, q3, q4, _⟩
  · exact ⟨⟨none, 0, rfl, Nat.le_refl _, .inl rfl⟩, rfl, .inl ⟨rfl, rfl⟩⟩
  · rw [Nat.mul_one] at q3
    refine ⟨⟨some ⟨b, 0, none⟩, cap, by rw [q3], by omega, .inr ⟨b, 0, rfl, fun w' s' i u hu => ?_⟩⟩, q3, .inr ⟨b, cap, rfl, q2⟩⟩
    rcases s'.ownS with ⟨e, _⟩ | ⟨b', cap', spare', e, _, _, _, s2⟩
    · cases e
    · injection e with e1 _ _
      injection e1 with e1
      injection e1 with e1
      subst e1
      rw [Nat.zero_add, s2.cell, List.getElem?_append_left]
      · exact hu
      · rcases Nat.lt_or_ge i xs.length with q | q
        · exact q
        · rw [List.getElem?_eq_none q] at hu; cases hu
theorem JO.ownR {v : Value} {E k : Nat} {xs : List Value} (hp : Pick (ownS v E 1 k xs) l r)
    (h : RdS σ l v xs → xs.length = k → ((v = .slice none 0 0 ∧ k = 0) ∨ ∃ b cap, v = .slice (some ⟨b, 0, none⟩) k cap ∧ k ≤ cap) → JO P σ n ds ops Q rest env l) : JO P σ n ds ops Q rest env l := fun a w ka kd s =>
  let ⟨h1, h2, h3⟩ := (s.perm hp).ownR
  h (h1.heap fun _ s => s.perm hp) h2 h3 a w ka kd s
theorem JC.ownR {c : Code} {v : Value} {E k : Nat} {xs : List Value} (hp : Pick (ownS v E 1 k xs) l r)
    (h : RdS σ l v xs → xs.length = k → ((v = .slice none 0 0 ∧ k = 0) ∨ ∃ b cap, v = .slice (some ⟨b, 0, none⟩) k cap ∧ k ≤ cap) → JC P σ n ds c Q env l) : JC P σ n ds c Q env l := fun a w ka kd s =>
  let ⟨h1, h2, h3⟩ := (s.perm hp).ownR
  h (h1.heap fun _ s => s.perm hp) h2 h3 a w ka kd s
theorem Fn.ownR {f : FuncId} {args : Array Value} {post : Value → List HP → Prop} {v : Value} {E k : Nat} {xs : List Value} (hp : Pick (ownS v E 1 k xs) l r)
    (h : RdS σ l v xs → xs.length = k → ((v = .slice none 0 0 ∧ k = 0) ∨ ∃ b cap, v = .slice (some ⟨b, 0, none⟩) k cap ∧ k ≤ cap) → Fn P σ f args l post) : Fn P σ f args l post := fun w s =>
  let ⟨h1, h2, h3⟩ := (s.perm hp).ownR
  h (h1.heap fun _ s => s.perm hp) h2 h3 w s
end
end Go.Sep
/- Rules whose lists stand in full. -/
namespace Go.Sep
open Go

/-- l, laid anew, each cell in full. -/
def nrm {α β : Type} : List α → (List α → Option β) → Option β
  | [], k => k []
  | a :: l, k => nrm l fun r => k (a :: r)
theorem nrm_eq {α β : Type} : ∀ (l : List α) (k : List α → Option β), nrm l k = k l
  | [], _ => rfl
  | a :: l, k => by rw [nrm, nrm_eq l]
theorem nrm_some {α : Type} {l us : List α} (h : nrm l some = some us) : l = us := by
  rw [nrm_eq] at h; exact Option.some.inj h

def fillL (pl : Nat → Option (Nat × Nat)) : List Value → List (Nat × Value) → Option (List Value)
  | zs, [] => nrm zs some
  | zs, (i, v) :: r => match pl i with
    | none => none
    | some (off, size) => match Nat.beq v.cells.toList.length size, Nat.ble (off + size) zs.length with
      | true, true => nrm (splice zs off v.cells.toList) fun zs' => fillL pl zs' r
      | _, _ => none

theorem foldl_splice : ∀ (l : List Value) (k off : Nat) (A : Array Value),
    (l.zipIdx k).foldl (fun cs (p : Value × Nat) => cs.setIfInBounds (off + p.2) p.1) A = (splice A.toList (off + k) l).toArray
  | [], _, _, _ => by simp [splice]
  | c :: l, k, off, A => by
    rw [List.zipIdx_cons, List.foldl_cons, foldl_splice l (k + 1) off]
    simp only [splice, Array.toList_setIfInBounds, Nat.add_assoc]
theorem fillL_spec {pl : Nat → Option (Nat × Nat)} : ∀ {r : List (Nat × Value)} {zs us : List Value}, fillL pl zs r = some us → Instr.fill pl zs.toArray r = some us.toArray
  | [], zs, us, h => by
    rw [fillL] at h
    rw [nrm_some h]; rfl
  | (i, v) :: r, zs, us, h => by
    simp only [fillL] at h
    simp only [Instr.fill]
    split at h
    · cases h
    · rename_i off size hp
      split at h
      · rename_i q1 q2
        have q1' := Nat.eq_of_beq_eq_true q1
        have q2' : off + size ≤ zs.length := by simpa using q2
        rw [nrm_eq] at h
        rw [hp]
        have hs : v.cells.size = size := by rw [← q1']; simp
        dsimp only
        rw [if_neg (by simp [hs]; omega)]
        have := foldl_splice v.cells.toList 0 off zs.toArray
        have e : Array.foldl (fun cs (p : Value × Nat) => cs.setIfInBounds (off + p.2) p.1) zs.toArray v.cells.zipIdx = (splice zs off v.cells.toList).toArray := by
          rw [← Array.foldl_toList, Array.toList_zipIdx]
          simpa using this
        rw [e]
        exact fillL_spec h
      · cases h

section
variable {P : Program} {σ : Sig} {n : Nat} {ds : List Deferred} {env : Env} {l r : List HP} {dst : Option Tmp} {ty : TypeId} {pos : String} {af : Array Edge} {gd : Option (Nat × Bool)}
theorem Ru.buildN {t : TypeId} {zs : Array Value} {pl : List (Nat × Nat)} {parts : Array (Nat × Operand)} {vs us : List Value} [h : BT P t zs pl] (hx : parts.toList.mapM (fun p => ev env p.2) = some vs)
    (hf : fillL (fun i => pl[i]?) zs.toList ((parts.toList.map (·.1)).zip vs) = some us) : Ru P σ n env l ⟨dst, .build t parts, ty, pos, af, gd⟩ (.agg us.toArray) :=
  Ru.build hx (fillL_spec hf)
theorem Ru.loadAN {x : Operand} {t E : TypeId} {b o z : Nat} {vs us : List Value} [AG P t true] [SZ P t z] (hx : ev env x = some (.pointer (some ⟨b, o, none⟩))) (hp : Pick (arr b E vs) l r) (hm : Nat.ble (o + z) vs.length = true) (hu : nrm ((vs.drop o).take z) some = some us) :
    Ru P σ n env l ⟨dst, .load t x, ty, pos, af, gd⟩ (.agg us.toArray) := Ru.loadA hx hp hm (nrm_some hu)
theorem Do.storeN {x y : Operand} {t E : TypeId} {b o : Nat} {vs us : List Value} {v : Value} [SZ P t 1] (hx : ev env x = some (.pointer (some ⟨b, o, none⟩))) (hy : ev env y = some v) (h1 : v.oneCell' = true) (hp : Pick (arr b E vs) l r) (ho : Nat.blt o vs.length = true) (hu : nrm (vs.set o v) some = some us) :
    Do P σ n env l ⟨dst, .store t x y, ty, pos, af, gd⟩ (fun u l' => u = undef ∧ l' = arr b E us :: r) := by
  rw [← nrm_some hu]; exact Do.store hx hy h1 hp ho
theorem Do.storeAN {x y : Operand} {t E : TypeId} {b o z : Nat} {vs cs us : List Value} [SZ P t z] (hx : ev env x = some (.pointer (some ⟨b, o, none⟩))) (hy : ev env y = some (.agg cs.toArray)) (hp : Pick (arr b E vs) l r) (hz : Nat.beq cs.length z = true) (h1 : cs.all Value.oneCell' = true) (ho : Nat.ble (o + cs.length) vs.length = true)
    (hu : nrm (splice vs o cs) some = some us) :
    Do P σ n env l ⟨dst, .store t x y, ty, pos, af, gd⟩ (fun u l' => u = undef ∧ l' = arr b E us :: r) := by
  rw [← nrm_some hu]; exact Do.storeA hx hy hp hz h1 ho
theorem Do.allocN {t : TypeId} {v : Value} {us : List Value} [ZV P t v] (hu : nrm v.cells.toList some = some us) : Do P σ n env l ⟨dst, .alloc t, ty, pos, af, gd⟩ (fun u l' => ∃ b, u = .pointer (some ⟨b, 0, none⟩) ∧ l' = arr b t us :: l) := by
  rw [← nrm_some hu]; exact Do.alloc
theorem Do.boxN {t : TypeId} {x : Operand} {v : Value} {us : List Value} (hx : ev env x = some v) (hu : nrm v.cells.toList some = some us) : Do P σ n env l ⟨dst, .box t x, ty, pos, af, gd⟩ (fun u l' => ∃ b, u = .pointer (some ⟨b, 0, none⟩) ∧ l' = arr b t us :: l) := by
  rw [← nrm_some hu]; exact Do.box hx
theorem Res.cellAN {c t b o z E : Nat} {vs us : List Value} [AG P t true] [SZ P t z] (h : look env c = some (.pointer (some ⟨b, o, none⟩))) (hp : Pick (arr b E vs) l r) (hm : Nat.ble (o + z) vs.length = true) (hu : nrm ((vs.drop o).take z) some = some us) :
    Res P σ n env l (.cell c t) (.agg us.toArray) := Res.cellA h hp hm (nrm_some hu)
theorem Do.buildSliceN {t e : TypeId} {z len : Nat} {zv : Value} {parts : Array (Nat × Operand)} {vs us : List Value} [UT P t (.slice e)] [SZ P e z] [ZV P e zv] (hx : parts.toList.mapM (fun p => ev env p.2) = some vs)
    (hl : Nat.ble (len * z) (2 ^ 24) = true) (hn : Nat.beq (len * z) 0 = false)
    (hf : fillL (fun i => some (i * z, z)) ((List.range (len * z)).map (fun i => zv.cells[i % zv.cells.size]!)) ((parts.toList.map (·.1)).zip vs) = some us) :
    Do P σ n env l ⟨dst, .buildSlice t len parts, ty, pos, af, gd⟩ (fun u l' => ∃ b, u = .slice (some ⟨b, 0, none⟩) len len ∧ l' = arr b e us :: l) :=
  Do.buildSlice (cells := us.toArray) hx hl hn (fillL_spec hf)

/-! ### Bytes that nobody has laid -/
class MZ (P : Program) (f : FuncId) (e : outParam TypeId) : Prop where
  run : ∀ (m : Nat), m ≤ 281474976710656 → ∀ w, ∃ cs : Array Value, (callFunc f #[.int .i64 m]).run P w = .ok (.value (.slice (some ⟨w.heap.size, 0, none⟩) m cs.size)) (w.drew.drew.alloc (.cells cs e)) ∧ m ≤ cs.size
theorem Do.ext {f : FuncId} {xs : Array Operand} {ts : Array TypeId} {vs : List Value} {post : Value → List HP → Prop} (hx : xs.toList.mapM (ev env) = some vs) (h : ∀ w, Sat σ w l → ∃ v w' l', (callFunc f vs.toArray).run P w = .ok (.value v) w' ∧ Sat σ w' l' ∧ post v l') :
    Do P σ n env l ⟨dst, .call ⟨.value (.func f), xs, ts⟩, ty, pos, af, gd⟩ post := by
  refine Do.value fun a w kn s => ?_
  obtain ⟨v, w', l', h1, h2, h3⟩ := h w s
  have e : xs.map a.eval = vs.toArray := by apply Array.ext'; rw [Array.toList_map]; exact mapM_ev kn _ _ hx
  refine ⟨v, w', l', ?_, h2, h3⟩
  simp [execOp, resolve, invoke, Act.eval, Deferred.ofValue, e, h1]
theorem Do.makeNoZero {f : FuncId} {x : Operand} {ts : Array TypeId} {e : TypeId} {m : Nat} [MZ P f e] (hx : ev env x = some (.int .i64 m)) (hm : m ≤ 281474976710656) :
    Do P σ n env l ⟨dst, .call ⟨.value (.func f), #[x], ts⟩, ty, pos, af, gd⟩ (fun u l' => ∃ b cs, u = .slice (some ⟨b, 0, none⟩) m cs.length ∧ m ≤ cs.length ∧ l' = arr b e cs :: l) := by
  refine Do.ext (vs := [.int .i64 m]) (by simp [hx]) fun w s => ?_
  obtain ⟨cs, h1, h2⟩ := MZ.run (P := P) (f := f) m hm w
  exact ⟨_, _, _, h1, (Sat.drew (Sat.drew s)).newRow e cs, _, cs.toList, rfl, by simpa using h2, rfl⟩
/-- x[i:j] of no slice at all. -/
theorem Ru.sliceNil {x : Operand} {t e : TypeId} {z : Nat} {hi : Option Operand} [UT P t (.slice e)] [SZ P e z] (hx : ev env x = some (.slice none 0 0)) (h2 : loOf env 0 hi = some 0) :
    Ru P σ n env l ⟨dst, .slice t x none hi none, ty, pos, af, gd⟩ (.slice none 0 0) := by
  intro a w kn s
  have e1 := UT.run (P := P) (t := t) w
  have e2 := SZ.eq (P := P) (t := e) w
  cases hi with
  | none => simp [execOp, Instr.sliceAt, kn.ev hx, e1, e2, Instr.slice, Instr.sliceBounds, Instr.sliceBound, asIntOf]
  | some u =>
    simp only [loOf] at h2
    split at h2
    · rename_i k i he
      simp at h2; subst h2
      simp [execOp, Instr.sliceAt, kn.ev hx, kn.ev he, e1, e2, Instr.slice, Instr.sliceBounds, Instr.sliceBound, asIntOf]
    · cases h2
def nthL {α : Type} : List α → Nat → Option α
  | [], _ => none
  | a :: _, 0 => some a
  | _ :: l, i + 1 => nthL l i
theorem nthL_eq {α : Type} : ∀ (l : List α) (i : Nat), nthL l i = l[i]?
  | [], _ => rfl
  | _ :: _, 0 => rfl
  | _ :: l, i + 1 => by rw [nthL, nthL_eq l i]; rfl
theorem Ru.extractN {x : Operand} {i : Nat} {vs : Array Value} {v : Value} (hx : ev env x = some (.tuple vs)) (hv : nthL vs.toList i = some v) : Ru P σ n env l ⟨dst, .extract x i, ty, pos, af, gd⟩ v :=
  Ru.extract hx (by rw [← Array.getElem?_toList, ← nthL_eq]; exact hv)
theorem Ru.fieldN {x : Operand} {s ft : TypeId} {i off z : Nat} {cs : List Value} {v : Value} [hf : FA P s i off z ft false] (hx : ev env x = some (.agg cs.toArray)) (hv : nthL cs off = some v) : Ru P σ n env l ⟨dst, .field s x i, ty, pos, af, gd⟩ v :=
  Ru.field hx (by rw [List.getElem?_toArray, ← nthL_eq]; exact hv)
theorem Ru.loadN {x : Operand} {t E : TypeId} {b o : Nat} {vs : List Value} {v : Value} [AG P t false] (hx : ev env x = some (.pointer (some ⟨b, o, none⟩))) (hp : Pick (arr b E vs) l r) (hv : nthL vs o = some v) :
    Ru P σ n env l ⟨dst, .load t x, ty, pos, af, gd⟩ v := Ru.load hx hp (by rw [← nthL_eq]; exact hv)
end
end Go.Sep
/- Maps whose keys are ints. -/
namespace Go.Sep
open Go Go.MapKept

structure IsMap (a : Array MapEntry) (clock : Nat) (es : List (Int × Value)) : Prop where
  ents : a.toList.map (fun e => (e.key, e.val)) = es.map (fun p => (Value.int .i64 p.1, p.2))
  stamped : Stamped a clock
  rng : ∀ p ∈ es, -9223372036854775808 ≤ p.1 ∧ p.1 ≤ 9223372036854775807
def mapI (b : Nat) (es : List (Int × Value)) : HP := fun h => ∃ a clock, h b = some (.map a clock) ∧ IsMap a clock es

def idxI {α : Type} : List (Int × α) → Int → Option (Nat × α)
  | [], _ => none
  | (k', v) :: r, k => if k = k' then some (0, v) else (idxI r k).map fun p => (p.1 + 1, p.2)
def lookI {α : Type} (es : List (Int × α)) (k : Int) : Option α := (idxI es k).map (·.2)
def updI {α : Type} : List (Int × α) → Int → α → List (Int × α)
  | [], k, v => [(k, v)]
  | (k', v') :: r, k, v => if k = k' then (k, v) :: r else (k', v') :: updI r k v
def delI {α : Type} : List (Int × α) → Int → List (Int × α)
  | [], _ => []
  | (k', v') :: r, k => if k = k' then r else (k', v') :: delI r k

theorem lookI_cons {α : Type} (k' : Int) (v : α) (r : List (Int × α)) (k : Int) : lookI ((k', v) :: r) k = if k = k' then some v else lookI r k := by
  unfold lookI
  rw [idxI]
  split
  · rfl
  · rw [Option.map_map]; rfl
theorem findNow_idx : ∀ (l : List MapEntry) (es : List (Int × Value)) (k : Int) (i : Nat), l.map (fun e => (e.key, e.val)) = es.map (fun p => (Value.int .i64 p.1, p.2)) →
    Instr.findNow (.int .i64) (.int .i64 k) l i = some ((idxI es k).map fun p => (i + p.1, p.2))
  | [], [], _, _, _ => rfl
  | [], _ :: _, _, _, h => by cases h
  | _ :: _, [], _, _, h => by cases h
  | e :: l, (k', v) :: es, k, i, h => by
    simp only [List.map_cons, List.cons.injEq, Prod.mk.injEq] at h
    obtain ⟨⟨h1, h2⟩, h3⟩ := h
    have ih := findNow_idx l es k (i + 1) h3
    simp only [Instr.findNow, h1, Instr.sameNow, if_true, idxI]
    by_cases hk : k = k'
    · subst hk
      simp [h2]
    · have : (k == k') = false := by simpa using hk
      rw [this, if_neg hk, ih]
      simp only [Option.map_map]
      congr 1
      congr 1
      funext p
      simp only [Function.comp]
      rw [Nat.add_assoc, Nat.add_comm 1]

theorem modify_upd : ∀ (l : List MapEntry) (es : List (Int × Value)) (k : Int) (v : Value) (i : Nat) (u : Value), l.map (fun e => (e.key, e.val)) = es.map (fun p => (Value.int .i64 p.1, p.2)) → idxI es k = some (i, u) →
    (l.modify i fun e => { e with key := .int .i64 k, val := v }).map (fun e => (e.key, e.val)) = (updI es k v).map (fun p => (Value.int .i64 p.1, p.2)) ∧
    (l.modify i fun e => { e with key := .int .i64 k, val := v }).map (·.born) = l.map (·.born) ∧ (l.modify i fun e => { e with key := .int .i64 k, val := v }).map (·.key) = l.map (·.key) ∧ (l[i]?).map (·.key) = some (.int .i64 k)
  | [], [], _, _, _, _, _, h => by cases h
  | [], _ :: _, _, _, _, _, h, _ => by cases h
  | _ :: _, [], _, _, _, _, h, _ => by cases h
  | e :: l, (k', v') :: es, k, v, i, u, h, hi => by
    simp only [List.map_cons, List.cons.injEq, Prod.mk.injEq] at h
    obtain ⟨⟨h1, h2⟩, h3⟩ := h
    simp only [idxI] at hi
    split at hi
    · rename_i hk
      subst hk
      injection hi with hi; injection hi with hi _; subst hi
      refine ⟨?_, ?_, ?_, ?_⟩
      · simp [updI, h3]
      · simp
      · simp [h1]
      · simp [h1]
    · rename_i hk
      simp only [Option.map_eq_some_iff] at hi
      obtain ⟨⟨j, u'⟩, hj, hji⟩ := hi
      injection hji with hji _
      subst hji
      obtain ⟨a1, a2, a3, a4⟩ := modify_upd l es k v j u' h3 hj
      refine ⟨?_, ?_, ?_, ?_⟩
      · simp [updI, hk, a1, h1, h2]
      · simp [a2]
      · simp [a3]
      · simpa using a4
theorem push_upd {es : List (Int × Value)} {k : Int} {v : Value} (h : idxI es k = none) : updI es k v = es ++ [(k, v)] := by
  induction es with
  | nil => rfl
  | cons p es ih =>
    obtain ⟨k', v'⟩ := p
    simp only [idxI] at h
    split at h
    · cases h
    · rename_i hk
      rw [updI, if_neg hk, ih (by simpa using h)]
      rfl
theorem idxI_none {es : List (Int × Value)} {k : Int} (h : idxI es k = none) : ∀ p ∈ es, p.1 ≠ k := by
  induction es with
  | nil => intro p hp; cases hp
  | cons p es ih =>
    obtain ⟨k', v'⟩ := p
    simp only [idxI] at h
    split at h
    · cases h
    · rename_i hk
      intro q hq
      rcases List.mem_cons.1 hq with rfl | hq
      · exact fun e => hk e.symm
      · exact ih (by simpa using h) q hq
theorem erase_del : ∀ (l : List MapEntry) (es : List (Int × Value)) (k : Int) (i : Nat) (u : Value), l.map (fun e => (e.key, e.val)) = es.map (fun p => (Value.int .i64 p.1, p.2)) → idxI es k = some (i, u) →
    (l.eraseIdx i).map (fun e => (e.key, e.val)) = (delI es k).map (fun p => (Value.int .i64 p.1, p.2))
  | [], [], _, _, _, _, h => by cases h
  | [], _ :: _, _, _, _, h, _ => by cases h
  | _ :: _, [], _, _, _, h, _ => by cases h
  | e :: l, (k', v') :: es, k, i, u, h, hi => by
    simp only [List.map_cons, List.cons.injEq, Prod.mk.injEq] at h
    obtain ⟨⟨h1, h2⟩, h3⟩ := h
    simp only [idxI] at hi
    split at hi
    · rename_i hk
      injection hi with hi; injection hi with hi _; subst hi
      simp [delI, hk, h3]
    · rename_i hk
      simp only [Option.map_eq_some_iff] at hi
      obtain ⟨⟨j, u'⟩, hj, hji⟩ := hi
      injection hji with hji _
      subst hji
      simp [delI, hk, h1, h2, erase_del l es k j u' h3 hj]
theorem del_none {α : Type} {es : List (Int × α)} {k : Int} (h : idxI es k = none) : delI es k = es := by
  induction es with
  | nil => rfl
  | cons p es ih =>
    obtain ⟨k', v'⟩ := p
    simp only [idxI] at h
    split at h
    · cases h
    · rename_i hk
      rw [delI, if_neg hk, ih (by simpa using h)]
theorem updI_mem {α : Type} {es : List (Int × α)} {k : Int} {v : α} : ∀ p ∈ updI es k v, p.1 = k ∨ p ∈ es := by
  induction es with
  | nil => intro p hp; simp [updI] at hp; exact .inl (by rw [hp])
  | cons q es ih =>
    obtain ⟨k', v'⟩ := q
    intro p hp
    simp only [updI] at hp
    split at hp
    · rcases List.mem_cons.1 hp with rfl | h
      · exact .inl rfl
      · exact .inr (List.mem_cons_of_mem _ h)
    · rcases List.mem_cons.1 hp with rfl | h
      · exact .inr List.mem_cons_self
      · exact (ih p h).imp id (List.mem_cons_of_mem _)
theorem delI_sub {α : Type} : ∀ (es : List (Int × α)) (k : Int), (delI es k).Sublist es
  | [], _ => List.Sublist.refl _
  | (k', v') :: es, k => by
    simp only [delI]
    split
    · exact List.sublist_cons_self _ _
    · exact (delI_sub es k).cons_cons _

section
variable {P : Program} {σ : Sig} {n : Nat} {ds : List Deferred} {env : Env} {l r : List HP} {dst : Option Tmp} {ty : TypeId} {pos : String} {af : Array Edge} {gd : Option (Nat × Bool)}

theorem Sat.mapI {w : World} {b : Nat} {es : List (Int × Value)} (h : Sat σ w (Sep.mapI b es :: l)) : ∃ a clock, IsMap a clock es ∧ Sat σ w (pt b (.map a clock) :: l) := by
  obtain ⟨hs, h1, h2, a, b1, c, ⟨ar, ck, d, k⟩, e⟩ := h
  exact ⟨ar, ck, k, hs, h1, h2, a, b1, c, d, e⟩
theorem Sat.mapI_of {w : World} {b clock : Nat} {a : Array MapEntry} {es : List (Int × Value)} (k : IsMap a clock es) (h : Sat σ w (pt b (.map a clock) :: l)) : Sat σ w (Sep.mapI b es :: l) :=
  Sat.imp (fun _ x => ⟨a, clock, x, k⟩) h
theorem Sat.mapI_new {w : World} {b : Nat} (h : Sat σ w (pt b (.map #[] 0) :: l)) : Sat σ w (Sep.mapI b [] :: l) :=
  h.mapI_of ⟨rfl, ⟨by simp, by simp, by simp⟩, by simp⟩

theorem Ru.lookupI {x y : Operand} {t kt e : TypeId} {b : Nat} {k : Int} {es : List (Int × Value)} {zv : Value} [UT P t (.map kt e)] [UT P kt (.int .i64)] [ZV P e zv] (hx : ev env x = some (.map (some b))) (hy : ev env y = some (.int .i64 k)) (hp : Pick (mapI b es) l r) :
    Ru P σ n env l ⟨dst, .lookup t x y true, ty, pos, af, gd⟩ (.tuple #[(lookI es k).getD zv, .bool (lookI es k).isSome]) := by
  intro a w kn s
  have e1 := UT.run (P := P) (t := t) w
  have e2 := UT.eq (P := P) (t := kt)
  have e3 := ZV.eq (P := P) (t := e) w
  obtain ⟨ar, ck, hm, s1⟩ := (s.perm hp).mapI
  have hb := s1.get
  have hf := run_findKey (P := P) (w := w) e2 (findNow_idx ar.toList es k 0 hm.ents)
  have hc := fun em => run_checkKey (P := P) (w := w) e2 (k := .int .i64 k) rfl em 9999
  have hg : (getObj b).run P w = .ok (.map ar ck) w := by simp [getObj, Sem.run, hb]
  unfold lookI
  cases q : idxI es k with
  | none => simp [execOp, kn.ev hx, kn.ev hy, Instr.lookup, e1, hg, hc, hf, q, e3]
  | some p => simp [execOp, kn.ev hx, kn.ev hy, Instr.lookup, e1, hg, hc, hf, q]
theorem Ru.lookupI0 {x y : Operand} {t kt e : TypeId} {b : Nat} {k : Int} {es : List (Int × Value)} {zv : Value} [UT P t (.map kt e)] [UT P kt (.int .i64)] [ZV P e zv] (hx : ev env x = some (.map (some b))) (hy : ev env y = some (.int .i64 k)) (hp : Pick (mapI b es) l r) :
    Ru P σ n env l ⟨dst, .lookup t x y false, ty, pos, af, gd⟩ ((lookI es k).getD zv) := by
  intro a w kn s
  have e1 := UT.run (P := P) (t := t) w
  have e2 := UT.eq (P := P) (t := kt)
  have e3 := ZV.eq (P := P) (t := e) w
  obtain ⟨ar, ck, hm, s1⟩ := (s.perm hp).mapI
  have hb := s1.get
  have hf := run_findKey (P := P) (w := w) e2 (findNow_idx ar.toList es k 0 hm.ents)
  have hc := fun em => run_checkKey (P := P) (w := w) e2 (k := .int .i64 k) rfl em 9999
  have hg : (getObj b).run P w = .ok (.map ar ck) w := by simp [getObj, Sem.run, hb]
  unfold lookI
  cases q : idxI es k with
  | none => simp [execOp, kn.ev hx, kn.ev hy, Instr.lookup, e1, hg, hc, hf, q, e3]
  | some p => simp [execOp, kn.ev hx, kn.ev hy, Instr.lookup, e1, hg, hc, hf, q]

theorem Do.mapUpdateI {x y z : Operand} {t kt e : TypeId} {b : Nat} {k : Int} {es : List (Int × Value)} {v : Value} [UT P t (.map kt e)] [UT P kt (.int .i64)] (hx : ev env x = some (.map (some b))) (hy : ev env y = some (.int .i64 k)) (hz : ev env z = some v) (hp : Pick (mapI b es) l r)
    (hk : -9223372036854775808 ≤ k ∧ k ≤ 9223372036854775807) :
    Do P σ n env l ⟨dst, .mapUpdate t x y z, ty, pos, af, gd⟩ (fun u l' => u = undef ∧ l' = mapI b (updI es k v) :: r) := by
  refine Do.skip fun a w kn s => ?_
  have e1 := UT.run (P := P) (t := t) w
  have e2 := UT.eq (P := P) (t := kt)
  obtain ⟨ar, ck, hm, s1⟩ := (s.perm hp).mapI
  have hb := s1.get
  have hf := run_findKey (P := P) (w := w) e2 (findNow_idx ar.toList es k 0 hm.ents)
  have hc := fun em => run_checkKey (P := P) (w := w) e2 (k := .int .i64 k) rfl em 9999
  have hg : (getObj b).run P w = .ok (.map ar ck) w := by simp [getObj, Sem.run, hb]
  have hrng : ∀ p ∈ updI es k v, -9223372036854775808 ≤ p.1 ∧ p.1 ≤ 9223372036854775807 := fun p hp => by
    rcases updI_mem p hp with h | h
    · rw [h]; exact hk
    · exact hm.rng p h
  cases q : idxI es k with
  | none =>
    refine ⟨_, _, ?_, Sat.mapI_of (a := ar.push { key := .int .i64 k, val := v, born := ck }) (clock := ck + 1) ⟨?_, ⟨?_, ?_, ?_⟩, hrng⟩ (s1.set), rfl, rfl⟩
    · have hw := run_setObj_map (P := P) (.map (ar.push { key := .int .i64 k, val := v, born := ck }) (ck + 1)) hb
      simp [execOp, kn.ev hx, kn.ev hy, kn.ev hz, Instr.mapUpdate, e1, hg, hc, hf, q, hw]
    · rw [push_upd q]; simp [hm.ents]
    · intro x hx
      simp only [Array.toList_push, List.mem_append, List.mem_singleton] at hx
      rcases hx with hx | rfl
      · have := hm.stamped.1 x hx; omega
      · show ck < ck + 1; omega
    · simp only [Array.toList_push, List.map_append, List.map_cons, List.map_nil]
      refine List.nodup_append.2 ⟨hm.stamped.2.1, by simp, ?_⟩
      intro x hx y hy
      simp at hy; subst hy
      obtain ⟨z, hz, rfl⟩ := List.mem_map.1 hx
      have := hm.stamped.1 z hz
      omega
    · simp only [Array.toList_push, List.map_append, List.map_cons, List.map_nil]
      refine List.nodup_append.2 ⟨hm.stamped.2.2, by simp, ?_⟩
      intro x hx y hy
      simp at hy; subst hy
      obtain ⟨z, hz, rfl⟩ := List.mem_map.1 hx
      intro he
      have h1 : (z.key, z.val) ∈ ar.toList.map (fun e => (e.key, e.val)) := List.mem_map.2 ⟨z, hz, rfl⟩
      rw [hm.ents] at h1
      obtain ⟨p, hp1, hp2⟩ := List.mem_map.1 h1
      injection hp2 with hp2 _
      rw [he] at hp2
      injection hp2 with _ hp2
      exact idxI_none q p hp1 hp2
  | some p =>
    obtain ⟨i, u⟩ := p
    obtain ⟨a1, a2, a3, a4⟩ := modify_upd ar.toList es k v i u hm.ents q
    refine ⟨_, _, ?_, Sat.mapI_of (a := ar.modify i fun e => { e with key := .int .i64 k, val := v }) (clock := ck) ⟨?_, ⟨?_, ?_, ?_⟩, hrng⟩ (s1.set), rfl, rfl⟩
    · have hw := run_setObj_map (P := P) (.map (ar.modify i fun e => { e with key := .int .i64 k, val := v }) ck) hb
      have hkk : ((ar[i]?).map (·.key)).getD (.int .i64 k) = .int .i64 k := by
        rw [← Array.getElem?_toList, a4]; rfl
      have hst : (Instr.keyThatStays (.int .i64 k) (.int .i64 k)).run P w = .ok (.int .i64 k) w := by
        have : Instr.sameBits 10000 (.int .i64 k) (.int .i64 k) = true := by simp [Instr.sameBits]
        simp [Instr.keyThatStays, this]
      simp [execOp, kn.ev hx, kn.ev hy, kn.ev hz, Instr.mapUpdate, e1, hg, hc, hf, q, hw, hkk, hst]
    · rw [Array.toList_modify]; exact a1
    · intro x hx
      rw [Array.toList_modify] at hx
      have : x.born ∈ (ar.toList.modify i fun e => { e with key := .int .i64 k, val := v }).map (·.born) := List.mem_map.2 ⟨x, hx, rfl⟩
      rw [a2] at this
      obtain ⟨z, hz, hzb⟩ := List.mem_map.1 this
      rw [← hzb]; exact hm.stamped.1 z hz
    · rw [Array.toList_modify, a2]; exact hm.stamped.2.1
    · rw [Array.toList_modify, a3]; exact hm.stamped.2.2

theorem Do.deleteI {x y : Operand} {t kt e t' : TypeId} {b : Nat} {k : Int} {es : List (Int × Value)} [UT P t (.map kt e)] [UT P kt (.int .i64)] (hx : ev env x = some (.map (some b))) (hy : ev env y = some (.int .i64 k)) (hp : Pick (mapI b es) l r) :
    Do P σ n env l ⟨dst, .call ⟨.builtin .delete, #[x, y], #[t, t']⟩, ty, pos, af, gd⟩ (fun u l' => u = .tuple #[] ∧ l' = mapI b (delI es k) :: r) := by
  refine Do.value fun a w kn s => ?_
  have e1 := UT.run (P := P) (t := t) w
  have e2 := UT.eq (P := P) (t := kt)
  obtain ⟨ar, ck, hm, s1⟩ := (s.perm hp).mapI
  have hb := s1.get
  have hf := run_findKey (P := P) (w := w) e2 (findNow_idx ar.toList es k 0 hm.ents)
  have hc := fun em => run_checkKey (P := P) (w := w) e2 (k := .int .i64 k) rfl em 9999
  have hg : (getObj b).run P w = .ok (.map ar ck) w := by simp [getObj, Sem.run, hb]
  have hrng : ∀ p ∈ delI es k, -9223372036854775808 ≤ p.1 ∧ p.1 ≤ 9223372036854775807 := fun p hp => hm.rng p ((delI_sub es k).mem hp)
  cases q : idxI es k with
  | none =>
    refine ⟨_, _, _, ?_, Sat.mapI_of (a := ar) (clock := ck) ⟨?_, hm.stamped, hrng⟩ (s1.set), rfl, rfl⟩
    · have hw := run_setObj_map (P := P) (.map ar ck) hb
      simp [execOp, resolve, invoke, builtin, kn.ev hx, kn.ev hy, Builtin.delete_, e1, hg, hc, hf, q, hw]
    · rw [del_none q]; exact hm.ents
  | some p =>
    obtain ⟨i, u⟩ := p
    have a1 := erase_del ar.toList es k i u hm.ents q
    have hsub : (ar.eraseIdxIfInBounds i).toList = ar.toList.eraseIdx i := by
      unfold Array.eraseIdxIfInBounds
      split
      · simp
      · rename_i hlt
        rw [List.eraseIdx_of_length_le (by simpa using hlt)]
    refine ⟨_, _, _, ?_, Sat.mapI_of (a := ar.eraseIdxIfInBounds i) (clock := ck) ⟨?_, ⟨?_, ?_, ?_⟩, hrng⟩ (s1.set), rfl, rfl⟩
    · have hw := run_setObj_map (P := P) (.map (ar.eraseIdxIfInBounds i) ck) hb
      simp [execOp, resolve, invoke, builtin, kn.ev hx, kn.ev hy, Builtin.delete_, e1, hg, hc, hf, q, hw]
    · rw [hsub]; exact a1
    · intro x hx
      rw [hsub] at hx
      exact hm.stamped.1 x ((List.eraseIdx_sublist _ _).mem hx)
    · rw [hsub]; exact List.Nodup.sublist ((List.eraseIdx_sublist _ _).map _) hm.stamped.2.1
    · rw [hsub]; exact List.Nodup.sublist ((List.eraseIdx_sublist _ _).map _) hm.stamped.2.2
end
end Go.Sep
/- Aggregates by cells; clear; structs of whole numbers compared. -/
namespace Go.Sep
open Go

section
variable {P : Program} {σ : Sig} {n : Nat} {ds : List Deferred} {env : Env} {l r : List HP} {dst : Option Tmp} {ty : TypeId} {pos : String} {af : Array Edge} {gd : Option (Nat × Bool)}

/-- An aggregate whose cells are known one by one. -/
theorem Ru.loadAC {x : Operand} {t : TypeId} {b o z : Nat} {vs : List Value} [AG P t true] [SZ P t z] (hx : ev env x = some (.pointer (some ⟨b, o, none⟩))) (hz : Nat.beq vs.length z = true)
    (hv : ∀ w, Sat σ w l → ∀ i u, vs[i]? = some u → w.cell? ⟨b, o + i, none⟩ = some u) : Ru P σ n env l ⟨dst, .load t x, ty, pos, af, gd⟩ (.agg vs.toArray) := by
  intro a w kn s
  have h2 := AG.eq (P := P) (t := t) w
  have h3 := SZ.eq (P := P) (t := t) w
  have hz' : vs.length = z := Nat.eq_of_beq_eq_true hz
  have hc := run_loadCells_list (P := P) (w := w) ⟨b, o, none⟩ vs (fun j v hj => by
    have e : Addr.add ⟨b, o, none⟩ j = ⟨b, o + j, none⟩ := by simp [Addr.add]
    rw [e]; exact hv w s j v hj)
  rw [hz'] at hc
  simp [execOp, kn.ev hx, Instr.loadAt, Instr.sureAddr, loadVar, h2, h3, hc]

theorem Weak.under {p a : HP} {l r : List HP} (k : Weak l (a :: r)) : Weak (p :: l) (a :: p :: r) := fun _ x => Holds.perm (.swap _ _ _) (Holds.tail k x)
theorem Ru.heapW {o : Oper} {v : Value} {l' : List HP} (k : Weak l l') (h : Ru P σ n env l' o v) : Ru P σ n env l o v := fun a w kn s => h a w kn (Sat.weak k w s)
/-- clear of a slice whose elements have one cell each. -/
theorem Do.clear {x : Operand} {t e : TypeId} {b o len cap E : Nat} {vs : List Value} {zv : Value} [UT P t (.slice e)] [ZV P e zv] (hx : ev env x = some (.slice (some ⟨b, o, none⟩) len cap))
    (hp : Pick (arr b E vs) l r) (hl : o + len ≤ vs.length) (hz : zv.oneCell' = true := by rfl) :
    Do P σ n env l ⟨dst, .call ⟨.builtin .clear, #[x], #[t]⟩, ty, pos, af, gd⟩ (fun u l' => u = .tuple #[] ∧ l' = arr b E (splice vs o (List.replicate len zv)) :: r) := by
  refine Do.value fun a w kn s => ?_
  have e1 := UT.run (P := P) (t := t) w
  have e4 := ZV.eq (P := P) (t := e) w
  have hcs : zv.cells = #[zv] := by cases zv <;> first | rfl | cases hz
  have hzc : (Builtin.zeroCells zv.cells len).toList = List.replicate len zv := by
    rw [hcs]
    simp only [Builtin.zeroCells]
    apply List.ext_getElem
    · simp
    · intro j h1 h2; simp [Nat.mod_one]
  by_cases h0 : len = 0
  · subst h0
    refine ⟨.tuple #[], w, _, ?_, s.perm hp, rfl, by simp [splice]⟩
    simp [execOp, resolve, invoke, builtin, Builtin.clear_, kn.ev hx, e1]
  · obtain ⟨w', hr, s'⟩ := Sat.storeCells (P := P) (σ := σ) (List.replicate len zv) vs o 0 w (by intro c hc; rw [List.eq_of_mem_replicate hc]; exact hz) (by simp; omega) (s.perm hp)
    refine ⟨.tuple #[], w', _, ?_, s', rfl, by rw [Nat.add_zero]⟩
    obtain ⟨m, rfl⟩ : ∃ m, len = m + 1 := ⟨len - 1, by omega⟩
    simp [execOp, resolve, invoke, builtin, Builtin.clear_, kn.ev hx, e1, e4, hzc, hr]

/-! ### Structs of whole numbers and bools -/
inductive FK where
  | int
  | bool
def FsOk (P : Program) : Nat → List Field → List FK → Prop
  | _, [], [] => True
  | o, f :: fs, k :: ks => f.name ≠ "_" ∧ f.offset = o ∧ (∀ w, (isAgg f.type).run P w = .ok false w) ∧ (match k with
      | .int => ∃ d, P.underlying f.type = some (.int d)
      | .bool => P.underlying f.type = some .bool) ∧ FsOk P (o + 1) fs ks
  | _, _, _ => False
class SF (P : Program) (t : TypeId) (ks : outParam (List FK)) : Prop where
  u : ∃ fs : Array Field, P.underlying t = some (.struct fs) ∧ FsOk P 0 fs.toList ks
  g : P.eqGuardType P.depth t = false
  s : P.stoodInHeld t = false
def eqV : FK → Value → Value → Option Bool
  | .int, .int k a, .int k' b => if k = k' then some (a == b) else none
  | .bool, .bool a, .bool b => some (a == b)
  | _, _, _ => none
def eqVs : List FK → List Value → List Value → Option Bool
  | [], [], [] => some true
  | k :: ks, x :: xs, y :: ys => match eqV k x y, eqVs ks xs ys with
    | some a, some b => some (a && b)
    | _, _ => none
  | _, _, _ => none
theorem eqV_int {x y : Value} {c : Bool} (h : eqV .int x y = some c) : ∃ k a b, x = .int k a ∧ y = .int k b ∧ c = (a == b) := by
  cases x <;> cases y <;> first | (simp only [eqV] at h; split at h; (rename_i hk; subst hk; exact ⟨_, _, _, rfl, rfl, (Option.some.inj h).symm⟩); cases h) | cases h
theorem eqV_bool {x y : Value} {c : Bool} (h : eqV .bool x y = some c) : ∃ a b, x = .bool a ∧ y = .bool b ∧ c = (a == b) := by
  cases x <;> cases y <;> first | exact ⟨_, _, rfl, rfl, (Option.some.inj h).symm⟩ | cases h
theorem run_eqFs {w : World} (d : Nat) (A B : Array Value) : ∀ (fs : List Field) (ks : List FK) (o : Nat) (xs ys : List Value) (b : Bool), FsOk P o fs ks → eqVs ks xs ys = some b → (∀ i u, xs[i]? = some u → A[o + i]? = some u) → (∀ i u, ys[i]? = some u → B[o + i]? = some u) →
    (Op.eqFields (d + 1) A B fs).run P w = .ok b w
  | [], [], o, [], [], b, _, h, _, _ => by simp [eqVs] at h; subst h; rfl
  | f :: fs, k :: ks, o, x :: xs, y :: ys, b, ⟨h1, h2, h3, h4, h5⟩, h, hA, hB => by
    simp only [eqVs] at h
    split at h
    · rename_i c c' hc hc'
      simp only [Option.some.injEq] at h
      have ih := run_eqFs (w := w) d A B fs ks (o + 1) xs ys c' h5 hc' (fun i u hu => by have := hA (i + 1) u (by simpa using hu); rwa [show o + (i + 1) = o + 1 + i by omega] at this) (fun i u hu => by have := hB (i + 1) u (by simpa using hu); rwa [show o + (i + 1) = o + 1 + i by omega] at this)
      have hx : A[o]? = some x := hA 0 x rfl
      have hy : B[o]? = some y := hB 0 y rfl
      have hp1 : (part f.type A f.offset).run P w = .ok x w := by simp [part, h3, h2, hx]
      have hp2 : (part f.type B f.offset).run P w = .ok y w := by simp [part, h3, h2, hy]
      have hq : (Op.equalIn (d + 1) f.type x y).run P w = .ok c w := by
        cases k with
        | int =>
          obtain ⟨dk, hk⟩ := h4
          obtain ⟨k1, a1, b1, rfl, rfl, rfl⟩ := eqV_int hc
          exact run_equalIn_int w d _ _ _ _ _ hk
        | bool =>
          obtain ⟨a1, b1, rfl, rfl, rfl⟩ := eqV_bool hc
          exact run_equalIn_bool' w d _ _ _ h4
      rw [← h]
      simp only [Op.eqFields, ne_eq, h1, not_false_eq_true, if_true, Sem.run_bind, hp1, hp2, hq, Result.andThen_ok]
      cases c
      · simp
      · simpa using ih
    · cases h
  | [], _ :: _, _, _, _, _, h, _, _, _ => h.elim
  | _ :: _, [], _, _, _, _, h, _, _, _ => h.elim
  | [], [], _, _ :: _, _, _, _, h, _, _ => by simp [eqVs] at h
  | [], [], _, [], _ :: _, _, _, h, _, _ => by simp [eqVs] at h
  | _ :: _, _ :: _, _, [], _, _, _, h, _, _ => by simp [eqVs] at h
  | _ :: _, _ :: _, _, _ :: _, [], _, _, h, _, _ => by simp [eqVs] at h
theorem run_eqSF {w : World} {t : TypeId} {ks : List FK} [h : SF P t ks] {xs ys : List Value} {b : Bool} (he : eqVs ks xs ys = some b) : (Op.equalIn 10000 t (.agg xs.toArray) (.agg ys.toArray)).run P w = .ok b w := by
  obtain ⟨fs, hu, hf⟩ := h.u
  have hfo : P.fieldsOf t = fs := by simp [Program.fieldsOf, hu]
  rw [run_equalIn_struct w 9999 t _ _ (by rw [hfo]; exact hu) h.s, hfo]
  exact run_eqFs 9998 _ _ fs.toList ks 0 xs ys b hf he (fun i u hu => by simpa using hu) (fun i u hu => by simpa using hu)
theorem Ru.eqlF {x y : Operand} {t t' : TypeId} {ks : List FK} [h : SF P t ks] {xs ys : List Value} {b : Bool} (hx : ev env x = some (.agg xs.toArray)) (hy : ev env y = some (.agg ys.toArray)) (he : eqVs ks xs ys = some b) : Ru P σ n env l ⟨dst, .binOp .eql t x y t', ty, pos, af, gd⟩ (.bool b) := by
  intro a w kn _
  rw [run_bin (kn.ev hx) (kn.ev hy), run_eqGuard_agg w _ _ _ _ _ _ h.g, Result.andThen_ok, run_eql_struct, run_eqSF he]
  rfl
theorem Ru.neqF {x y : Operand} {t t' : TypeId} {ks : List FK} [h : SF P t ks] {xs ys : List Value} {b : Bool} (hx : ev env x = some (.agg xs.toArray)) (hy : ev env y = some (.agg ys.toArray)) (he : eqVs ks xs ys = some b) : Ru P σ n env l ⟨dst, .binOp .neq t x y t', ty, pos, af, gd⟩ (.bool (!b)) := by
  intro a w kn _
  rw [run_bin (kn.ev hx) (kn.ev hy), run_eqGuard_agg w _ _ _ _ _ _ h.g, Result.andThen_ok, run_neq_struct, run_eqSF he]
  rfl
end
end Go.Sep
