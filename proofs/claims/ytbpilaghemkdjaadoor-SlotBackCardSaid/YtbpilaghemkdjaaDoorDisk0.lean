/- The disk: what it is. -/
import Derived.Test.YtbpilaghemkdjaaDoorLib1
namespace Go.Sep
open Go Go.Proofs
variable {σ : Sig} {F : List HP}
structure DiskN where
  size : Nat
  data : List UInt8
  cached : List (Int × List UInt8)
  planned : List Int
  ops : Nat
  writes : Nat
abbrev bytesHP (v : Value) (bs : List UInt8) : HP := ownS v 5 1 bs.length (bs.map byte)
def rowHP (p : Int × Value × List UInt8) : HP := bytesHP p.2.1 p.2.2
/-- The cache: a map, and each entry's own bytes. -/
def cacheHP (cm : Nat) (C : List (Int × List UInt8)) : HP := fun h => ∃ R : List (Int × Value × List UInt8), C = R.map (fun p => (p.1, p.2.2)) ∧ Holds [mapI cm (R.map fun p => (p.1, p.2.1)), star (R.map rowHP)] h
def planHP (pm : Nat) (ps : List Int) : HP := mapI pm (ps.map fun k => (k, .agg #[]))
abbrev diskCells (D : DiskN) (lv : Value) (cm pm : Nat) : List Value := [int D.size, lv, .map (some cm), .map (some pm), int D.ops, int D.writes]
abbrev opn (d : Nat) (D : DiskN) (lv : Value) (cm pm : Nat) (F : List HP) : List HP := arr d 79 (diskCells D lv cm pm) :: bytesHP lv D.data :: cacheHP cm D.cached :: planHP pm D.planned :: F
def diskHP (d : Nat) (D : DiskN) : HP := fun h => ∃ (lv : Value) (cm pm : Nat), Holds (opn d D lv cm pm []) h
theorem Sat.disk {w : World} {d : Nat} {D : DiskN} {l : List HP} : Sat σ w (diskHP d D :: l) ↔ ∃ lv cm pm, Sat σ w (opn d D lv cm pm l) := by
  constructor
  · rintro ⟨hs, h1, h2, a, b, c, ⟨lv, cm, pm, x⟩, e⟩
    exact ⟨lv, cm, pm, hs, Holds.append.2 ⟨h1, h2, a, b, c, x, e⟩⟩
  · rintro ⟨lv, cm, pm, hs, x⟩
    obtain ⟨h1, h2, a, b, c, y, e⟩ := Holds.append (l := opn d D lv cm pm []).1 x
    exact ⟨hs, h1, h2, a, b, c, ⟨lv, cm, pm, y⟩, e⟩
theorem Fn.disk {P : Program} {f : FuncId} {args : Array Value} {post : Value → List HP → Prop} {d : Nat} {D : DiskN} {l : List HP} (h : ∀ lv cm pm, Fn P σ f args (opn d D lv cm pm l) post) : Fn P σ f args (diskHP d D :: l) post := by
  intro w s
  obtain ⟨lv, cm, pm, s'⟩ := Sat.disk.1 s
  exact h lv cm pm w s'
theorem finK {post : Value → List HP → Prop} {v : Value} {d : Nat} {D : DiskN} {lv : Value} {cm pm : Nat} {l : List HP} (h : fin post v (diskHP d D :: l) σ) : fin post v (opn d D lv cm pm l) σ := by
  obtain ⟨l', e, p⟩ := h
  exact ⟨l', fun w s => e w (Sat.disk.2 ⟨lv, cm, pm, s⟩), p⟩

theorem Ru.lookPlan {P : Program} {n : Nat} {env : Env} {l r : List HP} {dst : Option Tmp} {ty : TypeId} {pos : String} {af : Array Edge} {gd : Option (Nat × Bool)} {x y : Operand} {t kt e : TypeId} {b : Nat} {k : Int} {ps : List Int} [UT P t (.map kt e)] [UT P kt (.int .i64)] [ZV P e (.agg #[])]
    (hx : ev env x = some (.map (some b))) (hy : ev env y = some (.int .i64 k)) (hp : Pick (planHP b ps) l r) : Ru P σ n env l ⟨dst, .lookup t x y true, ty, pos, af, gd⟩ (.tuple #[.agg #[], .bool (ps.contains k)]) := by
  have := Ru.lookupI (σ := σ) (P := P) (n := n) (dst := dst) (ty := ty) (pos := pos) (af := af) (gd := gd) (t := t) hx hy hp
  have h : ∀ ps : List Int, (lookI (ps.map fun k => (k, Value.agg #[])) k).getD (.agg #[]) = .agg #[] ∧ (lookI (ps.map fun k => (k, Value.agg #[])) k).isSome = ps.contains k := by
    intro ps
    induction ps with
    | nil => exact ⟨rfl, rfl⟩
    | cons p ps ih =>
      rw [List.map_cons, lookI_cons, List.contains_cons]
      by_cases hk : k = p
      · subst hk; simp
      · have : (k == p) = false := by simpa using hk
        rw [if_neg hk, this]
        simpa using ih
  rw [(h ps).1, (h ps).2] at this
  exact this

def DiskN.tick (D : DiskN) : DiskN := { D with ops := D.ops + 1 }
def DiskN.failing (D : DiskN) : Bool := D.planned.contains ((D.ops : Int) + 1)
theorem Sat.cache0 {w : World} {cm : Nat} {l : List HP} (s : Sat σ w (pt cm (.map #[] 0) :: l)) : Sat σ w (cacheHP cm [] :: l) := by
  have := Sat.mapI_new s
  exact Sat.imp (fun _ x => ⟨[], rfl, _, fun _ => none, sub_refl _, fun _ _ e => (by cases e), fun _ => .inr rfl, x, _, _, sub_refl _, sub_refl _, fun _ => .inl rfl, trivial, trivial⟩) this
theorem Sat.plan0 {w : World} {pm : Nat} {l : List HP} (s : Sat σ w (pt pm (.map #[] 0) :: l)) : Sat σ w (planHP pm [] :: l) := Sat.mapI_new s

theorem lookI_map {α β : Type} (f : α → β) : ∀ (R : List (Int × α)) (k : Int), lookI (R.map fun p => (p.1, f p.2)) k = (lookI R k).map f
  | [], _ => rfl
  | (k', v) :: R, k => by
    rw [List.map_cons, lookI_cons, lookI_cons, lookI_map f R k]
    split <;> rfl
theorem lookI_mem {α : Type} {R : List (Int × α)} {k : Int} {v : α} (h : lookI R k = some v) : (k, v) ∈ R := by
  induction R with
  | nil => cases h
  | cons p R ih =>
    obtain ⟨k', v'⟩ := p
    rw [lookI_cons] at h
    split at h
    · rename_i e; subst e; cases h; exact List.mem_cons_self
    · exact List.mem_cons_of_mem _ (ih h)
theorem updI_map {α β : Type} (f : α → β) : ∀ (R : List (Int × α)) (k : Int) (v : α), updI (R.map fun p => (p.1, f p.2)) k (f v) = (updI R k v).map fun p => (p.1, f p.2)
  | [], _, _ => rfl
  | (k', v') :: R, k, v => by
    simp only [List.map_cons, updI]
    split
    · rfl
    · rw [updI_map f R k v]; rfl
theorem delI_map {α β : Type} (f : α → β) : ∀ (R : List (Int × α)) (k : Int), delI (R.map fun p => (p.1, f p.2)) k = (delI R k).map fun p => (p.1, f p.2)
  | [], _ => rfl
  | (k', v') :: R, k => by
    simp only [List.map_cons, delI]
    split
    · rfl
    · rw [delI_map f R k]; rfl

/-- The cache, opened. -/
theorem Sat.cache {w : World} {cm : Nat} {C : List (Int × List UInt8)} {l : List HP} : Sat σ w (cacheHP cm C :: l) ↔ ∃ R : List (Int × Value × List UInt8), C = R.map (fun p => (p.1, p.2.2)) ∧ Sat σ w (Sep.mapI cm (R.map fun p => (p.1, p.2.1)) :: Sep.star (R.map rowHP) :: l) := by
  constructor
  · rintro ⟨hs, h1, h2, a, b, c, ⟨R, e1, x⟩, e⟩
    have y := (Holds.append (l := [Sep.mapI cm (R.map fun (p : Int × Value × List UInt8) => (p.1, p.2.1)), Sep.star (R.map rowHP)]) (l' := l)).2 ⟨h1, h2, a, b, c, x, e⟩
    exact ⟨R, e1, hs, y⟩
  · rintro ⟨R, e1, hs, x⟩
    obtain ⟨h1, h2, a, b, c, y, e⟩ := (Holds.append (l := [Sep.mapI cm (R.map fun (p : Int × Value × List UInt8) => (p.1, p.2.1)), Sep.star (R.map rowHP)]) (l' := l)).1 x
    exact ⟨hs, h1, h2, a, b, c, ⟨R, e1, y⟩, e⟩
theorem JO.cache {P : Program} {n : Nat} {ds : List Deferred} {ops : Array Oper} {Q : Exit → Act → World → Prop} {rest : List Oper} {env : Env} {l r : List HP} {cm : Nat} {C : List (Int × List UInt8)} (hp : Pick (cacheHP cm C) l r)
    (h : ∀ R : List (Int × Value × List UInt8), C = R.map (fun p => (p.1, p.2.2)) → JO P σ n ds ops Q rest env (Sep.mapI cm (R.map fun p => (p.1, p.2.1)) :: Sep.star (R.map rowHP) :: r)) : JO P σ n ds ops Q rest env l := by
  intro a w ka kd s
  obtain ⟨R, e, s'⟩ := Sat.cache.1 (s.perm hp)
  exact h R e a w ka kd s'
theorem JC.cache {P : Program} {n : Nat} {ds : List Deferred} {c : Code} {Q : Exit → Act → World → Prop} {env : Env} {l r : List HP} {cm : Nat} {C : List (Int × List UInt8)} (hp : Pick (cacheHP cm C) l r)
    (h : ∀ R : List (Int × Value × List UInt8), C = R.map (fun p => (p.1, p.2.2)) → JC P σ n ds c Q env (Sep.mapI cm (R.map fun p => (p.1, p.2.1)) :: Sep.star (R.map rowHP) :: r)) : JC P σ n ds c Q env l := by
  intro a w ka kd s
  obtain ⟨R, e, s'⟩ := Sat.cache.1 (s.perm hp)
  exact h R e a w ka kd s'
/-- One of the rows, ahead of the others. -/
theorem Sat.row {w : World} {R : List (Int × Value × List UInt8)} {l : List HP} {p : Int × Value × List UInt8} (hp : p ∈ R) (s : Sat σ w (Sep.star (R.map rowHP) :: l)) : ∃ S, Sat σ w (rowHP p :: Sep.star S :: l) ∧ ∀ w, Sat σ w (Sep.star (R.map rowHP) :: l) → Sat σ w (rowHP p :: Sep.star S :: l) := by
  obtain ⟨a, b, rfl⟩ := List.mem_iff_append.1 hp
  have key : ∀ w, Sat σ w (Sep.star ((a ++ p :: b).map rowHP) :: l) → Sat σ w (rowHP p :: Sep.star (a.map rowHP ++ b.map rowHP) :: l) := fun w s => by
    refine ⟨s.1, ?_⟩
    have h := Holds.star.1 s.2
    rw [List.map_append, List.map_cons, List.append_assoc] at h
    have h2 := Holds.perm (List.perm_middle (a := rowHP p) (l₁ := a.map rowHP) (l₂ := b.map rowHP ++ l)) h
    rw [← List.append_assoc] at h2
    obtain ⟨h3, h4, x1, x2, x3, x4, x5⟩ := h2
    exact ⟨h3, h4, x1, x2, x3, x4, Holds.star.2 x5⟩
  exact ⟨_, key w s, key⟩
theorem Sat.rowR {w : World} {R : List (Int × Value × List UInt8)} {l r : List HP} {p : Int × Value × List UInt8} (hp : p ∈ R) (hk : Pick (Sep.star (R.map rowHP)) l r) (s : Sat σ w l) : RdS σ l p.2.1 (p.2.2.map byte) := by
  obtain ⟨S, s1, key⟩ := Sat.row hp (s.perm hk)
  exact s1.ownR.1.heap fun w s => key w (s.perm hk)
theorem JO.rowR {P : Program} {n : Nat} {ds : List Deferred} {ops : Array Oper} {Q : Exit → Act → World → Prop} {rest : List Oper} {env : Env} {R : List (Int × Value × List UInt8)} {l r : List HP} {p : Int × Value × List UInt8} (hp : p ∈ R) (hk : Pick (Sep.star (R.map rowHP)) l r)
    (h : RdS σ l p.2.1 (p.2.2.map byte) → JO P σ n ds ops Q rest env l) : JO P σ n ds ops Q rest env l := fun a w ka kd s => h (s.rowR hp hk) a w ka kd s
/-- The disk's bytes, as a slice. -/
theorem Sat.bytes {w : World} {v : Value} {bs : List UInt8} {l : List HP} (s : Sat σ w (bytesHP v bs :: l)) : ∃ p c, v = .slice p bs.length c ∧ bs.length ≤ c ∧ (p = none ∧ bs.length = 0 ∨ ∃ b, p = some ⟨b, 0, none⟩) := by
  obtain ⟨_, _, h⟩ := s.ownR
  rcases h with ⟨rfl, h⟩ | ⟨b, c, rfl, h⟩
  · exact ⟨none, 0, by rw [h], by omega, .inl ⟨rfl, h⟩⟩
  · exact ⟨_, c, rfl, h, .inr ⟨b, rfl⟩⟩
theorem Fn.bytes {P : Program} {f : FuncId} {args : Array Value} {post : Value → List HP → Prop} {v : Value} {bs : List UInt8} {l r : List HP} (hp : Pick (bytesHP v bs) l r)
    (h : ∀ p c, v = .slice p bs.length c → bs.length ≤ c → (p = none ∧ bs.length = 0 ∨ ∃ b, p = some ⟨b, 0, none⟩) → Fn P σ f args l post) : Fn P σ f args l post := fun w s =>
  let ⟨p, c, h1, h2, h3⟩ := (s.perm hp).bytes
  h p c h1 h2 h3 w s
theorem Ru.lookupO {P : Program} {n : Nat} {env : Env} {l r : List HP} {dst : Option Tmp} {ty : TypeId} {pos : String} {af : Array Edge} {gd : Option (Nat × Bool)} {x y : Operand} {t kt e : TypeId} {b : Nat} {k : Int} {es : List (Int × Value)} {zv : Value} {o : Option Value} [UT P t (.map kt e)] [UT P kt (.int .i64)] [ZV P e zv]
    (hx : ev env x = some (.map (some b))) (hy : ev env y = some (.int .i64 k)) (hp : Pick (mapI b es) l r) (ho : lookI es k = o) : Ru P σ n env l ⟨dst, .lookup t x y true, ty, pos, af, gd⟩ (.tuple #[o.getD zv, .bool o.isSome]) := by
  subst ho; exact Ru.lookupI hx hy hp

/-! ### What a disk is good for -/
def DiskN.count (D : DiskN) : Nat := D.data.length / D.size
structure DiskN.WF (D : DiskN) : Prop where
  hz : 1 ≤ D.size
  hz2 : D.size ≤ 4096
  len : D.data.length = D.count * D.size
  cnt : D.count ≤ 4096
  cach : ∀ p ∈ D.cached, 0 ≤ p.1 ∧ p.1 < D.count ∧ p.2.length = D.size
  nodup : (D.cached.map (·.1)).Nodup
  few : D.cached.length ≤ D.writes
theorem DiskN.WF.small {D : DiskN} (h : D.WF) : D.data.length ≤ 16777216 := by
  rw [h.len]; exact Nat.mul_le_mul h.cnt h.hz2
theorem DiskN.WF.tick {D : DiskN} (h : D.WF) : D.tick.WF := ⟨h.hz, h.hz2, h.len, h.cnt, h.cach, h.nodup, h.few⟩
/-- A sector as it lasts; as it is read. -/
def DiskN.sector (D : DiskN) (i : Nat) : List UInt8 := (D.data.drop (i * D.size)).take D.size
def DiskN.cur (D : DiskN) (i : Nat) : List UInt8 := (lookI D.cached i).getD (D.sector i)
def DiskN.readE (D : DiskN) (i : Int) : Int := if D.failing = true then 3 else if i < 0 ∨ (D.count : Int) ≤ i then 2 else 0
theorem DiskN.WF.sector {D : DiskN} (h : D.WF) {i : Nat} (hi : i < D.count) : (D.sector i).length = D.size := by
  have h1 : (i + 1) * D.size ≤ D.count * D.size := Nat.mul_le_mul_right _ hi
  rw [Nat.succ_mul] at h1
  have := h.len
  simp only [DiskN.sector, List.length_take, List.length_drop]
  omega
theorem DiskN.WF.cur {D : DiskN} (h : D.WF) {i : Nat} (hi : i < D.count) : (D.cur i).length = D.size := by
  unfold DiskN.cur
  cases q : lookI D.cached i with
  | none => exact h.sector hi
  | some bs => exact (h.cach _ (lookI_mem q)).2.2
/-- The disk, opened with its cache. -/
abbrev opn2 (d : Nat) (D : DiskN) (lv : Value) (cm pm : Nat) (R : List (Int × Value × List UInt8)) (F : List HP) : List HP :=
  mapI cm (R.map fun p => (p.1, p.2.1)) :: star (R.map rowHP) :: arr d 79 (diskCells D lv cm pm) :: bytesHP lv D.data :: planHP pm D.planned :: F
theorem Sat.close {w : World} {d : Nat} {D : DiskN} {lv : Value} {cm pm : Nat} {R : List (Int × Value × List UInt8)} {l : List HP} (hR : D.cached = R.map (fun p => (p.1, p.2.2))) (s : Sat σ w (opn2 d D lv cm pm R l)) : Sat σ w (diskHP d D :: l) :=
  Sat.disk.2 ⟨lv, cm, pm, (Sat.cache.2 ⟨R, hR, s⟩).perm (.trans (.swap _ _ _) (.cons _ (.swap _ _ _)))⟩

theorem Holds.updRows {α : Type} (f : Int × α → HP) (k : Int) (v : α) (l : List HP) : ∀ (R : List (Int × α)) {h : PH}, Holds (f (k, v) :: (R.map f ++ l)) h → Holds ((updI R k v).map f ++ l) h
  | [], _, x => x
  | (k', v') :: R, h, x => by
    simp only [updI]
    split
    · exact Holds.tail (fun _ y => Holds.drop y) x
    · exact Holds.tail (fun _ y => Holds.updRows f k v l R y) (Holds.perm (.swap _ _ _) x)
theorem Holds.delRows {α : Type} (f : Int × α → HP) (k : Int) (l : List HP) : ∀ (R : List (Int × α)) {h : PH}, Holds (R.map f ++ l) h → Holds ((delI R k).map f ++ l) h
  | [], _, x => x
  | (k', v') :: R, h, x => by
    simp only [delI]
    split
    · exact Holds.drop x
    · exact Holds.tail (fun _ y => Holds.delRows f k l R y) x
theorem Sat.updRows {w : World} {R : List (Int × Value × List UInt8)} {k : Int} {u : Value} {bs : List UInt8} {l : List HP} (s : Sat σ w (bytesHP u bs :: Sep.star (R.map rowHP) :: l)) : Sat σ w (Sep.star ((updI R k (u, bs)).map rowHP) :: l) :=
  ⟨s.1, Holds.star.2 (Holds.updRows rowHP k (u, bs) l R (Holds.tail (fun _ y => Holds.star.1 y) s.2))⟩
theorem Sat.delRows {w : World} {R : List (Int × Value × List UInt8)} {k : Int} {l : List HP} (s : Sat σ w (Sep.star (R.map rowHP) :: l)) : Sat σ w (Sep.star ((delI R k).map rowHP) :: l) :=
  ⟨s.1, Holds.star.2 (Holds.delRows rowHP k l R (Holds.star.1 s.2))⟩

def DiskN.put (D : DiskN) (i : Int) (bs : List UInt8) : DiskN := { D with ops := D.ops + 1, cached := updI D.cached i bs, writes := D.writes + 1 }
def DiskN.writeE (D : DiskN) (i : Int) (n : Nat) : Int := if D.failing = true then 3 else if i < 0 then 2 else if (D.count : Int) ≤ i then 4 else if n ≠ D.size then 1 else 0
theorem updI_keys {α : Type} : ∀ (R : List (Int × α)) (k : Int) (v : α), (updI R k v).map (·.1) = if (R.map (·.1)).contains k then R.map (·.1) else R.map (·.1) ++ [k]
  | [], _, _ => rfl
  | (k', v') :: R, k, v => by
    rw [updI, List.map_cons, List.contains_cons]
    by_cases h : k = k'
    · subst h; simp
    · have : (k == k') = false := by simpa using h
      rw [if_neg h, List.map_cons, updI_keys R k v, this, Bool.false_or]
      split <;> rfl
theorem DiskN.WF.put {D : DiskN} (h : D.WF) {i : Int} {bs : List UInt8} (h0 : 0 ≤ i) (h1 : i < D.count) (h2 : bs.length = D.size) : (D.put i bs).WF := by
  refine ⟨h.hz, h.hz2, h.len, h.cnt, ?_, ?_, ?_⟩
  · have : ∀ (C : List (Int × List UInt8)), (∀ p ∈ C, 0 ≤ p.1 ∧ p.1 < D.count ∧ p.2.length = D.size) → ∀ p ∈ updI C i bs, 0 ≤ p.1 ∧ p.1 < D.count ∧ p.2.length = D.size := by
      intro C
      induction C with
      | nil => intro _ p hp; simp [updI] at hp; subst hp; exact ⟨h0, h1, h2⟩
      | cons q C ih =>
        obtain ⟨k', v'⟩ := q
        intro hC p hp
        simp only [updI] at hp
        split at hp
        · rcases List.mem_cons.1 hp with rfl | hp
          · exact ⟨h0, h1, h2⟩
          · exact hC p (List.mem_cons_of_mem _ hp)
        · rcases List.mem_cons.1 hp with rfl | hp
          · exact hC _ List.mem_cons_self
          · exact ih (fun p hp => hC p (List.mem_cons_of_mem _ hp)) p hp
    exact this _ h.cach
  · show ((updI D.cached i bs).map (·.1)).Nodup
    rw [updI_keys]
    split
    · exact h.nodup
    · rename_i hc
      refine List.nodup_append.2 ⟨h.nodup, by simp, ?_⟩
      intro a ha b hb
      simp at hb; subst hb
      rintro rfl
      exact hc (by simpa using ha)
  · have : ∀ (C : List (Int × List UInt8)), (updI C i bs).length ≤ C.length + 1 := by
      intro C
      induction C with
      | nil => simp [updI]
      | cons q C ih =>
        obtain ⟨k', v'⟩ := q
        simp only [updI]
        split
        · simp
        · simp; omega
    have h1 := this D.cached
    have h2 := h.few
    show (updI D.cached i bs).length ≤ D.writes + 1
    omega

def addP (ps : List Int) (n : Int) : List Int := if ps.contains n then ps else ps ++ [n]
theorem addP_map : ∀ (ps : List Int) (n : Int), updI (ps.map fun k => (k, Value.agg #[])) n (.agg #[]) = (addP ps n).map fun k => (k, Value.agg #[])
  | [], _ => rfl
  | p :: ps, n => by
    have ih := addP_map ps n
    rw [List.map_cons, updI]
    unfold addP at ih ⊢
    rw [List.contains_cons]
    by_cases h : n = p
    · subst h; simp
    · have : (n == p) = false := by simpa using h
      rw [if_neg h, ih, this, Bool.false_or]
      split <;> rfl
def DiskN.plan (D : DiskN) (n : Int) : DiskN := { D with planned := addP D.planned n }
theorem DiskN.WF.plan {D : DiskN} (h : D.WF) (n : Int) : (D.plan n).WF := ⟨h.hz, h.hz2, h.len, h.cnt, h.cach, h.nodup, h.few⟩
theorem Do.planUpdate {P : Program} {n : Nat} {env : Env} {l r : List HP} {dst : Option Tmp} {ty : TypeId} {pos : String} {af : Array Edge} {gd : Option (Nat × Bool)} {x y z : Operand} {t kt e : TypeId} {b : Nat} {k : Int} {ps : List Int} [UT P t (.map kt e)] [UT P kt (.int .i64)] (hx : ev env x = some (.map (some b))) (hy : ev env y = some (.int .i64 k)) (hz : ev env z = some (.agg #[])) (hp : Pick (planHP b ps) l r)
    (hk : -9223372036854775808 ≤ k ∧ k ≤ 9223372036854775807) :
    Do P σ n env l ⟨dst, .mapUpdate t x y z, ty, pos, af, gd⟩ (fun u l' => u = undef ∧ l' = planHP b (addP ps k) :: r) := by
  have := Do.mapUpdateI (P := P) (σ := σ) (n := n) (dst := dst) (ty := ty) (pos := pos) (af := af) (gd := gd) (t := t) hx hy hz hp hk
  rw [addP_map] at this
  exact this

/-- A question whose part of the heap stays as it is. -/
theorem Fn.stay {P : Program} {f : FuncId} {args : Array Value} {p : HP} {l r : List HP} {u : Value} (hp : Pick p l r) (h : Fn P σ f args (p :: r) (fun v l' => v = u ∧ l' = p :: r)) : Fn P σ f args l (fun v l' => v = u ∧ l' = l) := by
  intro w s
  refine (h w (s.perm hp)).mono ?_
  rintro e w' ⟨v, l', rfl, ⟨rfl, rfl⟩, s'⟩
  exact ⟨_, l, rfl, ⟨rfl, rfl⟩, s'.perm hp.symm⟩
theorem Fn.diskQ {P : Program} {f : FuncId} {args : Array Value} {d : Nat} {D : DiskN} {l r : List HP} {u : Value} (hp : Pick (diskHP d D) l r)
    (h : ∀ p c cm pm, D.data.length ≤ c → Fn P σ f args (opn d D (.slice p D.data.length c) cm pm r) (fun v l' => v = u ∧ l' = opn d D (.slice p D.data.length c) cm pm r)) : Fn P σ f args l (fun v l' => v = u ∧ l' = l) := by
  refine Fn.stay hp (Fn.disk fun lv cm pm => Fn.bytes (Pick.there Pick.here) fun p c hlv hlc _ => ?_)
  subst hlv
  intro w s
  refine (h p c cm pm hlc w s).mono ?_
  rintro e w' ⟨v, l', rfl, ⟨rfl, rfl⟩, s'⟩
  exact ⟨_, _, rfl, ⟨rfl, rfl⟩, Sat.disk.2 ⟨_, cm, pm, s'⟩⟩

theorem JC.disk {P : Program} {n : Nat} {ds : List Deferred} {c : Code} {Q : Exit → Act → World → Prop} {env : Env} {l r : List HP} {d : Nat} {D : DiskN} (hp : Pick (diskHP d D) l r) (h : ∀ lv cm pm, JC P σ n ds c Q env (opn d D lv cm pm r)) : JC P σ n ds c Q env l := by
  intro a w ka kd s
  obtain ⟨lv, cm, pm, s'⟩ := Sat.disk.1 (s.perm hp)
  exact h lv cm pm a w ka kd s'
theorem JC.rowR {P : Program} {n : Nat} {ds : List Deferred} {c : Code} {Q : Exit → Act → World → Prop} {env : Env} {R : List (Int × Value × List UInt8)} {l r : List HP} {p : Int × Value × List UInt8} (hp : p ∈ R) (hk : Pick (Sep.star (R.map rowHP)) l r)
    (h : RdS σ l p.2.1 (p.2.2.map byte) → JC P σ n ds c Q env l) : JC P σ n ds c Q env l := fun a w ka kd s => h (s.rowR hp hk) a w ka kd s
/-- The sector's bytes, laid into the disk's. -/
def setSec (data : List UInt8) (size i : Nat) (bs : List UInt8) : List UInt8 := data.take (i * size) ++ bs ++ data.drop (i * size + bs.length)
theorem setSec_length {data : List UInt8} {size i : Nat} {bs : List UInt8} (h : i * size + bs.length ≤ data.length) : (setSec data size i bs).length = data.length := by
  simp only [setSec, List.length_append, List.length_take, List.length_drop]; omega
/-- One sector of the cache comes to last. -/
def DiskN.settle (D : DiskN) (i : Int) : DiskN := match lookI D.cached i with
  | some bs => { D with data := setSec D.data D.size i.toNat bs, cached := delI D.cached i }
  | none => D
theorem delI_len {α : Type} (C : List (Int × α)) (k : Int) : (delI C k).length ≤ C.length := (delI_sub C k).length_le
theorem DiskN.WF.settle {D : DiskN} (h : D.WF) (i : Int) : (D.settle i).WF ∧ (D.settle i).size = D.size ∧ (D.settle i).count = D.count ∧ (D.settle i).ops = D.ops ∧ (D.settle i).writes = D.writes ∧ (D.settle i).planned = D.planned := by
  unfold DiskN.settle
  cases q : lookI D.cached i with
  | none => exact ⟨h, rfl, rfl, rfl, rfl, rfl⟩
  | some bs =>
    obtain ⟨h1, h2, h3⟩ := h.cach _ (lookI_mem q)
    dsimp only at h1 h2 h3
    have hr : (i.toNat + 1) * D.size ≤ D.count * D.size := Nat.mul_le_mul_right _ (by omega)
    rw [Nat.succ_mul, ← h.len] at hr
    have hl := setSec_length (data := D.data) (size := D.size) (i := i.toNat) (bs := bs) (by omega)
    have hc : (setSec D.data D.size i.toNat bs).length / D.size = D.count := by rw [hl]; rfl
    refine ⟨⟨h.hz, h.hz2, ?_, ?_, ?_, ?_, ?_⟩, rfl, hc, rfl, rfl, rfl⟩
    · show (setSec D.data D.size i.toNat bs).length = (setSec D.data D.size i.toNat bs).length / D.size * D.size
      rw [hc, hl]; exact h.len
    · show (setSec D.data D.size i.toNat bs).length / D.size ≤ 4096
      rw [hc]; exact h.cnt
    · intro p hp
      have := h.cach p ((delI_sub _ _).mem hp)
      exact ⟨this.1, by show p.1 < (((setSec D.data D.size i.toNat bs).length / D.size : Nat) : Int); rw [hc]; exact this.2.1, this.2.2⟩
    · exact List.Nodup.sublist ((delI_sub _ _).map _) h.nodup
    · exact Nat.le_trans (delI_len _ _) h.few
theorem Fn.diskD {P : Program} {f : FuncId} {args : Array Value} {d : Nat} {D D' : DiskN} {l : List HP} {u : Value}
    (h : ∀ lv cm pm, Fn P σ f args (opn d D lv cm pm l) (fun v l' => v = u ∧ l' = opn d D' lv cm pm l)) : Fn P σ f args (diskHP d D :: l) (fun v l' => v = u ∧ l' = diskHP d D' :: l) := by
  refine Fn.disk fun lv cm pm => ?_
  intro w s
  refine (h lv cm pm w s).mono ?_
  rintro e w' ⟨v, l', rfl, ⟨rfl, rfl⟩, s'⟩
  exact ⟨_, _, rfl, ⟨rfl, rfl⟩, Sat.disk.2 ⟨_, cm, pm, s'⟩⟩
theorem Ru.lookupO0 {P : Program} {n : Nat} {env : Env} {l r : List HP} {dst : Option Tmp} {ty : TypeId} {pos : String} {af : Array Edge} {gd : Option (Nat × Bool)} {x y : Operand} {t kt e : TypeId} {b : Nat} {k : Int} {es : List (Int × Value)} {zv : Value} {o : Option Value} [UT P t (.map kt e)] [UT P kt (.int .i64)] [ZV P e zv]
    (hx : ev env x = some (.map (some b))) (hy : ev env y = some (.int .i64 k)) (hp : Pick (mapI b es) l r) (ho : lookI es k = o) : Ru P σ n env l ⟨dst, .lookup t x y false, ty, pos, af, gd⟩ (o.getD zv) := by
  subst ho; exact Ru.lookupI0 hx hy hp

/-- So many questions asked. -/
def DiskN.ticks (D : DiskN) (k : Nat) : DiskN := { D with ops := D.ops + k }
theorem DiskN.WF.ticks {D : DiskN} (h : D.WF) (k : Nat) : (D.ticks k).WF := ⟨h.hz, h.hz2, h.len, h.cnt, h.cach, h.nodup, h.few⟩
theorem JO.rowsR {P : Program} {n : Nat} {ds : List Deferred} {ops : Array Oper} {Q : Exit → Act → World → Prop} {rest : List Oper} {env : Env} {R : List (Int × Value × List UInt8)} {l r : List HP} (hk : Pick (Sep.star (R.map rowHP)) l r)
    (h : (∀ p ∈ R, RdS σ l p.2.1 (p.2.2.map byte)) → JO P σ n ds ops Q rest env l) : JO P σ n ds ops Q rest env l := fun a w ka kd s => h (fun _ hp => s.rowR hp hk) a w ka kd s
theorem Sat.rowPush {w : World} {R : List (Int × Value × List UInt8)} {p : Int × Value × List UInt8} {l : List HP} (s : Sat σ w (bytesHP p.2.1 p.2.2 :: Sep.star (R.map rowHP) :: l)) : Sat σ w (Sep.star ((R ++ [p]).map rowHP) :: l) := by
  refine ⟨s.1, Holds.star.2 ?_⟩
  have h : Holds (rowHP p :: (R.map rowHP ++ l)) (heapOf w) := Holds.tail (fun _ y => Holds.star.1 y) s.2
  rw [List.map_append, List.append_assoc]
  exact Holds.perm (List.perm_middle (a := rowHP p) (l₁ := R.map rowHP) (l₂ := l)).symm h
theorem Sat.star0 {w : World} {l : List HP} (s : Sat σ w l) : Sat σ w (Sep.star [] :: l) := ⟨s.1, Holds.star.2 s.2⟩
end Go.Sep
