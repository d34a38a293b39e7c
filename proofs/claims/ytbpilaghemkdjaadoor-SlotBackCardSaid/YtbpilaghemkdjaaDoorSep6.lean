/- make, copy; what is one's own is read. -/
import Derived.Test.YtbpilaghemkdjaaDoorSep5
namespace Go.Sep
open Go

section
variable {P : Program} {σ : Sig} {n : Nat} {env : Env} {l r : List HP} {dst : Option Tmp} {ty : TypeId} {pos : String} {af : Array Edge} {gd : Option (Nat × Bool)}

theorem Do.makeSlice {x y : Operand} {t e : TypeId} {i : TypeInfo} {zv : Value} {k c : Nat} [UT P t (.slice e)] [SZ P e 1] [TI P e i] [ZV P e zv] (hx : ev env x = some (.int .i64 k)) (hy : ev env y = some (.int .i64 c))
    (hkc : k ≤ c) (hc : c * i.bytes ≤ 281474976710656) (hc2 : c ≤ 9223372036854775807) (hz : zv.oneCell' = true := by rfl) :
    Do P σ n env l ⟨dst, .makeSlice t x y, ty, pos, af, gd⟩ (fun u l' => ∃ b, u = .slice (some ⟨b, 0, none⟩) k c ∧ l' = arr b e (List.replicate c zv) :: l) := by
  refine Do.value fun a w kn s => ?_
  have e1 := UT.run (P := P) (t := t) w
  have e2 := TI.eq (P := P) (t := e) w
  have e3 := SZ.eq (P := P) (t := e) w
  have e4 := ZV.eq (P := P) (t := e) w
  have hcs : zv.cells = #[zv] := by cases zv <;> first | rfl | cases hz
  have w1 : IntKind.i64.wrap (k : Int) = k := wrapI (by omega) (by omega)
  have w2 : IntKind.i64.wrap (c : Int) = c := wrapI (by omega) (by omega)
  have h48 : (2 : Int) ^ 48 = 281474976710656 := by rfl
  have t1 : ¬ ((i.bytes : Int) * (c : Int) > 2 ^ 48) := by
    have h : ((i.bytes * c : Nat) : Int) ≤ ((281474976710656 : Nat) : Int) := Int.ofNat_le.2 (by rw [Nat.mul_comm]; exact hc)
    rw [Int.natCast_mul] at h
    rw [h48]
    omega
  have hnew := s.newRow e (Array.replicate c zv)
  simp only [Array.toList_replicate] at hnew
  refine ⟨.slice (some ⟨w.heap.size, 0, none⟩) k c, _, _, ?_, hnew, _, rfl, rfl⟩
  have hm : ∀ zs : Array Value, (zs = if c = 0 then #[] else #[zv]) → (Array.range c).map (zs[· % zs.size]!) = Array.replicate c zv := by
    intro zs hzs
    apply Array.ext'
    simp only [Array.toList_map, Array.toList_range, Array.toList_replicate]
    by_cases h0 : c = 0
    · subst h0; rfl
    · rw [if_neg h0] at hzs
      subst hzs
      apply List.ext_getElem
      · simp
      · intro j h1 h2; simp [Nat.mod_one]
  have q1 : ¬ ((c : Int) < 0) := by omega
  have q2 : ¬ ((k : Int) < 0) := by omega
  have q3 : ¬ ((k : Int) > (c : Int)) := by omega
  have hcond : (((decide ((c : Int) < 0) || decide ((i.bytes : Int) * (c : Int) > 2 ^ 48)) || decide ((k : Int) < 0)) || decide ((k : Int) > (c : Int))) = true ↔ False := by
    rw [decide_eq_false q1, decide_eq_false t1, decide_eq_false q2, decide_eq_false q3]; decide
  simp only [execOp, Instr.makeSlice, kn.ev hx, kn.ev hy, asInt, asIntOf, Sem.run_bind, e1, e2, Sem.run_pure, Result.andThen_ok, w1, w2]
  rw [if_neg (by simpa using hcond.1)]
  by_cases h0 : c = 0
  · subst h0
    obtain rfl : k = 0 := by omega
    have hr : ∀ zs : Array Value, (Array.range 0).map (zs[· % zs.size]!) = (#[] : Array Value) := fun zs => by apply Array.ext'; simp
    simp only [Int.toNat_natCast, Nat.zero_mul, Sem.run_bind, run_askRoom, Result.andThen_ok, e3, if_true, Sem.run_pure, hr, newRow, run_newObj]
    rfl
  · have h1 : ¬ c * 1 = 0 := by omega
    have hm' := hm #[zv] (by rw [if_neg h0])
    simp only [Int.toNat_natCast, Sem.run_bind, run_askRoom, Result.andThen_ok, e3, if_neg h0, if_neg h1, e4, hcs, Sem.run_pure, newRow, run_newObj, Nat.mul_one, hm']

/-- x[i:j], x[i:j:m] of a slice. -/
def loOf (env : Env) (m : Nat) : Option Operand → Option Int
  | none => some m
  | some x => match ev env x with
    | some (.int _ i) => some i
    | _ => none
theorem run_bound {w : World} {k : IntKind} {i : Int} {y : Nat} {c : BoundsCode} (h : 0 ≤ i ∧ i ≤ y) : (Instr.sliceBound (.int k i) y c).run P w = .ok i.toNat w := by
  simp [Instr.sliceBound, asIntOf, h]
theorem Ru.sliceS {x : Operand} {t e : TypeId} {z b o len cap : Nat} {lo hi mx : Option Operand} {i j m : Int} [UT P t (.slice e)] [SZ P e z] (hx : ev env x = some (.slice (some ⟨b, o, none⟩) len cap))
    (h1 : loOf env 0 lo = some i) (h2 : loOf env len hi = some j) (h3 : loOf env cap mx = some m) (hmh : mx.isSome = true → hi.isSome = true) (hij : 0 ≤ i ∧ i ≤ j ∧ j ≤ m ∧ m ≤ cap) (hlm : i < m ∨ i = 0) (hlen : len ≤ cap) :
    Ru P σ n env l ⟨dst, .slice t x lo hi mx, ty, pos, af, gd⟩ (.slice (some ⟨b, o + i.toNat * z, none⟩) (j - i).toNat (m - i).toNat) := by
  intro a w kn s
  have e1 := UT.run (P := P) (t := t) w
  have e2 := SZ.eq (P := P) (t := e) w
  have hm : ∀ (q : Option Operand) (d : Nat) (v : Int), loOf env d q = some v → (q = none ∧ v = d) ∨ ∃ u k, q = some u ∧ a.eval u = .int k v := by
    intro q d v h
    cases q with
    | none => simp [loOf] at h; exact .inl ⟨rfl, h.symm⟩
    | some u =>
      simp only [loOf] at h
      split at h
      · rename_i k i he
        simp at h; subst h
        exact .inr ⟨u, k, rfl, kn.ev he⟩
      · cases h
  have hadd : (if m.toNat = i.toNat then some (⟨b, o, none⟩ : Addr) else some (Addr.add ⟨b, o, none⟩ (i.toNat * z))) = some ⟨b, o + i.toNat * z, none⟩ := by
    split
    · have : i.toNat = 0 := by omega
      simp [this]
    · simp [Addr.add]
  have hb1 := fun k c => run_bound (P := P) (w := w) (k := k) (i := i) (y := j.toNat) (c := c) (by omega)
  have hb2 := fun k c => run_bound (P := P) (w := w) (k := k) (i := j) (y := m.toNat) (c := c) (by omega)
  have hb3 := fun k c => run_bound (P := P) (w := w) (k := k) (i := m) (y := cap) (c := c) (by omega)
  have hb2' := fun k c => run_bound (P := P) (w := w) (k := k) (i := j) (y := cap) (c := c) (by omega)
  have hb1' := fun k c => run_bound (P := P) (w := w) (k := k) (i := i) (y := len) (c := c)
  have key : ∀ (L H M : Option Value), L = lo.map a.eval → H = hi.map a.eval → M = mx.map a.eval → (Instr.sliceBounds true len cap L H M).run P w = .ok (i.toNat, j.toNat, m.toNat) w := by
    intro L H M hL hH hM
    rcases hm _ _ _ h3 with ⟨rfl, rfl⟩ | ⟨u3, k3, rfl, g3⟩ <;> rcases hm _ _ _ h2 with ⟨rfl, rfl⟩ | ⟨u2, k2, rfl, g2⟩ <;> rcases hm _ _ _ h1 with ⟨rfl, rfl⟩ | ⟨u1, k1, rfl, g1⟩
    all_goals try (exfalso; have := hmh rfl; exact absurd this Bool.false_ne_true)
    all_goals subst hL; subst hH; subst hM
    all_goals simp [Instr.sliceBounds, *]
    all_goals first | omega | skip
  have hk := key _ _ _ rfl rfl rfl
  have hj : j.toNat - i.toNat = (j - i).toNat := by omega
  have hmm : m.toNat - i.toNat = (m - i).toNat := by omega
  have hadd' : (if m.toNat = i.toNat then some (⟨b, o, none⟩ : Addr) else (some (⟨b, o, none⟩ : Addr)).map (·.add (i.toNat * z))) = some ⟨b, o + i.toNat * z, none⟩ := hadd
  simp only [execOp, Instr.sliceAt, kn.ev hx, Sem.run_bind, e1, Result.andThen_ok, Instr.slice, hk, e2, Sem.run_pure, hadd', hj, hmm]

/-- copy of one slice's cells into another's. -/
theorem Do.copy {x y : Operand} {t t' e : TypeId} {b o len cap m c E : Nat} {p : Option Addr} {vs ys : List Value} [UT P t (.slice e)] [SZ P e 1] (hx : ev env x = some (.slice (some ⟨b, o, none⟩) len cap)) (hy : ev env y = some (.slice p m c))
    (hp : Pick (arr b E vs) l r) (hrd : RdS σ l (.slice p m c) ys) (hl : o + len ≤ vs.length) (h1 : ∀ q ∈ ys, q.oneCell' = true) :
    Do P σ n env l ⟨dst, .call ⟨.builtin .copy, #[x, y], #[t, t']⟩, ty, pos, af, gd⟩ (fun u l' => u = .int .i64 (min m len : Nat) ∧ l' = arr b E (splice vs o (ys.take (min m len))) :: r) := by
  refine Do.value fun a w kn s => ?_
  have e1 := UT.run (P := P) (t := t) w
  have e2 := SZ.eq (P := P) (t := e) w
  obtain ⟨p', cap', q1, q2, q3⟩ := hrd
  cases q1
  have hf := run_firstCells (P := P) (m := min ys.length len) (z := 1) (v := .slice p ys.length c) (cs := ys) (l := l) (w := w) ⟨p, c, rfl, q2, q3⟩ s (by omega)
  rw [Nat.mul_one] at hf
  obtain ⟨w', hr, s'⟩ := Sat.storeCells (P := P) (σ := σ) (ys.take (min ys.length len)) vs o 0 w (fun q hq => h1 q (List.mem_of_mem_take hq)) (by rw [List.length_take]; omega) (s.perm hp)
  refine ⟨_, w', _, ?_, s', rfl, rfl⟩
  have hnm : Nat.min ys.length len = min ys.length len := rfl
  simp [execOp, resolve, invoke, builtin, kn.ev hx, kn.ev hy, Builtin.copy_, e1, e2, Builtin.lenOf, hnm, hf, hr, goInt]

/-- A slice of bytes converted to its own type: marked, no cell of it. -/
theorem Do.convSS {x : Operand} {t e : TypeId} {b o len cap E : Nat} {vs : List Value} [UT P t (.slice e)] [UT P e (.int .u8)] (hx : ev env x = some (.slice (some ⟨b, o, none⟩) len cap)) (hp : Pick (arr b E vs) l r) :
    Do P σ n env l ⟨dst, .convert t t x, ty, pos, af, gd⟩ (fun u l' => u = .slice (some ⟨b, o, none⟩) len cap ∧ l' = arr b E vs :: r) := by
  refine Do.value fun a w kn s => ?_
  have e1 := UT.run (P := P) (t := t) w
  have e2 := UT.run (P := P) (t := e) w
  have hs := (s.perm hp).shape
  obtain ⟨lo, hi, hf, s1⟩ := Sat.arr.1 (s.perm hp)
  have hb := Sat.get s1
  obtain ⟨lo', hi', hw, hcond⟩ : ∃ lo' hi', w.freeze { block := b, off := vs.length } 1 = { w with heap := w.heap.setIfInBounds b (.cells vs.toArray E (lo', hi')) } ∧ (lo' = hi' ∨ vs.length ≤ lo') := by
    by_cases h : lo = hi
    · refine ⟨vs.length, vs.length + 1, ?_, .inr (Nat.le_refl _)⟩
      subst h
      simp only [World.freeze, if_neg (Nat.one_ne_zero)]
      rw [modify_eq_set _ _ _ _ hb]
      simp
    · have hlo : vs.length ≤ lo := hf.resolve_left h
      refine ⟨min lo vs.length, max hi (vs.length + 1), ?_, .inr (by omega)⟩
      simp only [World.freeze, if_neg (Nat.one_ne_zero)]
      rw [modify_eq_set _ _ _ _ hb]
      simp [h]
  refine ⟨_, w.freeze { block := b, off := vs.length } 1, arr b E vs :: r, ?_, ?_, rfl, rfl⟩
  · simp [execOp, kn.ev hx, convert, e1, e2, markStringish, hs]
  · rw [hw]
    exact Sat.arr.2 ⟨_, _, hcond, Sat.set s1⟩

theorem Do.append1 {x y : Operand} {t e t' e' : TypeId} {k : Nat} {zv : Value} {i : TypeInfo} {v u : Value} {xs ys : List Value} [UT P t (.slice e)] [UT P t' (.slice e')] [SZ P e 1] [TI P e i] [ZV P e zv]
    (hx : ev env x = some v) (hy : ev env y = some u) (hp : Pick (ownS v e 1 k xs) l r) (hrd : RdS σ l u ys) (h1 : ∀ q ∈ ys, q.oneCell' = true)
    (hsz : (k + ys.length) * i.bytes ≤ 140737488355328) (hb : Nat.beq i.bytes 0 = false := by rfl) (hz : Nat.beq zv.cells.size 1 = true := by rfl) :
    Do P σ n env l ⟨dst, .call ⟨.builtin .append, #[x, y], #[t, t']⟩, ty, pos, af, gd⟩ (fun v' l' => l' = ownS v' e 1 (k + ys.length) (xs ++ ys) :: r ∧ (v' = .slice none 0 0 → v = .slice none 0 0 ∧ ys.length = 0)) := by
  obtain ⟨p, cap, rfl, hc, hr⟩ := hrd
  exact Do.append hx hy hp rfl ⟨p, cap * 1, rfl, by omega, hr⟩ (Nat.mul_one _).symm h1 hsz hb hz

theorem RdS.nil {c : Nat} {p : Option Addr} : RdS σ l (.slice p 0 c) [] := ⟨p, c, rfl, Nat.zero_le _, .inl rfl⟩
/-- The first k cells of a block. -/
theorem RdS.arr0 {b E k cap : Nat} {xs spare : List Value} (hp : Pick (Sep.arr b E (xs ++ spare)) l r) (hk : xs.length = k) (hc : k ≤ cap) : RdS σ l (.slice (some ⟨b, 0, none⟩) k cap) xs := by
  have := RdS.arr (σ := σ) hp 0 k cap (by rw [List.length_append]; omega) hc
  rw [List.drop_zero, ← hk, List.take_left] at this
  rw [← hk]; exact this

/-- l' is a part of l. -/
def Weak (l l' : List HP) : Prop := ∀ h : PH, Holds l h → Holds l' h
theorem Weak.refl {l : List HP} : Weak l l := fun _ s => s
theorem Weak.cons {p : HP} {l r l' : List HP} (h : Pick p l r) (k : Weak r l') : Weak l (p :: l') := fun _ s => Holds.tail k (Holds.perm h s)
theorem Weak.drop {p : HP} {l l' : List HP} (k : Weak l l') : Weak (p :: l) l' := fun h s => k h (Holds.drop s)
theorem Sat.weak {l l' : List HP} (k : Weak l l') : ∀ w, Sat σ w l → Sat σ w l' := fun _ s => ⟨s.1, k _ s.2⟩
theorem finW {post : Value → List HP → Prop} {v : Value} {l l' : List HP} (h : post v l') (k : Weak l l') : fin post v l σ := ⟨l', Sat.weak k, h⟩

/-- A heap with a slice of one's own, opened. -/
theorem JO.own {ds : List Deferred} {ops : Array Oper} {Q : Exit → Act → World → Prop} {rest : List Oper} {v : Value} {E : TypeId} {z k : Nat} {xs : List Value}
    (h1 : v = .slice none 0 0 → k = 0 → xs = [] → JO P σ n ds ops Q rest env l)
    (h2 : ∀ b cap spare, v = .slice (some ⟨b, 0, none⟩) k cap → k ≤ cap → xs.length = k * z → cap * z ≤ (xs ++ spare).length → JO P σ n ds ops Q rest env (arr b E (xs ++ spare) :: l)) :
    JO P σ n ds ops Q rest env (ownS v E z k xs :: l) := by
  intro a w ka kd s
  rcases s.ownS with ⟨q1, q2, q3, s'⟩ | ⟨b, cap, spare, q1, q2, q3, q4, s'⟩
  · exact h1 q1 q2 q3 a w ka kd s'
  · exact h2 b cap spare q1 q2 q3 q4 a w ka kd s'
theorem JC.own {ds : List Deferred} {c : Code} {Q : Exit → Act → World → Prop} {v : Value} {E : TypeId} {z k : Nat} {xs : List Value}
    (h1 : v = .slice none 0 0 → k = 0 → xs = [] → JC P σ n ds c Q env l)
    (h2 : ∀ b cap spare, v = .slice (some ⟨b, 0, none⟩) k cap → k ≤ cap → xs.length = k * z → cap * z ≤ (xs ++ spare).length → JC P σ n ds c Q env (arr b E (xs ++ spare) :: l)) :
    JC P σ n ds c Q env (ownS v E z k xs :: l) := by
  intro a w ka kd s
  rcases s.ownS with ⟨q1, q2, q3, s'⟩ | ⟨b, cap, spare, q1, q2, q3, q4, s'⟩
  · exact h1 q1 q2 q3 a w ka kd s'
  · exact h2 b cap spare q1 q2 q3 q4 a w ka kd s'
theorem Fn.own {f : FuncId} {args : Array Value} {post : Value → List HP → Prop} {v : Value} {E : TypeId} {z k : Nat} {xs : List Value}
    (h1 : v = .slice none 0 0 → k = 0 → xs = [] → Fn P σ f args l post)
    (h2 : ∀ b cap spare, v = .slice (some ⟨b, 0, none⟩) k cap → k ≤ cap → xs.length = k * z → cap * z ≤ (xs ++ spare).length → Fn P σ f args (arr b E (xs ++ spare) :: l) post) :
    Fn P σ f args (ownS v E z k xs :: l) post := by
  intro w s
  rcases s.ownS with ⟨q1, q2, q3, s'⟩ | ⟨b, cap, spare, q1, q2, q3, q4, s'⟩
  · exact h1 q1 q2 q3 w s'
  · exact h2 b cap spare q1 q2 q3 q4 w s'
end
end Go.Sep
