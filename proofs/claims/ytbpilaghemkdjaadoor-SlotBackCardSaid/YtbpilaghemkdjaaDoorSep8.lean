/- Rules whose lists stand in full. -/
import Derived.Test.YtbpilaghemkdjaaDoorSep7
namespace Go.Sep
open Go

/-- l, laid anew, each cell in full. -/
def nrm {α β : Type} : List α → (List α → Option β) → Option β
  | [], k => k []
  | a :: l, k => nrm l fun r => k (a :: r)
theorem nrm_eq {α β : Type} : ∀ (l : List α) (k : List α → Option β), nrm l k = k l
  | [], _ => rfl
  | a :: l, k => by rw [nrm, nrm_eq l]
theorem nrm_some {α : Type} {l us : List α} (h : nrm l some = some us) : l = us := by
  rw [nrm_eq] at h; exact Option.some.inj h

def fillL (pl : Nat → Option (Nat × Nat)) : List Value → List (Nat × Value) → Option (List Value)
  | zs, [] => nrm zs some
  | zs, (i, v) :: r => match pl i with
    | none => none
    | some (off, size) => match Nat.beq v.cells.toList.length size, Nat.ble (off + size) zs.length with
      | true, true => nrm (splice zs off v.cells.toList) fun zs' => fillL pl zs' r
      | _, _ => none

theorem foldl_splice : ∀ (l : List Value) (k off : Nat) (A : Array Value),
    (l.zipIdx k).foldl (fun cs (p : Value × Nat) => cs.setIfInBounds (off + p.2) p.1) A = (splice A.toList (off + k) l).toArray
  | [], _, _, _ => by simp [splice]
  | c :: l, k, off, A => by
    rw [List.zipIdx_cons, List.foldl_cons, foldl_splice l (k + 1) off]
    simp only [splice, Array.toList_setIfInBounds, Nat.add_assoc]
theorem fillL_spec {pl : Nat → Option (Nat × Nat)} : ∀ {r : List (Nat × Value)} {zs us : List Value}, fillL pl zs r = some us → Instr.fill pl zs.toArray r = some us.toArray
  | [], zs, us, h => by
    rw [fillL] at h
    rw [nrm_some h]; rfl
  | (i, v) :: r, zs, us, h => by
    simp only [fillL] at h
    simp only [Instr.fill]
    split at h
    · cases h
    · rename_i off size hp
      split at h
      · rename_i q1 q2
        have q1' := Nat.eq_of_beq_eq_true q1
        have q2' : off + size ≤ zs.length := by simpa using q2
        rw [nrm_eq] at h
        rw [hp]
        have hs : v.cells.size = size := by rw [← q1']; simp
        dsimp only
        rw [if_neg (by simp [hs]; omega)]
        have := foldl_splice v.cells.toList 0 off zs.toArray
        have e : Array.foldl (fun cs (p : Value × Nat) => cs.setIfInBounds (off + p.2) p.1) zs.toArray v.cells.zipIdx = (splice zs off v.cells.toList).toArray := by
          rw [← Array.foldl_toList, Array.toList_zipIdx]
          simpa using this
        rw [e]
        exact fillL_spec h
      · cases h

section
variable {P : Program} {σ : Sig} {n : Nat} {ds : List Deferred} {env : Env} {l r : List HP} {dst : Option Tmp} {ty : TypeId} {pos : String} {af : Array Edge} {gd : Option (Nat × Bool)}
theorem Ru.buildN {t : TypeId} {zs : Array Value} {pl : List (Nat × Nat)} {parts : Array (Nat × Operand)} {vs us : List Value} [h : BT P t zs pl] (hx : parts.toList.mapM (fun p => ev env p.2) = some vs)
    (hf : fillL (fun i => pl[i]?) zs.toList ((parts.toList.map (·.1)).zip vs) = some us) : Ru P σ n env l ⟨dst, .build t parts, ty, pos, af, gd⟩ (.agg us.toArray) :=
  Ru.build hx (fillL_spec hf)
theorem Ru.loadAN {x : Operand} {t E : TypeId} {b o z : Nat} {vs us : List Value} [AG P t true] [SZ P t z] (hx : ev env x = some (.pointer (some ⟨b, o, none⟩))) (hp : Pick (arr b E vs) l r) (hm : Nat.ble (o + z) vs.length = true) (hu : nrm ((vs.drop o).take z) some = some us) :
    Ru P σ n env l ⟨dst, .load t x, ty, pos, af, gd⟩ (.agg us.toArray) := Ru.loadA hx hp hm (nrm_some hu)
theorem Do.storeN {x y : Operand} {t E : TypeId} {b o : Nat} {vs us : List Value} {v : Value} [SZ P t 1] (hx : ev env x = some (.pointer (some ⟨b, o, none⟩))) (hy : ev env y = some v) (h1 : v.oneCell' = true) (hp : Pick (arr b E vs) l r) (ho : Nat.blt o vs.length = true) (hu : nrm (vs.set o v) some = some us) :
    Do P σ n env l ⟨dst, .store t x y, ty, pos, af, gd⟩ (fun u l' => u = undef ∧ l' = arr b E us :: r) := by
  rw [← nrm_some hu]; exact Do.store hx hy h1 hp ho
theorem Do.storeAN {x y : Operand} {t E : TypeId} {b o z : Nat} {vs cs us : List Value} [SZ P t z] (hx : ev env x = some (.pointer (some ⟨b, o, none⟩))) (hy : ev env y = some (.agg cs.toArray)) (hp : Pick (arr b E vs) l r) (hz : Nat.beq cs.length z = true) (h1 : cs.all Value.oneCell' = true) (ho : Nat.ble (o + cs.length) vs.length = true)
    (hu : nrm (splice vs o cs) some = some us) :
    Do P σ n env l ⟨dst, .store t x y, ty, pos, af, gd⟩ (fun u l' => u = undef ∧ l' = arr b E us :: r) := by
  rw [← nrm_some hu]; exact Do.storeA hx hy hp hz h1 ho
theorem Do.allocN {t : TypeId} {v : Value} {us : List Value} [ZV P t v] (hu : nrm v.cells.toList some = some us) : Do P σ n env l ⟨dst, .alloc t, ty, pos, af, gd⟩ (fun u l' => ∃ b, u = .pointer (some ⟨b, 0, none⟩) ∧ l' = arr b t us :: l) := by
  rw [← nrm_some hu]; exact Do.alloc
theorem Do.boxN {t : TypeId} {x : Operand} {v : Value} {us : List Value} (hx : ev env x = some v) (hu : nrm v.cells.toList some = some us) : Do P σ n env l ⟨dst, .box t x, ty, pos, af, gd⟩ (fun u l' => ∃ b, u = .pointer (some ⟨b, 0, none⟩) ∧ l' = arr b t us :: l) := by
  rw [← nrm_some hu]; exact Do.box hx
theorem Res.cellAN {c t b o z E : Nat} {vs us : List Value} [AG P t true] [SZ P t z] (h : look env c = some (.pointer (some ⟨b, o, none⟩))) (hp : Pick (arr b E vs) l r) (hm : Nat.ble (o + z) vs.length = true) (hu : nrm ((vs.drop o).take z) some = some us) :
    Res P σ n env l (.cell c t) (.agg us.toArray) := Res.cellA h hp hm (nrm_some hu)
theorem Do.buildSliceN {t e : TypeId} {z len : Nat} {zv : Value} {parts : Array (Nat × Operand)} {vs us : List Value} [UT P t (.slice e)] [SZ P e z] [ZV P e zv] (hx : parts.toList.mapM (fun p => ev env p.2) = some vs)
    (hl : Nat.ble (len * z) (2 ^ 24) = true) (hn : Nat.beq (len * z) 0 = false)
    (hf : fillL (fun i => some (i * z, z)) ((List.range (len * z)).map (fun i => zv.cells[i % zv.cells.size]!)) ((parts.toList.map (·.1)).zip vs) = some us) :
    Do P σ n env l ⟨dst, .buildSlice t len parts, ty, pos, af, gd⟩ (fun u l' => ∃ b, u = .slice (some ⟨b, 0, none⟩) len len ∧ l' = arr b e us :: l) :=
  Do.buildSlice (cells := us.toArray) hx hl hn (fillL_spec hf)

/-! ### Bytes that nobody has laid -/
class MZ (P : Program) (f : FuncId) (e : outParam TypeId) : Prop where
  run : ∀ (m : Nat), m ≤ 281474976710656 → ∀ w, ∃ cs : Array Value, (callFunc f #[.int .i64 m]).run P w = .ok (.value (.slice (some ⟨w.heap.size, 0, none⟩) m cs.size)) (w.drew.drew.alloc (.cells cs e)) ∧ m ≤ cs.size
theorem Do.ext {f : FuncId} {xs : Array Operand} {ts : Array TypeId} {vs : List Value} {post : Value → List HP → Prop} (hx : xs.toList.mapM (ev env) = some vs) (h : ∀ w, Sat σ w l → ∃ v w' l', (callFunc f vs.toArray).run P w = .ok (.value v) w' ∧ Sat σ w' l' ∧ post v l') :
    Do P σ n env l ⟨dst, .call ⟨.value (.func f), xs, ts⟩, ty, pos, af, gd⟩ post := by
  refine Do.value fun a w kn s => ?_
  obtain ⟨v, w', l', h1, h2, h3⟩ := h w s
  have e : xs.map a.eval = vs.toArray := by apply Array.ext'; rw [Array.toList_map]; exact mapM_ev kn _ _ hx
  refine ⟨v, w', l', ?_, h2, h3⟩
  simp [execOp, resolve, invoke, Act.eval, Deferred.ofValue, e, h1]
theorem Do.makeNoZero {f : FuncId} {x : Operand} {ts : Array TypeId} {e : TypeId} {m : Nat} [MZ P f e] (hx : ev env x = some (.int .i64 m)) (hm : m ≤ 281474976710656) :
    Do P σ n env l ⟨dst, .call ⟨.value (.func f), #[x], ts⟩, ty, pos, af, gd⟩ (fun u l' => ∃ b cs, u = .slice (some ⟨b, 0, none⟩) m cs.length ∧ m ≤ cs.length ∧ l' = arr b e cs :: l) := by
  refine Do.ext (vs := [.int .i64 m]) (by simp [hx]) fun w s => ?_
  obtain ⟨cs, h1, h2⟩ := MZ.run (P := P) (f := f) m hm w
  exact ⟨_, _, _, h1, (Sat.drew (Sat.drew s)).newRow e cs, _, cs.toList, rfl, by simpa using h2, rfl⟩
/-- x[i:j] of no slice at all. -/
theorem Ru.sliceNil {x : Operand} {t e : TypeId} {z : Nat} {hi : Option Operand} [UT P t (.slice e)] [SZ P e z] (hx : ev env x = some (.slice none 0 0)) (h2 : loOf env 0 hi = some 0) :
    Ru P σ n env l ⟨dst, .slice t x none hi none, ty, pos, af, gd⟩ (.slice none 0 0) := by
  intro a w kn s
  have e1 := UT.run (P := P) (t := t) w
  have e2 := SZ.eq (P := P) (t := e) w
  cases hi with
  | none => simp [execOp, Instr.sliceAt, kn.ev hx, e1, e2, Instr.slice, Instr.sliceBounds, Instr.sliceBound, asIntOf]
  | some u =>
    simp only [loOf] at h2
    split at h2
    · rename_i k i he
      simp at h2; subst h2
      simp [execOp, Instr.sliceAt, kn.ev hx, kn.ev he, e1, e2, Instr.slice, Instr.sliceBounds, Instr.sliceBound, asIntOf]
    · cases h2
def nthL {α : Type} : List α → Nat → Option α
  | [], _ => none
  | a :: _, 0 => some a
  | _ :: l, i + 1 => nthL l i
theorem nthL_eq {α : Type} : ∀ (l : List α) (i : Nat), nthL l i = l[i]?
  | [], _ => rfl
  | _ :: _, 0 => rfl
  | _ :: l, i + 1 => by rw [nthL, nthL_eq l i]; rfl
theorem Ru.extractN {x : Operand} {i : Nat} {vs : Array Value} {v : Value} (hx : ev env x = some (.tuple vs)) (hv : nthL vs.toList i = some v) : Ru P σ n env l ⟨dst, .extract x i, ty, pos, af, gd⟩ v :=
  Ru.extract hx (by rw [← Array.getElem?_toList, ← nthL_eq]; exact hv)
theorem Ru.fieldN {x : Operand} {s ft : TypeId} {i off z : Nat} {cs : List Value} {v : Value} [hf : FA P s i off z ft false] (hx : ev env x = some (.agg cs.toArray)) (hv : nthL cs off = some v) : Ru P σ n env l ⟨dst, .field s x i, ty, pos, af, gd⟩ v :=
  Ru.field hx (by rw [List.getElem?_toArray, ← nthL_eq]; exact hv)
theorem Ru.loadN {x : Operand} {t E : TypeId} {b o : Nat} {vs : List Value} {v : Value} [AG P t false] (hx : ev env x = some (.pointer (some ⟨b, o, none⟩))) (hp : Pick (arr b E vs) l r) (hv : nthL vs o = some v) :
    Ru P σ n env l ⟨dst, .load t x, ty, pos, af, gd⟩ v := Ru.load hx hp (by rw [← nthL_eq]; exact hv)
end
end Go.Sep
