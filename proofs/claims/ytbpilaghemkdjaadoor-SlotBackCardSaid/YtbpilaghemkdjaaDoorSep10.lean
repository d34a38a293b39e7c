/- Aggregates by cells; clear; structs of whole numbers compared. -/
import Derived.Test.YtbpilaghemkdjaaDoorSep9
import Derived.Laws.StructEq
namespace Go.Sep
open Go

section
variable {P : Program} {σ : Sig} {n : Nat} {ds : List Deferred} {env : Env} {l r : List HP} {dst : Option Tmp} {ty : TypeId} {pos : String} {af : Array Edge} {gd : Option (Nat × Bool)}

/-- An aggregate whose cells are known one by one. -/
theorem Ru.loadAC {x : Operand} {t : TypeId} {b o z : Nat} {vs : List Value} [AG P t true] [SZ P t z] (hx : ev env x = some (.pointer (some ⟨b, o, none⟩))) (hz : Nat.beq vs.length z = true)
    (hv : ∀ w, Sat σ w l → ∀ i u, vs[i]? = some u → w.cell? ⟨b, o + i, none⟩ = some u) : Ru P σ n env l ⟨dst, .load t x, ty, pos, af, gd⟩ (.agg vs.toArray) := by
  intro a w kn s
  have h2 := AG.eq (P := P) (t := t) w
  have h3 := SZ.eq (P := P) (t := t) w
  have hz' : vs.length = z := Nat.eq_of_beq_eq_true hz
  have hc := run_loadCells_list (P := P) (w := w) ⟨b, o, none⟩ vs (fun j v hj => by
    have e : Addr.add ⟨b, o, none⟩ j = ⟨b, o + j, none⟩ := by simp [Addr.add]
    rw [e]; exact hv w s j v hj)
  rw [hz'] at hc
  simp [execOp, kn.ev hx, Instr.loadAt, Instr.sureAddr, loadVar, h2, h3, hc]

theorem Weak.under {p a : HP} {l r : List HP} (k : Weak l (a :: r)) : Weak (p :: l) (a :: p :: r) := fun _ x => Holds.perm (.swap _ _ _) (Holds.tail k x)
theorem Ru.heapW {o : Oper} {v : Value} {l' : List HP} (k : Weak l l') (h : Ru P σ n env l' o v) : Ru P σ n env l o v := fun a w kn s => h a w kn (Sat.weak k w s)
/-- clear of a slice whose elements have one cell each. -/
theorem Do.clear {x : Operand} {t e : TypeId} {b o len cap E : Nat} {vs : List Value} {zv : Value} [UT P t (.slice e)] [ZV P e zv] (hx : ev env x = some (.slice (some ⟨b, o, none⟩) len cap))
    (hp : Pick (arr b E vs) l r) (hl : o + len ≤ vs.length) (hz : zv.oneCell' = true := by rfl) :
    Do P σ n env l ⟨dst, .call ⟨.builtin .clear, #[x], #[t]⟩, ty, pos, af, gd⟩ (fun u l' => u = .tuple #[] ∧ l' = arr b E (splice vs o (List.replicate len zv)) :: r) := by
  refine Do.value fun a w kn s => ?_
  have e1 := UT.run (P := P) (t := t) w
  have e4 := ZV.eq (P := P) (t := e) w
  have hcs : zv.cells = #[zv] := by cases zv <;> first | rfl | cases hz
  have hzc : (Builtin.zeroCells zv.cells len).toList = List.replicate len zv := by
    rw [hcs]
    simp only [Builtin.zeroCells]
    apply List.ext_getElem
    · simp
    · intro j h1 h2; simp [Nat.mod_one]
  by_cases h0 : len = 0
  · subst h0
    refine ⟨.tuple #[], w, _, ?_, s.perm hp, rfl, by simp [splice]⟩
    simp [execOp, resolve, invoke, builtin, Builtin.clear_, kn.ev hx, e1]
  · obtain ⟨w', hr, s'⟩ := Sat.storeCells (P := P) (σ := σ) (List.replicate len zv) vs o 0 w (by intro c hc; rw [List.eq_of_mem_replicate hc]; exact hz) (by simp; omega) (s.perm hp)
    refine ⟨.tuple #[], w', _, ?_, s', rfl, by rw [Nat.add_zero]⟩
    obtain ⟨m, rfl⟩ : ∃ m, len = m + 1 := ⟨len - 1, by omega⟩
    simp [execOp, resolve, invoke, builtin, Builtin.clear_, kn.ev hx, e1, e4, hzc, hr]

/-! ### Structs of whole numbers and bools -/
inductive FK where
  | int
  | bool
def FsOk (P : Program) : Nat → List Field → List FK → Prop
  | _, [], [] => True
  | o, f :: fs, k :: ks => f.name ≠ "_" ∧ f.offset = o ∧ (∀ w, (isAgg f.type).run P w = .ok false w) ∧ (match k with
      | .int => ∃ d, P.underlying f.type = some (.int d)
      | .bool => P.underlying f.type = some .bool) ∧ FsOk P (o + 1) fs ks
  | _, _, _ => False
class SF (P : Program) (t : TypeId) (ks : outParam (List FK)) : Prop where
  u : ∃ fs : Array Field, P.underlying t = some (.struct fs) ∧ FsOk P 0 fs.toList ks
  g : P.eqGuardType P.depth t = false
  s : P.stoodInHeld t = false
def eqV : FK → Value → Value → Option Bool
  | .int, .int k a, .int k' b => if k = k' then some (a == b) else none
  | .bool, .bool a, .bool b => some (a == b)
  | _, _, _ => none
def eqVs : List FK → List Value → List Value → Option Bool
  | [], [], [] => some true
  | k :: ks, x :: xs, y :: ys => match eqV k x y, eqVs ks xs ys with
    | some a, some b => some (a && b)
    | _, _ => none
  | _, _, _ => none
theorem eqV_int {x y : Value} {c : Bool} (h : eqV .int x y = some c) : ∃ k a b, x = .int k a ∧ y = .int k b ∧ c = (a == b) := by
  cases x <;> cases y <;> first | (simp only [eqV] at h; split at h; (rename_i hk; subst hk; exact ⟨_, _, _, rfl, rfl, (Option.some.inj h).symm⟩); cases h) | cases h
theorem eqV_bool {x y : Value} {c : Bool} (h : eqV .bool x y = some c) : ∃ a b, x = .bool a ∧ y = .bool b ∧ c = (a == b) := by
  cases x <;> cases y <;> first | exact ⟨_, _, rfl, rfl, (Option.some.inj h).symm⟩ | cases h
theorem run_eqFs {w : World} (d : Nat) (A B : Array Value) : ∀ (fs : List Field) (ks : List FK) (o : Nat) (xs ys : List Value) (b : Bool), FsOk P o fs ks → eqVs ks xs ys = some b → (∀ i u, xs[i]? = some u → A[o + i]? = some u) → (∀ i u, ys[i]? = some u → B[o + i]? = some u) →
    (Op.eqFields (d + 1) A B fs).run P w = .ok b w
  | [], [], o, [], [], b, _, h, _, _ => by simp [eqVs] at h; subst h; rfl
  | f :: fs, k :: ks, o, x :: xs, y :: ys, b, ⟨h1, h2, h3, h4, h5⟩, h, hA, hB => by
    simp only [eqVs] at h
    split at h
    · rename_i c c' hc hc'
      simp only [Option.some.injEq] at h
      have ih := run_eqFs (w := w) d A B fs ks (o + 1) xs ys c' h5 hc' (fun i u hu => by have := hA (i + 1) u (by simpa using hu); rwa [show o + (i + 1) = o + 1 + i by omega] at this) (fun i u hu => by have := hB (i + 1) u (by simpa using hu); rwa [show o + (i + 1) = o + 1 + i by omega] at this)
      have hx : A[o]? = some x := hA 0 x rfl
      have hy : B[o]? = some y := hB 0 y rfl
      have hp1 : (part f.type A f.offset).run P w = .ok x w := by simp [part, h3, h2, hx]
      have hp2 : (part f.type B f.offset).run P w = .ok y w := by simp [part, h3, h2, hy]
      have hq : (Op.equalIn (d + 1) f.type x y).run P w = .ok c w := by
        cases k with
        | int =>
          obtain ⟨dk, hk⟩ := h4
          obtain ⟨k1, a1, b1, rfl, rfl, rfl⟩ := eqV_int hc
          exact run_equalIn_int w d _ _ _ _ _ hk
        | bool =>
          obtain ⟨a1, b1, rfl, rfl, rfl⟩ := eqV_bool hc
          exact run_equalIn_bool' w d _ _ _ h4
      rw [← h]
      simp only [Op.eqFields, ne_eq, h1, not_false_eq_true, if_true, Sem.run_bind, hp1, hp2, hq, Result.andThen_ok]
      cases c
      · simp
      · simpa using ih
    · cases h
  | [], _ :: _, _, _, _, _, h, _, _, _ => h.elim
  | _ :: _, [], _, _, _, _, h, _, _, _ => h.elim
  | [], [], _, _ :: _, _, _, _, h, _, _ => by simp [eqVs] at h
  | [], [], _, [], _ :: _, _, _, h, _, _ => by simp [eqVs] at h
  | _ :: _, _ :: _, _, [], _, _, _, h, _, _ => by simp [eqVs] at h
  | _ :: _, _ :: _, _, _ :: _, [], _, _, h, _, _ => by simp [eqVs] at h
theorem run_eqSF {w : World} {t : TypeId} {ks : List FK} [h : SF P t ks] {xs ys : List Value} {b : Bool} (he : eqVs ks xs ys = some b) : (Op.equalIn 10000 t (.agg xs.toArray) (.agg ys.toArray)).run P w = .ok b w := by
  obtain ⟨fs, hu, hf⟩ := h.u
  have hfo : P.fieldsOf t = fs := by simp [Program.fieldsOf, hu]
  rw [run_equalIn_struct w 9999 t _ _ (by rw [hfo]; exact hu) h.s, hfo]
  exact run_eqFs 9998 _ _ fs.toList ks 0 xs ys b hf he (fun i u hu => by simpa using hu) (fun i u hu => by simpa using hu)
theorem Ru.eqlF {x y : Operand} {t t' : TypeId} {ks : List FK} [h : SF P t ks] {xs ys : List Value} {b : Bool} (hx : ev env x = some (.agg xs.toArray)) (hy : ev env y = some (.agg ys.toArray)) (he : eqVs ks xs ys = some b) : Ru P σ n env l ⟨dst, .binOp .eql t x y t', ty, pos, af, gd⟩ (.bool b) := by
  intro a w kn _
  rw [run_bin (kn.ev hx) (kn.ev hy), run_eqGuard_agg w _ _ _ _ _ _ h.g, Result.andThen_ok, run_eql_struct, run_eqSF he]
  rfl
theorem Ru.neqF {x y : Operand} {t t' : TypeId} {ks : List FK} [h : SF P t ks] {xs ys : List Value} {b : Bool} (hx : ev env x = some (.agg xs.toArray)) (hy : ev env y = some (.agg ys.toArray)) (he : eqVs ks xs ys = some b) : Ru P σ n env l ⟨dst, .binOp .neq t x y t', ty, pos, af, gd⟩ (.bool (!b)) := by
  intro a w kn _
  rw [run_bin (kn.ev hx) (kn.ev hy), run_eqGuard_agg w _ _ _ _ _ _ h.g, Result.andThen_ok, run_neq_struct, run_eqSF he]
  rfl
end
end Go.Sep
