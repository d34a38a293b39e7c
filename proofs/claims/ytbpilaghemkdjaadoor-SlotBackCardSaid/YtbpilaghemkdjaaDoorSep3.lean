/- The operations, one rule each: what each yields, of which heap. -/
import Derived.Test.YtbpilaghemkdjaaDoorSep2
namespace Go.Sep
open Go

/-! ### What is known of a program's types -/
class UT (P : Program) (t : TypeId) (d : outParam TypeDesc) : Prop where
  eq : P.underlying t = some d
class SZ (P : Program) (t : TypeId) (z : outParam Nat) : Prop where
  eq : ∀ w, (sizeOf t).run P w = .ok z w
class ZV (P : Program) (t : TypeId) (v : outParam Value) : Prop where
  eq : ∀ w, (zeroValue t).run P w = .ok v w
class TI (P : Program) (t : TypeId) (i : outParam TypeInfo) : Prop where
  eq : ∀ w, (typeInfo t).run P w = .ok i w

class AG (P : Program) (t : TypeId) (b : outParam Bool) : Prop where
  eq : ∀ w, (isAgg t).run P w = .ok b w
/-- Field i of the struct type s: where it lies, how many cells it has, its type, whether that is an aggregate. -/
class FA (P : Program) (s : TypeId) (i : Nat) (off z : outParam Nat) (ft : outParam TypeId) (b : outParam Bool) : Prop where
  eq : ∃ fs f, P.underlying s = some (.struct fs) ∧ fs[i]? = some f ∧ f.offset = off ∧ f.type = ft ∧ (∀ w, (sizeOf ft).run P w = .ok z w) ∧ (∀ w, (isAgg ft).run P w = .ok b w) ∧ z ≠ 0
theorem FA.of {P : Program} {s : TypeId} {i z : Nat} {ft : TypeId} {b : Bool} {fs : Array Field} {f : Field} (h1 : P.underlying s = some (.struct fs)) (h2 : fs[i]? = some f) (h4 : f.type = ft) (h5 : ∀ w, (sizeOf ft).run P w = .ok z w) (h6 : ∀ w, (isAgg ft).run P w = .ok b w) (h7 : Nat.beq z 0 = false) : FA P s i f.offset z ft b :=
  ⟨fs, f, h1, h2, rfl, h4, h5, h6, Nat.ne_of_beq_eq_false h7⟩
theorem FA.of' {P : Program} {s : TypeId} {i off z : Nat} {ft : TypeId} {b : Bool} {fs : Array Field} {f : Field} (h1 : P.underlying s = some (.struct fs)) (h2 : fs[i]? = some f) (h3 : f.offset = off) (h4 : f.type = ft) (h5 : ∀ w, (sizeOf ft).run P w = .ok z w) (h6 : ∀ w, (isAgg ft).run P w = .ok b w) (h7 : Nat.beq z 0 = false) : FA P s i off z ft b :=
  ⟨fs, f, h1, h2, h3, h4, h5, h6, Nat.ne_of_beq_eq_false h7⟩

def isAggD : TypeDesc → Bool
  | .struct _ => true
  | .array _ _ => true
  | _ => false

section
variable {P : Program} {σ : Sig} {n : Nat} {env : Env} {l r : List HP} {dst : Option Tmp} {ty : TypeId} {pos : String} {af : Array Edge} {gd : Option (Nat × Bool)}

theorem UT.run {t : TypeId} {d : TypeDesc} [h : UT P t d] (w : World) : (underlying t).run P w = .ok d w := by
  simp [underlying, h.eq]
theorem UT.agg {t : TypeId} {d : TypeDesc} [h : UT P t d] (w : World) : (isAgg t).run P w = .ok (isAggD d) w := by
  have h1 := h.eq
  cases d <;> simp [isAgg, underlying, h1, isAggD]

/-! ### Pure operations -/
theorem Ru.move {x : Operand} {v : Value} (h : ev env x = some v) : Ru P σ n env l ⟨dst, .move x, ty, pos, af, gd⟩ v := by
  intro a w k _; simp [execOp, k.ev h]
theorem Ru.assign {x : Operand} {v : Value} (h : ev env x = some v) : Ru P σ n env l ⟨dst, .assign x, ty, pos, af, gd⟩ v := by
  intro a w k _; simp [execOp, k.ev h]
theorem Ru.pick {c x y : Operand} {b : Bool} {v u : Value} (hc : ev env c = some (.bool b)) (hx : ev env x = some v) (hy : ev env y = some u) : Ru P σ n env l ⟨dst, .pick c x y, ty, pos, af, gd⟩ (if b then v else u) := by
  intro a w k _; cases b <;> simp [execOp, k.ev hc, k.ev hx, k.ev hy, asBool]
theorem Ru.nilP {x : Operand} {p : Addr} (h : ev env x = some (.pointer (some p))) : Ru P σ n env l ⟨dst, .nilCheck x, ty, pos, af, gd⟩ (.pointer (some p)) := by
  intro a w k _; simp [execOp, k.ev h]
theorem Ru.nilF {x : Operand} {f : FuncId} {c d : Array Value} (h : ev env x = some (.func (.func f) c d)) : Ru P σ n env l ⟨dst, .nilCheck x, ty, pos, af, gd⟩ (.func (.func f) c d) := by
  intro a w k _; simp [execOp, k.ev h]
theorem Ru.nilI {x : Operand} {t : TypeId} {v : Value} (h : ev env x = some (.iface t v)) : Ru P σ n env l ⟨dst, .nilCheck x, ty, pos, af, gd⟩ (.iface t v) := by
  intro a w k _; simp [execOp, k.ev h]

theorem run_bin {a : Act} {w : World} {op : BinOp} {t t' : TypeId} {x y : Operand} {u v : Value} (hx : a.eval x = u) (hy : a.eval y = v) : (execOp a.eval ⟨dst, .binOp op t x y t', ty, pos, af, gd⟩).run P w =
    ((eqGuard op t x y u v).run P w).andThen fun _ w => ((Go.binOp op t u v).run P w).andThen fun v w => .ok (.value v) w := by
  subst hx; subst hy
  simp only [execOp, Sem.run_bind, Sem.run_pure]
  cases (eqGuard op t x y (a.eval x) (a.eval y)).run P w <;> rfl

section ints
variable {x y : Operand} {k : IntKind} {p q z : Int} {t t' : TypeId}
theorem Ru.add (hx : ev env x = some (.int k p)) (hy : ev env y = some (.int k q)) (hz : k.wrap (p + q) = z) : Ru P σ n env l ⟨dst, .binOp .add t x y t', ty, pos, af, gd⟩ (.int k z) := by
  intro a w kn _; simp [execOp, kn.ev hx, kn.ev hy, eqGuard, binOp, Op.intArith, hz]
theorem Ru.sub (hx : ev env x = some (.int k p)) (hy : ev env y = some (.int k q)) (hz : k.wrap (p - q) = z) : Ru P σ n env l ⟨dst, .binOp .sub t x y t', ty, pos, af, gd⟩ (.int k z) := by
  intro a w kn _; simp [execOp, kn.ev hx, kn.ev hy, eqGuard, binOp, Op.intArith, hz]
theorem Ru.mul (hx : ev env x = some (.int k p)) (hy : ev env y = some (.int k q)) (hz : k.wrap (p * q) = z) : Ru P σ n env l ⟨dst, .binOp .mul t x y t', ty, pos, af, gd⟩ (.int k z) := by
  intro a w kn _; simp [execOp, kn.ev hx, kn.ev hy, eqGuard, binOp, Op.intArith, hz]
theorem Ru.quo (hx : ev env x = some (.int k p)) (hy : ev env y = some (.int k q)) (h0 : q ≠ 0) (hz : k.wrap (p.tdiv q) = z) : Ru P σ n env l ⟨dst, .binOp .quo t x y t', ty, pos, af, gd⟩ (.int k z) := by
  intro a w kn _; simp [execOp, kn.ev hx, kn.ev hy, eqGuard, binOp, Op.intDiv, h0, hz]
theorem Ru.rem (hx : ev env x = some (.int k p)) (hy : ev env y = some (.int k q)) (h0 : q ≠ 0) (hz : p.tmod q = z) : Ru P σ n env l ⟨dst, .binOp .rem t x y t', ty, pos, af, gd⟩ (.int k z) := by
  intro a w kn _; simp [execOp, kn.ev hx, kn.ev hy, eqGuard, binOp, Op.intDiv, h0, hz]
theorem Ru.quoN (hx : ev env x = some (.int .i64 p)) (hy : ev env y = some (.int .i64 q)) (h0 : 0 ≤ p) (h1 : 0 < q) (h2 : p ≤ 9223372036854775807) : Ru P σ n env l ⟨dst, .binOp .quo t x y t', ty, pos, af, gd⟩ (.int .i64 (p / q)) := by
  refine Ru.quo hx hy (by omega) ?_
  rw [Int.tdiv_eq_ediv_of_nonneg h0]
  have a1 : 0 ≤ p / q := Int.ediv_nonneg h0 (by omega)
  have a2 : p / q ≤ p := Int.ediv_le_self _ h0
  simp [IntKind.wrap, IntKind.bits, IntKind.signed]; omega
theorem Ru.remN (hx : ev env x = some (.int k p)) (hy : ev env y = some (.int k q)) (h0 : 0 ≤ p) (h1 : 0 < q) : Ru P σ n env l ⟨dst, .binOp .rem t x y t', ty, pos, af, gd⟩ (.int k (p % q)) :=
  Ru.rem hx hy (by omega) (Int.tmod_eq_emod_of_nonneg h0)
theorem Ru.bits {op : BinOp} (hop : op = .and ∨ op = .or ∨ op = .xor ∨ op = .andNot) (hx : ev env x = some (.int k p)) (hy : ev env y = some (.int k q)) (hz : Go.bits op k p q = z) : Ru P σ n env l ⟨dst, .binOp op t x y t', ty, pos, af, gd⟩ (.int k z) := by
  intro a w kn _
  rw [run_bin (kn.ev hx) (kn.ev hy)]
  subst hz
  rcases hop with rfl | rfl | rfl | rfl <;> simp only [eqGuard_at_int, binOp_and, binOp_or, binOp_xor, binOp_andNot, intBits_and, intBits_or, intBits_xor, intBits_andNot] <;> rfl
theorem Ru.and (hx : ev env x = some (.int k p)) (hy : ev env y = some (.int k q)) : Ru P σ n env l ⟨dst, .binOp .and t x y t', ty, pos, af, gd⟩ (.int k (Go.bits .and k p q)) := Ru.bits (.inl rfl) hx hy rfl
theorem Ru.or (hx : ev env x = some (.int k p)) (hy : ev env y = some (.int k q)) : Ru P σ n env l ⟨dst, .binOp .or t x y t', ty, pos, af, gd⟩ (.int k (Go.bits .or k p q)) := Ru.bits (.inr (.inl rfl)) hx hy rfl
theorem Ru.xor (hx : ev env x = some (.int k p)) (hy : ev env y = some (.int k q)) : Ru P σ n env l ⟨dst, .binOp .xor t x y t', ty, pos, af, gd⟩ (.int k (Go.bits .xor k p q)) := Ru.bits (.inr (.inr (.inl rfl))) hx hy rfl
theorem Ru.andNot (hx : ev env x = some (.int k p)) (hy : ev env y = some (.int k q)) : Ru P σ n env l ⟨dst, .binOp .andNot t x y t', ty, pos, af, gd⟩ (.int k (Go.bits .andNot k p q)) := Ru.bits (.inr (.inr (.inr rfl))) hx hy rfl
theorem Ru.shl {k' : IntKind} (hx : ev env x = some (.int k p)) (hy : ev env y = some (.int k' q)) (h0 : 0 ≤ q) (hz : k.wrap (p * 2 ^ min q.toNat k.bits) = z) : Ru P σ n env l ⟨dst, .binOp .shl t x y t', ty, pos, af, gd⟩ (.int k z) := by
  intro a w kn _; simp [execOp, kn.ev hx, kn.ev hy, eqGuard, binOp, Op.shift, Int.not_lt.2 h0, hz]
theorem Ru.shr {k' : IntKind} (hx : ev env x = some (.int k p)) (hy : ev env y = some (.int k' q)) (h0 : 0 ≤ q) (hz : p.fdiv (2 ^ min q.toNat k.bits) = z) : Ru P σ n env l ⟨dst, .binOp .shr t x y t', ty, pos, af, gd⟩ (.int k z) := by
  intro a w kn _; simp [execOp, kn.ev hx, kn.ev hy, eqGuard, binOp, Op.shift, Int.not_lt.2 h0, hz]
theorem Ru.lss {b : Bool} (hx : ev env x = some (.int k p)) (hy : ev env y = some (.int k q)) (hb : decide (p < q) = b) : Ru P σ n env l ⟨dst, .binOp .lss t x y t', ty, pos, af, gd⟩ (.bool b) := by
  intro a w kn _; simp [execOp, kn.ev hx, kn.ev hy, eqGuard, binOp, Op.intCmp, hb]
theorem Ru.leq {b : Bool} (hx : ev env x = some (.int k p)) (hy : ev env y = some (.int k q)) (hb : decide (p ≤ q) = b) : Ru P σ n env l ⟨dst, .binOp .leq t x y t', ty, pos, af, gd⟩ (.bool b) := by
  intro a w kn _; simp [execOp, kn.ev hx, kn.ev hy, eqGuard, binOp, Op.intCmp, hb]
theorem Ru.gtr {b : Bool} (hx : ev env x = some (.int k p)) (hy : ev env y = some (.int k q)) (hb : decide (q < p) = b) : Ru P σ n env l ⟨dst, .binOp .gtr t x y t', ty, pos, af, gd⟩ (.bool b) := by
  intro a w kn _; simp [execOp, kn.ev hx, kn.ev hy, eqGuard, binOp, Op.intCmp, hb]
theorem Ru.geq {b : Bool} (hx : ev env x = some (.int k p)) (hy : ev env y = some (.int k q)) (hb : decide (q ≤ p) = b) : Ru P σ n env l ⟨dst, .binOp .geq t x y t', ty, pos, af, gd⟩ (.bool b) := by
  intro a w kn _; simp [execOp, kn.ev hx, kn.ev hy, eqGuard, binOp, Op.intCmp, hb]
theorem Ru.eql {b : Bool} (hx : ev env x = some (.int k p)) (hy : ev env y = some (.int k q)) (hb : decide (p = q) = b) : Ru P σ n env l ⟨dst, .binOp .eql t x y t', ty, pos, af, gd⟩ (.bool b) := by
  intro a w kn _
  rw [run_bin (kn.ev hx) (kn.ev hy), eqGuard_at_int, binOp_eql]
  have : (p == q) = b := by rw [← hb, Bool.eq_iff_iff]; simp
  rw [this]; rfl
theorem Ru.neq {b : Bool} (hx : ev env x = some (.int k p)) (hy : ev env y = some (.int k q)) (hb : (!decide (p = q)) = b) : Ru P σ n env l ⟨dst, .binOp .neq t x y t', ty, pos, af, gd⟩ (.bool b) := by
  intro a w kn _
  rw [run_bin (kn.ev hx) (kn.ev hy), eqGuard_at_int, binOp_neq]
  have : (p != q) = b := by rw [← hb, Bool.eq_iff_iff]; simp
  rw [this]; rfl
theorem Ru.not {b : Bool} (hx : ev env x = some (.bool b)) : Ru P σ n env l ⟨dst, .unOp .not t x, ty, pos, af, gd⟩ (.bool !b) := by
  intro a w kn _; simp [execOp, kn.ev hx, Op.unary]
theorem Ru.neg (hx : ev env x = some (.int k p)) (hz : k.wrap (0 - p) = z) : Ru P σ n env l ⟨dst, .unOp .neg t x, ty, pos, af, gd⟩ (.int k z) := by
  intro a w kn _
  have hz' : k.wrap (-p) = z := by rw [← hz]; congr 1; omega
  simp [execOp, kn.ev hx, Op.unary, Op.intArith, hz']
theorem Ru.com (hx : ev env x = some (.int k p)) (hz : Go.bits .xor k (if k.signed then -1 else k.max) p = z) : Ru P σ n env l ⟨dst, .unOp .xor t x, ty, pos, af, gd⟩ (.int k z) := by
  intro a w kn _; simp only [execOp, kn.ev hx, Op.unary, intBits_xor, hz]; simp
theorem Ru.conv {k' : IntKind} {d : TypeDesc} [UT P t d] [UT P t' (.int k')] (hx : ev env x = some (.int k p)) (hz : k'.wrap p = z) : Ru P σ n env l ⟨dst, .convert t t' x, ty, pos, af, gd⟩ (.int k' z) := by
  intro a w kn _
  have h1 := UT.run (P := P) (t := t) w
  have h2 := UT.run (P := P) (t := t') w
  simp [execOp, kn.ev hx, convert, h1, h2, Conv.intToInt, hz]
end ints

theorem equal_at {w : World} {t : TypeId} {x y : Value} {b : Bool} (he : ∀ k, (Op.equalIn (k + 1) t x y).run P w = .ok b w) : (Op.equal t x y).run P w = .ok b w := he 9999
theorem Ru.eqlB {x y : Operand} {b c r : Bool} {t t' : TypeId} [UT P t .bool] (hx : ev env x = some (.bool b)) (hy : ev env y = some (.bool c)) (hr : (b == c) = r) : Ru P σ n env l ⟨dst, .binOp .eql t x y t', ty, pos, af, gd⟩ (.bool r) := by
  intro a w kn _
  have h1 := UT.run (P := P) (t := t) w
  have h2 := equal_at (P := P) (w := w) (t := t) (x := .bool b) (y := .bool c) (b := b == c) (fun k => by simp [Op.equalIn, h1])
  rw [run_bin (kn.ev hx) (kn.ev hy), eqGuard_at_bool]
  simp only [binOp]
  simp [h2, ← hr]
theorem Ru.neqB {x y : Operand} {b c r : Bool} {t t' : TypeId} [UT P t .bool] (hx : ev env x = some (.bool b)) (hy : ev env y = some (.bool c)) (hr : (b != c) = r) : Ru P σ n env l ⟨dst, .binOp .neq t x y t', ty, pos, af, gd⟩ (.bool r) := by
  intro a w kn _
  have h1 := UT.run (P := P) (t := t) w
  have h2 := equal_at (P := P) (w := w) (t := t) (x := .bool b) (y := .bool c) (b := b == c) (fun k => by simp [Op.equalIn, h1])
  rw [run_bin (kn.ev hx) (kn.ev hy), eqGuard_at_bool]
  simp only [binOp]
  simp [h2, ← hr, bne]
theorem Ru.eqlPN {x y : Operand} {p : Option Addr} {e t t' : TypeId} [UT P t (.pointer e)] (hx : ev env x = some (.pointer p)) (hy : ev env y = some (.pointer none)) : Ru P σ n env l ⟨dst, .binOp .eql t x y t', ty, pos, af, gd⟩ (.bool p.isNone) := by
  intro a w kn _
  have h1 := UT.run (P := P) (t := t) w
  have h2 := equal_at (P := P) (w := w) (t := t) (x := .pointer p) (y := .pointer none) (b := p.isNone) (fun k => by cases p <;> simp [Op.equalIn, h1])
  rw [run_bin (kn.ev hx) (kn.ev hy), eqGuard_at_pointer]
  simp only [binOp]
  simp [h2]
theorem Ru.neqPN {x y : Operand} {p : Option Addr} {e t t' : TypeId} [UT P t (.pointer e)] (hx : ev env x = some (.pointer p)) (hy : ev env y = some (.pointer none)) : Ru P σ n env l ⟨dst, .binOp .neq t x y t', ty, pos, af, gd⟩ (.bool (!p.isNone)) := by
  intro a w kn _
  have h1 := UT.run (P := P) (t := t) w
  have h2 := equal_at (P := P) (w := w) (t := t) (x := .pointer p) (y := .pointer none) (b := p.isNone) (fun k => by cases p <;> simp [Op.equalIn, h1])
  rw [run_bin (kn.ev hx) (kn.ev hy), eqGuard_at_pointer]
  simp only [binOp]
  simp [h2]
theorem Ru.eqlSN {x y : Operand} {p : Option Addr} {m c : Nat} {e t t' : TypeId} [UT P t (.slice e)] (hx : ev env x = some (.slice p m c)) (hy : ev env y = some (.slice none 0 0)) : Ru P σ n env l ⟨dst, .binOp .eql t x y t', ty, pos, af, gd⟩ (.bool p.isNone) := by
  intro a w kn _
  have h1 := UT.run (P := P) (t := t) w
  have h2 := equal_at (P := P) (w := w) (t := t) (x := .slice p m c) (y := .slice none 0 0) (b := p.isNone) (fun k => by cases p <;> simp [Op.equalIn, h1])
  rw [run_bin (kn.ev hx) (kn.ev hy), eqGuard_at_slice]
  simp only [binOp]
  simp [h2]
theorem Ru.neqSN {x y : Operand} {p : Option Addr} {m c : Nat} {e t t' : TypeId} [UT P t (.slice e)] (hx : ev env x = some (.slice p m c)) (hy : ev env y = some (.slice none 0 0)) : Ru P σ n env l ⟨dst, .binOp .neq t x y t', ty, pos, af, gd⟩ (.bool (!p.isNone)) := by
  intro a w kn _
  have h1 := UT.run (P := P) (t := t) w
  have h2 := equal_at (P := P) (w := w) (t := t) (x := .slice p m c) (y := .slice none 0 0) (b := p.isNone) (fun k => by cases p <;> simp [Op.equalIn, h1])
  rw [run_bin (kn.ev hx) (kn.ev hy), eqGuard_at_slice]
  simp only [binOp]
  simp [h2]
theorem Ru.eqlS {x y : Operand} {p q : ByteArray} {r : Bool} {t t' : TypeId} (hx : ev env x = some (.string p)) (hy : ev env y = some (.string q)) (hr : (p.toList == q.toList) = r) : Ru P σ n env l ⟨dst, .binOp .eql t x y t', ty, pos, af, gd⟩ (.bool r) := by
  intro a w kn _
  rw [run_bin (kn.ev hx) (kn.ev hy), eqGuard_at_string]
  simp only [binOp, Op.stringOp, hr]
  rfl
theorem Ru.neqS {x y : Operand} {p q : ByteArray} {r : Bool} {t t' : TypeId} (hx : ev env x = some (.string p)) (hy : ev env y = some (.string q)) (hr : (!(p.toList == q.toList)) = r) : Ru P σ n env l ⟨dst, .binOp .neq t x y t', ty, pos, af, gd⟩ (.bool r) := by
  intro a w kn _
  rw [run_bin (kn.ev hx) (kn.ev hy), eqGuard_at_string]
  simp only [binOp, Op.stringOp, hr]
  rfl

theorem Ru.extract {x : Operand} {i : Nat} {vs : Array Value} {v : Value} (hx : ev env x = some (.tuple vs)) (hv : vs[i]? = some v) : Ru P σ n env l ⟨dst, .extract x i, ty, pos, af, gd⟩ v := by
  intro a w kn _; simp [execOp, kn.ev hx, Instr.extract, hv]
theorem Ru.makeFunc {f : Go.Fn} {xs ys : Array Operand} {vs us : List Value} (hx : xs.toList.mapM (ev env) = some vs) (hy : ys.toList.mapM (ev env) = some us) : Ru P σ n env l ⟨dst, .makeFunc f xs ys, ty, pos, af, gd⟩ (.func f vs.toArray us.toArray) := by
  intro a w kn _
  have key : ∀ (l : List Operand) (vs : List Value), l.mapM (ev env) = some vs → l.map a.eval = vs := by
    intro l
    induction l with
    | nil => intro vs h; simp at h; exact h.symm ▸ rfl
    | cons x l ih =>
      intro vs h
      simp only [List.mapM_cons, Option.bind_eq_bind, Option.bind_eq_some_iff] at h
      obtain ⟨v, hv, us, hus, h⟩ := h
      have e : v :: us = vs := by simpa using h
      rw [← e, List.map_cons, ih us hus, kn.ev hv]
  have e1 : xs.map a.eval = vs.toArray := by apply Array.ext'; rw [Array.toList_map]; exact key _ _ hx
  have e2 : ys.map a.eval = us.toArray := by apply Array.ext'; rw [Array.toList_map]; exact key _ _ hy
  simp [execOp, Instr.makeFunc, e1, e2]
theorem Ru.makeIface {x : Operand} {v : Value} {t : TypeId} {d : TypeDesc} [UT P t d] (hx : ev env x = some v) (hd : (match d with | .interface _ => false | _ => true) = true := by rfl) : Ru P σ n env l ⟨dst, .makeInterface t x, ty, pos, af, gd⟩ (.iface t v) := by
  intro a w kn _
  have h1 := UT.run (P := P) (t := t) w
  cases d <;> simp_all [execOp, kn.ev hx, Instr.makeInterface]

/-! ### Parts -/
theorem Ru.field {x : Operand} {s ft : TypeId} {i off z : Nat} {cs : Array Value} {v : Value} [hf : FA P s i off z ft false]
    (hx : ev env x = some (.agg cs)) (hv : cs[off]? = some v) : Ru P σ n env l ⟨dst, .field s x i, ty, pos, af, gd⟩ v := by
  intro a w kn _
  obtain ⟨fs, f, h1, h2, rfl, rfl, h5, h6, h7⟩ := hf.eq
  have h1' : (underlying s).run P w = .ok (.struct fs) w := by simp [underlying, h1]
  simp [execOp, kn.ev hx, Instr.field, h1', h2, part, asAgg, h6, hv]
theorem Ru.fieldA {x : Operand} {s ft : TypeId} {i off z : Nat} {cs : Array Value} [hf : FA P s i off z ft true]
    (hx : ev env x = some (.agg cs)) : Ru P σ n env l ⟨dst, .field s x i, ty, pos, af, gd⟩ (.agg (cs.extract off (off + z))) := by
  intro a w kn _
  obtain ⟨fs, f, h1, h2, rfl, rfl, h5, h6, h7⟩ := hf.eq
  have h1' : (underlying s).run P w = .ok (.struct fs) w := by simp [underlying, h1]
  simp [execOp, kn.ev hx, Instr.field, h1', h2, part, asAgg, h6, h5]
theorem Ru.fieldAddr {x : Operand} {s ft : TypeId} {i off z b o : Nat} {g : Bool} [hf : FA P s i off z ft g]
    (hx : ev env x = some (.pointer (some ⟨b, o, none⟩))) : Ru P σ n env l ⟨dst, .fieldAddr s x i, ty, pos, af, gd⟩ (.pointer (some ⟨b, o + off, none⟩)) := by
  intro a w kn _
  obtain ⟨fs, f, h1, h2, rfl, rfl, h5, h6, h7⟩ := hf.eq
  have h1' : (underlying s).run P w = .ok (.struct fs) w := by simp [underlying, h1]
  simp [execOp, kn.ev hx, Instr.fieldAt, h1', h2, Instr.sureAddr, fieldPlace, h5, h7, Addr.add]
theorem Ru.indexAddr {x y : Operand} {t e : TypeId} {b o len cap z : Nat} {k : IntKind} {i : Int} [UT P t (.slice e)] [SZ P e z] (hx : ev env x = some (.slice (some ⟨b, o, none⟩) len cap)) (hy : ev env y = some (.int k i)) (h0 : 0 ≤ i) (h1 : i < len) :
    Ru P σ n env l ⟨dst, .indexAddr t x y, ty, pos, af, gd⟩ (.pointer (some ⟨b, o + i.toNat * z, none⟩)) := by
  intro a w kn _
  have e1 := UT.run (P := P) (t := t) w
  have e2 := SZ.eq (P := P) (t := e) w
  simp [execOp, kn.ev hx, kn.ev hy, Instr.indexAt, asIntOf, e1, e2, h0, h1, Addr.add]
theorem Ru.indexAddrA {x y : Operand} {t e : TypeId} {b o len z : Nat} {k : IntKind} {i : Int} [UT P t (.array len e)] [SZ P e z] (hx : ev env x = some (.pointer (some ⟨b, o, none⟩))) (hy : ev env y = some (.int k i)) (h0 : 0 ≤ i) (h1 : i < len) :
    Ru P σ n env l ⟨dst, .indexAddr t x y, ty, pos, af, gd⟩ (.pointer (some ⟨b, o + i.toNat * z, none⟩)) := by
  intro a w kn _
  have e1 := UT.run (P := P) (t := t) w
  have e2 := SZ.eq (P := P) (t := e) w
  simp [execOp, kn.ev hx, kn.ev hy, Instr.indexAt, Instr.sureAddr, asIntOf, e1, e2, h0, h1, Addr.add]
theorem Ru.indexA {x y : Operand} {t e : TypeId} {len z : Nat} {k : IntKind} {i : Int} {cs : Array Value} {v : Value} [UT P t (.array len e)] [SZ P e z] [AG P e false] (hx : ev env x = some (.agg cs)) (hy : ev env y = some (.int k i)) (h0 : 0 ≤ i) (h1 : i < len)
    (hv : cs[i.toNat * z]? = some v) : Ru P σ n env l ⟨dst, .index t x y, ty, pos, af, gd⟩ v := by
  intro a w kn _
  have e1 := UT.run (P := P) (t := t) w
  have e2 := SZ.eq (P := P) (t := e) w
  have h2 := AG.eq (P := P) (t := e) w
  simp [execOp, kn.ev hx, kn.ev hy, Instr.index, asIntOf, e1, e2, h0, h1, part, h2, hv]
theorem Ru.lenS {x : Operand} {t e : TypeId} {p : Option Addr} {m c : Nat} [UT P t (.slice e)] (hx : ev env x = some (.slice p m c)) : Ru P σ n env l ⟨dst, .call ⟨.builtin .len, #[x], #[t]⟩, ty, pos, af, gd⟩ (.int .i64 m) := by
  intro a w kn _
  have e1 := UT.run (P := P) (t := t) w
  simp [execOp, resolve, invoke, builtin, Builtin.len_, kn.ev hx, e1, goInt]
theorem Ru.lenStr {x : Operand} {t : TypeId} {s : ByteArray} [UT P t .string] (hx : ev env x = some (.string s)) : Ru P σ n env l ⟨dst, .call ⟨.builtin .len, #[x], #[t]⟩, ty, pos, af, gd⟩ (.int .i64 s.size) := by
  intro a w kn _
  have e1 := UT.run (P := P) (t := t) w
  simp [execOp, resolve, invoke, builtin, Builtin.len_, kn.ev hx, e1, goInt]
theorem Ru.capS {x : Operand} {t e : TypeId} {p : Option Addr} {m c : Nat} [UT P t (.slice e)] (hx : ev env x = some (.slice p m c)) : Ru P σ n env l ⟨dst, .call ⟨.builtin .cap, #[x], #[t]⟩, ty, pos, af, gd⟩ (.int .i64 c) := by
  intro a w kn _
  have e1 := UT.run (P := P) (t := t) w
  simp [execOp, resolve, invoke, builtin, Builtin.cap_, kn.ev hx, e1, goInt]
theorem Ru.max2 {x y : Operand} {t : Array TypeId} {k : IntKind} {p q : Int} (hx : ev env x = some (.int k p)) (hy : ev env y = some (.int k q)) : Ru P σ n env l ⟨dst, .call ⟨.builtin .max, #[x, y], t⟩, ty, pos, af, gd⟩ (.int k (if q > p then q else p)) := by
  intro a w kn _
  simp [execOp, resolve, invoke, builtin, Builtin.max_, kn.ev hx, kn.ev hy, Builtin.max2]
theorem Ru.min2 {x y : Operand} {t : Array TypeId} {k : IntKind} {p q : Int} (hx : ev env x = some (.int k p)) (hy : ev env y = some (.int k q)) : Ru P σ n env l ⟨dst, .call ⟨.builtin .min, #[x, y], t⟩, ty, pos, af, gd⟩ (.int k (if q < p then q else p)) := by
  intro a w kn _
  simp [execOp, resolve, invoke, builtin, Builtin.min_, kn.ev hx, kn.ev hy, Builtin.min2]

def Places (P : Program) : List Field → List (Nat × Nat) → Prop
  | [], [] => True
  | f :: fs, p :: ps => (f.offset = p.1 ∧ ∀ w, (sizeOf f.type).run P w = .ok p.2 w) ∧ Places P fs ps
  | _, _ => False
/-- A struct type's zero cells, and where its fields lie. -/
class BT (P : Program) (t : TypeId) (zs : outParam (Array Value)) (pl : outParam (List (Nat × Nat))) : Prop where
  z : ∀ w, (zeroValue t).run P w = .ok (.agg zs) w
  u : ∃ fs : Array Field, P.underlying t = some (.struct fs) ∧ Places P fs.toList pl

theorem run_sizes : ∀ (fs : List Field) (pl : List (Nat × Nat)) (w : World), Places P fs pl →
    Sem.run P (fs.mapM (fun f => (do Pure.pure (f.offset, ← sizeOf f.type) : Sem (Nat × Nat)))) w = .ok pl w
  | [], [], w, _ => rfl
  | f :: fs, p :: pl, w, ⟨⟨h1, h2⟩, h⟩ => by
    have ih := run_sizes fs pl w h
    simp only [List.mapM_cons, Sem.run_bind, h2, Result.andThen_ok, Sem.run_pure, ih, h1]
  | [], _ :: _, _, h => h.elim
  | _ :: _, [], _, h => h.elim

theorem Ru.build {t : TypeId} {zs : Array Value} {pl : List (Nat × Nat)} {parts : Array (Nat × Operand)} {vs : List Value} {cells : Array Value} [h : BT P t zs pl] (hx : parts.toList.mapM (fun p => ev env p.2) = some vs)
    (hf : Instr.fill (fun i => pl[i]?) zs ((parts.toList.map (·.1)).zip vs) = some cells := by rfl) : Ru P σ n env l ⟨dst, .build t parts, ty, pos, af, gd⟩ (.agg cells) := by
  intro a w kn _
  obtain ⟨fs, hu, hp⟩ := h.u
  have h1 := h.z w
  have h2 : (underlying t).run P w = .ok (.struct fs) w := by simp [underlying, hu]
  have h3 := run_sizes (P := P) fs.toList pl w hp
  have key : ∀ (ps : List (Nat × Operand)) (vs : List Value), ps.mapM (fun p => ev env p.2) = some vs → ps.map (fun p => (p.1, a.eval p.2)) = (ps.map (·.1)).zip vs := by
    intro ps
    induction ps with
    | nil => intro vs h; simp at h; subst h; rfl
    | cons x ps ih =>
      intro vs h
      simp only [List.mapM_cons, Option.bind_eq_bind, Option.bind_eq_some_iff] at h
      obtain ⟨v, hv, us, hus, h⟩ := h
      have e : v :: us = vs := by simpa using h
      rw [← e, List.map_cons, ih us hus, kn.ev hv]
      rfl
  have e1 : (parts.map fun (i, x) => (i, a.eval x)).toList = (parts.toList.map (·.1)).zip vs := by rw [Array.toList_map]; exact key _ _ hx
  have h4 : Sem.run P (fs.mapM (fun f => (do Pure.pure (f.offset, ← sizeOf f.type) : Sem (Nat × Nat)))) w = .ok pl.toArray w := by
    rw [Array.mapM_eq_mapM_toList]
    simp only [Sem.run_map, h3, Result.andThen_ok]
  have h5 : (fun i : Nat => pl.toArray[i]?) = fun i : Nat => pl[i]? := by funext i; simp
  simp only [execOp, Instr.build, Sem.run_bind, h1, Result.andThen_ok, h2, h4, Value.cells, e1, h5, hf]
  rfl

theorem mapM_parts {a : Act} (kn : Kn n a env) : ∀ (ps : List (Nat × Operand)) (vs : List Value), ps.mapM (fun p => ev env p.2) = some vs → ps.map (fun p => (p.1, a.eval p.2)) = (ps.map (·.1)).zip vs := by
  intro ps
  induction ps with
  | nil => intro vs h; simp at h; subst h; rfl
  | cons x ps ih =>
    intro vs h
    simp only [List.mapM_cons, Option.bind_eq_bind, Option.bind_eq_some_iff] at h
    obtain ⟨v, hv, us, hus, h⟩ := h
    have e : v :: us = vs := by simpa using h
    rw [← e, List.map_cons, ih us hus, kn.ev hv]
    rfl
theorem Ru.buildArr {t e : TypeId} {m z : Nat} {zs : Array Value} {parts : Array (Nat × Operand)} {vs : List Value} {cells : Array Value} [UT P t (.array m e)] [SZ P e z] [ZV P t (.agg zs)] (hx : parts.toList.mapM (fun p => ev env p.2) = some vs)
    (hf : Instr.fill (fun i => some (i * z, z)) zs ((parts.toList.map (·.1)).zip vs) = some cells := by rfl) : Ru P σ n env l ⟨dst, .build t parts, ty, pos, af, gd⟩ (.agg cells) := by
  intro a w kn _
  have h1 := ZV.eq (P := P) (t := t) w
  have h2 := UT.run (P := P) (t := t) w
  have h3 := SZ.eq (P := P) (t := e) w
  have e1 : (parts.map fun (i, x) => (i, a.eval x)).toList = (parts.toList.map (·.1)).zip vs := by rw [Array.toList_map]; exact mapM_parts kn _ _ hx
  simp only [execOp, Instr.build, Sem.run_bind, h1, Result.andThen_ok, h2, h3, Value.cells, e1, hf]
  rfl

/-! ### Memory -/
theorem run_loadPart {w : World} {b o : Nat} {vs : List Value} {m : Nat} (hc : ∀ i, w.cell? ⟨b, i, none⟩ = vs[i]?) (hm : o + m ≤ vs.length) : (loadCells ⟨b, o, none⟩ m).run P w = .ok ((vs.drop o).take m).toArray w := by
  have hlen : ((vs.drop o).take m).length = m := by simp; omega
  have := run_loadCells_list (P := P) (w := w) ⟨b, o, none⟩ ((vs.drop o).take m) (fun j v hv => by
    have hj : j < m := by
      rcases Nat.lt_or_ge j m with q | q
      · exact q
      · rw [List.getElem?_eq_none (by omega)] at hv; cases hv
    have e : Addr.add ⟨b, o, none⟩ j = ⟨b, o + j, none⟩ := by simp [Addr.add]
    rw [e, hc]
    rw [List.getElem?_take_of_lt hj, List.getElem?_drop] at hv
    exact hv)
  rw [hlen] at this
  exact this

theorem Ru.load {x : Operand} {t E : TypeId} {b o : Nat} {vs : List Value} {v : Value} [AG P t false] (hx : ev env x = some (.pointer (some ⟨b, o, none⟩))) (hp : Pick (arr b E vs) l r) (hv : vs[o]? = some v) :
    Ru P σ n env l ⟨dst, .load t x, ty, pos, af, gd⟩ v := by
  intro a w kn s
  have h2 := AG.eq (P := P) (t := t) w
  have hc := (s.perm hp).cell o
  simp [execOp, kn.ev hx, Instr.loadAt, Instr.sureAddr, loadVar, h2, hc, hv]
theorem Ru.loadA {x : Operand} {t E : TypeId} {b o z : Nat} {vs cs : List Value} [AG P t true] [SZ P t z] (hx : ev env x = some (.pointer (some ⟨b, o, none⟩))) (hp : Pick (arr b E vs) l r) (hm : Nat.ble (o + z) vs.length = true := by rfl) (hcs : (vs.drop o).take z = cs := by rfl) :
    Ru P σ n env l ⟨dst, .load t x, ty, pos, af, gd⟩ (.agg cs.toArray) := by
  intro a w kn s
  have h2 := AG.eq (P := P) (t := t) w
  have h3 := SZ.eq (P := P) (t := t) w
  have hc := run_loadPart (P := P) (fun i => (s.perm hp).cell i) (by simpa using hm : o + z ≤ vs.length)
  simp [execOp, kn.ev hx, Instr.loadAt, Instr.sureAddr, loadVar, h2, h3, hc, hcs]

theorem Ru.loadC {x : Operand} {t : TypeId} {p : Addr} {v : Value} [AG P t false] (hx : ev env x = some (.pointer (some p))) (hv : ∀ w, Sat σ w l → w.cell? p = some v) :
    Ru P σ n env l ⟨dst, .load t x, ty, pos, af, gd⟩ v := by
  intro a w kn s
  have h2 := AG.eq (P := P) (t := t) w
  simp [execOp, kn.ev hx, Instr.loadAt, Instr.sureAddr, loadVar, h2, hv w s]

/-- What is stored, cell by cell. -/
def splice (vs : List Value) (o : Nat) : List Value → List Value
  | [] => vs
  | c :: cs => splice (vs.set o c) (o + 1) cs
theorem splice_length : ∀ (cs vs : List Value) (o : Nat), (splice vs o cs).length = vs.length
  | [], _, _ => rfl
  | c :: cs, vs, o => by simp [splice, splice_length cs]

theorem Sat.storeCells {b E : Nat} : ∀ (cs : List Value) (vs : List Value) (o i : Nat) (w : World), (∀ c ∈ cs, c.oneCell' = true) → o + i + cs.length ≤ vs.length → Sat σ w (Sep.arr b E vs :: l) →
    ∃ w', (storeCells ⟨b, o, none⟩ cs i).run P w = .ok () w' ∧ Sat σ w' (Sep.arr b E (splice vs (o + i) cs) :: l)
  | [], vs, o, i, w, _, _, s => ⟨w, rfl, s⟩
  | c :: cs, vs, o, i, w, h1, hl, s => by
    have hlt : o + i < vs.length := by simp at hl; omega
    have hc : w.cell? ⟨b, o + i, none⟩ = some (vs[o + i]'hlt) := by rw [s.cell]; exact List.getElem?_eq_getElem hlt
    have hf := s.unfrozen hlt none
    have e : Addr.add ⟨b, o, none⟩ i = ⟨b, o + i, none⟩ := by simp [Addr.add]
    obtain ⟨w', hr, s'⟩ := Sat.storeCells cs (vs.set (o + i) c) o (i + 1) (w.setCell ⟨b, o + i, none⟩ c) (fun x hx => h1 x (List.mem_cons_of_mem _ hx)) (by simp at hl ⊢; omega) (s.setCell (o + i) c)
    refine ⟨w', ?_, by simpa [splice, Nat.add_assoc] using s'⟩
    have hst := run_store P w ⟨b, o + i, none⟩ c .plain (h1 c (List.mem_cons_self ..))
    rw [hc] at hst
    simp only [hf] at hst
    simp only [Go.storeCells, Sem.run_bind, e, hst]
    exact hr

theorem Do.store {x y : Operand} {t E : TypeId} {b o : Nat} {vs : List Value} {v : Value} [SZ P t 1] (hx : ev env x = some (.pointer (some ⟨b, o, none⟩))) (hy : ev env y = some v) (h1 : v.oneCell' = true) (hp : Pick (arr b E vs) l r) (ho : Nat.blt o vs.length = true) :
    Do P σ n env l ⟨dst, .store t x y, ty, pos, af, gd⟩ (fun u l' => u = undef ∧ l' = arr b E (vs.set o v) :: r) := by
  refine Do.skip fun a w kn s => ?_
  have h3 := SZ.eq (P := P) (t := t) w
  have ho' : o < vs.length := by simpa using ho
  have hcs : v.cells = #[v] := by cases v <;> first | rfl | cases h1
  obtain ⟨w', hr, s'⟩ := Sat.storeCells (P := P) (σ := σ) [v] vs o 0 w (by simpa using h1) (by simp; omega) (s.perm hp)
  refine ⟨w', _, ?_, s', rfl, rfl⟩
  simp [execOp, kn.ev hx, kn.ev hy, Instr.storeAt, Instr.sureAddr, storeVar, hcs, h3, hr]
theorem Do.storeA {x y : Operand} {t E : TypeId} {b o z : Nat} {vs cs : List Value} [SZ P t z] (hx : ev env x = some (.pointer (some ⟨b, o, none⟩))) (hy : ev env y = some (.agg cs.toArray)) (hp : Pick (arr b E vs) l r) (hz : Nat.beq cs.length z = true := by rfl) (h1 : cs.all Value.oneCell' = true := by rfl) (ho : Nat.ble (o + cs.length) vs.length = true := by rfl) :
    Do P σ n env l ⟨dst, .store t x y, ty, pos, af, gd⟩ (fun u l' => u = undef ∧ l' = arr b E (splice vs o cs) :: r) := by
  refine Do.skip fun a w kn s => ?_
  have h3 := SZ.eq (P := P) (t := t) w
  have ho' : o + cs.length ≤ vs.length := by simpa using ho
  have hz' : cs.length = z := Nat.eq_of_beq_eq_true hz
  obtain ⟨w', hr, s'⟩ := Sat.storeCells (P := P) (σ := σ) cs vs o 0 w (by simpa using h1) (by omega) (s.perm hp)
  refine ⟨w', _, ?_, s', rfl, rfl⟩
  simp [execOp, kn.ev hx, kn.ev hy, Instr.storeAt, Instr.sureAddr, storeVar, Value.cells, h3, hz', hr]

theorem Do.alloc {t : TypeId} {v : Value} [ZV P t v] : Do P σ n env l ⟨dst, .alloc t, ty, pos, af, gd⟩ (fun u l' => ∃ b, u = .pointer (some ⟨b, 0, none⟩) ∧ l' = arr b t v.cells.toList :: l) := by
  refine Do.value fun a w kn s => ?_
  have h1 := ZV.eq (P := P) (t := t) w
  refine ⟨_, _, _, ?_, s.newRow t v.cells, _, rfl, rfl⟩
  simp [execOp, Instr.alloc, h1, newVar, newRow]
theorem Do.box {t : TypeId} {x : Operand} {v : Value} (hx : ev env x = some v) : Do P σ n env l ⟨dst, .box t x, ty, pos, af, gd⟩ (fun u l' => ∃ b, u = .pointer (some ⟨b, 0, none⟩) ∧ l' = arr b t v.cells.toList :: l) := by
  refine Do.value fun a w kn s => ?_
  refine ⟨_, _, _, ?_, s.newRow t v.cells, _, rfl, rfl⟩
  simp [execOp, Instr.box, kn.ev hx, newVar, newRow]
theorem Do.makeMap {t : TypeId} : Do P σ n env l ⟨dst, .makeMap t none, ty, pos, af, gd⟩ (fun u l' => ∃ b, u = .map (some b) ∧ l' = pt b (.map #[] 0) :: l) := by
  refine Do.value fun a w kn s => ?_
  refine ⟨_, _, _, ?_, s.new (o := .map #[] 0), _, rfl, rfl⟩
  simp [execOp, Instr.makeMap]

theorem Do.buildSlice {t e : TypeId} {z len : Nat} {zv : Value} {parts : Array (Nat × Operand)} {vs : List Value} {cells : Array Value} [UT P t (.slice e)] [SZ P e z] [ZV P e zv] (hx : parts.toList.mapM (fun p => ev env p.2) = some vs)
    (hl : Nat.ble (len * z) (2 ^ 24) = true := by rfl) (hn : Nat.beq (len * z) 0 = false := by rfl)
    (hf : Instr.fill (fun i => some (i * z, z)) ((List.range (len * z)).map (fun i => zv.cells[i % zv.cells.size]!)).toArray ((parts.toList.map (·.1)).zip vs) = some cells := by rfl) :
    Do P σ n env l ⟨dst, .buildSlice t len parts, ty, pos, af, gd⟩ (fun u l' => ∃ b, u = .slice (some ⟨b, 0, none⟩) len len ∧ l' = arr b e cells.toList :: l) := by
  refine Do.value fun a w kn s => ?_
  have h1 := UT.run (P := P) (t := t) w
  have h2 := SZ.eq (P := P) (t := e) w
  have h3 := ZV.eq (P := P) (t := e) w
  have e1 : (parts.map fun (i, x) => (i, a.eval x)).toList = (parts.toList.map (·.1)).zip vs := by rw [Array.toList_map]; exact mapM_parts kn _ _ hx
  have hl' : ¬ (len * z > 2 ^ 24) := by have : len * z ≤ 2 ^ 24 := by simpa using hl
                                        omega
  have hn' : len * z ≠ 0 := Nat.ne_of_beq_eq_false hn
  have hrg : (Array.range (len * z)).map (zv.cells[· % zv.cells.size]!) = ((List.range (len * z)).map (fun i => zv.cells[i % zv.cells.size]!)).toArray := by apply Array.ext'; simp
  refine ⟨_, _, _, ?_, s.newRow e cells, _, rfl, rfl⟩
  simp only [execOp, Instr.buildSlice, Sem.run_bind, h1, Result.andThen_ok, h2, if_neg hl', if_neg hn', h3, Sem.run_pure, e1, hrg, hf, newRow, run_newObj]

theorem Do.buildSlice0 {t e : TypeId} {z : Nat} [UT P t (.slice e)] [SZ P e z] :
    Do P σ n env l ⟨dst, .buildSlice t 0 #[], ty, pos, af, gd⟩ (fun u l' => ∃ b, u = .slice (some ⟨b, 0, none⟩) 0 0 ∧ l' = arr b e [] :: l) := by
  refine Do.value fun a w kn s => ?_
  have h1 := UT.run (P := P) (t := t) w
  have h2 := SZ.eq (P := P) (t := e) w
  have hr : ∀ zs : Array Value, (Array.range 0).map (zs[· % zs.size]!) = (#[] : Array Value) := fun zs => by apply Array.ext'; simp
  refine ⟨_, _, _, ?_, s.newRow e #[], _, rfl, rfl⟩
  simp only [execOp, Instr.buildSlice, Sem.run_bind, h1, Result.andThen_ok, h2, Nat.zero_mul, Sem.run_pure, Array.map_empty, if_true, hr, Instr.fill, newRow, run_newObj]
  rfl

/-! ### Calls -/
theorem mapM_ev {a : Act} (kn : Kn n a env) : ∀ (l : List Operand) (vs : List Value), l.mapM (ev env) = some vs → l.map a.eval = vs := by
  intro l
  induction l with
  | nil => intro vs h; simp at h; exact h.symm ▸ rfl
  | cons x l ih =>
    intro vs h
    simp only [List.mapM_cons, Option.bind_eq_bind, Option.bind_eq_some_iff] at h
    obtain ⟨v, hv, us, hus, h⟩ := h
    have e : v :: us = vs := by simpa using h
    rw [← e, List.map_cons, ih us hus, kn.ev hv]

/-- The function has a body. -/
class HasBody (P : Program) (f : FuncId) : Prop where
  run : ∀ args w, (callFunc f args).run P w = .ok (.enter f args) w

theorem Do.call {f : FuncId} {xs : Array Operand} {ts : Array TypeId} {vs : List Value} {post : Value → List HP → Prop} [HasBody P f] (hx : xs.toList.mapM (ev env) = some vs) (h : Fn P σ f vs.toArray l post) :
    Do P σ n env l ⟨dst, .call ⟨.value (.func f), xs, ts⟩, ty, pos, af, gd⟩ post := by
  intro a w kn s K Q hK
  have e : xs.map a.eval = vs.toArray := by apply Array.ext'; rw [Array.toList_map]; exact mapM_ev kn _ _ hx
  have hr := HasBody.run (P := P) (f := f) vs.toArray w
  unfold Oper.wp
  have he : (execOp a.eval ⟨dst, .call ⟨.value (.func f), xs, ts⟩, ty, pos, af, gd⟩).run P w = .ok (.enter f vs.toArray) w := by
    simp [execOp, resolve, invoke, Act.eval, Deferred.ofValue, e, hr]
  rw [he, Oper.upon_enter]
  refine (h w s).mono ?_
  rintro e' w' ⟨v, l', rfl, p, s'⟩
  exact hK v l' w' p s'
/-- A call through a function's value. -/
theorem Do.callV {f : FuncId} {x : Operand} {xs : Array Operand} {ts : Array TypeId} {vs : List Value} {c d : Array Value} {post : Value → List HP → Prop} [HasBody P f] (hf : ev env x = some (.func (.func f) c d)) (hx : xs.toList.mapM (ev env) = some vs) (h : Fn P σ f (c ++ vs.toArray ++ d) l post) :
    Do P σ n env l ⟨dst, .call ⟨.value x, xs, ts⟩, ty, pos, af, gd⟩ post := by
  intro a w kn s K Q hK
  have e : xs.map a.eval = vs.toArray := by apply Array.ext'; rw [Array.toList_map]; exact mapM_ev kn _ _ hx
  have hr := HasBody.run (P := P) (f := f) (c ++ vs.toArray ++ d) w
  unfold Oper.wp
  have he : (execOp a.eval ⟨dst, .call ⟨.value x, xs, ts⟩, ty, pos, af, gd⟩).run P w = .ok (.enter f (c ++ vs.toArray ++ d)) w := by
    simp only [execOp, resolve, kn.ev hf, Deferred.ofValue, e, Sem.run_bind, Sem.run_pure, Result.andThen_ok, invoke]
    simpa using hr
  rw [he, Oper.upon_enter]
  refine (h w s).mono ?_
  rintro e' w' ⟨v, l', rfl, p, s'⟩
  exact hK v l' w' p s'

/-- A call of a function that leaves the heap as it is, and answers v. -/
theorem Ru.ofDo {o : Oper} {v : Value} (h : Ru P σ n env l o v) : Do P σ n env l o (fun v' l' => v' = v ∧ l' = l) := h.do
end

theorem wrapI {x : Int} (h0 : -9223372036854775808 ≤ x) (h1 : x ≤ 9223372036854775807) : IntKind.i64.wrap x = x := by
  simp [IntKind.wrap, IntKind.bits, IntKind.signed]; omega
theorem wrapU8 {x : Int} (h0 : 0 ≤ x) (h1 : x ≤ 255) : IntKind.u8.wrap x = x := by
  simp [IntKind.wrap, IntKind.bits, IntKind.signed]; omega
theorem wrapU32 {x : Int} (h0 : 0 ≤ x) (h1 : x ≤ 4294967295) : IntKind.u32.wrap x = x := by
  simp [IntKind.wrap, IntKind.bits, IntKind.signed]; omega
theorem wrapU64 {x : Int} (h0 : 0 ≤ x) (h1 : x ≤ 18446744073709551615) : IntKind.u64.wrap x = x := by
  simp [IntKind.wrap, IntKind.bits, IntKind.signed]; omega
theorem decT {p : Prop} [Decidable p] (h : p) : decide p = true := decide_eq_true h
theorem decF {p : Prop} [Decidable p] (h : ¬ p) : decide p = false := decide_eq_false h
theorem ndecT {p : Prop} [Decidable p] (h : ¬ p) : (!decide p) = true := by simp [h]
theorem ndecF {p : Prop} [Decidable p] (h : p) : (!decide p) = false := by simp [h]
end Go.Sep
