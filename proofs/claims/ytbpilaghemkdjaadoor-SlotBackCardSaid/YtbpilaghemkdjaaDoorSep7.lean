/- Drawn orders, all of them; branches that meet; bytes as strings; parts of slices. -/
import Derived.Test.YtbpilaghemkdjaaDoorSep6
import Derived.Laws.BytesArg
namespace Go.Sep
open Go

section
variable {P : Program} {σ : Sig} {n : Nat} {ds : List Deferred} {ops : Array Oper} {Q : Exit → Act → World → Prop} {rest : List Oper} {env : Env} {l r : List HP} {o : Oper}
  {dst : Option Tmp} {ty : TypeId} {pos : String} {af : Array Edge} {gd : Option (Nat × Bool)}

/-! ### A state in the midst -/
def Mid {α : Type} (σ : Sig) (n : Nat) (ds : List Deferred) (E : α → Env) (L : α → List HP) (ok : α → Prop) : Act → World → Prop :=
  fun a w => ∃ x, ok x ∧ Kn n a (E x) ∧ a.defers = ds ∧ Sat σ w (L x)
theorem then_mono {K K' : Act → World → Prop} (h : ∀ a w, K a w → K' a w) : ∀ e a w, Exit.then K Q e a w → Exit.then K' Q e a w := by
  intro e a w x
  cases e <;> first | exact h _ _ x | exact x
theorem JC.mid {α : Type} {c y : Code} (E : α → Env) (L : α → List HP) (ok : α → Prop) (hm : ∀ x, ok x → JC P σ n ds y Q (E x) (L x)) (h : JC P σ n ds c (Exit.then (Mid σ n ds E L ok) Q) env l) :
    JC P σ n ds c (Exit.then (y.wp P Q) Q) env l := fun a w k d s =>
  wp_mono (h a w k d s) (then_mono (fun a w ⟨x, hx, k, d, s⟩ => hm x hx a w k d s))
theorem JE.mid {α : Type} {E : α → Env} {L : α → List HP} {ok : α → Prop} (x : α) (hx : ok x) (hE : Has env (E x)) (hL : ∀ w, Sat σ w l → Sat σ w (L x)) : JE σ n ds (Exit.then (Mid σ n ds E L ok) Q) .normal env l :=
  fun _ w k d s => ⟨x, hx, k.forget hE, d, hL w s⟩

/-! ### Drawn orders: what has come up is a number's bits -/
def lsb (m mask : Nat) : List Bool := (List.range m).map fun i => mask.testBit i
theorem lsb_length (m mask : Nat) : (lsb m mask).length = m := by simp [lsb]
theorem lsb_zero (m : Nat) : (lsb m 0).toArray = Array.replicate m false := by
  apply Array.ext'
  apply List.ext_getElem
  · simp [lsb]
  · intro i h1 h2
    simp [lsb]
theorem lsb_set (m mask i : Nat) : (lsb m mask).toArray.setIfInBounds i true = (lsb m (mask ||| 2 ^ i)).toArray := by
  apply Array.ext'
  rw [Array.toList_setIfInBounds]
  apply List.ext_getElem
  · simp [lsb]
  · intro j h1 h2
    simp only [lsb, List.getElem_set, List.getElem_map, List.getElem_range, Nat.testBit_or, Nat.testBit_two_pow]
    by_cases h : i = j
    · subst h; simp
    · simp [h]

/-- Whether what an operation waits for has come up (fun b: the bits). -/
def bitm (m mask i : Nat) : Bool := match Nat.blt i m with
  | true => mask.testBit i
  | false => false
def waitsL (m mask : Nat) : List Edge → Bool
  | [] => false
  | e :: r => match Region.binds .any e with
    | true => match bitm m mask e.on with
      | true => waitsL m mask r
      | false => true
    | false => waitsL m mask r
/-- Those that may come up now. -/
def rdyL (m mask : Nat) : Nat → List Oper → List Nat
  | _, [] => []
  | j, o :: r => match mask.testBit j with
    | true => rdyL m mask (j + 1) r
    | false => match waitsL m mask o.after.toList with
      | true => rdyL m mask (j + 1) r
      | false => j :: rdyL m mask (j + 1) r
def quietOp : Op → Bool
  | .call c => match c.callee with
    | .builtin .len | .builtin .cap | .builtin .max | .builtin .min => true
    | _ => false
  | .store .. | .alloc .. | .box .. | .buildSlice .. | .makeMap .. | .makeSlice .. | .mapUpdate .. => false
  | .convert a b _ => !(Nat.beq a b)
  | _ => true
/-- The first of those that only reads. -/
def nextL (m mask : Nat) : Nat → List Oper → Option (Nat × Oper)
  | _, [] => none
  | j, o :: r => match mask.testBit j with
    | true => nextL m mask (j + 1) r
    | false => match quietOp o.op with
      | false => nextL m mask (j + 1) r
      | true => match waitsL m mask o.after.toList with
        | true => nextL m mask (j + 1) r
        | false => some (j, o)

theorem lsb_get {m mask j : Nat} (d : Bool) (h : j < m) : (lsb m mask).toArray.getD j d = mask.testBit j := by
  simp [lsb, Array.getD_eq_getD_getElem?, h]
theorem waitsL_spec {m mask : Nat} : ∀ {es : List Edge}, waitsL m mask es = false ↔ ∀ e ∈ es, Region.binds .any e = true → (lsb m mask).toArray.getD e.on false = true
  | [] => by simp [waitsL]
  | e :: r => by
    have ih := waitsL_spec (m := m) (mask := mask) (es := r)
    have hb : bitm m mask e.on = (lsb m mask).toArray.getD e.on false := by
      unfold bitm
      cases q : Nat.blt e.on m with
      | true => rw [lsb_get false (by simpa using q)]
      | false =>
        have : ¬ e.on < m := by intro h; rw [← Nat.blt_eq] at h; rw [h] at q; cases q
        simp [lsb, Array.getD_eq_getD_getElem?, this]
    simp only [waitsL, List.mem_cons, forall_eq_or_imp]
    cases q1 : Region.binds .any e with
    | false => simp [ih]
    | true =>
      cases q2 : bitm m mask e.on with
      | true => rw [← hb, q2]; simp [ih]
      | false => rw [← hb, q2]; simp
theorem rdyL_mem {m mask : Nat} : ∀ (r : List Oper) (j i : Nat), j + r.length = m → (i ∈ rdyL m mask j r ↔ j ≤ i ∧ ∃ o, r[i - j]? = some o ∧ (lsb m mask).toArray.getD i true = false ∧ waitsL m mask o.after.toList = false)
  | [], j, i, _ => by simp [rdyL]
  | o :: r, j, i, hm => by
    have ih := rdyL_mem (m := m) (mask := mask) r (j + 1) i (by simp at hm; omega)
    have hj : j < m := by simp at hm; omega
    have hstep : (j ≤ i ∧ ∃ o', (o :: r)[i - j]? = some o' ∧ (lsb m mask).toArray.getD i true = false ∧ waitsL m mask o'.after.toList = false) ↔
        (i = j ∧ mask.testBit j = false ∧ waitsL m mask o.after.toList = false) ∨ (j + 1 ≤ i ∧ ∃ o', r[i - (j + 1)]? = some o' ∧ (lsb m mask).toArray.getD i true = false ∧ waitsL m mask o'.after.toList = false) := by
      by_cases h : i = j
      · subst h
        rw [lsb_get true hj]
        simp
        intro h; omega
      · by_cases h2 : j ≤ i
        · have e : i - j = (i - (j + 1)) + 1 := by omega
          have h3 : j + 1 ≤ i := by omega
          rw [e, List.getElem?_cons_succ]
          simp [h, h2, h3]
        · simp [h, h2]; omega
    rw [hstep, ← ih]
    simp only [rdyL]
    cases q1 : mask.testBit j with
    | true => simp
    | false =>
      cases q2 : waitsL m mask o.after.toList with
      | true => simp
      | false => simp
theorem rdyL_sorted {m mask : Nat} : ∀ (r : List Oper) (j : Nat), (rdyL m mask j r).Pairwise (· < ·) ∧ ∀ i ∈ rdyL m mask j r, j ≤ i
  | [], j => by simp [rdyL]
  | o :: r, j => by
    have ih := rdyL_sorted (m := m) (mask := mask) r (j + 1)
    have h : ∀ i ∈ rdyL m mask (j + 1) r, j ≤ i := fun i hi => by have := ih.2 i hi; omega
    simp only [rdyL]
    cases q1 : mask.testBit j with
    | true => exact ⟨ih.1, h⟩
    | false =>
      cases q2 : waitsL m mask o.after.toList with
      | true => exact ⟨ih.1, h⟩
      | false => exact ⟨List.pairwise_cons.2 ⟨fun i hi => by have := ih.2 i hi; omega, ih.1⟩, fun i hi => by
          rcases List.mem_cons.1 hi with rfl | hi
          · exact Nat.le_refl _
          · exact h i hi⟩
theorem ready_mem {ops : Array Oper} {mask i : Nat} : i ∈ Region.ready .any ops (lsb ops.size mask).toArray ↔ i ∈ rdyL ops.size mask 0 ops.toList := by
  rw [mem_ready, rdyL_mem _ _ _ (by simp)]
  constructor
  · rintro ⟨h1, o, h2, h3⟩
    exact ⟨Nat.zero_le _, o, by simpa using h2, h1, waitsL_spec.2 fun e he => h3 e (by simpa using he)⟩
  · rintro ⟨_, o, h2, h1, h3⟩
    exact ⟨h1, o, by simpa using h2, fun e he => waitsL_spec.1 h3 e (by simpa using he)⟩
theorem nextL_spec {m mask : Nat} : ∀ {r : List Oper} {j i : Nat} {o : Oper}, nextL m mask j r = some (i, o) → j ≤ i ∧ r[i - j]? = some o ∧ mask.testBit i = false ∧ waitsL m mask o.after.toList = false
  | [], _, _, _, h => by cases h
  | o :: r, j, i, o', h => by
    have ih := fun h => nextL_spec (m := m) (mask := mask) (r := r) (j := j + 1) (i := i) (o := o') h
    have up : nextL m mask (j + 1) r = some (i, o') → j ≤ i ∧ (o :: r)[i - j]? = some o' ∧ mask.testBit i = false ∧ waitsL m mask o'.after.toList = false := fun h => by
      obtain ⟨h1, h2, h3, h4⟩ := ih h
      have e : i - j = (i - (j + 1)) + 1 := by omega
      exact ⟨by omega, by rw [e, List.getElem?_cons_succ]; exact h2, h3, h4⟩
    simp only [nextL] at h
    split at h
    · exact up h
    · split at h
      · exact up h
      · split at h
        · exact up h
        · rename_i q1 _ q2 _ q3
          injection h with h; injection h with h1 h2
          subst h1; subst h2
          exact ⟨Nat.le_refl _, by simp, by assumption, by assumption⟩

def JB (P : Program) (σ : Sig) (n : Nat) (ds : List Deferred) (ops : Array Oper) (Q : Exit → Act → World → Prop) (l0 : List HP) (mask fuel : Nat) (env : Env) (l : List HP) : Prop :=
  ∀ a w, Kn n a env → a.defers = ds → Sat σ w l → wpAnyH P .any ops Q (fun w => Sat σ w l0) fuel (lsb ops.size mask).toArray a w
theorem JC.regionB {id : Nat} {r0 : List Oper} (l0 : List HP) (hm : P.follows .mixedOrders = true) (h : JB P σ n ds r0.toArray Q l0 0 r0.length env l) : JC P σ n ds (.region id r0.toArray true) Q env l := by
  intro a w k d s
  refine wp_region_held (S := fun w => Sat σ w l0) hm ?_
  have := h a _ k d (Sat.drew s)
  rw [lsb_zero] at this
  simpa using this

theorem JC.regionBS {id : Nat} {r0 : List Oper} (hm : P.follows .mixedOrders = true) (h : JB P σ n ds r0.toArray Q l 0 r0.length env l) : JC P σ n ds (.region id r0.toArray true) Q env l := JC.regionB l hm h
theorem next_spec {mask i : Nat} (hn : nextL ops.size mask 0 ops.toList = some (i, o)) : ops[i]? = some o ∧ (Region.ready .any ops (lsb ops.size mask).toArray).contains i = true := by
  obtain ⟨_, h2, h3, h4⟩ := nextL_spec hn
  have h2' : ops[i]? = some o := by simpa using h2
  have hi : i < ops.size := (Array.getElem?_eq_some_iff.1 h2').1
  refine ⟨h2', ?_⟩
  rw [List.contains_iff_mem, ready_mem, rdyL_mem _ _ _ (by simp)]
  exact ⟨Nat.zero_le _, o, h2, by rw [lsb_get true hi]; exact h3, h4⟩
theorem JB.ru {l0 : List HP} {mask mask' fuel i d : Nat} {v : Value} [hq : PQ Q] (hn : nextL ops.size mask 0 ops.toList = some (i, o)) (hd : o.dst = some d) (hlt : Nat.blt d n = true) (hwt : want env ops o = some true) (h : Ru P σ n env l0 o v)
    (hs : Region.noSelect ops = true) (hf : Region.free .any ops (lsb ops.size mask).toArray i = true) (hL : ∀ w, Sat σ w l → Sat σ w l0)
    (hm : mask ||| 2 ^ i = mask') (hk : JB P σ n ds ops Q l0 mask' fuel ((d, v) :: env) l) : JB P σ n ds ops Q l0 mask (fuel + 1) env l := by
  subst hm
  intro a w ka kd s
  obtain ⟨ho, hr⟩ := next_spec hn
  refine wpAnyH_take (v := v) ho hs hf hr (fun c a w x => hq.h c a _ v w x) (.inl ⟨want_spec ka hwt, fun w' s' => h a w' ka s'⟩) (hL w s) ?_
  rw [lsb_set, hd]
  exact hk _ w (ka.put d v hlt) (by rw [Act.put_defers']; exact kd) s
theorem JB.skip {l0 : List HP} {mask mask' fuel i d : Nat} [hq : PQ Q] (hn : nextL ops.size mask 0 ops.toList = some (i, o)) (hd : o.dst = some d) (hlt : Nat.blt d n = true) (hwt : want env ops o = some false)
    (hs : Region.noSelect ops = true) (hf : Region.free .any ops (lsb ops.size mask).toArray i = true) (hL : ∀ w, Sat σ w l → Sat σ w l0)
    (hm : mask ||| 2 ^ i = mask') (hk : JB P σ n ds ops Q l0 mask' fuel ((d, undef) :: env) l) : JB P σ n ds ops Q l0 mask (fuel + 1) env l := by
  subst hm
  intro a w ka kd s
  obtain ⟨ho, hr⟩ := next_spec hn
  refine wpAnyH_take (v := undef) ho hs hf hr (fun c a w x => hq.h c a _ _ w x) (.inr ⟨want_spec ka hwt, rfl⟩) (hL w s) ?_
  rw [lsb_set, hd]
  exact hk _ w (ka.put d _ hlt) (by rw [Act.put_defers']; exact kd) s

/-- Operation i comes up. -/
def JI (P : Program) (σ : Sig) (n : Nat) (ds : List Deferred) (ops : Array Oper) (Q : Exit → Act → World → Prop) (l0 : List HP) (mask fuel i : Nat) (env : Env) (l : List HP) : Prop :=
  ∀ a w, Kn n a env → a.defers = ds → Sat σ w l → wpOp P ops Q i (fun a' w' => Sat σ w' l0 ∧ wpAnyH P .any ops Q (fun w => Sat σ w l0) fuel ((lsb ops.size mask).toArray.setIfInBounds i true) a' w') a w
def allI (p : Nat → Prop) : List Nat → Prop
  | [] => True
  | [i] => p i
  | i :: r => p i ∧ allI p r
theorem allI_spec {p : Nat → Prop} : ∀ {rs : List Nat}, allI p rs → ∀ i ∈ rs, p i
  | [], _, _, h => by cases h
  | [_], h, i, hi => by rw [List.mem_singleton.1 hi]; exact h
  | _ :: b :: r, ⟨h1, h2⟩, i, hi => by
    rcases List.mem_cons.1 hi with rfl | hi
    · exact h1
    · exact allI_spec h2 i hi
theorem JB.all {l0 : List HP} {mask fuel : Nat} {rs : List Nat} (hr : rdyL ops.size mask 0 ops.toList = rs) (hne : rs.isEmpty = false) (h : allI (fun i => JI P σ n ds ops Q l0 mask fuel i env l) rs) : JB P σ n ds ops Q l0 mask (fuel + 1) env l :=
  fun a w k d s => by
    subst hr
    refine wpAnyH_all rfl ?_ fun i hi => allI_spec h i (ready_mem.1 hi) a w k d s
    intro h0
    cases q : rdyL ops.size mask 0 ops.toList with
    | nil => rw [q] at hne; cases hne
    | cons i r =>
      have : i ∈ Region.ready .any ops (lsb ops.size mask).toArray := ready_mem.2 (by rw [q]; exact List.mem_cons_self)
      rw [h0] at this; cases this
theorem JB.one {l0 : List HP} {mask fuel : Nat} (i : Nat) (hr : rdyL ops.size mask 0 ops.toList = [i]) (h : JI P σ n ds ops Q l0 mask fuel i env l) : JB P σ n ds ops Q l0 mask (fuel + 1) env l := JB.all hr rfl h
theorem JB.two {l0 : List HP} {mask fuel : Nat} (i j : Nat) (hr : rdyL ops.size mask 0 ops.toList = [i, j]) (h1 : JI P σ n ds ops Q l0 mask fuel i env l) (h2 : JI P σ n ds ops Q l0 mask fuel j env l) : JB P σ n ds ops Q l0 mask (fuel + 1) env l := JB.all hr rfl ⟨h1, h2⟩
theorem JB.three {l0 : List HP} {mask fuel : Nat} (i j k : Nat) (hr : rdyL ops.size mask 0 ops.toList = [i, j, k]) (h1 : JI P σ n ds ops Q l0 mask fuel i env l) (h2 : JI P σ n ds ops Q l0 mask fuel j env l) (h3 : JI P σ n ds ops Q l0 mask fuel k env l) : JB P σ n ds ops Q l0 mask (fuel + 1) env l := JB.all hr rfl ⟨h1, h2, h3⟩
theorem JB.nil {l0 : List HP} {mask fuel : Nat} (hr : rdyL ops.size mask 0 ops.toList = []) (h : JE σ n ds Q .normal env l) : JB P σ n ds ops Q l0 mask fuel env l :=
  fun a w k d s => wpAnyH_done (by
    cases q : Region.ready .any ops (lsb ops.size mask).toArray with
    | nil => rfl
    | cons i r =>
      have : i ∈ rdyL ops.size mask 0 ops.toList := ready_mem.1 (by rw [q]; exact List.mem_cons_self)
      rw [hr] at this; cases this) (h a w k d s) _
theorem JI.do {l0 : List HP} {mask mask' fuel i d : Nat} {post : Value → List HP → Prop} (ho : ops[i]? = some o) (hd : o.dst = some d) (hlt : Nat.blt d n = true) (hwt : want env ops o = some true) (h : Do P σ n env l o post)
    (hm : mask ||| 2 ^ i = mask') (hn : ∀ v l', post v l' → (∀ w, Sat σ w l' → Sat σ w l0) ∧ JB P σ n ds ops Q l0 mask' fuel ((d, v) :: env) l') : JI P σ n ds ops Q l0 mask fuel i env l := by
  subst hm
  intro a w ka kd s
  refine wpOp_do ho (want_spec ka hwt) ka s h fun v l' w' p s' => ?_
  have ⟨q1, q2⟩ := hn v l' p
  refine ⟨q1 w' s', ?_⟩
  rw [lsb_set, hd]
  exact q2 _ w' (ka.put d v hlt) (by rw [Act.put_defers']; exact kd) s'
theorem JI.do0 {l0 : List HP} {mask mask' fuel i : Nat} {post : Value → List HP → Prop} (ho : ops[i]? = some o) (hd : o.dst = none) (hwt : want env ops o = some true) (h : Do P σ n env l o post)
    (hm : mask ||| 2 ^ i = mask') (hn : ∀ v l', post v l' → (∀ w, Sat σ w l' → Sat σ w l0) ∧ JB P σ n ds ops Q l0 mask' fuel env l') : JI P σ n ds ops Q l0 mask fuel i env l := by
  subst hm
  intro a w ka kd s
  refine wpOp_do ho (want_spec ka hwt) ka s h fun v l' w' p s' => ?_
  have ⟨q1, q2⟩ := hn v l' p
  refine ⟨q1 w' s', ?_⟩
  rw [lsb_set, hd]
  exact q2 _ w' ka kd s'
theorem JB.heap {l0 l' : List HP} {mask fuel : Nat} (hL : ∀ w, Sat σ w l → Sat σ w l') (h : JB P σ n ds ops Q l0 mask fuel env l') : JB P σ n ds ops Q l0 mask fuel env l :=
  fun a w k d s => h a w k d (hL w s)

/-! ### Parts of a slice that reads as a list -/
theorem RdS.part {b o len cap : Nat} {cs : List Value} (h : RdS σ l (.slice (some ⟨b, o, none⟩) len cap) cs) (i m c : Nat) (him : i + m ≤ len) (hc : m ≤ c) : RdS σ l (.slice (some ⟨b, o + i * 1, none⟩) m c) ((cs.drop i).take m) := by
  obtain ⟨p', cap', e, h1, h2⟩ := h
  cases e
  have hl : ((cs.drop i).take m).length = m := by simp; omega
  refine ⟨_, c, by rw [hl], by omega, ?_⟩
  rcases h2 with rfl | ⟨b', o', e, hr⟩
  · left; simp
  · cases e
    right
    refine ⟨b, o + i * 1, rfl, fun w s j u hu => ?_⟩
    have hj : j < m := by
      rcases Nat.lt_or_ge j m with q | q
      · exact q
      · rw [List.getElem?_eq_none (by omega)] at hu; cases hu
    rw [List.getElem?_take_of_lt hj, List.getElem?_drop] at hu
    have := hr w s (i + j) u hu
    rwa [Nat.mul_one, Nat.add_assoc]

/-! ### Bytes as a string -/
theorem Ru.bytesStr {x : Operand} {t t' e : TypeId} {v : Value} {bs : List UInt8} [UT P t (.slice e)] [UT P e (.int .u8)] [UT P t' .string] (hx : ev env x = some v) (hr : RdS σ l v (bs.map fun b => Value.int .u8 (b.toNat : Int))) :
    Ru P σ n env l ⟨dst, .convert t t' x, ty, pos, af, gd⟩ (.string ⟨bs.toArray⟩) := by
  intro a w kn s
  have e1 := UT.eq (P := P) (t := t)
  have e2 := UT.eq (P := P) (t := e)
  have e3 := UT.eq (P := P) (t := t')
  obtain ⟨p, cap, rfl, _, hr⟩ := hr
  have hstr : strOfNums (bs.map fun b => (b.toNat : Int)) = ⟨bs.toArray⟩ := by
    simp [strOfNums, Function.comp_def]
  have key : (convert t t' (.slice p (bs.map fun b => Value.int .u8 (b.toNat : Int)).length cap)).run P w = .ok (.string ⟨bs.toArray⟩) w := by
    cases p with
    | none =>
      rcases hr with h | ⟨_, _, h, _⟩
      · have : bs = [] := by simpa using h
        subst this
        exact run_convert_bytes_nil w t e e1 e2 _ _ t' e3
      · cases h
    | some ad =>
      rcases hr with h | ⟨b, o, h, hc⟩
      · have : bs = [] := by simpa using h
        subst this
        have h1 := run_convert_bytes_string (P := P) w t t' e (some ad) 0 cap e1 e2 e3
        have h2 := run_bytesToString (P := P) w ad 0 cap [] (by simp [loadCells, loadCellsFrom])
        exact h1.trans h2
      · cases h
        rw [← hstr]
        refine run_convert_bytes_arg w t e e1 e2 b o _ cap _ (by simp) (fun i hi => ?_) t' e3
        have hi' : i < bs.length := by simpa using hi
        apply hc w s i
        simp [List.getElem?_eq_getElem hi', List.getD]
  simp only [execOp, kn.ev hx, Sem.run_bind, key, Result.andThen_ok, Sem.run_pure]

/-! ### What is one's own is read -/
theorem Sat.ownR {w : World} {v : Value} {E k : Nat} {xs : List Value} (s : Sat σ w (Sep.ownS v E 1 k xs :: l)) : RdS σ (Sep.ownS v E 1 k xs :: l) v xs ∧ xs.length = k ∧ ((v = .slice none 0 0 ∧ k = 0) ∨ ∃ b cap, v = .slice (some ⟨b, 0, none⟩) k cap ∧ k ≤ cap) := by
  rcases s.ownS with ⟨rfl, rfl, rfl, _⟩ | ⟨b, cap, spare, rfl, q2, q3, q4, _⟩
  · exact ⟨⟨none, 0, rfl, Nat.le_refl _, .inl rfl⟩, rfl, .inl ⟨rfl, rfl⟩⟩
  · rw [Nat.mul_one] at q3
    refine ⟨⟨some ⟨b, 0, none⟩, cap, by rw [q3], by omega, .inr ⟨b, 0, rfl, fun w' s' i u hu => ?_⟩⟩, q3, .inr ⟨b, cap, rfl, q2⟩⟩
    rcases s'.ownS with ⟨e, _⟩ | ⟨b', cap', spare', e, _, _, _, s2⟩
    · cases e
    · injection e with e1 _ _
      injection e1 with e1
      injection e1 with e1
      subst e1
      rw [Nat.zero_add, s2.cell, List.getElem?_append_left]
      · exact hu
      · rcases Nat.lt_or_ge i xs.length with q | q
        · exact q
        · rw [List.getElem?_eq_none q] at hu; cases hu
theorem JO.ownR {v : Value} {E k : Nat} {xs : List Value} (hp : Pick (ownS v E 1 k xs) l r)
    (h : RdS σ l v xs → xs.length = k → ((v = .slice none 0 0 ∧ k = 0) ∨ ∃ b cap, v = .slice (some ⟨b, 0, none⟩) k cap ∧ k ≤ cap) → JO P σ n ds ops Q rest env l) : JO P σ n ds ops Q rest env l := fun a w ka kd s =>
  let ⟨h1, h2, h3⟩ := (s.perm hp).ownR
  h (h1.heap fun _ s => s.perm hp) h2 h3 a w ka kd s
theorem JC.ownR {c : Code} {v : Value} {E k : Nat} {xs : List Value} (hp : Pick (ownS v E 1 k xs) l r)
    (h : RdS σ l v xs → xs.length = k → ((v = .slice none 0 0 ∧ k = 0) ∨ ∃ b cap, v = .slice (some ⟨b, 0, none⟩) k cap ∧ k ≤ cap) → JC P σ n ds c Q env l) : JC P σ n ds c Q env l := fun a w ka kd s =>
  let ⟨h1, h2, h3⟩ := (s.perm hp).ownR
  h (h1.heap fun _ s => s.perm hp) h2 h3 a w ka kd s
theorem Fn.ownR {f : FuncId} {args : Array Value} {post : Value → List HP → Prop} {v : Value} {E k : Nat} {xs : List Value} (hp : Pick (ownS v E 1 k xs) l r)
    (h : RdS σ l v xs → xs.length = k → ((v = .slice none 0 0 ∧ k = 0) ∨ ∃ b cap, v = .slice (some ⟨b, 0, none⟩) k cap ∧ k ≤ cap) → Fn P σ f args l post) : Fn P σ f args l post := fun w s =>
  let ⟨h1, h2, h3⟩ := (s.perm hp).ownR
  h (h1.heap fun _ s => s.perm hp) h2 h3 w s
end
end Go.Sep
