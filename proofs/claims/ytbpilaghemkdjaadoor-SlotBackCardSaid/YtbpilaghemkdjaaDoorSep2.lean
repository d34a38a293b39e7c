/- A walk's rules over the heap logic: what is known of the temporaries is a list, what is known of the heap is a list; no frame and no world stands in a goal. -/
import Derived.Test.YtbpilaghemkdjaaDoorSep1
import Derived.OrdersHeld
namespace Go.Sep
open Go

abbrev Env := List (Nat × Value)
def look : Env → Nat → Option Value
  | [], _ => none
  | (i, v) :: e, t => match Nat.beq i t with
    | true => some v
    | false => look e t

structure Kn (n : Nat) (a : Act) (env : Env) : Prop where
  size : a.tmps.size = n
  know : ∀ t v, look env t = some v → a.tmps[t]? = some v

def ev (env : Env) : Operand → Option Value
  | .tmp t => look env t
  | .const v => some v
  | .global g => some (.pointer (some ⟨g, 0, none⟩))
  | .func f => some (.func (.func f) #[] #[])

section
variable {n : Nat} {a : Act} {env : Env}

theorem Kn.ev (k : Kn n a env) {x : Operand} {v : Value} (h : ev env x = some v) : a.eval x = v := by
  cases x with
  | tmp t => simp [Act.eval, Array.getD_eq_getD_getElem?, k.know t v h]
  | const v' => exact Option.some.inj h
  | global g => exact Option.some.inj h
  | func f => exact Option.some.inj h

theorem Kn.put (k : Kn n a env) (d : Nat) (v : Value) (hd : Nat.blt d n = true) : Kn n (a.put (some d) v) ((d, v) :: env) := by
  have hd' : d < a.tmps.size := by rw [k.size]; simpa using hd
  refine ⟨by simp [Act.put, k.size], fun t u h => ?_⟩
  simp only [look] at h
  simp only [Act.put, Array.getElem?_setIfInBounds]
  cases q : Nat.beq d t with
  | true =>
    rw [q] at h
    have e := Nat.eq_of_beq_eq_true q
    subst e
    simp [hd', Option.some.inj h]
  | false =>
    rw [q] at h
    have e : d ≠ t := Nat.ne_of_beq_eq_false q
    rw [if_neg e]
    exact k.know t u h

theorem Kn.put_none (k : Kn n a env) (v : Value) : Kn n (a.put none v) env := k

/-- What stands in the second list is known by the first one. -/
def Has (env : Env) : Env → Prop
  | [] => True
  | (t, v) :: r => look env t = some v ∧ Has env r

theorem Kn.forget (k : Kn n a env) : ∀ {env' : Env}, Has env env' → Kn n a env'
  | [], _ => ⟨k.size, fun t v h => by cases h⟩
  | (t, v) :: r, ⟨h1, h2⟩ => ⟨k.size, fun t' v' h => by
      simp only [look] at h
      cases q : Nat.beq t t' with
      | true => rw [q] at h; have e := Nat.eq_of_beq_eq_true q; subst e; cases h; exact k.know _ _ h1
      | false => rw [q] at h; exact (Kn.forget k h2).know _ _ h⟩

theorem Act.put_defers' (a : Act) (d : Option Nat) (v : Value) : (a.put d v).defers = a.defers := by cases d <;> rfl
end

/-! ### One operation -/
/-- The operation yields v, and leaves the world alone. -/
def Ru (P : Program) (σ : Sig) (n : Nat) (env : Env) (l : List HP) (o : Oper) (v : Value) : Prop :=
  ∀ a w, Kn n a env → Sat σ w l → (execOp a.eval o).run P w = .ok (.value v) w
/-- The operation yields a value, and leaves a heap, of which post is told. -/
def Do (P : Program) (σ : Sig) (n : Nat) (env : Env) (l : List HP) (o : Oper) (post : Value → List HP → Prop) : Prop :=
  ∀ a w, Kn n a env → Sat σ w l → ∀ (K : Act → World → Prop) (Q : Exit → Act → World → Prop),
    (∀ v l' w', post v l' → Sat σ w' l' → K (a.put o.dst v) w') → o.wp P a w K Q

section
variable {P : Program} {σ : Sig} {n : Nat} {env : Env} {l : List HP} {o : Oper} {post : Value → List HP → Prop}

theorem Ru.do {v : Value} (h : Ru P σ n env l o v) : Do P σ n env l o (fun v' l' => v' = v ∧ l' = l) := by
  intro a w k s K Q hK
  unfold Oper.wp
  rw [h a w k s]
  exact hK v l w ⟨rfl, rfl⟩ s

theorem Do.value (h : ∀ a w, Kn n a env → Sat σ w l → ∃ v w' l', (execOp a.eval o).run P w = .ok (.value v) w' ∧ Sat σ w' l' ∧ post v l') : Do P σ n env l o post := by
  intro a w k s K Q hK
  obtain ⟨v, w', l', e, s', p⟩ := h a w k s
  unfold Oper.wp
  rw [e]
  exact hK v l' w' p s'

theorem Do.skip (h : ∀ a w, Kn n a env → Sat σ w l → ∃ w' l', (execOp a.eval o).run P w = .ok .skip w' ∧ Sat σ w' l' ∧ post undef l') : Do P σ n env l o post := by
  intro a w k s K Q hK
  obtain ⟨w', l', e, s', p⟩ := h a w k s
  unfold Oper.wp
  rw [e]
  exact hK undef l' w' p s'
end

/-! ### A function -/
/-- What a call's end is said to be. -/
def Post (σ : Sig) (post : Value → List HP → Prop) : Ending → World → Prop :=
  fun e w' => ∃ v l', e = .returned v ∧ post v l' ∧ Sat σ w' l'
/-- The function f, called with args in a heap l, returns; post tells what, and what the heap is then. -/
def Fn (P : Program) (σ : Sig) (f : FuncId) (args : Array Value) (l : List HP) (post : Value → List HP → Prop) : Prop :=
  ∀ w, Sat σ w l → Calls P f args w (Post σ post)

/-! ### Lists of operations, and code -/
section
variable (P : Program) (σ : Sig) (n : Nat) (ds : List Deferred)
def JO (ops : Array Oper) (Q : Exit → Act → World → Prop) (rest : List Oper) (env : Env) (l : List HP) : Prop :=
  ∀ a w, Kn n a env → a.defers = ds → Sat σ w l → wpList P ops Q rest a w
def JC (c : Code) (Q : Exit → Act → World → Prop) (env : Env) (l : List HP) : Prop :=
  ∀ a w, Kn n a env → a.defers = ds → Sat σ w l → c.wp P Q a w
def JE (Q : Exit → Act → World → Prop) (e : Exit) (env : Env) (l : List HP) : Prop :=
  ∀ a w, Kn n a env → a.defers = ds → Sat σ w l → Q e a w
end

section
variable {P : Program} {σ : Sig} {n : Nat} {ds : List Deferred} {ops : Array Oper} {Q : Exit → Act → World → Prop} {rest : List Oper} {env : Env} {l : List HP} {o : Oper}

theorem JO.do {d : Nat} {post : Value → List HP → Prop} (hg : o.guard = none) (hd : o.dst = some d) (hlt : Nat.blt d n = true) (h : Do P σ n env l o post)
    (k : ∀ v l', post v l' → JO P σ n ds ops Q rest ((d, v) :: env) l') : JO P σ n ds ops Q (o :: rest) env l := by
  intro a w ka kd s
  refine wpList_plain hg fun K hK => h a w ka s K Q fun v l' w' hp s' => hK _ _ ?_
  rw [hd]
  exact k v l' hp _ _ (ka.put d v hlt) kd s'

theorem JO.do0 {post : Value → List HP → Prop} (hg : o.guard = none) (hd : o.dst = none) (h : Do P σ n env l o post)
    (k : ∀ v l', post v l' → JO P σ n ds ops Q rest env l') : JO P σ n ds ops Q (o :: rest) env l := by
  intro a w ka kd s
  refine wpList_plain hg fun K hK => h a w ka s K Q fun v l' w' hp s' => hK _ _ ?_
  rw [hd]
  exact k v l' hp _ _ ka kd s'

theorem JO.ru {d : Nat} {v : Value} (hg : o.guard = none) (hd : o.dst = some d) (hlt : Nat.blt d n = true) (h : Ru P σ n env l o v)
    (k : JO P σ n ds ops Q rest ((d, v) :: env) l) : JO P σ n ds ops Q (o :: rest) env l :=
  JO.do hg hd hlt h.do (by rintro v l' ⟨rfl, rfl⟩; exact k)

theorem JO.ru0 {v : Value} (hg : o.guard = none) (hd : o.dst = none) (h : Ru P σ n env l o v)
    (k : JO P σ n ds ops Q rest env l) : JO P σ n ds ops Q (o :: rest) env l :=
  JO.do0 hg hd h.do (by rintro v l' ⟨rfl, rfl⟩; exact k)

/-- An operation with a guard that is met. -/
theorem JO.guardT {g : Nat} {b : Bool} {og : Oper} {d : Nat} (hg : o.guard = some (g, b)) (ho : ops[g]? = some og) (hd : og.dst = some d) (hv : look env d = some (.bool b))
    (k : JO P σ n ds ops Q ({ o with guard := none } :: rest) env l) : JO P σ n ds ops Q (o :: rest) env l := by
  intro a w ka kd s
  have hk := k a w ka kd s
  have hw : Region.wanted o (yielded ops a.tmps) = true := by
    simp [Region.wanted, hg, yielded, ho, hd, ka.know d _ hv]
  unfold wpList at hk ⊢
  rw [if_pos hw]
  rw [if_pos (by simp [Region.wanted])] at hk
  exact hk

/-- An operation with a guard that isn't met. -/
theorem JO.guardF {g : Nat} {b b' : Bool} {og : Oper} {d d' : Nat} (hg : o.guard = some (g, b)) (ho : ops[g]? = some og) (hd : og.dst = some d) (hv : look env d = some (.bool b')) (hb : (b' == b) = false)
    (hd' : o.dst = some d') (hlt : Nat.blt d' n = true)
    (k : JO P σ n ds ops Q rest ((d', undef) :: env) l) : JO P σ n ds ops Q (o :: rest) env l := by
  intro a w ka kd s
  have hw : Region.wanted o (yielded ops a.tmps) = false := by
    simp [Region.wanted, hg, yielded, ho, hd, ka.know d _ hv]
    simpa using hb
  unfold wpList
  rw [if_neg (by simp [hw]), hd']
  exact k _ _ (ka.put d' _ hlt) kd s
theorem JO.guardF0 {g : Nat} {b b' : Bool} {og : Oper} {d : Nat} (hg : o.guard = some (g, b)) (ho : ops[g]? = some og) (hd : og.dst = some d) (hv : look env d = some (.bool b')) (hb : (b' == b) = false)
    (hd' : o.dst = none)
    (k : JO P σ n ds ops Q rest env l) : JO P σ n ds ops Q (o :: rest) env l := by
  intro a w ka kd s
  have hw : Region.wanted o (yielded ops a.tmps) = false := by
    simp [Region.wanted, hg, yielded, ho, hd, ka.know d _ hv]
    simpa using hb
  unfold wpList
  rw [if_neg (by simp [hw]), hd']
  exact k _ _ ka kd s

theorem JO.nil (h : JE σ n ds Q .normal env l) : JO P σ n ds ops Q [] env l := fun a w k d s => wpList_nil (h a w k d s)

theorem JC.region {id : Nat} {r : List Oper} (h : JO P σ n ds r.toArray Q r env l) : JC P σ n ds (.region id r.toArray false) Q env l :=
  fun a w k d s => wp_region_lit (h a w k d s)
theorem JC.seq {x y : Code} (h : JC P σ n ds x (Exit.then (y.wp P Q) Q) env l) : JC P σ n ds (.seq x y) Q env l := fun a w k d s => wp_seq (h a w k d s)
theorem JC.skip (h : JE σ n ds Q .normal env l) : JC P σ n ds .skip Q env l := fun a w k d s => wp_skip (h a w k d s)
theorem JC.ret (h : JE σ n ds Q .ret env l) : JC P σ n ds .ret Q env l := fun a w k d s => wp_ret (h a w k d s)
theorem JC.exit {id : Nat} (h : JE σ n ds Q (.exit id) env l) : JC P σ n ds (.exit id) Q env l := fun a w k d s => wp_exit (h a w k d s)
theorem JC.label {id : Nat} (h : JE σ n ds Q .normal env l) : JC P σ n ds (.label id) Q env l := fun a w k d s => wp_label (h a w k d s)
theorem JC.block {id : Nat} {c : Code} (h : JC P σ n ds c (Exit.inBlock id Q) env l) : JC P σ n ds (.block id c) Q env l := fun a w k d s => wp_block (h a w k d s)
theorem JC.cond {c : Operand} {x y : Code} {b : Bool} (hc : ev env c = some (.bool b)) (ht : b = true → JC P σ n ds x Q env l) (hf : b = false → JC P σ n ds y Q env l) : JC P σ n ds (.cond c x y) Q env l :=
  fun a w k d s => wp_cond_split (k.ev hc) (fun e => ht e a w k d s) (fun e => hf e a w k d s)
theorem JC.condT {c : Operand} {x y : Code} (hc : ev env c = some (.bool true)) (h : JC P σ n ds x Q env l) : JC P σ n ds (.cond c x y) Q env l :=
  fun a w k d s => wp_cond_true (k.ev hc) (h a w k d s)
theorem JC.condF {c : Operand} {x y : Code} (hc : ev env c = some (.bool false)) (h : JC P σ n ds y Q env l) : JC P σ n ds (.cond c x y) Q env l :=
  fun a w k d s => wp_cond_false (k.ev hc) (h a w k d s)

theorem JE.thenN {y : Code} (h : JC P σ n ds y Q env l) : JE σ n ds (Exit.then (y.wp P Q) Q) .normal env l := h
theorem JE.thenR {K : Act → World → Prop} (h : JE σ n ds Q .ret env l) : JE σ n ds (Exit.then K Q) .ret env l := h
theorem JE.thenE {K : Act → World → Prop} {i : Nat} (h : JE σ n ds Q (.exit i) env l) : JE σ n ds (Exit.then K Q) (.exit i) env l := h
theorem JE.blockN {i : Nat} (h : JE σ n ds Q .normal env l) : JE σ n ds (Exit.inBlock i Q) .normal env l := h
theorem JE.blockR {i : Nat} (h : JE σ n ds Q .ret env l) : JE σ n ds (Exit.inBlock i Q) .ret env l := h
theorem JE.blockE {i : Nat} (h : JE σ n ds Q .normal env l) : JE σ n ds (Exit.inBlock i Q) (.exit i) env l := fun a w k d s => by
  simp only [Exit.inBlock, if_true]; exact h a w k d s
theorem JE.blockO {i j : Nat} (hne : Nat.beq j i = false) (h : JE σ n ds Q (.exit j) env l) : JE σ n ds (Exit.inBlock i Q) (.exit j) env l := fun a w k d s => by
  have : j ≠ i := Nat.ne_of_beq_eq_false hne
  simp only [Exit.inBlock, if_neg this]; exact h a w k d s

/-- What is asked where a loop's round ends. -/
def Inv {α : Type} (σ : Sig) (n : Nat) (ds : List Deferred) (E : α → Env) (L : α → List HP) (ok : α → Prop) (μ : α → Nat) (m : Nat) : Act → World → Prop :=
  fun a w => ∃ x, ok x ∧ μ x < m ∧ Kn n a (E x) ∧ a.defers = ds ∧ Sat σ w (L x)

theorem JC.loop {α : Type} {c : Code} (E : α → Env) (L : α → List HP) (ok : α → Prop) (μ : α → Nat) (x0 : α) (h0 : ok x0) (hE : Has env (E x0)) (hL : ∀ w, Sat σ w l → Sat σ w (L x0))
    (round : ∀ x, ok x → JC P σ n ds c (Exit.then (Inv σ n ds E L ok μ (μ x)) Q) (E x) (L x)) : JC P σ n ds (.loop c) Q env l := by
  intro a w k d s b kk cs
  have key : ∀ (m : Nat) (x : α), μ x = m → ok x → ∀ a w, Kn n a (E x) → a.defers = ds → Sat σ w (L x) →
      ∃ e a' w', Q e a' w' ∧ Arrives P (lone (b.at a (.code c :: .inLoop c :: kk)) cs w) b kk cs e a' w' := by
    intro m
    induction m using Nat.strongRecOn with
    | _ m ih =>
      intro x hm hx a w k d s
      obtain ⟨e, a₁, w₁, hq, harr⟩ := round x hx a w k d s b (.inLoop c :: kk) cs
      cases e with
      | normal =>
        obtain ⟨x', hx', hlt, k', d', s'⟩ := hq
        obtain ⟨e₂, a₂, w₂, hq₂, harr₂⟩ := ih (μ x') (hm ▸ hlt) x' rfl hx' a₁ w₁ k' d' s'
        exact ⟨e₂, a₂, w₂, hq₂, .of_steps (Steps.trans harr (.one step_inLoop)) harr₂⟩
      | exit id => exact ⟨_, a₁, w₁, hq, .pass (x := .inLoop c) rfl (fun _ _ => .inl (by simp)) harr⟩
      | goto l => exact ⟨_, a₁, w₁, hq, .pass (x := .inLoop c) rfl (fun _ _ => .inl (by simp)) harr⟩
      | ret => exact ⟨_, a₁, w₁, hq, .pass (x := .inLoop c) rfl (fun _ _ => .inl (by simp)) harr⟩
      | panic ch => exact ⟨_, a₁, w₁, hq, .pass (x := .inLoop c) rfl (fun _ _ => .inl (by simp)) harr⟩
      | outgrown => exact ⟨_, a₁, w₁, hq, .pass (x := .inLoop c) rfl (fun _ _ => .inl (by simp)) harr⟩
  obtain ⟨e, a', w', hq, harr⟩ := key _ x0 rfl h0 a w (k.forget hE) d (hL w s)
  exact ⟨e, a', w', hq, .of_steps (.one step_loop) harr⟩

theorem JE.round {α : Type} {E : α → Env} {L : α → List HP} {ok : α → Prop} {μ : α → Nat} {m : Nat} (x : α) (hx : ok x) (hμ : μ x < m) (hE : Has env (E x)) (hL : ∀ w, Sat σ w l → Sat σ w (L x)) :
    JE σ n ds (Exit.then (Inv σ n ds E L ok μ m) Q) .normal env l := fun _ w k d s => ⟨x, hx, hμ, k.forget hE, d, hL w s⟩

/-- A weaker heap, fewer facts. -/
theorem JC.weaken {c : Code} {env' : Env} {l' : List HP} (hE : Has env env') (hL : ∀ w, Sat σ w l → Sat σ w l') (h : JC P σ n ds c Q env' l') : JC P σ n ds c Q env l :=
  fun a w k d s => h a w (k.forget hE) d (hL w s)
theorem JO.heap {l' : List HP} (hL : ∀ w, Sat σ w l → Sat σ w l') (h : JO P σ n ds ops Q rest env l') : JO P σ n ds ops Q rest env l :=
  fun a w k d s => h a w k d (hL w s)
theorem JC.heap {c : Code} {l' : List HP} (hL : ∀ w, Sat σ w l → Sat σ w l') (h : JC P σ n ds c Q env l') : JC P σ n ds c Q env l :=
  fun a w k d s => h a w k d (hL w s)
theorem JO.pick {p : HP} {r : List HP} (hp : Pick p l r) (h : JO P σ n ds ops Q rest env (p :: r)) : JO P σ n ds ops Q rest env l :=
  JO.heap (fun _ s => s.perm hp) h
theorem JO.star {l1 : List HP} (h : JO P σ n ds ops Q rest env (l1 ++ l)) : JO P σ n ds ops Q rest env (Sep.star l1 :: l) :=
  JO.heap (fun _ s => Sat.star.1 s) h
theorem JO.ex {α : Type} {p : α → HP} (h : ∀ x, JO P σ n ds ops Q rest env (p x :: l)) : JO P σ n ds ops Q rest env (Sep.ex p :: l) :=
  fun a w k d s => let ⟨x, s'⟩ := Sat.ex.1 s; h x a w k d s'
theorem JO.pure {p : Prop} (h : p → JO P σ n ds ops Q rest env l) : JO P σ n ds ops Q rest env (Sep.pure p :: l) :=
  fun a w k d s => let ⟨x, s'⟩ := Sat.pure.1 s; h x a w k d s'
theorem JC.ex {c : Code} {α : Type} {p : α → HP} (h : ∀ x, JC P σ n ds c Q env (p x :: l)) : JC P σ n ds c Q env (Sep.ex p :: l) :=
  fun a w k d s => let ⟨x, s'⟩ := Sat.ex.1 s; h x a w k d s'
theorem JC.pure {c : Code} {p : Prop} (h : p → JC P σ n ds c Q env l) : JC P σ n ds c Q env (Sep.pure p :: l) :=
  fun a w k d s => let ⟨x, s'⟩ := Sat.pure.1 s; h x a w k d s'

/-! ### A function's body, and its end -/
def argEnv : Nat → List Value → Env
  | _, [] => []
  | i, v :: r => (i, v) :: argEnv (i + 1) r

theorem look_argEnv : ∀ (vs : List Value) (i t : Nat) (v : Value), look (argEnv i vs) t = some v → i ≤ t ∧ vs[t - i]? = some v
  | [], _, _, _, h => by cases h
  | u :: r, i, t, v, h => by
    simp only [argEnv, look] at h
    cases q : Nat.beq i t with
    | true => rw [q] at h; have e := Nat.eq_of_beq_eq_true q; subst e; simpa using h
    | false =>
      rw [q] at h
      have e : i ≠ t := Nat.ne_of_beq_eq_false q
      have ⟨h1, h2⟩ := look_argEnv r (i + 1) t v h
      refine ⟨by omega, ?_⟩
      have : t - i = (t - (i + 1)) + 1 := by omega
      rw [this]; simpa using h2

theorem kn_args {args : List Value} {n : Nat} (hn : args.length ≤ n) : Kn n { tmps := args.toArray ++ Array.replicate (n - args.length) undef, defers := [] } (argEnv 0 args) := by
  refine ⟨by simp; omega, fun t v h => ?_⟩
  have ⟨_, h2⟩ := look_argEnv args 0 t v h
  simp only [Nat.sub_zero] at h2
  have ht : t < args.length := by
    rcases Nat.lt_or_ge t args.length with q | q
    · exact q
    · rw [List.getElem?_eq_none q] at h2; cases h2
  simp [Array.getElem?_append, ht]
  rw [List.getElem?_eq_getElem ht] at h2
  exact Option.some.inj h2

theorem Fn.of {f : FuncId} {fn : Func} {c : Code} {args : List Value} {post : Value → List HP → Prop} (hf : P.funcs[f]? = some fn) (hb : fn.body = some c) (hn : fn.ntmps = n) (ha : Nat.ble args.length n = true)
    (h : JC P σ n [] c (bodyPost P fn (Post σ post)) (argEnv 0 args) l) : Fn P σ f args.toArray l post := by
  intro w s
  refine calls_of_wp hf hb ?_
  have ha' : args.length ≤ n := by simpa using ha
  simp only [List.size_toArray, hn]
  exact h _ _ (kn_args ha') rfl s

theorem Fn.mono {f : FuncId} {args : Array Value} {post post' : Value → List HP → Prop} (h : Fn P σ f args l post) (k : ∀ v l', post v l' → post' v l') : Fn P σ f args l post' :=
  fun w s => (h w s).mono fun _ _ ⟨v, l', e, p, s'⟩ => ⟨v, l', e, k v l' p, s'⟩
theorem Fn.heap {f : FuncId} {args : Array Value} {l0 : List HP} {post : Value → List HP → Prop} (hL : ∀ w, Sat σ w l → Sat σ w l0) (h : Fn P σ f args l0 post) : Fn P σ f args l post :=
  fun w s => h w (hL w s)

/-- What one result reads as. -/
def resSem (tmps : Array Value) : ResultVar → Sem Value
  | .tmp t => Pure.pure (tmps.getD t undef)
  | .cell a t => do loadVar t (← asAddr (tmps.getD a undef))
theorem results_eq (fn : Func) (tmps : Array Value) : results fn tmps = (do let vs ← fn.results.mapM (resSem tmps); Pure.pure (if h : vs.size = 1 then vs[0] else .tuple vs)) := by
  unfold results
  congr 1
def Res (P : Program) (σ : Sig) (n : Nat) (env : Env) (l : List HP) (r : ResultVar) (v : Value) : Prop :=
  ∀ a w, Kn n a env → Sat σ w l → (resSem a.tmps r).run P w = .ok v w
theorem Res.tmp {t : Nat} {v : Value} (h : look env t = some v) : Res P σ n env l (.tmp t) v := by
  intro a w k _
  have := k.know t v h
  simp [resSem, Array.getD_eq_getD_getElem?, this, Pure.pure]

def fin (post : Value → List HP → Prop) (v : Value) (l : List HP) (σ : Sig) : Prop := ∃ l', (∀ w, Sat σ w l → Sat σ w l') ∧ post v l'

theorem JE.done0 {fn : Func} {post : Value → List HP → Prop} (hr : fn.results = #[]) (h : fin post (.tuple #[]) l σ) : JE σ n [] (bodyPost P fn (Post σ post)) .ret env l := by
  intro a w k d s
  obtain ⟨l', e, p⟩ := h
  exact ⟨d, .tuple #[], results_none hr _ _ _, _, l', rfl, p, e w s⟩
theorem JE.done0N {fn : Func} {post : Value → List HP → Prop} (hr : fn.results = #[]) (h : fin post (.tuple #[]) l σ) : JE σ n [] (bodyPost P fn (Post σ post)) .normal env l := by
  intro a w k d s
  obtain ⟨l', e, p⟩ := h
  exact ⟨d, .tuple #[], results_none hr _ _ _, _, l', rfl, p, e w s⟩
theorem JE.done1 {fn : Func} {post : Value → List HP → Prop} {r : ResultVar} {v : Value} (hr : fn.results = #[r]) (hv : Res P σ n env l r v) (h : fin post v l σ) : JE σ n [] (bodyPost P fn (Post σ post)) .ret env l := by
  intro a w k d s
  obtain ⟨l', e, p⟩ := h
  refine ⟨d, v, ?_, _, l', rfl, p, e w s⟩
  rw [results_eq, hr]
  simp [hv a w k s]
theorem JE.done3 {fn : Func} {post : Value → List HP → Prop} {r1 r2 r3 : ResultVar} {v1 v2 v3 : Value} (hr : fn.results = #[r1, r2, r3]) (h1 : Res P σ n env l r1 v1) (h2 : Res P σ n env l r2 v2) (h3 : Res P σ n env l r3 v3) (h : fin post (.tuple #[v1, v2, v3]) l σ) :
    JE σ n [] (bodyPost P fn (Post σ post)) .ret env l := by
  intro a w k d s
  obtain ⟨l', e, p⟩ := h
  refine ⟨d, .tuple #[v1, v2, v3], ?_, _, l', rfl, p, e w s⟩
  rw [results_eq, hr]
  simp [Sem.run_bind, h1 a w k s, h2 a w k s, h3 a w k s]
theorem JE.done2 {fn : Func} {post : Value → List HP → Prop} {r1 r2 : ResultVar} {v1 v2 : Value} (hr : fn.results = #[r1, r2]) (h1 : Res P σ n env l r1 v1) (h2 : Res P σ n env l r2 v2) (h : fin post (.tuple #[v1, v2]) l σ) :
    JE σ n [] (bodyPost P fn (Post σ post)) .ret env l := by
  intro a w k d s
  obtain ⟨l', e, p⟩ := h
  refine ⟨d, .tuple #[v1, v2], ?_, _, l', rfl, p, e w s⟩
  rw [results_eq, hr]
  simp [Sem.run_bind, h1 a w k s, h2 a w k s]
end
end Go.Sep
