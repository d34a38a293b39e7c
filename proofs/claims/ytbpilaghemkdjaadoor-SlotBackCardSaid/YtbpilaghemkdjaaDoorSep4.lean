/- Tests that part the walk; statements whose order is drawn. -/
import Derived.Test.YtbpilaghemkdjaaDoorSep3
namespace Go.Sep
open Go

section
variable {P : Program} {σ : Sig} {n : Nat} {ds : List Deferred} {ops : Array Oper} {Q : Exit → Act → World → Prop} {rest : List Oper} {env : Env} {l r : List HP} {o : Oper}
  {dst : Option Tmp} {ty : TypeId} {pos : String} {af : Array Edge} {gd : Option (Nat × Bool)}

theorem JO.split {d : Nat} {p : Prop} {dp : Decidable p} (hg : o.guard = none) (hd : o.dst = some d) (hlt : Nat.blt d n = true) (h : Ru P σ n env l o (.bool (decide p)))
    (ht : p → JO P σ n ds ops Q rest ((d, .bool true) :: env) l) (hf : ¬ p → JO P σ n ds ops Q rest ((d, .bool false) :: env) l) : JO P σ n ds ops Q (o :: rest) env l := by
  refine JO.ru hg hd hlt h ?_
  by_cases hp : p
  · rw [decide_eq_true hp]; exact ht hp
  · rw [decide_eq_false hp]; exact hf hp
theorem JO.splitN {d : Nat} {p : Prop} {dp : Decidable p} (hg : o.guard = none) (hd : o.dst = some d) (hlt : Nat.blt d n = true) (h : Ru P σ n env l o (.bool (!decide p)))
    (ht : p → JO P σ n ds ops Q rest ((d, .bool false) :: env) l) (hf : ¬ p → JO P σ n ds ops Q rest ((d, .bool true) :: env) l) : JO P σ n ds ops Q (o :: rest) env l := by
  refine JO.ru hg hd hlt h ?_
  by_cases hp : p
  · rw [decide_eq_true hp]; exact ht hp
  · rw [decide_eq_false hp]; exact hf hp

theorem Ru.pickT {c x y : Operand} {v : Value} (hc : ev env c = some (.bool true)) (hx : ev env x = some v) : Ru P σ n env l ⟨dst, .pick c x y, ty, pos, af, gd⟩ v := by
  intro a w k _; simp [execOp, k.ev hc, k.ev hx, asBool]
theorem Ru.pickF {c x y : Operand} {v : Value} (hc : ev env c = some (.bool false)) (hy : ev env y = some v) : Ru P σ n env l ⟨dst, .pick c x y, ty, pos, af, gd⟩ v := by
  intro a w k _; simp [execOp, k.ev hc, k.ev hy, asBool]

theorem Res.cell {c t b o E : Nat} {vs : List Value} {v : Value} [AG P t false] (h : look env c = some (.pointer (some ⟨b, o, none⟩))) (hp : Pick (arr b E vs) l r) (hv : vs[o]? = some v := by rfl) : Res P σ n env l (.cell c t) v := by
  intro a w kn s
  have h2 := AG.eq (P := P) (t := t) w
  have hc := (s.perm hp).cell o
  have hk := kn.know _ _ h
  simp [resSem, Array.getD_eq_getD_getElem?, hk, asAddr, loadVar, h2, hc, hv]
theorem Res.cellA {c t b o z E : Nat} {vs cs : List Value} [AG P t true] [SZ P t z] (h : look env c = some (.pointer (some ⟨b, o, none⟩))) (hp : Pick (arr b E vs) l r) (hm : Nat.ble (o + z) vs.length = true := by rfl) (hcs : (vs.drop o).take z = cs := by rfl) :
    Res P σ n env l (.cell c t) (.agg cs.toArray) := by
  intro a w kn s
  have h2 := AG.eq (P := P) (t := t) w
  have h3 := SZ.eq (P := P) (t := t) w
  have hc := run_loadPart (P := P) (fun i => (s.perm hp).cell i) (by simpa using hm : o + z ≤ vs.length)
  have hk := kn.know _ _ h
  simp [resSem, Array.getD_eq_getD_getElem?, hk, asAddr, loadVar, h2, h3, hc, hcs]

/-! ### Drawn orders -/
/-- Which operations have come up: the first k. -/
def lst (m k : Nat) : Array Bool := (List.replicate k true ++ List.replicate (m - k) false).toArray
theorem lst_zero (m : Nat) : lst m 0 = Array.replicate m false := by simp [lst]
theorem lst_succ {m k : Nat} (h : k < m) : (lst m k).setIfInBounds k true = lst m (k + 1) := by
  simp only [lst, List.setIfInBounds_toArray]
  congr 1
  rw [List.set_append_right _ _ (by simp)]
  simp only [List.length_replicate, Nat.sub_self]
  obtain ⟨j, hj⟩ : ∃ j, m - k = j + 1 := ⟨m - k - 1, by omega⟩
  rw [hj, show m - (k + 1) = j from by omega, List.replicate_succ (n := j), List.set_cons_zero, List.replicate_succ', List.append_assoc]
  rfl

/-- Where a panic leaves by, the temporaries don't count. -/
class PQ (Q : Exit → Act → World → Prop) : Prop where
  h : ∀ c a d v w, Q (.panic c) (a.put d v) w → Q (.panic c) a w
instance {K : Act → World → Prop} [h : PQ Q] : PQ (Exit.then K Q) := ⟨fun c a d v w x => h.h c a d v w x⟩
instance {i : Nat} [h : PQ Q] : PQ (Exit.inBlock i Q) := ⟨fun c a d v w x => h.h c a d v w x⟩
instance {fn : Func} {R : Ending → World → Prop} : PQ (bodyPost P fn R) := ⟨fun c a d v w ⟨x, y⟩ => ⟨by rw [← Act.put_defers' a d v]; exact x, y⟩⟩

/-- Whatever order is drawn, from the k-th operation on; l0: what the loads among them read. -/
def JA (P : Program) (σ : Sig) (n : Nat) (ds : List Deferred) (ops : Array Oper) (Q : Exit → Act → World → Prop) (l0 : List HP) (k : Nat) (rest : List Oper) (env : Env) (l : List HP) : Prop :=
  (ops.toList.drop k = rest ∧ k + rest.length = ops.size) → ∀ a w, Kn n a env → a.defers = ds → Sat σ w l → wpAnyH P .any ops Q (fun w => Sat σ w l0) rest.length (lst ops.size k) a w

theorem JC.regionA {id : Nat} {r0 : List Oper} (l0 : List HP) (hm : P.follows .mixedOrders = true) (h : JA P σ n ds r0.toArray Q l0 0 r0 env l) : JC P σ n ds (.region id r0.toArray true) Q env l := by
  intro a w k d s
  refine wp_region_held (S := fun w => Sat σ w l0) hm ?_
  have := h ⟨by simp, by simp⟩ a _ k d (Sat.drew s)
  simp only [List.size_toArray] at this ⊢
  rw [← lst_zero]
  exact this

theorem JC.regionS {id : Nat} {r0 : List Oper} (hm : P.follows .mixedOrders = true) (h : JA P σ n ds r0.toArray Q l 0 r0 env l) : JC P σ n ds (.region id r0.toArray true) Q env l := JC.regionA l hm h

/-- Whether an operation is to be carried out, as far as is known. -/
def want (env : Env) (ops : Array Oper) (o : Oper) : Option Bool :=
  match o.guard with
  | none => some true
  | some (g, b) => match (ops[g]?).bind (·.dst) with
    | some d => match look env d with
      | some (.bool b') => some (b' == b)
      | _ => none
    | none => none
theorem want_spec {a : Act} {b : Bool} (k : Kn n a env) (h : want env ops o = some b) : Region.wanted o (yielded ops a.tmps) = b := by
  unfold want at h
  unfold Region.wanted
  split at h
  · rename_i hg; rw [hg]; simpa using h
  · rename_i g b' hg
    rw [hg]
    split at h
    · rename_i d hd
      split at h
      · rename_i b'' hl
        have := k.know _ _ hl
        simp only [yielded, hd, Option.bind_some, this]
        simp at h
        rw [← h]
        cases b'' <;> cases b' <;> rfl
      · cases h
    · cases h

theorem wpOp_do {i : Nat} {a : Act} {w : World} {K : Act → World → Prop} {post : Value → List HP → Prop} (hi : ops[i]? = some o) (hw : Region.wanted o (yielded ops a.tmps) = true) (k : Kn n a env) (s : Sat σ w l) (h : Do P σ n env l o post)
    (hK : ∀ v l' w', post v l' → Sat σ w' l' → K (a.put o.dst v) w') : wpOp P ops Q i K a w := by
  unfold wpOp
  simp only [hi, hw, if_true]
  exact .inl (h a w k s K Q hK)

theorem JA.head {k : Nat} (h : ops.toList.drop k = o :: rest) : ops[k]? = some o ∧ ops.toList.drop (k + 1) = rest ∧ k < ops.size := by
  have hk : k < ops.toList.length := by
    rcases Nat.lt_or_ge k ops.toList.length with q | q
    · exact q
    · rw [List.drop_eq_nil_of_le q] at h; cases h
  rw [List.drop_eq_getElem_cons hk] at h
  injection h with h1 h2
  refine ⟨?_, h2, by simpa using hk⟩
  rw [← Array.getElem?_toList, List.getElem?_eq_getElem hk, h1]

/-- An operation that only reads what nobody of the region writes may be taken first. -/
theorem JA.ru {l0 : List HP} {k d : Nat} {v : Value} [hq : PQ Q] (hd : o.dst = some d) (hlt : Nat.blt d n = true) (hwt : want env ops o = some true) (h : Ru P σ n env l0 o v)
    (hs : Region.noSelect ops = true) (hf : Region.free .any ops (lst ops.size k) k = true) (hr : (Region.ready .any ops (lst ops.size k)).contains k = true) (hL : ∀ w, Sat σ w l → Sat σ w l0)
    (hn : JA P σ n ds ops Q l0 (k + 1) rest ((d, v) :: env) l) : JA P σ n ds ops Q l0 k (o :: rest) env l := by
  rintro ⟨hdr, hsz⟩ a w ka kd s
  obtain ⟨hi, hdr', hk⟩ := JA.head hdr
  refine wpAnyH_take (v := v) hi hs hf hr (fun c a w x => hq.h c a _ v w x) (.inl ⟨want_spec ka hwt, fun w' s' => h a w' ka s'⟩) (hL w s) ?_
  rw [lst_succ hk, hd]
  exact hn ⟨hdr', by simp at hsz; omega⟩ _ w (ka.put d v hlt) (by rw [Act.put_defers']; exact kd) s
theorem JA.skip {l0 : List HP} {k d : Nat} [hq : PQ Q] (hd : o.dst = some d) (hlt : Nat.blt d n = true) (hwt : want env ops o = some false)
    (hs : Region.noSelect ops = true) (hf : Region.free .any ops (lst ops.size k) k = true) (hr : (Region.ready .any ops (lst ops.size k)).contains k = true) (hL : ∀ w, Sat σ w l → Sat σ w l0)
    (hn : JA P σ n ds ops Q l0 (k + 1) rest ((d, undef) :: env) l) : JA P σ n ds ops Q l0 k (o :: rest) env l := by
  rintro ⟨hdr, hsz⟩ a w ka kd s
  obtain ⟨hi, hdr', hk⟩ := JA.head hdr
  refine wpAnyH_take (v := undef) hi hs hf hr (fun c a w x => hq.h c a _ _ w x) (.inr ⟨want_spec ka hwt, rfl⟩) (hL w s) ?_
  rw [lst_succ hk, hd]
  exact hn ⟨hdr', by simp at hsz; omega⟩ _ w (ka.put d _ hlt) (by rw [Act.put_defers']; exact kd) s
/-- The one that may come up now. -/
theorem JA.do {l0 : List HP} {k d : Nat} {post : Value → List HP → Prop} (hd : o.dst = some d) (hlt : Nat.blt d n = true) (hwt : want env ops o = some true) (h : Do P σ n env l o post)
    (hr : Region.ready .any ops (lst ops.size k) = [k]) (hn : ∀ v l', post v l' → (∀ w, Sat σ w l' → Sat σ w l0) ∧ JA P σ n ds ops Q l0 (k + 1) rest ((d, v) :: env) l') : JA P σ n ds ops Q l0 k (o :: rest) env l := by
  rintro ⟨hdr, hsz⟩ a w ka kd s
  obtain ⟨hi, hdr', hk⟩ := JA.head hdr
  refine wpAnyH_all hr (by simp) fun i hi' => ?_
  obtain rfl := List.mem_singleton.1 hi'
  refine wpOp_do hi (want_spec ka hwt) ka s h fun v l' w' p s' => ?_
  have ⟨q1, q2⟩ := hn v l' p
  refine ⟨q1 w' s', ?_⟩
  rw [lst_succ hk, hd]
  exact q2 ⟨hdr', by simp at hsz; omega⟩ _ w' (ka.put d v hlt) (by rw [Act.put_defers']; exact kd) s'
theorem JA.do0 {l0 : List HP} {k : Nat} {post : Value → List HP → Prop} (hd : o.dst = none) (hwt : want env ops o = some true) (h : Do P σ n env l o post)
    (hr : Region.ready .any ops (lst ops.size k) = [k]) (hn : ∀ v l', post v l' → (∀ w, Sat σ w l' → Sat σ w l0) ∧ JA P σ n ds ops Q l0 (k + 1) rest env l') : JA P σ n ds ops Q l0 k (o :: rest) env l := by
  rintro ⟨hdr, hsz⟩ a w ka kd s
  obtain ⟨hi, hdr', hk⟩ := JA.head hdr
  refine wpAnyH_all hr (by simp) fun i hi' => ?_
  obtain rfl := List.mem_singleton.1 hi'
  refine wpOp_do hi (want_spec ka hwt) ka s h fun v l' w' p s' => ?_
  have ⟨q1, q2⟩ := hn v l' p
  refine ⟨q1 w' s', ?_⟩
  rw [lst_succ hk, hd]
  exact q2 ⟨hdr', by simp at hsz; omega⟩ _ w' ka kd s'
theorem JA.nil {l0 : List HP} {k : Nat} (hr : Region.ready .any ops (lst ops.size k) = []) (h : JE σ n ds Q .normal env l) : JA P σ n ds ops Q l0 k [] env l := by
  rintro ⟨_, hsz⟩ a w ka kd s
  exact wpAnyH_done hr (h a w ka kd s) 0
theorem JA.heap {l0 l' : List HP} {k : Nat} (hL : ∀ w, Sat σ w l → Sat σ w l') (h : JA P σ n ds ops Q l0 k rest env l') : JA P σ n ds ops Q l0 k rest env l :=
  fun hh a w k d s => h hh a w k d (hL w s)
/-! ### Drawn orders of what leaves the heap as it is -/
def JQ (P : Program) (σ : Sig) (n : Nat) (ds : List Deferred) (ops : Array Oper) (Q : Exit → Act → World → Prop) (rest : List Oper) (env : Env) (l : List HP) : Prop :=
  ∀ a, Kn n a env → a.defers = ds → wpQuiet P ops (fun w => Sat σ w l) (fun a' => ∀ w', Sat σ w' l → Q .normal a' w') rest a
theorem JC.regionQ {id : Nat} {r0 : List Oper} (hm : P.follows .mixedOrders = true) (hB : Region.lexB .any r0.toArray = true) (h : JQ P σ n ds r0.toArray Q r0 env l) : JC P σ n ds (.region id r0.toArray true) Q env l := by
  intro a w k d s
  refine wp_region_quiet (C := fun w => Sat σ w l) hm hB (Sat.drew s) ?_
  simpa using h a k d
theorem JQ.ru {d : Nat} {v : Value} (hd : o.dst = some d) (hlt : Nat.blt d n = true) (hwt : want env ops o = some true) (h : Ru P σ n env l o v) (hn : JQ P σ n ds ops Q rest ((d, v) :: env) l) : JQ P σ n ds ops Q (o :: rest) env l := by
  intro a k kd
  unfold wpQuiet
  rw [if_pos (want_spec k hwt)]
  refine ⟨v, fun w s => ?_, ?_⟩
  · unfold Oper.quietAt
    rw [h a w k s]
    exact ⟨rfl, rfl⟩
  · rw [hd]; exact hn _ (k.put d v hlt) kd
theorem JQ.skip {d : Nat} (hd : o.dst = some d) (hlt : Nat.blt d n = true) (hwt : want env ops o = some false) (hn : JQ P σ n ds ops Q rest ((d, undef) :: env) l) : JQ P σ n ds ops Q (o :: rest) env l := by
  intro a k kd
  unfold wpQuiet
  rw [if_neg (by simp [want_spec k hwt]), hd]
  exact hn _ (k.put d _ hlt) kd
theorem JQ.call {d : Nat} {v : Value} {f : FuncId} {xs : Array Operand} {ts : Array TypeId} {vs : List Value} {post : Value → List HP → Prop} [HasBody P f] (hlt : Nat.blt d n = true) (hwt : want env ops ⟨some d, .call ⟨.value (.func f), xs, ts⟩, ty, pos, af, gd⟩ = some true) (hx : xs.toList.mapM (ev env) = some vs) (h : Fn P σ f vs.toArray l post)
    (hp : ∀ v' l', post v' l' → v' = v ∧ l' = l) (hn : JQ P σ n ds ops Q rest ((d, v) :: env) l) : JQ P σ n ds ops Q (⟨some d, .call ⟨.value (.func f), xs, ts⟩, ty, pos, af, gd⟩ :: rest) env l := by
  intro a k kd
  unfold wpQuiet
  rw [if_pos (want_spec k hwt)]
  refine ⟨v, fun w s => ?_, hn _ (k.put d v hlt) kd⟩
  have e : xs.map a.eval = vs.toArray := by apply Array.ext'; rw [Array.toList_map]; exact mapM_ev k _ _ hx
  have he : (execOp a.eval ⟨some d, .call ⟨.value (.func f), xs, ts⟩, ty, pos, af, gd⟩).run P w = .ok (.enter f vs.toArray) w := by
    simp [execOp, resolve, invoke, Act.eval, Deferred.ofValue, e, HasBody.run (P := P) (f := f) vs.toArray w]
  unfold Oper.quietAt
  rw [he]
  refine ⟨rfl, (h w s).mono ?_⟩
  rintro e' w' ⟨v', l', rfl, p, s'⟩
  obtain ⟨rfl, rfl⟩ := hp _ _ p
  exact ⟨rfl, s'⟩
theorem JQ.nil (h : JE σ n ds Q .normal env l) : JQ P σ n ds ops Q [] env l := fun a k d => wpQuiet_nil fun w' s => h a w' k d s
theorem JQ.split {d : Nat} {p : Prop} {dp : Decidable p} (hd : o.dst = some d) (hlt : Nat.blt d n = true) (hwt : want env ops o = some true) (h : Ru P σ n env l o (.bool (decide p)))
    (ht : p → JQ P σ n ds ops Q rest ((d, .bool true) :: env) l) (hf : ¬ p → JQ P σ n ds ops Q rest ((d, .bool false) :: env) l) : JQ P σ n ds ops Q (o :: rest) env l := by
  refine JQ.ru hd hlt hwt h ?_
  by_cases hp : p
  · rw [decide_eq_true hp]; exact ht hp
  · rw [decide_eq_false hp]; exact hf hp
theorem JQ.splitN {d : Nat} {p : Prop} {dp : Decidable p} (hd : o.dst = some d) (hlt : Nat.blt d n = true) (hwt : want env ops o = some true) (h : Ru P σ n env l o (.bool (!decide p)))
    (ht : p → JQ P σ n ds ops Q rest ((d, .bool false) :: env) l) (hf : ¬ p → JQ P σ n ds ops Q rest ((d, .bool true) :: env) l) : JQ P σ n ds ops Q (o :: rest) env l := by
  refine JQ.ru hd hlt hwt h ?_
  by_cases hp : p
  · rw [decide_eq_true hp]; exact ht hp
  · rw [decide_eq_false hp]; exact hf hp

theorem JA.split {l0 : List HP} {k d : Nat} {p : Prop} {dp : Decidable p} [hq : PQ Q] (hd : o.dst = some d) (hlt : Nat.blt d n = true) (hwt : want env ops o = some true) (h : Ru P σ n env l0 o (.bool (decide p)))
    (hs : Region.noSelect ops = true) (hf : Region.free .any ops (lst ops.size k) k = true) (hr : (Region.ready .any ops (lst ops.size k)).contains k = true) (hL : ∀ w, Sat σ w l → Sat σ w l0)
    (ht : p → JA P σ n ds ops Q l0 (k + 1) rest ((d, .bool true) :: env) l) (hf' : ¬ p → JA P σ n ds ops Q l0 (k + 1) rest ((d, .bool false) :: env) l) : JA P σ n ds ops Q l0 k (o :: rest) env l := by
  refine JA.ru hd hlt hwt h hs hf hr hL ?_
  by_cases hp : p
  · rw [decide_eq_true hp]; exact ht hp
  · rw [decide_eq_false hp]; exact hf' hp
theorem JA.splitN {l0 : List HP} {k d : Nat} {p : Prop} {dp : Decidable p} [hq : PQ Q] (hd : o.dst = some d) (hlt : Nat.blt d n = true) (hwt : want env ops o = some true) (h : Ru P σ n env l0 o (.bool (!decide p)))
    (hs : Region.noSelect ops = true) (hf : Region.free .any ops (lst ops.size k) k = true) (hr : (Region.ready .any ops (lst ops.size k)).contains k = true) (hL : ∀ w, Sat σ w l → Sat σ w l0)
    (ht : p → JA P σ n ds ops Q l0 (k + 1) rest ((d, .bool false) :: env) l) (hf' : ¬ p → JA P σ n ds ops Q l0 (k + 1) rest ((d, .bool true) :: env) l) : JA P σ n ds ops Q l0 k (o :: rest) env l := by
  refine JA.ru hd hlt hwt h hs hf hr hL ?_
  by_cases hp : p
  · rw [decide_eq_true hp]; exact ht hp
  · rw [decide_eq_false hp]; exact hf' hp
end

/-! ### Reading a slice -/
/-- The slice v reads as cs, in each world with the heap l. -/
def RdS (σ : Sig) (l : List HP) (v : Value) (cs : List Value) : Prop :=
  ∃ p cap, v = .slice p cs.length cap ∧ cs.length ≤ cap ∧ (cs = [] ∨ ∃ b o, p = some ⟨b, o, none⟩ ∧ ∀ w, Sat σ w l → ∀ i u, cs[i]? = some u → w.cell? ⟨b, o + i, none⟩ = some u)
theorem RdS.heap {σ : Sig} {l l' : List HP} {v : Value} {cs : List Value} (h : RdS σ l v cs) (k : ∀ w, Sat σ w l' → Sat σ w l) : RdS σ l' v cs :=
  let ⟨p, cap, e, hc, r⟩ := h
  ⟨p, cap, e, hc, r.imp id fun ⟨b, o, e, r⟩ => ⟨b, o, e, fun w s => r w (k w s)⟩⟩
theorem RdS.cons {σ : Sig} {l : List HP} {p : HP} {v : Value} {cs : List Value} (h : RdS σ l v cs) : RdS σ (p :: l) v cs := h.heap fun _ s => Sat.drop s
/-- A part of a block. -/
theorem RdS.arr {σ : Sig} {l r : List HP} {b E : Nat} {vs : List Value} (hp : Pick (arr b E vs) l r) (o m cap : Nat) (hm : o + m ≤ vs.length) (hc : m ≤ cap) : RdS σ l (.slice (some ⟨b, o, none⟩) m cap) ((vs.drop o).take m) := by
  have hl : ((vs.drop o).take m).length = m := by simp; omega
  refine ⟨some ⟨b, o, none⟩, cap, by rw [hl], by omega, .inr ⟨b, o, rfl, fun w s i u hu => ?_⟩⟩
  rw [(s.perm hp).cell]
  have hi : i < m := by
    rcases Nat.lt_or_ge i m with q | q
    · exact q
    · rw [List.getElem?_eq_none (by omega)] at hu; cases hu
  rw [List.getElem?_take_of_lt hi, List.getElem?_drop] at hu
  exact hu
end Go.Sep
