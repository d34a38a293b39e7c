/- Maps whose keys are ints. -/
import Derived.Test.YtbpilaghemkdjaaDoorSep8
import Derived.MapKept
namespace Go.Sep
open Go Go.MapKept

structure IsMap (a : Array MapEntry) (clock : Nat) (es : List (Int × Value)) : Prop where
  ents : a.toList.map (fun e => (e.key, e.val)) = es.map (fun p => (Value.int .i64 p.1, p.2))
  stamped : Stamped a clock
  rng : ∀ p ∈ es, -9223372036854775808 ≤ p.1 ∧ p.1 ≤ 9223372036854775807
def mapI (b : Nat) (es : List (Int × Value)) : HP := fun h => ∃ a clock, h b = some (.map a clock) ∧ IsMap a clock es

def idxI {α : Type} : List (Int × α) → Int → Option (Nat × α)
  | [], _ => none
  | (k', v) :: r, k => if k = k' then some (0, v) else (idxI r k).map fun p => (p.1 + 1, p.2)
def lookI {α : Type} (es : List (Int × α)) (k : Int) : Option α := (idxI es k).map (·.2)
def updI {α : Type} : List (Int × α) → Int → α → List (Int × α)
  | [], k, v => [(k, v)]
  | (k', v') :: r, k, v => if k = k' then (k, v) :: r else (k', v') :: updI r k v
def delI {α : Type} : List (Int × α) → Int → List (Int × α)
  | [], _ => []
  | (k', v') :: r, k => if k = k' then r else (k', v') :: delI r k

theorem lookI_cons {α : Type} (k' : Int) (v : α) (r : List (Int × α)) (k : Int) : lookI ((k', v) :: r) k = if k = k' then some v else lookI r k := by
  unfold lookI
  rw [idxI]
  split
  · rfl
  · rw [Option.map_map]; rfl
theorem findNow_idx : ∀ (l : List MapEntry) (es : List (Int × Value)) (k : Int) (i : Nat), l.map (fun e => (e.key, e.val)) = es.map (fun p => (Value.int .i64 p.1, p.2)) →
    Instr.findNow (.int .i64) (.int .i64 k) l i = some ((idxI es k).map fun p => (i + p.1, p.2))
  | [], [], _, _, _ => rfl
  | [], _ :: _, _, _, h => by cases h
  | _ :: _, [], _, _, h => by cases h
  | e :: l, (k', v) :: es, k, i, h => by
    simp only [List.map_cons, List.cons.injEq, Prod.mk.injEq] at h
    obtain ⟨⟨h1, h2⟩, h3⟩ := h
    have ih := findNow_idx l es k (i + 1) h3
    simp only [Instr.findNow, h1, Instr.sameNow, if_true, idxI]
    by_cases hk : k = k'
    · subst hk
      simp [h2]
    · have : (k == k') = false := by simpa using hk
      rw [this, if_neg hk, ih]
      simp only [Option.map_map]
      congr 1
      congr 1
      funext p
      simp only [Function.comp]
      rw [Nat.add_assoc, Nat.add_comm 1]

theorem modify_upd : ∀ (l : List MapEntry) (es : List (Int × Value)) (k : Int) (v : Value) (i : Nat) (u : Value), l.map (fun e => (e.key, e.val)) = es.map (fun p => (Value.int .i64 p.1, p.2)) → idxI es k = some (i, u) →
    (l.modify i fun e => { e with key := .int .i64 k, val := v }).map (fun e => (e.key, e.val)) = (updI es k v).map (fun p => (Value.int .i64 p.1, p.2)) ∧
    (l.modify i fun e => { e with key := .int .i64 k, val := v }).map (·.born) = l.map (·.born) ∧ (l.modify i fun e => { e with key := .int .i64 k, val := v }).map (·.key) = l.map (·.key) ∧ (l[i]?).map (·.key) = some (.int .i64 k)
  | [], [], _, _, _, _, _, h => by cases h
  | [], _ :: _, _, _, _, _, h, _ => by cases h
  | _ :: _, [], _, _, _, _, h, _ => by cases h
  | e :: l, (k', v') :: es, k, v, i, u, h, hi => by
    simp only [List.map_cons, List.cons.injEq, Prod.mk.injEq] at h
    obtain ⟨⟨h1, h2⟩, h3⟩ := h
    simp only [idxI] at hi
    split at hi
    · rename_i hk
      subst hk
      injection hi with hi; injection hi with hi _; subst hi
      refine ⟨?_, ?_, ?_, ?_⟩
      · simp [updI, h3]
      · simp
      · simp [h1]
      · simp [h1]
    · rename_i hk
      simp only [Option.map_eq_some_iff] at hi
      obtain ⟨⟨j, u'⟩, hj, hji⟩ := hi
      injection hji with hji _
      subst hji
      obtain ⟨a1, a2, a3, a4⟩ := modify_upd l es k v j u' h3 hj
      refine ⟨?_, ?_, ?_, ?_⟩
      · simp [updI, hk, a1, h1, h2]
      · simp [a2]
      · simp [a3]
      · simpa using a4
theorem push_upd {es : List (Int × Value)} {k : Int} {v : Value} (h : idxI es k = none) : updI es k v = es ++ [(k, v)] := by
  induction es with
  | nil => rfl
  | cons p es ih =>
    obtain ⟨k', v'⟩ := p
    simp only [idxI] at h
    split at h
    · cases h
    · rename_i hk
      rw [updI, if_neg hk, ih (by simpa using h)]
      rfl
theorem idxI_none {es : List (Int × Value)} {k : Int} (h : idxI es k = none) : ∀ p ∈ es, p.1 ≠ k := by
  induction es with
  | nil => intro p hp; cases hp
  | cons p es ih =>
    obtain ⟨k', v'⟩ := p
    simp only [idxI] at h
    split at h
    · cases h
    · rename_i hk
      intro q hq
      rcases List.mem_cons.1 hq with rfl | hq
      · exact fun e => hk e.symm
      · exact ih (by simpa using h) q hq
theorem erase_del : ∀ (l : List MapEntry) (es : List (Int × Value)) (k : Int) (i : Nat) (u : Value), l.map (fun e => (e.key, e.val)) = es.map (fun p => (Value.int .i64 p.1, p.2)) → idxI es k = some (i, u) →
    (l.eraseIdx i).map (fun e => (e.key, e.val)) = (delI es k).map (fun p => (Value.int .i64 p.1, p.2))
  | [], [], _, _, _, _, h => by cases h
  | [], _ :: _, _, _, _, h, _ => by cases h
  | _ :: _, [], _, _, _, h, _ => by cases h
  | e :: l, (k', v') :: es, k, i, u, h, hi => by
    simp only [List.map_cons, List.cons.injEq, Prod.mk.injEq] at h
    obtain ⟨⟨h1, h2⟩, h3⟩ := h
    simp only [idxI] at hi
    split at hi
    · rename_i hk
      injection hi with hi; injection hi with hi _; subst hi
      simp [delI, hk, h3]
    · rename_i hk
      simp only [Option.map_eq_some_iff] at hi
      obtain ⟨⟨j, u'⟩, hj, hji⟩ := hi
      injection hji with hji _
      subst hji
      simp [delI, hk, h1, h2, erase_del l es k j u' h3 hj]
theorem del_none {α : Type} {es : List (Int × α)} {k : Int} (h : idxI es k = none) : delI es k = es := by
  induction es with
  | nil => rfl
  | cons p es ih =>
    obtain ⟨k', v'⟩ := p
    simp only [idxI] at h
    split at h
    · cases h
    · rename_i hk
      rw [delI, if_neg hk, ih (by simpa using h)]
theorem updI_mem {α : Type} {es : List (Int × α)} {k : Int} {v : α} : ∀ p ∈ updI es k v, p.1 = k ∨ p ∈ es := by
  induction es with
  | nil => intro p hp; simp [updI] at hp; exact .inl (by rw [hp])
  | cons q es ih =>
    obtain ⟨k', v'⟩ := q
    intro p hp
    simp only [updI] at hp
    split at hp
    · rcases List.mem_cons.1 hp with rfl | h
      · exact .inl rfl
      · exact .inr (List.mem_cons_of_mem _ h)
    · rcases List.mem_cons.1 hp with rfl | h
      · exact .inr List.mem_cons_self
      · exact (ih p h).imp id (List.mem_cons_of_mem _)
theorem delI_sub {α : Type} : ∀ (es : List (Int × α)) (k : Int), (delI es k).Sublist es
  | [], _ => List.Sublist.refl _
  | (k', v') :: es, k => by
    simp only [delI]
    split
    · exact List.sublist_cons_self _ _
    · exact (delI_sub es k).cons_cons _

section
variable {P : Program} {σ : Sig} {n : Nat} {ds : List Deferred} {env : Env} {l r : List HP} {dst : Option Tmp} {ty : TypeId} {pos : String} {af : Array Edge} {gd : Option (Nat × Bool)}

theorem Sat.mapI {w : World} {b : Nat} {es : List (Int × Value)} (h : Sat σ w (Sep.mapI b es :: l)) : ∃ a clock, IsMap a clock es ∧ Sat σ w (pt b (.map a clock) :: l) := by
  obtain ⟨hs, h1, h2, a, b1, c, ⟨ar, ck, d, k⟩, e⟩ := h
  exact ⟨ar, ck, k, hs, h1, h2, a, b1, c, d, e⟩
theorem Sat.mapI_of {w : World} {b clock : Nat} {a : Array MapEntry} {es : List (Int × Value)} (k : IsMap a clock es) (h : Sat σ w (pt b (.map a clock) :: l)) : Sat σ w (Sep.mapI b es :: l) :=
  Sat.imp (fun _ x => ⟨a, clock, x, k⟩) h
theorem Sat.mapI_new {w : World} {b : Nat} (h : Sat σ w (pt b (.map #[] 0) :: l)) : Sat σ w (Sep.mapI b [] :: l) :=
  h.mapI_of ⟨rfl, ⟨by simp, by simp, by simp⟩, by simp⟩

theorem Ru.lookupI {x y : Operand} {t kt e : TypeId} {b : Nat} {k : Int} {es : List (Int × Value)} {zv : Value} [UT P t (.map kt e)] [UT P kt (.int .i64)] [ZV P e zv] (hx : ev env x = some (.map (some b))) (hy : ev env y = some (.int .i64 k)) (hp : Pick (mapI b es) l r) :
    Ru P σ n env l ⟨dst, .lookup t x y true, ty, pos, af, gd⟩ (.tuple #[(lookI es k).getD zv, .bool (lookI es k).isSome]) := by
  intro a w kn s
  have e1 := UT.run (P := P) (t := t) w
  have e2 := UT.eq (P := P) (t := kt)
  have e3 := ZV.eq (P := P) (t := e) w
  obtain ⟨ar, ck, hm, s1⟩ := (s.perm hp).mapI
  have hb := s1.get
  have hf := run_findKey (P := P) (w := w) e2 (findNow_idx ar.toList es k 0 hm.ents)
  have hc := fun em => run_checkKey (P := P) (w := w) e2 (k := .int .i64 k) rfl em 9999
  have hg : (getObj b).run P w = .ok (.map ar ck) w := by simp [getObj, Sem.run, hb]
  unfold lookI
  cases q : idxI es k with
  | none => simp [execOp, kn.ev hx, kn.ev hy, Instr.lookup, e1, hg, hc, hf, q, e3]
  | some p => simp [execOp, kn.ev hx, kn.ev hy, Instr.lookup, e1, hg, hc, hf, q]
theorem Ru.lookupI0 {x y : Operand} {t kt e : TypeId} {b : Nat} {k : Int} {es : List (Int × Value)} {zv : Value} [UT P t (.map kt e)] [UT P kt (.int .i64)] [ZV P e zv] (hx : ev env x = some (.map (some b))) (hy : ev env y = some (.int .i64 k)) (hp : Pick (mapI b es) l r) :
    Ru P σ n env l ⟨dst, .lookup t x y false, ty, pos, af, gd⟩ ((lookI es k).getD zv) := by
  intro a w kn s
  have e1 := UT.run (P := P) (t := t) w
  have e2 := UT.eq (P := P) (t := kt)
  have e3 := ZV.eq (P := P) (t := e) w
  obtain ⟨ar, ck, hm, s1⟩ := (s.perm hp).mapI
  have hb := s1.get
  have hf := run_findKey (P := P) (w := w) e2 (findNow_idx ar.toList es k 0 hm.ents)
  have hc := fun em => run_checkKey (P := P) (w := w) e2 (k := .int .i64 k) rfl em 9999
  have hg : (getObj b).run P w = .ok (.map ar ck) w := by simp [getObj, Sem.run, hb]
  unfold lookI
  cases q : idxI es k with
  | none => simp [execOp, kn.ev hx, kn.ev hy, Instr.lookup, e1, hg, hc, hf, q, e3]
  | some p => simp [execOp, kn.ev hx, kn.ev hy, Instr.lookup, e1, hg, hc, hf, q]

theorem Do.mapUpdateI {x y z : Operand} {t kt e : TypeId} {b : Nat} {k : Int} {es : List (Int × Value)} {v : Value} [UT P t (.map kt e)] [UT P kt (.int .i64)] (hx : ev env x = some (.map (some b))) (hy : ev env y = some (.int .i64 k)) (hz : ev env z = some v) (hp : Pick (mapI b es) l r)
    (hk : -9223372036854775808 ≤ k ∧ k ≤ 9223372036854775807) :
    Do P σ n env l ⟨dst, .mapUpdate t x y z, ty, pos, af, gd⟩ (fun u l' => u = undef ∧ l' = mapI b (updI es k v) :: r) := by
  refine Do.skip fun a w kn s => ?_
  have e1 := UT.run (P := P) (t := t) w
  have e2 := UT.eq (P := P) (t := kt)
  obtain ⟨ar, ck, hm, s1⟩ := (s.perm hp).mapI
  have hb := s1.get
  have hf := run_findKey (P := P) (w := w) e2 (findNow_idx ar.toList es k 0 hm.ents)
  have hc := fun em => run_checkKey (P := P) (w := w) e2 (k := .int .i64 k) rfl em 9999
  have hg : (getObj b).run P w = .ok (.map ar ck) w := by simp [getObj, Sem.run, hb]
  have hrng : ∀ p ∈ updI es k v, -9223372036854775808 ≤ p.1 ∧ p.1 ≤ 9223372036854775807 := fun p hp => by
    rcases updI_mem p hp with h | h
    · rw [h]; exact hk
    · exact hm.rng p h
  cases q : idxI es k with
  | none =>
    refine ⟨_, _, ?_, Sat.mapI_of (a := ar.push { key := .int .i64 k, val := v, born := ck }) (clock := ck + 1) ⟨?_, ⟨?_, ?_, ?_⟩, hrng⟩ (s1.set), rfl, rfl⟩
    · have hw := run_setObj_map (P := P) (.map (ar.push { key := .int .i64 k, val := v, born := ck }) (ck + 1)) hb
      simp [execOp, kn.ev hx, kn.ev hy, kn.ev hz, Instr.mapUpdate, e1, hg, hc, hf, q, hw]
    · rw [push_upd q]; simp [hm.ents]
    · intro x hx
      simp only [Array.toList_push, List.mem_append, List.mem_singleton] at hx
      rcases hx with hx | rfl
      · have := hm.stamped.1 x hx; omega
      · show ck < ck + 1; omega
    · simp only [Array.toList_push, List.map_append, List.map_cons, List.map_nil]
      refine List.nodup_append.2 ⟨hm.stamped.2.1, by simp, ?_⟩
      intro x hx y hy
      simp at hy; subst hy
      obtain ⟨z, hz, rfl⟩ := List.mem_map.1 hx
      have := hm.stamped.1 z hz
      omega
    · simp only [Array.toList_push, List.map_append, List.map_cons, List.map_nil]
      refine List.nodup_append.2 ⟨hm.stamped.2.2, by simp, ?_⟩
      intro x hx y hy
      simp at hy; subst hy
      obtain ⟨z, hz, rfl⟩ := List.mem_map.1 hx
      intro he
      have h1 : (z.key, z.val) ∈ ar.toList.map (fun e => (e.key, e.val)) := List.mem_map.2 ⟨z, hz, rfl⟩
      rw [hm.ents] at h1
      obtain ⟨p, hp1, hp2⟩ := List.mem_map.1 h1
      injection hp2 with hp2 _
      rw [he] at hp2
      injection hp2 with _ hp2
      exact idxI_none q p hp1 hp2
  | some p =>
    obtain ⟨i, u⟩ := p
    obtain ⟨a1, a2, a3, a4⟩ := modify_upd ar.toList es k v i u hm.ents q
    refine ⟨_, _, ?_, Sat.mapI_of (a := ar.modify i fun e => { e with key := .int .i64 k, val := v }) (clock := ck) ⟨?_, ⟨?_, ?_, ?_⟩, hrng⟩ (s1.set), rfl, rfl⟩
    · have hw := run_setObj_map (P := P) (.map (ar.modify i fun e => { e with key := .int .i64 k, val := v }) ck) hb
      have hkk : ((ar[i]?).map (·.key)).getD (.int .i64 k) = .int .i64 k := by
        rw [← Array.getElem?_toList, a4]; rfl
      have hst : (Instr.keyThatStays (.int .i64 k) (.int .i64 k)).run P w = .ok (.int .i64 k) w := by
        have : Instr.sameBits 10000 (.int .i64 k) (.int .i64 k) = true := by simp [Instr.sameBits]
        simp [Instr.keyThatStays, this]
      simp [execOp, kn.ev hx, kn.ev hy, kn.ev hz, Instr.mapUpdate, e1, hg, hc, hf, q, hw, hkk, hst]
    · rw [Array.toList_modify]; exact a1
    · intro x hx
      rw [Array.toList_modify] at hx
      have : x.born ∈ (ar.toList.modify i fun e => { e with key := .int .i64 k, val := v }).map (·.born) := List.mem_map.2 ⟨x, hx, rfl⟩
      rw [a2] at this
      obtain ⟨z, hz, hzb⟩ := List.mem_map.1 this
      rw [← hzb]; exact hm.stamped.1 z hz
    · rw [Array.toList_modify, a2]; exact hm.stamped.2.1
    · rw [Array.toList_modify, a3]; exact hm.stamped.2.2

theorem Do.deleteI {x y : Operand} {t kt e t' : TypeId} {b : Nat} {k : Int} {es : List (Int × Value)} [UT P t (.map kt e)] [UT P kt (.int .i64)] (hx : ev env x = some (.map (some b))) (hy : ev env y = some (.int .i64 k)) (hp : Pick (mapI b es) l r) :
    Do P σ n env l ⟨dst, .call ⟨.builtin .delete, #[x, y], #[t, t']⟩, ty, pos, af, gd⟩ (fun u l' => u = .tuple #[] ∧ l' = mapI b (delI es k) :: r) := by
  refine Do.value fun a w kn s => ?_
  have e1 := UT.run (P := P) (t := t) w
  have e2 := UT.eq (P := P) (t := kt)
  obtain ⟨ar, ck, hm, s1⟩ := (s.perm hp).mapI
  have hb := s1.get
  have hf := run_findKey (P := P) (w := w) e2 (findNow_idx ar.toList es k 0 hm.ents)
  have hc := fun em => run_checkKey (P := P) (w := w) e2 (k := .int .i64 k) rfl em 9999
  have hg : (getObj b).run P w = .ok (.map ar ck) w := by simp [getObj, Sem.run, hb]
  have hrng : ∀ p ∈ delI es k, -9223372036854775808 ≤ p.1 ∧ p.1 ≤ 9223372036854775807 := fun p hp => hm.rng p ((delI_sub es k).mem hp)
  cases q : idxI es k with
  | none =>
    refine ⟨_, _, _, ?_, Sat.mapI_of (a := ar) (clock := ck) ⟨?_, hm.stamped, hrng⟩ (s1.set), rfl, rfl⟩
    · have hw := run_setObj_map (P := P) (.map ar ck) hb
      simp [execOp, resolve, invoke, builtin, kn.ev hx, kn.ev hy, Builtin.delete_, e1, hg, hc, hf, q, hw]
    · rw [del_none q]; exact hm.ents
  | some p =>
    obtain ⟨i, u⟩ := p
    have a1 := erase_del ar.toList es k i u hm.ents q
    have hsub : (ar.eraseIdxIfInBounds i).toList = ar.toList.eraseIdx i := by
      unfold Array.eraseIdxIfInBounds
      split
      · simp
      · rename_i hlt
        rw [List.eraseIdx_of_length_le (by simpa using hlt)]
    refine ⟨_, _, _, ?_, Sat.mapI_of (a := ar.eraseIdxIfInBounds i) (clock := ck) ⟨?_, ⟨?_, ?_, ?_⟩, hrng⟩ (s1.set), rfl, rfl⟩
    · have hw := run_setObj_map (P := P) (.map (ar.eraseIdxIfInBounds i) ck) hb
      simp [execOp, resolve, invoke, builtin, kn.ev hx, kn.ev hy, Builtin.delete_, e1, hg, hc, hf, q, hw]
    · rw [hsub]; exact a1
    · intro x hx
      rw [hsub] at hx
      exact hm.stamped.1 x ((List.eraseIdx_sublist _ _).mem hx)
    · rw [hsub]; exact List.Nodup.sublist ((List.eraseIdx_sublist _ _).map _) hm.stamped.2.1
    · rw [hsub]; exact List.Nodup.sublist ((List.eraseIdx_sublist _ _).map _) hm.stamped.2.2
end
end Go.Sep
