/- Slices of one's own; append, copy, make. -/
import Derived.Test.YtbpilaghemkdjaaDoorSep4
namespace Go.Sep
open Go

/-- v is a slice of n elements (z cells each) whose block is its own; its cells are xs, what lies behind them is spare. -/
def ownS (v : Value) (E : TypeId) (z n : Nat) (xs : List Value) : HP := fun h =>
  (v = .slice none 0 0 ∧ n = 0 ∧ xs = []) ∨
  ∃ b cap spare, v = .slice (some ⟨b, 0, none⟩) n cap ∧ n ≤ cap ∧ xs.length = n * z ∧ cap * z ≤ (xs ++ spare).length ∧ arr b E (xs ++ spare) h

section
variable {P : Program} {σ : Sig} {n : Nat} {env : Env} {l r : List HP} {dst : Option Tmp} {ty : TypeId} {pos : String} {af : Array Edge} {gd : Option (Nat × Bool)}

theorem Sat.ownS {w : World} {v : Value} {E : TypeId} {z k : Nat} {xs : List Value} (h : Sat σ w (Sep.ownS v E z k xs :: l)) :
    (v = .slice none 0 0 ∧ k = 0 ∧ xs = [] ∧ Sat σ w l) ∨ ∃ b cap spare, v = .slice (some ⟨b, 0, none⟩) k cap ∧ k ≤ cap ∧ xs.length = k * z ∧ cap * z ≤ (xs ++ spare).length ∧ Sat σ w (Sep.arr b E (xs ++ spare) :: l) := by
  obtain ⟨hs, h1, h2, a, b, c, d, e⟩ := h
  rcases d with ⟨e1, e2, e3⟩ | ⟨bb, cap, spare, e1, e2, e3, e4, e5⟩
  · exact .inl ⟨e1, e2, e3, hs, Holds.mono b e⟩
  · exact .inr ⟨bb, cap, spare, e1, e2, e3, e4, hs, h1, h2, a, b, c, e5, e⟩
theorem Sat.ownS_nil {w : World} {E : TypeId} {z : Nat} (h : Sat σ w l) : Sat σ w (Sep.ownS (.slice none 0 0) E z 0 [] :: l) :=
  ⟨h.1, fun _ => none, heapOf w, fun _ _ e => (by cases e), sub_refl _, fun _ => .inl rfl, .inl ⟨rfl, rfl, rfl⟩, h.2⟩
theorem Sat.ownS_arr {w : World} {E b : TypeId} {z k cap : Nat} {xs spare : List Value} (h1 : k ≤ cap) (h2 : xs.length = k * z) (h3 : cap * z ≤ (xs ++ spare).length) (h : Sat σ w (Sep.arr b E (xs ++ spare) :: l)) : Sat σ w (Sep.ownS (.slice (some ⟨b, 0, none⟩) k cap) E z k xs :: l) :=
  Sat.imp (fun _ x => .inr ⟨b, cap, spare, rfl, h1, h2, h3, x⟩) h

theorem run_firstCells {w : World} {v : Value} {cs : List Value} {m z : Nat} (h : RdS σ l v cs) (s : Sat σ w l) (hm : m * z ≤ cs.length) : (Builtin.firstCells z m v).run P w = .ok (cs.take (m * z)).toArray w := by
  obtain ⟨p, cap, rfl, _, hr⟩ := h
  rcases hr with rfl | ⟨b, o, rfl, hc⟩
  · have h0 : m * z = 0 := by simpa using hm
    cases p with
    | none => simp [Builtin.firstCells]
    | some a => simp [Builtin.firstCells, h0, loadCells, loadCellsFrom]
  · have hlen : (cs.take (m * z)).length = m * z := by rw [List.length_take]; omega
    have := run_loadCells_list (P := P) (w := w) ⟨b, o, none⟩ (cs.take (m * z)) (fun j v hv => by
      have hj : j < m * z := by
        rcases Nat.lt_or_ge j (m * z) with q | q
        · exact q
        · rw [List.getElem?_eq_none (by omega)] at hv; cases hv
      have e : Addr.add ⟨b, o, none⟩ j = ⟨b, o + j, none⟩ := by simp [Addr.add]
      rw [e]
      rw [List.getElem?_take_of_lt hj] at hv
      exact hc w s j v hv)
    rw [hlen] at this
    exact this

theorem splice_append : ∀ (cs xs spare : List Value), cs.length ≤ spare.length → splice (xs ++ spare) xs.length cs = xs ++ cs ++ spare.drop cs.length
  | [], xs, spare, _ => by simp [splice]
  | c :: cs, xs, [], h => by simp at h
  | c :: cs, xs, s0 :: spare, h => by
    have ih := splice_append cs (xs ++ [c]) spare (by simpa using h)
    simp only [splice]
    rw [show (xs ++ s0 :: spare).set xs.length c = (xs ++ [c]) ++ spare by rw [List.set_append_right _ _ (Nat.le_refl _)]; simp]
    rw [show xs.length + 1 = (xs ++ [c]).length by simp, ih]
    simp

/-- A slice's elements, m of them with z cells each. -/
theorem Do.append {x y : Operand} {t e t' e' : TypeId} {z k m : Nat} {zv : Value} {i : TypeInfo} {v u : Value} {xs ys : List Value} {p : Option Addr} {c : Nat} [UT P t (.slice e)] [UT P t' (.slice e')] [SZ P e z] [TI P e i] [ZV P e zv]
    (hx : ev env x = some v) (hy : ev env y = some u) (hp : Pick (ownS v e z k xs) l r) (hu : u = .slice p m c) (hrd : RdS σ l (.slice p ys.length (c * z)) ys) (hys : ys.length = m * z) (h1 : ∀ q ∈ ys, q.oneCell' = true)
    (hsz : (k + m) * i.bytes ≤ 140737488355328) (hb : Nat.beq i.bytes 0 = false := by rfl) (hz : Nat.beq zv.cells.size z = true := by rfl) :
    Do P σ n env l ⟨dst, .call ⟨.builtin .append, #[x, y], #[t, t']⟩, ty, pos, af, gd⟩ (fun v' l' => l' = ownS v' e z (k + m) (xs ++ ys) :: r ∧ (v' = .slice none 0 0 → v = .slice none 0 0 ∧ m = 0)) := by
  refine Do.value fun a w kn s => ?_
  subst hu
  have e1 := UT.run (P := P) (t := t) w
  have e2 := UT.run (P := P) (t := t') w
  have e3 := SZ.eq (P := P) (t := e) w
  have e4 := TI.eq (P := P) (t := e) w
  have e5 := ZV.eq (P := P) (t := e) w
  have hb' : i.bytes ≠ 0 := Nat.ne_of_beq_eq_false hb
  have hz' : zv.cells.size = z := Nat.eq_of_beq_eq_true hz
  have hfirst : (Builtin.firstCells z m (.slice p m c)).run P w = .ok ys.toArray w := by
    have := run_firstCells (P := P) (m := m) (z := z) hrd s (by omega)
    rw [← hys, List.take_length] at this
    cases p <;> simpa [Builtin.firstCells] using this
  have hopen := (s.perm hp).ownS
  have hrun : ∀ res w', (Builtin.append_ #[t, t'] ty #[v, .slice p m c]).run P w = .ok res w' → (execOp a.eval ⟨dst, .call ⟨.builtin .append, #[x, y], #[t, t']⟩, ty, pos, af, gd⟩).run P w = .ok (.value res) w' := by
    intro res w' h
    simp [execOp, resolve, invoke, builtin, kn.ev hx, kn.ev hy, h]
  have grow : ∀ (base : Option Addr) (cap : Nat), v = .slice base k cap → cap < k + m → (Builtin.firstCells z k v).run P w = .ok xs.toArray w → ∃ res w' l', (Builtin.append_ #[t, t'] ty #[v, .slice p m c]).run P w = .ok res w' ∧ Sat σ w' l' ∧ l' = ownS res e z (k + m) (xs ++ ys) :: r ∧ (res = .slice none 0 0 → v = .slice none 0 0 ∧ m = 0) := by
    intro base cap hv hcap hold
    subst hv
    have hfit := growslice_fits (need := k + m) (old := cap) hcap hsz
    have hx' : xs.length = k * z := by
      rcases hopen with ⟨q1, q2, q3, _⟩ | ⟨_, _, _, _, _, q, _⟩
      · subst q2; subst q3; simp
      · exact q
    have hd := (s.perm hp).drop.drew
    have hd2 : Sat σ ({ w with drawn := w.drawn + 1 } : World) r := hd
    obtain ⟨cp, hcp⟩ : ∃ cp, (Question.appendCap (k + m) cap e).cut (w.tape w.drawn (.appendCap (k + m) cap e)) = cp := ⟨_, rfl⟩
    have hcut : k + m ≤ cp := by rw [← hcp]; simp [Question.cut]
    obtain ⟨spare, hsp⟩ : ∃ spare : List Value, (xs.toArray ++ ys.toArray ++ Builtin.zeroCells zv.cells (cp - (k + m))).toList = (xs ++ ys) ++ spare ∧ spare.length = (cp - (k + m)) * z :=
      ⟨(Builtin.zeroCells zv.cells (cp - (k + m))).toList, by simp, by simp [Builtin.zeroCells, hz']⟩
    have hnew := hd2.newRow e (xs.toArray ++ ys.toArray ++ Builtin.zeroCells zv.cells (cp - (k + m)))
    rw [hsp.1] at hnew
    refine ⟨.slice (some ⟨w.heap.size, 0, none⟩) (k + m) cp, _, _, ?_, Sat.ownS_arr hcut (by rw [List.length_append, hx', hys, Nat.add_mul]) ?_ hnew, rfl, fun h => by cases h⟩
    · have hold' : ∀ w2 : World, w2.heap = w.heap → (Builtin.firstCells z k (.slice base k cap)).run P w2 = .ok xs.toArray w2 := by
        intro w2 hw2
        have hs2 : Sat σ { w with drawn := w2.drawn } l := s
        rcases hopen with ⟨q1, q2, q3, _⟩ | ⟨b, cap', spare', q1, q2, q3, q4, q5⟩
        · cases q1; subst q3; simp [Builtin.firstCells]
        · cases q1
          have hl2 := run_loadPart (P := P) (w := w2) (b := b) (o := 0) (vs := xs ++ spare') (m := k * z) (fun i => by
            have := q5.cell i
            simp only [World.cell?, hw2] at this ⊢
            exact this) (by rw [List.length_append]; omega)
          simp only [Builtin.firstCells]
          rw [hl2, List.drop_zero, ← q3, List.take_left]
      have hfirst' : ∀ w2 : World, w2.heap = w.heap → (Builtin.firstCells z m (.slice p m c)).run P w2 = .ok ys.toArray w2 := by
        intro w2 hw2
        obtain ⟨p', cap', q1, _, hr⟩ := hrd
        cases q1
        rcases hr with h0 | ⟨b, o, rfl, hc⟩
        · subst h0
          have h0 : m * z = 0 := by simpa using hys.symm
          cases p with
          | none => simp [Builtin.firstCells]
          | some a => simp [Builtin.firstCells, h0, loadCells, loadCellsFrom]
        · have := run_loadCells_list (P := P) (w := w2) ⟨b, o, none⟩ ys (fun j u hu => by
            have e : Addr.add ⟨b, o, none⟩ j = ⟨b, o + j, none⟩ := by simp [Addr.add]
            rw [e]
            have := hc w s j u hu
            simp only [World.cell?, hw2] at this ⊢
            exact this)
          simp only [Builtin.firstCells]
          rw [← hys]; exact this
      have n1 : ¬ (k + m ≤ cap) := by omega
      have n2 : ¬ (((k + m : Nat) : Int) > IntKind.i64.max ∧ (false = true ∨ i.bytes = 0)) := by simp [hb']
      have n3 : ¬ (Builtin.nextslicecap (k + m) cap * i.bytes > 2 ^ 48) := by omega
      simp [Builtin.append_, e1, e2, e3, e4, e5, Builtin.lenOf, n1, n3, hb', hcp, TI.eq (P := P) (t := e) w.drew, ZV.eq (P := P) (t := e) w.drew, hold' w.drew rfl, hfirst' w.drew rfl, Question.forced, hold' { w with drawn := w.drawn + 1 } rfl, hfirst' { w with drawn := w.drawn + 1 } rfl, newRow]
      rw [← List.append_toArray, Array.append_assoc]
      rfl
    · refine Nat.le_of_eq (Eq.symm ?_)
      rw [List.length_append, List.length_append, hx', hys, hsp.2, ← Nat.add_mul, ← Nat.add_mul]
      congr 1
      omega
  rcases hopen with ⟨q1, q2, q3, _⟩ | ⟨b, cap, spare, q1, q2, q3, q4, q5⟩
  · subst q2; subst q3
    by_cases h0 : m = 0
    · subst h0
      have hy0 : ys = [] := List.eq_nil_of_length_eq_zero (by simpa using hys)
      subst hy0
      refine ⟨.slice none 0 0, w, _, hrun _ _ ?_, Sat.ownS_nil (E := e) (z := z) (s.perm hp).drop, by simp, fun _ => ⟨q1, rfl⟩⟩
      subst q1
      simp [Builtin.append_, e1, e2, e3, Builtin.lenOf, hfirst]
    · obtain ⟨res, w', l', g1, g2, g3⟩ := grow none 0 q1 (by omega) (by subst q1; simp [Builtin.firstCells])
      exact ⟨res, w', l', hrun _ _ g1, g2, g3⟩
  · by_cases hroom : k + m ≤ cap
    · have hle : ys.length ≤ spare.length := by
        have h3 : cap * z ≤ xs.length + spare.length := by rw [← List.length_append]; exact q4
        have h4 : (k + m) * z ≤ cap * z := Nat.mul_le_mul_right _ hroom
        rw [Nat.add_mul] at h4
        omega
      obtain ⟨w', hr, s'⟩ := Sat.storeCells (P := P) (σ := σ) ys (xs ++ spare) xs.length 0 w h1 (by rw [List.length_append]; omega) q5
      rw [Nat.add_zero, splice_append _ _ _ hle] at s'
      have hal : Addr.add ⟨b, 0, none⟩ (k * z) = ⟨b, xs.length, none⟩ := by simp [Addr.add, q3]; intro h; exact h.symm
      refine ⟨.slice (some ⟨b, 0, none⟩) (k + m) cap, w', _, hrun _ _ ?_, Sat.ownS_arr hroom (by rw [List.length_append, q3, hys, Nat.add_mul]) (by
        have h3 : cap * z ≤ xs.length + spare.length := by rw [← List.length_append]; exact q4
        rw [List.length_append, List.length_append, List.length_drop]; omega) s', rfl, fun h => by cases h⟩
      subst q1
      simp [Builtin.append_, e1, e2, e3, Builtin.lenOf, hroom, hfirst, hal, hr]
    · obtain ⟨res, w', l', g1, g2, g3⟩ := grow (some ⟨b, 0, none⟩) cap q1 (by omega) (by
        subst q1
        have hl2 := run_loadPart (P := P) (w := w) (b := b) (o := 0) (vs := xs ++ spare) (m := k * z) (fun i => q5.cell i) (by rw [List.length_append]; omega)
        simp only [Builtin.firstCells]
        rw [hl2, List.drop_zero, ← q3, List.take_left])
      exact ⟨res, w', l', hrun _ _ g1, g2, g3⟩
end
end Go.Sep
