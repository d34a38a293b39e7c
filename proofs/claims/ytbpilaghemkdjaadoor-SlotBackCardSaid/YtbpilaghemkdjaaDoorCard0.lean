/- What arguments read as; a statement's last step, out of a contract. -/
import Derived.Test.YtbpilaghemkdjaaDoorLaw6a
import Derived.ProofKit
import Derived.Carry
import Derived.Deep.Slices
import Derived.OpenShut
namespace Go.Sep
open Go Go.Proofs Go.ChangeShapes Go.WideShapes Go.ChangeAt Go.RowKit
/-- How data lie in cells. -/
inductive Lay where
  | int (k : IntKind)
  | bool
  | slice (l : Lay)
  | nil
  | cons (h r : Lay)
def Lay.cells : Lay → Nat
  | .int _ => 1
  | .bool => 1
  | .slice _ => 1
  | .nil => 0
  | .cons h r => h.cells + r.cells
/-- A type lies so; fields from a place on do. -/
def Lay.is (P : Program) : Lay → Option TypeId → Nat → List Field → Prop
  | .int k, some t, _, _ => P.underlying t = some (.int k)
  | .bool, some t, _, _ => P.underlying t = some .bool
  | .slice l, some t, _, _ => ∃ e, P.underlying t = some (.slice e) ∧ P.cellsOf e = l.cells ∧ l.is P (some e) 0 []
  | .nil, none, _, fs => fs = []
  | .cons h r, none, o, fs => ∃ f fs', fs = f :: fs' ∧ f.offset = o ∧ P.cellsOf f.type = h.cells ∧ h.is P (some f.type) 0 [] ∧ r.is P none (o + h.cells) fs'
  | .cons h r, some t, _, _ => ∃ (fs : Array Field) (f : Field) (fs' : List Field), P.underlying t = some (.struct fs) ∧ fs.toList = f :: fs' ∧ f.offset = 0 ∧ P.cellsOf f.type = h.cells ∧ h.is P (some f.type) 0 [] ∧ r.is P none h.cells fs' ∧ P.cellsOf t = h.cells + r.cells
  | _, _, _, _ => False
section
variable {P : Program} {t e : TypeId} {l h r : Lay} {fs : Array Field} {f : Field} {fs' fs1 : List Field} {o o' : Nat}
theorem Lay.isI {k : IntKind} (h : P.underlying t = some (.int k)) : (Lay.int k).is P (some t) 0 [] := h
theorem Lay.isB (h : P.underlying t = some .bool) : Lay.bool.is P (some t) 0 [] := h
theorem Lay.isS (h : P.underlying t = some (.slice e)) (hc : P.cellsOf e = l.cells) (hl : l.is P (some e) 0 []) : (Lay.slice l).is P (some t) 0 [] := ⟨e, h, hc, hl⟩
theorem Lay.isN : Lay.nil.is P none o [] := rfl
theorem Lay.isF (ho : f.offset = o) (hc : P.cellsOf f.type = h.cells) (hh : h.is P (some f.type) 0 []) (e : o + h.cells = o') (hr : r.is P none o' fs') : (Lay.cons h r).is P none o (f :: fs') := ⟨f, fs', rfl, ho, hc, hh, e ▸ hr⟩
theorem Lay.isT (hu : P.underlying t = some (.struct fs)) (he : fs.toList = f :: fs') (ho : f.offset = 0) (hc : P.cellsOf f.type = h.cells) (hh : h.is P (some f.type) 0 []) (e : h.cells = o') (hr : r.is P none o' fs') (ht : P.cellsOf t = h.cells + r.cells) : (Lay.cons h r).is P (some t) 0 [] :=
  ⟨fs, f, fs', hu, he, ho, hc, hh, e ▸ hr, ht⟩
end
def Lay.rd (W : World) : Lay → List Value → Prop
  | .int k, cs => ∃ n, cs = [.int k n] ∧ (Lit.int k n).wf = true
  | .bool, cs => ∃ b, cs = [.bool b]
  | .slice l, cs => cs = [.slice none 0 0] ∨ ∃ a len cap, cs = [.slice (some a) len cap] ∧ len ≤ cap ∧ cap ≤ maxLen ∧ ∀ i, i < len → ∃ cs', W.cells? 0 (a.add (i * l.cells)) l.cells = some cs' ∧ l.rd W cs'
  | .nil, cs => cs = []
  | .cons h r, cs => ∃ c1 c2, cs = c1 ++ c2 ∧ c1.length = h.cells ∧ h.rd W c1 ∧ r.rd W c2
section
variable {H : Type} {enc : TypeId × Value → H} {P : Program} {W : World} {sp : Nat → Bool} {hd : Bool}
theorem Lay.of_trod : ∀ (l : Lay) (ot : Option TypeId) (o : Nat) (fs : List Field), l.is P ot o fs →
    (∀ t, ot = some t → ∀ n cs x, DataW.trod enc P W 0 sp hd n t cs = some x → l.rd W cs) ∧
    (ot = none → ∀ n (cs : List Value), (∀ f ∈ fs, ∃ x, DataW.trod enc P W 0 sp hd n f.type ((cs.drop f.offset).take (P.cellsOf f.type)) = some x) → o + l.cells ≤ cs.length → l.rd W ((cs.drop o).take l.cells))
  | .int k, some t, o, fs, h => by
    refine ⟨fun t' ht n cs x hx => ?_, fun h => by cases h⟩
    cases ht
    obtain ⟨m, h1, _, h3⟩ := DataW.trod_int h hx
    exact ⟨m, h1, h3⟩
  | .bool, some t, o, fs, h => by
    refine ⟨fun t' ht n cs x hx => ?_, fun h => by cases h⟩
    cases ht
    obtain ⟨m, h1, _⟩ := DataW.trod_bool h hx
    exact ⟨m, h1⟩
  | .slice l, some t, o, fs, h => by
    refine ⟨fun t' ht n cs x hx => ?_, fun h => by cases h⟩
    cases ht
    obtain ⟨e, he, hc, hl⟩ := h
    rcases DataW.trod_slice he hx with ⟨h0, _⟩ | ⟨a, len, cap, elems, rest, m, _, rfl, _, hb, h1, h2, h3, h4, _⟩
    · exact .inl h0
    · refine .inr ⟨a, len, cap, rfl, h1, h2, fun i hi => ?_⟩
      have := h4 i hi
      rw [List.getElem?_eq_getElem (by omega), hc] at this
      obtain ⟨cs', g1, g2⟩ := Option.bind_eq_some_iff.1 this
      exact ⟨cs', g1, (Lay.of_trod l (some e) 0 [] hl).1 e rfl _ _ _ g2⟩
  | .nil, none, o, fs, h => by
    refine ⟨fun t' ht => (by cases ht), fun _ n cs _ _ => ?_⟩
    show (cs.drop o).take 0 = []
    simp
  | .cons h r, none, o, fs, hi => by
    refine ⟨fun t' ht => (by cases ht), fun _ n cs hf hlen => ?_⟩
    obtain ⟨f, fs', rfl, h1, h2, h3, h4⟩ := hi
    obtain ⟨x, hx⟩ := hf f List.mem_cons_self
    rw [h1, h2] at hx
    simp only [Lay.cells] at hlen
    refine ⟨(cs.drop o).take h.cells, (cs.drop (o + h.cells)).take r.cells, ?_, by rw [List.length_take, List.length_drop]; omega, (Lay.of_trod h (some f.type) 0 [] h3).1 _ rfl _ _ _ hx, ?_⟩
    · show (cs.drop o).take (h.cells + r.cells) = _
      rw [List.take_add, List.drop_drop]
    · exact (Lay.of_trod r none (o + h.cells) fs' h4).2 rfl n cs (fun g hg => hf g (List.mem_cons_of_mem _ hg)) (by omega)
  | .cons h r, some t, o, fs, hi => by
    refine ⟨fun t' ht n cs x hx => ?_, fun h => by cases h⟩
    cases ht
    obtain ⟨fa, f, fs', hu, h0, h1, h2, h3, h4, h5⟩ := hi
    obtain ⟨xs, m, _, _, hl, hxl, hf⟩ := DataW.trod_struct hu hx
    have hsz : fa.size = fs'.length + 1 := by rw [← Array.length_toList, h0]; rfl
    have each : ∀ g ∈ f :: fs', ∃ x, DataW.trod enc P W 0 sp hd m g.type ((cs.drop g.offset).take (P.cellsOf g.type)) = some x := fun g hg => by
      obtain ⟨i, hi, rfl⟩ := List.getElem_of_mem hg
      have := hf i (f :: fs')[i] (by rw [← Array.getElem?_toList, h0, List.getElem?_eq_getElem hi])
      rw [List.getElem?_eq_getElem (by rw [hxl, hsz]; simpa using hi)] at this
      exact ⟨_, this⟩
    obtain ⟨x0, hx0⟩ := each f List.mem_cons_self
    rw [h1, h2] at hx0
    refine ⟨cs.take h.cells, cs.drop h.cells, (List.take_append_drop _ _).symm, by rw [List.length_take]; omega, (Lay.of_trod h (some f.type) 0 [] h3).1 _ rfl _ _ _ (by simpa using hx0), ?_⟩
    have := (Lay.of_trod r none h.cells fs' h4).2 rfl m cs (fun g hg => each g (List.mem_cons_of_mem _ hg)) (by omega)
    rwa [List.take_of_length_le (by rw [List.length_drop]; omega)] at this
  | .int _, none, _, _, h => h.elim
  | .bool, none, _, _, h => h.elim
  | .slice _, none, _, _, h => h.elim
  | .nil, some _, _, _, h => h.elim
theorem Lay.of_Trod {l : Lay} {t : TypeId} (hl : l.is P (some t) 0 []) {v : Value} {d : DataW H} {ps : List MemPlace} (h : DataW.Trod enc P W 0 sp hd t v d ps) : l.rd W v.cells.toList :=
  let ⟨n, hn⟩ := h
  (Lay.of_trod l (some t) 0 [] hl).1 t rfl n _ _ hn
end

/-! ### Bytes -/
theorem choose_list {α : Type} {p : Nat → α → Prop} : ∀ (n : Nat), (∀ i, i < n → ∃ x, p i x) → ∃ l : List α, l.length = n ∧ ∀ i x, l[i]? = some x → p i x
  | 0, _ => ⟨[], rfl, fun i x h => by cases h⟩
  | n + 1, h => by
    obtain ⟨l, hl, hp⟩ := choose_list n fun i hi => h i (by omega)
    obtain ⟨x, hx⟩ := h n (by omega)
    refine ⟨l ++ [x], by simp [hl], fun i y hy => ?_⟩
    by_cases hi : i < l.length
    · rw [List.getElem?_append_left hi] at hy; exact hp i y hy
    · rw [List.getElem?_append_right (by omega)] at hy
      have h0 : i - l.length = 0 := by
        rcases Nat.eq_zero_or_pos (i - l.length) with q | q
        · exact q
        · rw [List.getElem?_eq_none (by simp; omega)] at hy; cases hy
      rw [h0] at hy
      obtain rfl : x = y := by simpa using hy
      have : i = n := by omega
      rw [this]; exact hx
/-- The slice v holds these bytes in the world W. -/
def RdC (W : World) (v : Value) (bs : List UInt8) : Prop :=
  ∃ p cap, v = .slice p bs.length cap ∧ bs.length ≤ cap ∧ (bs = [] ∨ ∃ b o, p = some ⟨b, o, none⟩ ∧ ∀ i u, (bs.map byte)[i]? = some u → W.cell? ⟨b, o + i, none⟩ = some u)
theorem byte_of {n : Int} (h : (Lit.int .u8 n).wf = true) : ∃ x : UInt8, Value.int .u8 n = byte x := by
  have := bounds_u8 h
  refine ⟨UInt8.ofNat n.toNat, ?_⟩
  simp only [byte]
  congr 1
  rw [UInt8.toNat_ofNat']
  omega
theorem cells_one {W : World} {a : Addr} {cs : List Value} (h : W.cells? 0 a 1 = some cs) : ∃ v, cs = [v] ∧ W.cell? a = some v := by
  obtain ⟨_, hlen, _⟩ := World.cells?_some h
  match cs, hlen with
  | [v], _ => exact ⟨v, rfl, cell_of_cells?_one h⟩
theorem rd_bytes {W : World} {v : Value} (h : (Lay.slice (.int .u8)).rd W [v]) : ∃ bs, RdC W v bs := by
  rcases h with h | ⟨a, len, cap, h, h1, _, h3⟩
  · obtain rfl : v = .slice none 0 0 := by simpa using h
    exact ⟨[], none, 0, rfl, Nat.le_refl _, .inl rfl⟩
  · obtain rfl : v = .slice (some a) len cap := by simpa using h
    obtain ⟨bs, hl, hb⟩ := choose_list (p := fun i (x : UInt8) => W.cell? (a.add i) = some (byte x)) len fun i hi => by
      obtain ⟨cs', g1, n, rfl, g2⟩ := h3 i hi
      obtain ⟨x, hx⟩ := byte_of g2
      obtain ⟨u, hu, g3⟩ := cells_one g1
      refine ⟨x, ?_⟩
      have e : i * (Lay.int .u8).cells = i := by simp [Lay.cells]
      rw [e] at g3
      rw [g3, ← hx]
      simpa using hu.symm
    subst hl
    refine ⟨bs, some a, cap, rfl, h1, ?_⟩
    cases bs with
    | nil => exact .inl rfl
    | cons x r =>
      right
      have h0 := hb 0 x rfl
      have hs := World.cell?_spot h0
      obtain ⟨b, o, s⟩ := a
      have hs' : s = none := hs
      subst hs'
      refine ⟨b, o, rfl, fun i u hu => ?_⟩
      rw [List.getElem?_map] at hu
      obtain ⟨y, hy, rfl⟩ := Option.map_eq_some_iff.1 hu
      have := hb i y hy
      have e : Addr.add ⟨b, o, none⟩ i = ⟨b, o + i, none⟩ := by simp [Addr.add]
      rwa [e] at this

/-! ### The memory that was there -/
/-- All that the world W has. -/
def memHP (W : World) : HP := fun h => ∀ b o, W.heap[b]? = some o → h b = some o
theorem mem_heap {σ : Sig} {W w : World} {l : List HP} (s : Sat σ w (memHP W :: l)) {b : Nat} {o : Obj} (h : W.heap[b]? = some o) : w.heap[b]? = some o := by
  obtain ⟨_, h1, h2, a, _, _, d, _⟩ := s
  exact a b o (d b o h)
theorem mem_cell {σ : Sig} {W w : World} {l : List HP} (s : Sat σ w (memHP W :: l)) {a : Addr} {v : Value} (h : W.cell? a = some v) : w.cell? a = some v := by
  unfold World.cell? at h ⊢
  split at h
  · rename_i c t f hb
    rw [mem_heap s hb]; exact h
  · cases h
theorem mem_start (W : World) : Sat (sigOf W) W [memHP W] :=
  ⟨rfl, heapOf W, fun _ => none, sub_refl _, fun _ _ e => (by cases e), fun _ => .inr rfl, fun _ _ h => h, trivial⟩
theorem mem_below {W w : World} {l : List HP} (s : Sat (sigOf W) w (memHP W :: l)) : Below W.heap.size W w := by
  have hs := s.1
  have e1 : w.os = W.os := congrArg Sig.os hs
  have e2 : w.tape = W.tape := congrArg Sig.tape hs
  have e3 : w.output = W.output := congrArg Sig.output hs
  have hb : ∀ k, k < W.heap.size → w.heap[k]? = W.heap[k]? := fun k hk => by
    have h1 := Array.getElem?_eq_getElem hk
    rw [h1]; exact mem_heap s h1
  refine ⟨e1, e2, e3, ?_, hb⟩
  rcases Nat.eq_zero_or_pos W.heap.size with q | q
  · omega
  · have h1 := mem_heap s (Array.getElem?_eq_getElem (show W.heap.size - 1 < W.heap.size by omega))
    obtain ⟨h2, _⟩ := Array.getElem?_eq_some_iff.1 h1
    exact Nat.le_of_pred_lt h2
theorem RdS.ofC {σ : Sig} {W : World} {v : Value} {bs : List UInt8} (h : RdC W v bs) : RdS σ [memHP W] v (bs.map byte) := by
  obtain ⟨p, cap, rfl, h1, h2⟩ := h
  have hl : (bs.map byte).length = bs.length := by simp
  refine ⟨p, cap, by rw [hl], by rw [hl]; exact h1, ?_⟩
  rcases h2 with rfl | ⟨b, o, rfl, h2⟩
  · exact .inl rfl
  · exact .inr ⟨b, o, rfl, fun w s i u hu => mem_cell s (h2 i u hu)⟩

theorem mem_arr {W : World} {b T : Nat} {cs : Array Value} {vs : List Value} (h : W.heap[b]? = some (.cells cs T (0, 0))) (hv : cs.toList = vs) : Weak [memHP W] [arr b T vs] := fun g ⟨h1, _, a, _, _, d, _⟩ =>
  ⟨g, fun _ => none, sub_refl _, fun _ _ e => (by cases e), fun _ => .inr rfl, ⟨0, 0, by rw [← hv]; exact a b _ (d b _ h), .inl rfl⟩, trivial⟩
/-! ### A table of whole numbers -/
section
variable {H : Type} {enc : TypeId × Value → H} {P : Program} {W : World} {sp : Nat → Bool} {hd : Bool}
theorem trod_ints {t e : TypeId} {k : IntKind} {n : Nat} {m : Nat} {cs : List Value} {ns : List Int} {ps : List MemPlace} (ht : P.underlying t = some (.array n e)) (he : P.underlying e = some (.int k)) (hc : P.cellsOf e = 1) (hct : P.cellsOf t = n)
    (h : DataW.trod enc P W 0 sp hd m t cs = some (.agg (ns.map fun z => .lit (.int k z)), ps)) : cs = ns.map (Value.int k) := by
  obtain ⟨xs, m', _, hx, hl, hxl, hf⟩ := DataW.trod_array ht h
  have hns : ns.map (fun z => (DataW.lit (.int k z) : DataW H)) = xs.map (·.1) := by simpa using congrArg Prod.fst hx
  have hnl : ns.length = n := by
    have := congrArg List.length hns
    simp at this; omega
  apply List.ext_getElem
  · simp; omega
  · intro i h1 h2
    have hi : i < n := by omega
    have hfi := hf i hi
    rw [hc, Nat.mul_one, List.getElem?_eq_getElem (by omega)] at hfi
    obtain ⟨z, hz, hz2, _⟩ := DataW.trod_int he hfi
    have hd0 : (cs.drop i).take 1 = [cs[i]] := by rw [List.drop_eq_getElem_cons h1]; rfl
    rw [hd0] at hz
    have hz3 : cs[i] = .int k z := by simpa using hz
    have hz4 : (ns.map (fun z => (DataW.lit (.int k z) : DataW H)))[i]'(by simp; omega) = (xs.map (·.1))[i]'(by simp; omega) := by simp only [hns]
    simp only [List.getElem_map] at hz4
    rw [hz2] at hz4
    simp only [DataW.lit.injEq, Lit.int.injEq, true_and] at hz4
    rw [hz3, List.getElem_map, hz4]
theorem trod_ints2 {t e d : TypeId} {k : IntKind} {n q : Nat} {m : Nat} {cs : List Value} {nss : List (List Int)} {ps : List MemPlace} (ht : P.underlying t = some (.array n e)) (he : P.underlying e = some (.array q d)) (hd' : P.underlying d = some (.int k)) (hc : P.cellsOf d = 1) (hce : P.cellsOf e = q) (hct : P.cellsOf t = n * q)
    (h : DataW.trod enc P W 0 sp hd m t cs = some (.agg (nss.map fun ns => .agg (ns.map fun z => .lit (.int k z))), ps)) : cs = nss.flatten.map (Value.int k) := by
  obtain ⟨xs, m', _, hx, hl, hxl, hf⟩ := DataW.trod_array ht h
  have hns : nss.map (fun ns => (DataW.agg (ns.map fun z => .lit (.int k z)) : DataW H)) = xs.map (·.1) := by simpa using congrArg Prod.fst hx
  have hnl : nss.length = n := by
    have := congrArg List.length hns
    simp at this; omega
  have row : ∀ i (hi : i < n), (cs.drop (i * q)).take q = (nss[i]'(by omega)).map (Value.int k) := fun i hi => by
    have hfi := hf i hi
    rw [hce, List.getElem?_eq_getElem (by omega)] at hfi
    have hz4 : (nss.map (fun ns => (DataW.agg (ns.map fun z => .lit (.int k z)) : DataW H)))[i]'(by simp; omega) = (xs.map (·.1))[i]'(by simp; omega) := by simp only [hns]
    simp only [List.getElem_map] at hz4
    have : xs[i] = (.agg ((nss[i]'(by omega)).map fun z => .lit (.int k z)), xs[i].2) := Prod.ext hz4.symm rfl
    rw [this] at hfi
    exact trod_ints he hd' hc hce hfi
  have key : ∀ j, j ≤ n → cs.take (j * q) = (nss.take j).flatten.map (Value.int k) := by
    intro j
    induction j with
    | zero => intro _; simp
    | succ j ih =>
      intro hj
      rw [Nat.succ_mul, List.take_add, ih (by omega), row j (by omega), List.take_succ_eq_append_getElem (by omega), List.flatten_append, List.map_append]
      simp only [List.flatten_cons, List.flatten_nil, List.append_nil]
  have := key n (Nat.le_refl _)
  rwa [List.take_of_length_le (by omega), List.take_of_length_le (by omega)] at this
end
end Go.Sep
