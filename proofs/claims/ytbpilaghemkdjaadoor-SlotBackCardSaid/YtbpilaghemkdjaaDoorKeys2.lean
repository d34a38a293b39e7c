/- A map's keys, sorted, as the heap logic has it. -/
import Derived.Test.YtbpilaghemkdjaaDoorKeys
namespace Go.Sep
open Go Go.Proofs Go.RowKit Go.Maps Go.Sort Go.Shelf Go.WideElems
variable {σ : Sig} {F : List HP}

theorem Sat.ofBelow {w w' : World} {l : List HP} (s : Sat σ w l) (hb : Below w.heap.size w w') : Sat σ w' l := by
  refine ⟨?_, Holds.mono (fun b o h => ?_) s.2⟩
  · rw [← s.1]; simp only [sigOf, hb.os, hb.tape, hb.output]
  · have hlt : b < w.heap.size := (Array.getElem?_eq_some_iff.1 h).1
    show w'.heap[b]? = some o
    rw [hb.block b hlt]; exact h
theorem Sat.ofBelowNew {w w' : World} {l : List HP} (s : Sat σ w l) (hb : Below w.heap.size w w') {g : Nat} {o : Obj} (hg : w.heap.size ≤ g) (ho : w'.heap[g]? = some o) : Sat σ w' (pt g o :: l) := by
  refine ⟨(s.ofBelow hb).1, fun x => if x = g then some o else none, heapOf w, fun x y q => ?_, fun x y q => ?_, fun x => ?_, ?_, s.2⟩
  · by_cases hx : x = g
    · subst hx; simp at q; subst q; exact ho
    · simp [hx] at q
  · have hlt : x < w.heap.size := (Array.getElem?_eq_some_iff.1 q).1
    show w'.heap[x]? = some y
    rw [hb.block x hlt]; exact q
  · by_cases hx : x = g
    · subst hx; right
      show w.heap[x]? = none
      exact Array.getElem?_eq_none hg
    · left; simp [hx]
  · simp [pt]
theorem Sat.ofOwnsRow {w w' : World} {l : List HP} {E n : Nat} {v : Value} {xs : List Value} (s : Sat σ w l) (hb : Below w.heap.size w w') (hr : w'.ownsRow w.heap.size E 1 v n xs) : Sat σ w' (Sep.ownS v E 1 n xs :: l) := by
  obtain ⟨hx, h⟩ := hr
  rcases h with ⟨rfl, rfl⟩ | ⟨g, cap, cur, rfl, hg, ho, hn, _, hc, ht⟩
  · obtain rfl : xs = [] := List.eq_nil_of_length_eq_zero (by simpa using hx)
    exact Sat.ownS_nil (s.ofBelow hb)
  · have s1 := s.ofBelowNew hb hg ho
    have e : cur.toList = xs ++ cur.toList.drop n := by
      rw [Nat.mul_one] at ht
      rw [← ht, List.take_append_drop]
    refine Sat.ownS_arr (xs := xs) (spare := cur.toList.drop n) (z := 1) hn hx (by rw [← e]; simp [hc]) ?_
    rw [← e]
    exact Sat.arr.2 ⟨0, 0, .inl rfl, s1⟩

def RB : Value → Option (DataW Nat × List MemPlace) := fun _ => some (.lit (.bool true), [])
def toI : Value → Int
  | .int _ n => n
  | _ => 0
theorem Sat.ownsMap {P : Program} {kt : TypeId} (hk : P.underlying kt = some (.int .i64)) {w : World} {b : Nat} {es : List (Int × Value)} {l : List HP} (s : Sat σ w (Sep.mapI b es :: l)) (hl : es.length ≤ 1000000) :
    ∃ D0 : DataW Nat, w.ownsMap P kt RB b es.length D0 ∧ (intKeys D0).Perm (es.map (·.1)) := by
  obtain ⟨a, ck, hm, s1⟩ := s.mapI
  have hb : w.heap[b]? = some (.map a ck) := s1.get
  have hlen : a.size = es.length := by
    have := congrArg List.length hm.ents
    simpa using this
  have hkey : ∀ x ∈ a.toList, keyOf P kt x.key = some (.int .i64 (toI x.key)) ∧ x.key = .int .i64 (toI x.key) := by
    intro x hx
    have h1 : (x.key, x.val) ∈ a.toList.map (fun e => (e.key, e.val)) := List.mem_map.2 ⟨x, hx, rfl⟩
    rw [hm.ents] at h1
    obtain ⟨p, hp1, hp2⟩ := List.mem_map.1 h1
    injection hp2 with hp2 _
    rw [← hp2]
    have hr := hm.rng p hp1
    exact ⟨keyOf_int_mk hk (by simp [Lit.wf, IntKind.min, IntKind.max, IntKind.bits, IntKind.signed]; omega), rfl⟩
  have hrd : ∀ x ∈ a.toList, Go.WideElems.rd P kt RB x = some (.int .i64 (toI x.key), .lit (.bool true)) := by
    intro x hx
    simp [Go.WideElems.rd, (hkey x hx).1, RB]
  refine ⟨.map ((a.toList.map (Go.WideElems.rg P kt RB)).foldr DataW.insert []), ⟨a, ck, hb, ⟨?_, hm.stamped, fun x hx => ⟨_, hrd x hx⟩⟩, by omega, rfl⟩, ?_⟩
  · rw [hlen]; unfold maxLen; omega
  · refine (List.Perm.map _ (Go.WideShapes.sorted_perm _)).trans ?_
    rw [List.map_map]
    have e1 : a.toList.map ((fun p : Lit × DataW Nat => intOf p.1) ∘ Go.WideElems.rg P kt RB) = a.toList.map fun x => toI x.key := by
      apply List.map_congr_left
      intro x hx
      simp only [Function.comp, Go.WideElems.rg_of (hrd x hx)]
      rfl
    have e2 : (a.toList.map fun x => toI x.key) = (a.toList.map (fun e => (e.key, e.val))).map fun q => toI q.1 := by rw [List.map_map]; rfl
    have e3 : (es.map (fun p => (Value.int .i64 p.1, p.2))).map (fun q => toI q.1) = es.map (·.1) := by rw [List.map_map]; rfl
    have : a.toList.map ((fun p : Lit × DataW Nat => intOf p.1) ∘ Go.WideElems.rg P kt RB) = es.map (·.1) := by rw [e1, e2, hm.ents, e3]
    rw [← this]

set_option maxHeartbeats 1000000 in
theorem slices_Sorted (a cm : Nat) (es : List (Int × Value)) (hl : es.length ≤ 1000000) {l r r2 : List HP} (hp : Pick (mapI cm es) l r) (hq : Pick (arr a 76 [.map (some cm)]) l r2) :
    Fn Tryd.prog σ 58 #[.func (.func 67) #[] #[.pointer (some ⟨a, 0, none⟩)]] l
      (fun v l' => ∃ ss : List Int, ss.Perm (es.map (·.1)) ∧ l' = ownS v 3 1 ss.length ((ss.mergeSort (fun x y => decide (x ≤ y))).map (Value.int .i64)) :: l) := by
  intro w s
  obtain ⟨D0, hown, hperm⟩ := (s.perm hp).ownsMap (P := Tryd.prog) (kt := 3) Tryd.underlying3 hl
  have hsz := hown.size_le
  have hcell : w.cell? ⟨a, 0, none⟩ = some (.map (some cm)) := by rw [(s.perm hq).cell]; rfl
  have hlt : a < w.heap.size := by
    rcases Nat.lt_or_ge a w.heap.size with h | h
    · exact h
    · rw [World.cell?, Array.getElem?_eq_none h] at hcell; cases hcell
  refine (callsIn_wide (n := 6)).1 ?_
  have hseq : SeqGives Fence.wide 3 Tryd.prog 67 #[.pointer (some ⟨a, 0, none⟩)] encZ (fun ss => ss.Perm (intKeys D0)) (Maps.size D0) w :=
    AnyZI.keys_gives (ρ := Tryd.keysA_ren) { Tryd.keysA with } Fence.wide _ trivial rfl (by omega) a cm _ D0 _ hlt hcell hown
  have cS := AnyZI.sorted_in Tryd.sortedA Fence.wide 6 trivial trivial trivial trivial rfl (by omega) (Tryd.sortsA _) (enters_of Tryd.func66 (by kernel_rfl) rfl) 67 #[.pointer (some ⟨a, 0, none⟩)] trivial (enters_of Tryd.func67 (by kernel_rfl) rfl) _ _ (by unfold maxLen; omega) (by omega) w hseq
  refine CallsIn.mono cS ?_
  rintro e w' ⟨v, ss, rfl, hS, hrow, _, hbel⟩
  exact ⟨v, _, rfl, ⟨ss, hS.trans hperm, rfl⟩, s.ofOwnsRow hbel hrow⟩
end Go.Sep
