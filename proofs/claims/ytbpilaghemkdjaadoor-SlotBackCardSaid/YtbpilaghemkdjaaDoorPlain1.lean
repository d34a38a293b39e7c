/- What lies on a disk, sector by sector: no program in sight. -/
import Derived.Test.YtbpilaghemkdjaaDoorSlot5
import Derived.Test.YtbpilaghemkdjaaDoorDisk6
namespace Go.Sep
open Go Go.Proofs

theorem lookI_updI {α : Type} : ∀ (R : List (Int × α)) (k j : Int) (v : α), lookI (updI R k v) j = if j = k then some v else lookI R j
  | [], k, j, v => by
    simp only [updI, lookI_cons]
  | (k', v') :: R, k, j, v => by
    simp only [updI]
    by_cases h : k = k'
    · subst h
      rw [if_pos rfl, lookI_cons, lookI_cons]
      by_cases hj : j = k
      · subst hj; simp
      · simp [hj]
    · rw [if_neg h, lookI_cons, lookI_cons, lookI_updI R k j v]
      by_cases hj : j = k'
      · subst hj
        have : ¬ j = k := fun e => h e.symm
        simp [this]
      · simp [hj]
theorem lookI_none_of {α : Type} {R : List (Int × α)} {k : Int} (h : k ∉ R.map (·.1)) : lookI R k = none := by
  cases q : lookI R k with
  | none => rfl
  | some v => exact absurd (List.mem_map.2 ⟨_, lookI_mem q, rfl⟩) h
theorem lookI_some_of {α : Type} : ∀ {R : List (Int × α)} {k : Int}, k ∈ R.map (·.1) → ∃ v, lookI R k = some v
  | (k', v') :: R, k, h => by
    rw [lookI_cons]
    by_cases e : k = k'
    · exact ⟨v', by rw [if_pos e]⟩
    · rw [if_neg e]
      rw [List.map_cons, List.mem_cons] at h
      rcases h with h | h
      · exact absurd h e
      · exact lookI_some_of h
  | [], k, h => by simp at h
theorem lookI_delI {α : Type} : ∀ (R : List (Int × α)) (k j : Int), (R.map (·.1)).Nodup → lookI (delI R k) j = if j = k then none else lookI R j
  | [], k, j, _ => by
    simp only [delI]
    split <;> rfl
  | (k', v') :: R, k, j, hn => by
    rw [List.map_cons, List.nodup_cons] at hn
    simp only [delI]
    by_cases h : k = k'
    · subst h
      rw [if_pos rfl, lookI_cons]
      by_cases hj : j = k
      · subst hj; rw [if_pos rfl]; exact lookI_none_of hn.1
      · simp [hj]
    · rw [if_neg h, lookI_cons, lookI_cons, lookI_delI R k j hn.2]
      by_cases hj : j = k'
      · subst hj
        have : ¬ j = k := fun e => h e.symm
        simp [this]
      · simp [hj]
theorem delI_keys {α : Type} : ∀ (R : List (Int × α)) (k : Int), (R.map (·.1)).Nodup → (delI R k).map (·.1) = (R.map (·.1)).filter (fun j => !decide (j = k))
  | [], k, _ => rfl
  | (k', v') :: R, k, hn => by
    rw [List.map_cons, List.nodup_cons] at hn
    simp only [delI]
    by_cases h : k = k'
    · subst h
      rw [if_pos rfl, List.map_cons, List.filter_cons_of_neg (by simp), List.filter_eq_self.2]
      intro a ha
      have : a ≠ k := fun e => hn.1 (e ▸ ha)
      simpa using this
    · rw [if_neg h, List.map_cons, List.map_cons, List.filter_cons_of_pos (by simpa using fun e : k' = k => h e.symm), delI_keys R k hn.2]

/-! ### Sectors -/
theorem sec_set {data : List UInt8} {size i j : Nat} {bs : List UInt8} (hb : bs.length = size) (hi : (i + 1) * size ≤ data.length) (hj : (j + 1) * size ≤ data.length) :
    ((setSec data size i bs).drop (j * size)).take size = if j = i then bs else (data.drop (j * size)).take size := by
  rw [Nat.succ_mul] at hi hj
  unfold setSec
  have hl : (data.take (i * size)).length = i * size := by rw [List.length_take]; omega
  by_cases h : j = i
  · subst h
    rw [if_pos rfl, List.append_assoc, List.drop_append_of_le_length (by omega), List.drop_eq_nil_of_le (by omega), List.nil_append, List.take_append_of_le_length (by omega), List.take_of_length_le (by omega)]
  · rw [if_neg h]
    by_cases hlt : j < i
    · have h2 : (j + 1) * size ≤ i * size := Nat.mul_le_mul_right _ hlt
      rw [Nat.succ_mul] at h2
      rw [List.append_assoc, List.drop_append_of_le_length (by omega), List.take_append_of_le_length (by rw [List.length_drop]; omega), List.drop_take, List.take_take]
      congr 1
      omega
    · have h2 : (i + 1) * size ≤ j * size := Nat.mul_le_mul_right _ (by omega)
      rw [Nat.succ_mul] at h2
      rw [List.drop_append, List.drop_eq_nil_of_le (by rw [List.length_append, hl, hb]; omega), List.nil_append, List.drop_drop, List.length_append, hl, hb]
      congr 2
      omega
variable {D : DiskN}
theorem cur_put (i : Nat) (bs : List UInt8) (j : Nat) : (D.put (i : Int) bs).cur j = if j = i then bs else D.cur j := by
  unfold DiskN.cur DiskN.put
  rw [lookI_updI]
  by_cases h : j = i
  · subst h; simp
  · have : ¬ ((j : Int) = (i : Int)) := by omega
    rw [if_neg this, if_neg h]; rfl
theorem cur_ticks (k j : Nat) : (D.ticks k).cur j = D.cur j := rfl
theorem cur_tick (j : Nat) : D.tick.cur j = D.cur j := rfl
theorem room_of (h : D.WF) {j : Nat} (hj : j < D.count) : (j + 1) * D.size ≤ D.data.length := h.room hj
theorem cur_settle (h : D.WF) (k : Int) {j : Nat} (hj : j < D.count) : (D.settle k).cur j = D.cur j := by
  unfold DiskN.settle
  cases q : lookI D.cached k with
  | none => rfl
  | some bs =>
    obtain ⟨h1, h2, h3⟩ := h.cach _ (lookI_mem q)
    dsimp only at h1 h2 h3 ⊢
    obtain ⟨i, rfl⟩ := Int.eq_ofNat_of_zero_le h1
    have hi : i < D.count := by omega
    unfold DiskN.cur DiskN.sector
    dsimp only
    rw [lookI_delI _ _ _ h.nodup, Int.toNat_natCast, sec_set h3 (h.room hi) (h.room hj)]
    by_cases e : j = i
    · subst e; rw [if_pos rfl, if_pos rfl, q]; rfl
    · have : ¬ ((j : Int) = (i : Int)) := by omega
      rw [if_neg this, if_neg e]
theorem look_settle (h : D.WF) (k j : Int) : lookI (D.settle k).cached j = if j = k then none else lookI D.cached j := by
  unfold DiskN.settle
  cases q : lookI D.cached k with
  | none =>
    by_cases e : j = k
    · subst e; rw [if_pos rfl]; exact q
    · rw [if_neg e]
  | some bs => exact lookI_delI _ _ _ h.nodup
theorem settled_cur (h : D.WF) (n : Nat) {j : Nat} (hj : j < D.count) : (settled D n).cur j = D.cur j := by
  induction n with
  | zero => rfl
  | succ n ih =>
    cases q : D.keys[n]? with
    | none =>
      rw [List.getElem?_eq_none_iff] at q
      have e : settled D (n + 1) = settled D n := by
        unfold settled
        rw [List.take_of_length_le (by omega), List.take_of_length_le (by omega)]
      rw [e, ih]
    | some k =>
      obtain ⟨a1, a2, a3⟩ := settled_wf h n
      rw [settled_succ q, cur_settle a1 k (by rw [a3]; exact hj), ih]
theorem settled_look (h : D.WF) (n : Nat) (j : Int) : lookI (settled D n).cached j = if j ∈ D.keys.take n then none else lookI D.cached j := by
  induction n with
  | zero => simp [settled]
  | succ n ih =>
    cases q : D.keys[n]? with
    | none =>
      rw [List.getElem?_eq_none_iff] at q
      have e : settled D (n + 1) = settled D n := by
        unfold settled
        rw [List.take_of_length_le (by omega), List.take_of_length_le (by omega)]
      rw [e, ih, List.take_of_length_le (by omega), List.take_of_length_le (by omega)]
    | some k =>
      obtain ⟨a1, a2, a3⟩ := settled_wf h n
      rw [settled_succ q, look_settle a1, ih, List.take_add_one, q]
      by_cases e : j = k
      · subst e; simp
      · simp [e]
theorem mem_keys {j : Int} : j ∈ D.keys ↔ j ∈ D.cached.map (·.1) := (List.mergeSort_perm _ _).mem_iff
/-- The disk as it is when all that is cached has come to last. -/
def DiskN.sync (D : DiskN) : DiskN := settled D D.keys.length
theorem look_none {α : Type} {R : List (Int × α)} (h : ∀ j, lookI R j = none) : R = [] := by
  cases R with
  | nil => rfl
  | cons p R => have := h p.1; rw [lookI_cons, if_pos rfl] at this; cases this
theorem sync_cached (h : D.WF) : D.sync.cached = [] := by
  refine look_none fun j => ?_
  unfold DiskN.sync
  rw [settled_look h, List.take_of_length_le (Nat.le_refl _)]
  split
  · rfl
  · rename_i hj
    rw [mem_keys] at hj
    exact lookI_none_of hj
theorem sync_cur (h : D.WF) {j : Nat} (hj : j < D.count) : D.sync.cur j = D.cur j := settled_cur h _ hj
theorem sync_wf (h : D.WF) : D.sync.WF ∧ D.sync.size = D.size ∧ D.sync.count = D.count := settled_wf h _
theorem settled_rest (h : D.WF) (n : Nat) : (settled D n).ops = D.ops ∧ (settled D n).writes = D.writes ∧ (settled D n).planned = D.planned := by
  have key : ∀ (l : List Int) (D : DiskN), D.WF → (l.foldl DiskN.settle D).ops = D.ops ∧ (l.foldl DiskN.settle D).writes = D.writes ∧ (l.foldl DiskN.settle D).planned = D.planned := by
    intro l
    induction l with
    | nil => intro D h; exact ⟨rfl, rfl, rfl⟩
    | cons k l ih =>
      intro D h
      obtain ⟨a1, a2, a3, a4, a5, a6⟩ := h.settle k
      obtain ⟨b1, b2, b3⟩ := ih _ a1
      exact ⟨b1.trans a4, b2.trans a5, b3.trans a6⟩
  exact key _ D h
theorem sync_sector (h : D.WF) {j : Nat} (hj : j < D.count) : D.sync.sector j = D.cur j := by
  have := sync_cur h hj
  unfold DiskN.cur at this
  rw [sync_cached h] at this
  exact this
end Go.Sep
