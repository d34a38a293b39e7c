/- What a crash leaves: no program in sight. -/
import Derived.Test.YtbpilaghemkdjaaDoorPlain3
namespace Go.Sep
open Go Go.Proofs

structure TearN where
  kind : Int
  bytes : List UInt8
def TearN.zero : TearN := ⟨0, []⟩
/-- A sector of so many bytes, out of any. -/
def fit (bs : List UInt8) (m : Nat) : List UInt8 := padB (bs.take m) m
theorem fit_length (bs : List UInt8) (m : Nat) : (fit bs m).length = m := padB_length (by rw [List.length_take]; omega)
def DiskN.tear (D : DiskN) (i : Int) (t : TearN) : DiskN :=
  { D with
    data := if t.kind = 1 then setSec D.data D.size i.toNat (D.cur i.toNat) else if t.kind = 2 then setSec D.data D.size i.toNat (fit t.bytes D.size) else D.data
    cached := delI D.cached i }
def tornGo : Nat → List Int → List TearN → DiskN → DiskN
  | _, [], _, D => D
  | j, i :: r, ts, D => tornGo (j + 1) r ts (D.tear i (ts.getD j .zero))
/-- The first j of the sectors that are cached are torn. -/
def torn (D : DiskN) (ts : List TearN) (j : Nat) : DiskN := ((D.keys.take j).zipIdx).foldl (fun E p => E.tear p.1 (ts.getD p.2 .zero)) D
theorem torn_succ {D : DiskN} {ts : List TearN} {j : Nat} {i : Int} (h : D.keys[j]? = some i) : torn D ts (j + 1) = (torn D ts j).tear i (ts.getD j .zero) := by
  have hj : j < D.keys.length := by
    rcases Nat.lt_or_ge j D.keys.length with q | q
    · exact q
    · rw [List.getElem?_eq_none q] at h; cases h
  unfold torn
  rw [List.take_add_one, h, List.zipIdx_append, List.foldl_append]
  have : (D.keys.take j).length = j := by rw [List.length_take]; omega
  simp [this]
section
variable {D : DiskN}
theorem tear_wf (h : D.WF) {i : Nat} (hi : i < D.count) (t : TearN) : (D.tear (i : Int) t).WF ∧ (D.tear (i : Int) t).size = D.size ∧ (D.tear (i : Int) t).count = D.count := by
  have hr := h.room hi
  rw [Nat.succ_mul] at hr
  have hl : (D.tear (i : Int) t).data.length = D.data.length := by
    unfold DiskN.tear
    dsimp only
    rw [Int.toNat_natCast]
    split
    · exact setSec_length (by rw [h.cur hi]; omega)
    · split
      · exact setSec_length (by rw [fit_length]; omega)
      · rfl
  have hc : (D.tear (i : Int) t).count = D.count := by
    unfold DiskN.count
    rw [hl]; rfl
  refine ⟨⟨h.hz, h.hz2, by rw [hc, hl]; exact h.len, by rw [hc]; exact h.cnt, fun p hp => ?_, List.Nodup.sublist ((delI_sub _ _).map _) h.nodup, Nat.le_trans (delI_len _ _) h.few⟩, rfl, hc⟩
  have := h.cach p ((delI_sub _ _).mem hp)
  rw [hc]; exact this
theorem tear_rest (i : Int) (t : TearN) : (D.tear i t).ops = D.ops ∧ (D.tear i t).writes = D.writes ∧ (D.tear i t).planned = D.planned := ⟨rfl, rfl, rfl⟩
theorem tear_look (h : D.WF) (i j : Int) (t : TearN) : lookI (D.tear i t).cached j = if j = i then none else lookI D.cached j := lookI_delI _ _ _ h.nodup
/-- What lasts of a sector. -/
def leftOf (t : TearN) (size : Nat) (old next : List UInt8) : List UInt8 := if t.kind = 1 then next else if t.kind = 2 then fit t.bytes size else old
theorem tear_sector (h : D.WF) {i j : Nat} (hi : i < D.count) (hj : j < D.count) (t : TearN) : (D.tear (i : Int) t).sector j = if j = i then leftOf t D.size (D.sector i) (D.cur i) else D.sector j := by
  unfold DiskN.tear DiskN.sector leftOf
  dsimp only
  rw [Int.toNat_natCast]
  by_cases c1 : t.kind = 1
  · rw [if_pos c1, if_pos c1, sec_set (h.cur hi) (h.room hi) (h.room hj)]
  · rw [if_neg c1, if_neg c1]
    by_cases c2 : t.kind = 2
    · rw [if_pos c2, if_pos c2, sec_set (fit_length _ _) (h.room hi) (h.room hj)]
    · rw [if_neg c2, if_neg c2]
      by_cases e : j = i
      · subst e; rw [if_pos rfl]
      · rw [if_neg e]
theorem torn_facts (h : D.WF) (ts : List TearN) : ∀ n, n ≤ D.keys.length → (torn D ts n).WF ∧ (torn D ts n).size = D.size ∧ (torn D ts n).count = D.count ∧ (torn D ts n).ops = D.ops ∧ (torn D ts n).writes = D.writes ∧ (torn D ts n).planned = D.planned ∧
    ∀ j : Int, lookI (torn D ts n).cached j = if j ∈ D.keys.take n then none else lookI D.cached j
  | 0, _ => ⟨h, rfl, rfl, rfl, rfl, rfl, fun j => by simp [torn]⟩
  | n + 1, hn => by
    obtain ⟨a1, a2, a3, a4, a5, a6, a7⟩ := torn_facts h ts n (by omega)
    obtain ⟨i, hi⟩ : ∃ i, D.keys[n]? = some i := ⟨_, List.getElem?_eq_getElem (by omega)⟩
    obtain ⟨h0, h1⟩ := keys_range h hi
    obtain ⟨m, rfl⟩ := Int.eq_ofNat_of_zero_le h0
    have hm : m < (torn D ts n).count := by rw [a3]; omega
    obtain ⟨b1, b2, b3⟩ := tear_wf a1 hm (ts.getD n .zero)
    rw [torn_succ hi]
    refine ⟨b1, b2.trans a2, b3.trans a3, a4, a5, a6, fun j => ?_⟩
    rw [tear_look a1, a7, List.take_add_one, hi]
    by_cases e : j = (m : Int)
    · subst e; simp
    · simp [e]
def DiskN.crash (D : DiskN) (ts : List TearN) : DiskN := torn D ts D.keys.length
theorem crash_facts (h : D.WF) (ts : List TearN) : (D.crash ts).WF ∧ (D.crash ts).size = D.size ∧ (D.crash ts).count = D.count ∧ (D.crash ts).ops = D.ops ∧ (D.crash ts).writes = D.writes ∧ (D.crash ts).planned = D.planned ∧ (D.crash ts).cached = [] := by
  obtain ⟨a1, a2, a3, a4, a5, a6, a7⟩ := torn_facts h ts D.keys.length (Nat.le_refl _)
  refine ⟨a1, a2, a3, a4, a5, a6, look_none fun j => ?_⟩
  unfold DiskN.crash
  rw [a7, List.take_of_length_le (Nat.le_refl _)]
  split
  · rfl
  · rename_i hj
    rw [mem_keys] at hj
    exact lookI_none_of hj
/-- What isn't cached stays as it is. -/
theorem torn_sector (h : D.WF) (ts : List TearN) {j : Nat} (hj : j < D.count) : ∀ n, n ≤ D.keys.length → (j : Int) ∉ D.keys.take n → (torn D ts n).sector j = D.sector j
  | 0, _, _ => rfl
  | n + 1, hn, hk => by
    obtain ⟨a1, a2, a3, _⟩ := torn_facts h ts n (by omega)
    obtain ⟨i, hi⟩ : ∃ i, D.keys[n]? = some i := ⟨_, List.getElem?_eq_getElem (by omega)⟩
    obtain ⟨h0, h1⟩ := keys_range h hi
    obtain ⟨m, rfl⟩ := Int.eq_ofNat_of_zero_le h0
    rw [List.take_add_one, hi] at hk
    simp only [List.mem_append, Option.toList_some, List.mem_singleton, not_or] at hk
    rw [torn_succ hi, tear_sector a1 (by rw [a3]; omega) (by rw [a3]; exact hj), if_neg (by omega)]
    exact torn_sector h ts hj n (by omega) hk.1
theorem crash_sector (h : D.WF) (ts : List TearN) {j : Nat} (hj : j < D.count) (hk : lookI D.cached (j : Int) = none) : (D.crash ts).sector j = D.sector j := by
  refine torn_sector h ts hj _ (Nat.le_refl _) ?_
  rw [List.take_of_length_le (Nat.le_refl _), mem_keys]
  intro hm
  obtain ⟨v, hv⟩ := lookI_some_of hm
  rw [hk] at hv; cases hv
theorem crash_cur (h : D.WF) (ts : List TearN) {j : Nat} (hj : j < D.count) (hk : lookI D.cached (j : Int) = none) : (D.crash ts).cur j = D.cur j := by
  unfold DiskN.cur
  rw [(crash_facts h ts).2.2.2.2.2.2, hk]
  exact crash_sector h ts hj hk
end
end Go.Sep
