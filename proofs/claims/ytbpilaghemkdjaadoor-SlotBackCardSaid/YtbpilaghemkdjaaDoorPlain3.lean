/- A slot's calls on a disk on which nothing fails: no program in sight. -/
import Derived.Test.YtbpilaghemkdjaaDoorPlain2
namespace Go.Sep
open Go Go.Proofs

structure Okd (D : DiskN) (z k : Nat) : Prop where
  wf : D.WF
  size : D.size = z
  count : D.count = k
  plan : D.planned = []
theorem Okd.failing {D : DiskN} {z k : Nat} (h : Okd D z k) : D.failing = false := by simp [DiskN.failing, h.plan]
theorem Okd.tick {D : DiskN} {z k : Nat} (h : Okd D z k) : Okd D.tick z k := ⟨h.wf.tick, h.size, h.count, h.plan⟩
theorem Okd.ticks {D : DiskN} {z k : Nat} (h : Okd D z k) (n : Nat) : Okd (D.ticks n) z k := ⟨h.wf.ticks n, h.size, h.count, h.plan⟩
theorem Okd.put {D : DiskN} {z k : Nat} (h : Okd D z k) {i : Nat} {bs : List UInt8} (hi : i < k) (hb : bs.length = z) : Okd (D.put (i : Int) bs) z k :=
  ⟨h.wf.put (by omega) (by rw [h.count]; omega) (by rw [h.size]; exact hb), h.size, h.count, h.plan⟩
theorem Okd.sync {D : DiskN} {z k : Nat} (h : Okd D z k) : Okd D.sync z k := by
  obtain ⟨a, b, c⟩ := sync_wf h.wf
  exact ⟨a, b.trans h.size, c.trans h.count, (settled_rest h.wf _).2.2.trans h.plan⟩
theorem Okd.readE {D : DiskN} {z k : Nat} (h : Okd D z k) {i : Nat} (hi : i < k) : D.readE (i : Int) = 0 := by
  unfold DiskN.readE
  rw [if_neg (by rw [h.failing]; decide), if_neg (by rw [h.count]; omega)]
theorem Okd.writeE {D : DiskN} {z k : Nat} (h : Okd D z k) {i : Nat} (hi : i < k) : D.writeE (i : Int) z = 0 := by
  unfold DiskN.writeE
  rw [if_neg (by rw [h.failing]; decide), if_neg (by omega), if_neg (by rw [h.count]; omega), if_neg (by rw [h.size]; simp)]
theorem freshN_ok {k z : Nat} (hk : k ≤ 4096) (hz : 1 ≤ z) (hz2 : z ≤ 4096) : Okd (freshN k z) z k := by
  have hl : (freshN k z).data.length = k * z := List.length_replicate
  have hc : (freshN k z).count = k := by unfold DiskN.count; rw [hl]; exact Nat.mul_div_cancel _ hz
  refine ⟨⟨hz, hz2, by rw [hl, hc]; rfl, by rw [hc]; exact hk, by intro p hp; simp [freshN] at hp, by simp [freshN], by simp [freshN]⟩, rfl, hc, rfl⟩
theorem fresh_cur {k z i : Nat} (hi : i < k) : (freshN k z).cur i = List.replicate z 0 := by
  have h2 : (i + 1) * z ≤ k * z := Nat.mul_le_mul_right _ hi
  rw [Nat.succ_mul] at h2
  show ((List.replicate (k * z) (0 : UInt8)).drop (i * z)).take z = _
  rw [List.drop_replicate, List.take_replicate]
  congr 1
  omega

/-- A slot that there is: which of the two, the sector's size, the slot's first sector, how many follow. -/
structure Here (z k : Nat) (which : Int) (e f s : Int) (fst many : Nat) : Prop where
  hright : rightG e f s = true
  hwhich : which = 0 ∨ which = 1
  hsize : 32 ≤ z ∧ z ≤ 4096
  hspan : spanG z e f s = 1 + (many : Int)
  hsecs : secs (totG e f s) z = (many : Int)
  hfirst : (fst : Int) = which * spanG z e f s
  hroom : 2 * spanG z e f s ≤ (k : Int)
theorem Here.of {z k : Nat} {which e f s : Int} (h1 : rightG e f s = true) (h2 : which = 0 ∨ which = 1) (h3 : 32 ≤ z ∧ z ≤ 4096) (h4 : 2 * spanG z e f s ≤ (k : Int)) :
    Here z k which e f s (which * spanG z e f s).toNat (secs (totG e f s) z).toNat := by
  have ht := totG_bd e f s
  have hs := secs_bd (m := totG e f s) (s := (z : Int)) ht.1
  have hsp : spanG z e f s = 1 + secs (totG e f s) z := by unfold spanG; rw [if_pos ⟨h1, by omega, by omega⟩]
  refine ⟨h1, h2, h3, by rw [hsp]; omega, by omega, ?_, h4⟩
  have : 0 ≤ which * spanG z e f s := by
    rcases h2 with rfl | rfl <;> omega
  omega
section
variable {D : DiskN} {z k fst many : Nat} {which e f s : Int}
theorem Here.lt (h : Here z k which e f s fst many) {j : Nat} (hj : j ≤ many) : fst + j < k := by
  have h1 := h.hspan; have h2 := h.hfirst; have h3 := h.hroom
  rcases h.hwhich with w | w <;> rw [w] at h2 <;> omega
theorem Here.atE (h : Here z k which e f s fst many) (hz : D.size = z) (hk : D.count = k) : atE D which e f s = 0 := by
  have h3 := h.hroom; have h4 := h.hsize
  unfold Go.Sep.atE
  rw [if_neg (by rw [h.hright]; simp), if_neg, if_neg]
  · rw [hk, hz]; omega
  · rw [hz]
    rcases h.hwhich with w | w <;> omega
theorem Here.firstOf (h : Here z k which e f s fst many) (hz : D.size = z) : firstOf D which e f s = (fst : Int) := by
  unfold Go.Sep.firstOf; rw [hz, h.hfirst]
theorem Here.manyOf (h : Here z k which e f s fst many) (hz : D.size = z) : manyOf D e f s = many := by
  unfold Go.Sep.manyOf; rw [hz, h.hspan]; omega
theorem Here.room' (h : Here z k which e f s fst many) : totG e f s ≤ (many : Int) * z := by
  have ht := totG_bd e f s
  have h1 := h.hsize
  have := (secs_room (m := totG e f s) (z := (z : Int)) ht.1 (by omega) (by omega)).2
  rw [h.hsecs] at this
  exact this

/-! ### Data -/
theorem dataGo_ok : ∀ (ps : List (List UInt8)) (D : DiskN) (i : Nat), Okd D z k → (∀ x ∈ ps, x.length = z) → fst + 1 + i + ps.length ≤ k →
    (dataGo (fst : Int) i D ps).1 = 0 ∧ Okd (dataGo (fst : Int) i D ps).2 z k ∧ (dataGo (fst : Int) i D ps).2.ops = D.ops + ps.length ∧ (dataGo (fst : Int) i D ps).2.writes = D.writes + ps.length ∧
      ∀ j, (dataGo (fst : Int) i D ps).2.cur j = if fst + 1 + i ≤ j ∧ j < fst + 1 + i + ps.length then ps.getD (j - (fst + 1 + i)) [] else D.cur j
  | [], D, i, h, _, _ => by
    refine ⟨rfl, h, rfl, rfl, fun j => ?_⟩
    rw [if_neg (by simp only [List.length_nil]; omega)]; rfl
  | x :: r, D, i, h, hx, hr => by
    have hxl := hx x List.mem_cons_self
    have hlt : fst + (1 + i) < k := by rw [List.length_cons] at hr; omega
    have e0 : (fst : Int) + (1 + (i : Int)) = ((fst + (1 + i) : Nat) : Int) := by omega
    have hw : D.writeE ((fst : Int) + (1 + (i : Int))) x.length = 0 := by rw [e0, hxl]; exact h.writeE hlt
    have e1 : dataGo (fst : Int) i D (x :: r) = dataGo (fst : Int) (i + 1) (D.put ((fst + (1 + i) : Nat) : Int) x) r := by
      rw [dataGo, if_neg (by rw [hw]; simp), e0]
    have hp := h.put (bs := x) hlt hxl
    obtain ⟨a1, a2, a3, a4, a5⟩ := dataGo_ok r (D.put ((fst + (1 + i) : Nat) : Int) x) (i + 1) hp (fun y hy => hx y (List.mem_cons_of_mem _ hy)) (by rw [List.length_cons] at hr; omega)
    rw [e1]
    refine ⟨a1, a2, by rw [a3, List.length_cons]; show D.ops + 1 + _ = _; omega, by rw [a4, List.length_cons]; show D.writes + 1 + _ = _; omega, fun j => ?_⟩
    rw [a5 j, List.length_cons]
    by_cases c1 : j = fst + (1 + i)
    · subst c1
      rw [if_neg (by omega), if_pos (by omega), cur_put, if_pos rfl]
      have : fst + (1 + i) - (fst + 1 + i) = 0 := by omega
      rw [this]; rfl
    · by_cases c2 : fst + 1 + (i + 1) ≤ j ∧ j < fst + 1 + (i + 1) + r.length
      · rw [if_pos c2, if_pos (by omega)]
        have : j - (fst + 1 + i) = (j - (fst + 1 + (i + 1))) + 1 := by omega
        rw [this, List.getD_cons_succ]
      · rw [if_neg c2, if_neg (by omega), cur_put, if_neg c1]
/-- The sectors of a slot's image. -/
def ImgIs (D : DiskN) (fst many : Nat) (bs : List UInt8) : Prop := ∀ j, j < many → D.cur (fst + 1 + j) = (pieces bs D.size many).getD j []
theorem data_ok (hh : Here z k which e f s fst many) (h : Okd D z k) {bs : List UInt8} (hb : (bs.length : Int) = totG e f s) :
    (dataR D which e f s bs).1 = 0 ∧ Okd (dataR D which e f s bs).2 z k ∧ (dataR D which e f s bs).2.ops = D.ops + many ∧ (dataR D which e f s bs).2.writes = D.writes + many ∧ ImgIs (dataR D which e f s bs).2 fst many bs ∧
      ∀ j, ¬ (fst + 1 ≤ j ∧ j < fst + 1 + many) → (dataR D which e f s bs).2.cur j = D.cur j := by
  have hn : (secs bs.length D.size).toNat = many := by rw [hb, h.size, hh.hsecs]; omega
  have e0 : dataR D which e f s bs = dataGo (fst : Int) 0 D (pieces bs z many) := by
    unfold dataR
    rw [if_neg (by rw [hh.atE h.size h.count]; simp), if_neg (by rw [hb]; simp), hh.firstOf h.size, hn, h.size]
  have hroom : bs.length ≤ many * z := by
    have := hh.room'
    rw [← hb, ← Int.natCast_mul] at this
    omega
  have hlt := hh.lt (Nat.le_refl many)
  obtain ⟨a1, a2, a3, a4, a5⟩ := dataGo_ok (fst := fst) (pieces bs z many) D 0 h (pieces_each hroom) (by rw [pieces_length]; omega)
  rw [pieces_length] at a3 a4 a5
  rw [e0]
  refine ⟨a1, a2, a3, a4, fun j hj => ?_, fun j hj => ?_⟩
  · rw [a5, if_pos (by omega), a2.size]
    congr 1; omega
  · rw [a5, if_neg (by omega)]

/-! ### Seal, Wipe -/
theorem seal_ok (hh : Here z k which e f s fst many) (h : Okd D z k) {bs : List UInt8} (hb : (bs.length : Int) = totG e f s) (q : Int) :
    sealR D which e f s q bs = (0, D.put (fst : Int) (padB (enc (sealHead bs e f s q)) z)) := by
  unfold sealR
  rw [if_neg (by rw [hh.atE h.size h.count]; simp), if_neg (by rw [hb]; simp), hh.firstOf h.size, h.size, if_neg]
  rw [h.writeE (by have := hh.lt (j := 0) (by omega); omega)]; simp
theorem wipe_ok (hh : Here z k which e f s fst many) (h : Okd D z k) : wipeR D which e f s = (0, D.put (fst : Int) (padB [] z)) := by
  unfold wipeR
  rw [if_neg (by rw [hh.atE h.size h.count]; simp), hh.firstOf h.size, h.size, if_neg]
  rw [h.writeE (by have := hh.lt (j := 0) (by omega); omega)]; simp

/-! ### Read -/
theorem body_of (hh : Here z k which e f s fst many) (hz : D.size = z) {bs : List UInt8} (hb : (bs.length : Int) = totG e f s) (hi : ImgIs D fst many bs) : D.body (fst : Int) many = padB bs (many * z) := by
  have hroom : bs.length ≤ many * z := by
    have := hh.room'
    rw [← hb, ← Int.natCast_mul] at this
    omega
  rw [← pieces_flat hroom]
  unfold DiskN.body DiskN.rows
  rw [List.map_map]
  congr 1
  apply List.ext_getElem
  · simp [pieces]
  · intro j h1 h2
    rw [List.length_map, List.length_range] at h1
    have e1 : ((fst : Int) + (1 + (j : Int))).toNat = fst + 1 + j := by omega
    simp only [List.getElem_map, List.getElem_range, Function.comp, e1]
    rw [hi j h1, hz, List.getD_eq_getElem?_getD, List.getElem?_eq_getElem h2]; rfl
theorem read_magic (hh : Here z k which e f s fst many) (h : Okd D z k) (hc : D.cur fst = padB [] z) : readR D which e f s = (0, D.tick, ⟨0, 6, 0, []⟩) := by
  have hl := hh.lt (j := 0) (by omega)
  have hd := dec_zero (m := z) (by have := hh.hsize; omega)
  unfold readR
  rw [if_neg (by rw [hh.atE h.size h.count]; simp), hh.firstOf h.size, if_neg (by rw [h.readE (by omega)]; simp), Int.toNat_natCast, hc, hd, if_pos (by decide)]
theorem read_good (hh : Here z k which e f s fst many) (h : Okd D z k) {bs : List UInt8} {q : Int} (hq : 0 ≤ q ∧ q < 18446744073709551616) (hb : (bs.length : Int) = totG e f s)
    (hc : D.cur fst = padB (enc (sealHead bs e f s q)) z) (hi : ImgIs D fst many bs) : readR D which e f s = (0, D.ticks (1 + many), ⟨2, 0, q, bs⟩) := by
  have hl := hh.lt (j := 0) (by omega)
  have hsz := hh.hsize
  have hcs := crcSum_bd bs
  have hright : (sealHead bs e f s q).right = true := by simp [HeadN.right, sealHead, hh.hright, hb]
  obtain ⟨d1, d2⟩ := dec_enc hright hq hcs (m := z) (by omega)
  have hbody := body_of hh h.size hb hi
  have hroom : bs.length ≤ many * z := by
    have := hh.room'
    rw [← hb, ← Int.natCast_mul] at this
    omega
  have hbad : badK D.tick (fst : Int) many = none := badK_none fun j hj => by
    have := hh.lt (j := 1 + j) (by omega)
    have e1 : (fst : Int) + (1 + (j : Int)) = ((fst + (1 + j) : Nat) : Int) := by omega
    unfold bodyE
    rw [e1]
    exact (h.tick.ticks j).readE this
  unfold readR
  rw [if_neg (by rw [hh.atE h.size h.count]; simp), hh.firstOf h.size, if_neg (by rw [h.readE (by omega)]; simp), Int.toNat_natCast, hc, d1, d2, if_neg (by simp), if_pos ⟨rfl, rfl, rfl⟩, hh.manyOf h.size]
  unfold bodyR
  rw [hbad]
  have hb2 : D.tick.body (fst : Int) many = padB bs (many * z) := hbody
  have hlen : (sealHead bs e f s q).len = (bs.length : Int) := rfl
  have hsum : (sealHead bs e f s q).sum = crcSum bs := rfl
  have hsq : (sealHead bs e f s q).seq = q := rfl
  dsimp only
  rw [hb2, hlen, hsum, hsq, padB_length hroom, if_pos ⟨by omega, by omega⟩, Int.toNat_natCast, padB_take, if_pos rfl]
  show (_, ({ D with ops := D.ops + 1 + many } : DiskN), _) = (_, ({ D with ops := D.ops + (1 + many) } : DiskN), _)
  rw [Nat.add_assoc]
theorem ImgIs.of_cur {bs : List UInt8} {D' : DiskN} (h : ImgIs D fst many bs) (hs : D'.size = D.size) (hc : ∀ j, j < many → D'.cur (fst + 1 + j) = D.cur (fst + 1 + j)) : ImgIs D' fst many bs := fun j hj => by rw [hc j hj, h j hj, hs]
end
end Go.Sep
