/- Heads, and images in pieces: no program in sight. -/
import Derived.Test.YtbpilaghemkdjaaDoorPlain1
import Derived.Test.YtbpilaghemkdjaaDoorSlot6
namespace Go.Sep
open Go Go.Proofs

/-! ### A head is read as it was laid -/
theorem leN_id {m : Nat} {n : Int} (h0 : 0 ≤ n) (h1 : n < 256 ^ m) : leNum (leBytes m n) = n := by
  rw [leNum_leBytes m n h0, Int.emod_eq_of_lt h0 h1]
theorem take24 (h : HeadN) (m : Nat) : (padB (enc h) m).take 24 = encBody h := rfl
theorem drop24 (h : HeadN) (m : Nat) : ((padB (enc h) m).drop 24).take 4 = leBytes 4 (crcSum (encBody h)) := rfl
theorem dropL (h : HeadN) (m : Nat) : ((padB (enc h) m).drop 8).take 4 = leBytes 4 (IntKind.u32.wrap h.len) := rfl
theorem dropS (h : HeadN) (m : Nat) : ((padB (enc h) m).drop 12).take 8 = leBytes 8 h.seq := rfl
theorem dropC (h : HeadN) (m : Nat) : ((padB (enc h) m).drop 20).take 4 = leBytes 4 h.sum := rfl
theorem enc_length (h : HeadN) : (enc h).length = 28 := rfl
theorem byteN {n : Int} (h0 : 0 ≤ n) (h1 : n < 256) : ((UInt8.ofNat (n % 256).toNat).toNat : Int) = n := by
  rw [UInt8.toNat_ofNat']; omega
theorem dec_enc {h : HeadN} (hr : h.right = true) (hq : 0 ≤ h.seq ∧ h.seq < 18446744073709551616) (hs : 0 ≤ h.sum ∧ h.sum < 4294967296) {m : Nat} (hm : 28 ≤ m) : decE (padB (enc h) m) = 0 ∧ decH (padB (enc h) m) = h := by
  have hb : rightG h.e h.f h.s = true ∧ h.len = totG h.e h.f h.s := by unfold HeadN.right at hr; simpa using hr
  have hb' : 0 ≤ h.e ∧ h.e ≤ 10 ∧ 0 ≤ h.f ∧ h.f ≤ 64 ∧ 0 ≤ h.s ∧ h.s ≤ 128 := by simpa [rightG] using hb.1
  have ht := totG_bd h.e h.f h.s
  have hc := crcSum_bd (encBody h)
  have hraw : decRaw (padB (enc h) m) = h := by
    have e5 : (padB (enc h) m).getD 5 0 = UInt8.ofNat (h.e % 256).toNat := rfl
    have e6 : (padB (enc h) m).getD 6 0 = UInt8.ofNat (h.f % 256).toNat := rfl
    have e7 : (padB (enc h) m).getD 7 0 = UInt8.ofNat (h.s % 256).toNat := rfl
    unfold decRaw
    rw [e5, e6, e7, dropL, dropS, dropC, byteN (by omega) (by omega), byteN (by omega) (by omega), byteN (by omega) (by omega), wrapU32 (by omega) (by omega), leN_id (by omega) (by omega), leN_id hq.1 (by omega), leN_id hs.1 (by omega)]
  have he : decE (padB (enc h) m) = 0 := by
    unfold decE
    have hl : ¬ (padB (enc h) m).length < 28 := by
      rw [padB_length (by rw [enc_length]; exact hm)]; omega
    have h4 : (padB (enc h) m).take 4 = [75, 69, 69, 80] := rfl
    have e4 : ((padB (enc h) m).getD 4 0).toNat = 1 := rfl
    rw [if_neg hl, if_neg (by rw [h4]; simp), if_neg (by rw [e4]; simp), take24, drop24, leN_id hc.1 (by omega), if_neg (by simp), hraw, if_pos hr]
  exact ⟨he, by unfold decH; rw [if_pos he]; exact hraw⟩
/-- Zeroes are no head. -/
theorem dec_zero {m : Nat} (hm : 28 ≤ m) : decE (padB [] m) = 6 := by
  obtain ⟨k, rfl⟩ : ∃ k, m = k + 28 := ⟨m - 28, by omega⟩
  unfold decE
  rw [if_neg (by simp [padB]), if_pos]
  simp [padB, List.replicate_succ]

/-! ### Pieces -/
theorem flat_pieces (L : List UInt8) (z : Nat) : ∀ n, n * z ≤ L.length → ((List.range n).map fun i => (L.drop (i * z)).take z).flatten = L.take (n * z)
  | 0, _ => by simp
  | n + 1, h => by
    rw [Nat.succ_mul] at h
    rw [List.range_succ, List.map_append, List.flatten_append, flat_pieces L z n (by omega)]
    simp only [List.map_cons, List.map_nil, List.flatten_cons, List.flatten_nil, List.append_nil]
    rw [Nat.succ_mul, List.take_add]
theorem pieces_length (bs : List UInt8) (z n : Nat) : (pieces bs z n).length = n := by simp [pieces]
theorem pieces_flat {bs : List UInt8} {z n : Nat} (h : bs.length ≤ n * z) : (pieces bs z n).flatten = padB bs (n * z) := by
  have hl := padB_length h
  unfold pieces
  rw [flat_pieces _ _ _ (by omega), List.take_of_length_le (by omega)]
theorem pieces_each {bs : List UInt8} {z n : Nat} (h : bs.length ≤ n * z) : ∀ x ∈ pieces bs z n, x.length = z := by
  intro x hx
  obtain ⟨i, hi, rfl⟩ := List.mem_map.1 hx
  have hi' := List.mem_range.1 hi
  have h2 : (i + 1) * z ≤ n * z := Nat.mul_le_mul_right _ hi'
  rw [Nat.succ_mul] at h2
  rw [List.length_take, List.length_drop, padB_length h]; omega
theorem padB_take {bs : List UInt8} {m : Nat} : (padB bs m).take bs.length = bs := by simp [padB]
/-- Enough sectors. -/
theorem secs_room {m z : Int} (h0 : 0 ≤ m) (h1 : 1 ≤ z) (h2 : z ≤ 4096) : 0 ≤ secs m z ∧ m ≤ secs m z * z := by
  unfold secs
  by_cases hm : m < 1
  · rw [if_pos (.inl hm)]; omega
  · rw [if_neg (by omega)]
    have h3 := Int.emod_nonneg (m - 1) (by omega : z ≠ 0)
    have h4 := Int.emod_lt_of_pos (m - 1) (by omega : 0 < z)
    have h5 := Int.mul_ediv_add_emod (m - 1) z
    have h6 : 0 ≤ (m - 1) / z := Int.ediv_nonneg (by omega) (by omega)
    refine ⟨by omega, ?_⟩
    rw [Int.add_mul, Int.one_mul, Int.mul_comm]
    omega
end Go.Sep
