/- head: bytes as numbers. -/
import Derived.Test.YtbpilaghemkdjaaDoorLib1
namespace Go.Sep
open Go Go.Proofs
attribute [local irreducible] JO JC JE JA JQ JB JI Mid Inv Weak ownS Ru Do Fn Sat Pick Take arr pt star ex Holds bodyPost Post Exit.then Exit.inBlock Res
variable {σ : Sig} {F : List HP}
def leNum : List UInt8 → Int
  | [] => 0
  | x :: r => x.toNat + 256 * leNum r
theorem leNum_bd : ∀ bs : List UInt8, 0 ≤ leNum bs ∧ leNum bs < 256 ^ bs.length
  | [] => ⟨Int.le_refl _, by decide⟩
  | x :: r => by
    have h := leNum_bd r
    have hx : x.toNat < 256 := UInt8.toNat_lt x
    simp only [leNum, List.length_cons, Int.pow_succ]
    omega
theorem leNum_leBytes : ∀ (m : Nat) (n : Int), 0 ≤ n → leNum (leBytes m n) = n % 256 ^ m
  | 0, n, _ => by simp [leNum, leBytes]
  | m + 1, n, h => by
    have e : ((UInt8.ofNat (n % 256).toNat).toNat : Int) = n % 256 := by
      simp only [UInt8.toNat_ofNat']
      omega
    rw [leBytes, leNum, leNum_leBytes m (n / 256) (by omega), e, Int.pow_succ]
    have h2 : (0 : Int) < 256 ^ m := Int.pow_pos (by decide)
    have h3 : n / 256 / 256 ^ m = n / (256 ^ m * 256) := by rw [Int.ediv_ediv_of_nonneg (by omega), Int.mul_comm]
    have h4 := Int.emod_def n (256 ^ m * 256)
    have h5 := Int.emod_def (n / 256) (256 ^ m)
    rw [h4, h5, h3, Int.mul_assoc, Int.mul_sub, ← Int.mul_assoc 256, Int.mul_comm 256 (256 ^ m), Int.mul_assoc]
    omega
theorem or_key (w m x : Nat) (hx : x < 256) (hw : m * 256 + x < 2 ^ w) : (BitVec.ofNat w (m * 256) ||| BitVec.ofNat w x).toNat = m * 256 + x := by
  rw [BitVec.toNat_or, BitVec.toNat_ofNat, BitVec.toNat_ofNat, Nat.mod_eq_of_lt (Nat.lt_of_le_of_lt (Nat.le_add_right _ _) hw), Nat.mod_eq_of_lt (Nat.lt_of_le_of_lt (Nat.le_add_left _ _) hw)]
  have := Nat.shiftLeft_add_eq_or_of_lt (a := m) (b := x) (i := 8) hx
  rw [Nat.shiftLeft_eq] at this
  exact this.symm
theorem bits_or32 (m x : Int) (h0 : 0 ≤ m) (hx : 0 ≤ x ∧ x < 256) (hb : m * 256 + x < 4294967296) :
    Go.bits .or .u32 (IntKind.u32.wrap (m * 2 ^ min (8 : Int).toNat IntKind.u32.bits)) (IntKind.u32.wrap x) = m * 256 + x := by
  obtain ⟨m, rfl⟩ := Int.eq_ofNat_of_zero_le h0
  obtain ⟨x, rfl⟩ := Int.eq_ofNat_of_zero_le hx.1
  have hk := or_key 32 m x (by omega) (by omega)
  show Go.bits .or .u32 (IntKind.u32.wrap (m * 256)) (IntKind.u32.wrap x) = _
  rw [wrapU32 (by omega) (by omega), wrapU32 (by omega) (by omega)]
  have h1 : ((m : Int) * 256) = ((m * 256 : Nat) : Int) := by omega
  show IntKind.u32.wrap (((BitVec.ofInt 32 ((m : Int) * 256)) ||| (BitVec.ofInt 32 (x : Int))).toNat : Int) = _
  rw [h1, BitVec.ofInt_natCast, BitVec.ofInt_natCast, hk, wrapU32 (by omega) (by omega), Int.natCast_add]
theorem bits_or64 (m x : Int) (h0 : 0 ≤ m) (hx : 0 ≤ x ∧ x < 256) (hb : m * 256 + x < 18446744073709551616) :
    Go.bits .or .u64 (IntKind.u64.wrap (m * 2 ^ min (8 : Int).toNat IntKind.u64.bits)) (IntKind.u64.wrap x) = m * 256 + x := by
  obtain ⟨m, rfl⟩ := Int.eq_ofNat_of_zero_le h0
  obtain ⟨x, rfl⟩ := Int.eq_ofNat_of_zero_le hx.1
  have hk := or_key 64 m x (by omega) (by omega)
  show Go.bits .or .u64 (IntKind.u64.wrap (m * 256)) (IntKind.u64.wrap x) = _
  rw [wrapU64 (by omega) (by omega), wrapU64 (by omega) (by omega)]
  have h1 : ((m : Int) * 256) = ((m * 256 : Nat) : Int) := by omega
  show IntKind.u64.wrap (((BitVec.ofInt 64 ((m : Int) * 256)) ||| (BitVec.ofInt 64 (x : Int))).toNat : Int) = _
  rw [h1, BitVec.ofInt_natCast, BitVec.ofInt_natCast, hk, wrapU64 (by omega) (by omega), Int.natCast_add]

theorem leNum_drop {bs : List UInt8} {j : Nat} (h : j < bs.length) : leNum (bs.drop j) = (bs[j].toNat : Int) + 256 * leNum (bs.drop (j + 1)) := by
  rw [List.drop_eq_getElem_cons h]; rfl
theorem pow256_le {i j : Nat} (h : i ≤ j) : (256 : Int) ^ i ≤ 256 ^ j := by
  induction j with
  | zero => obtain rfl : i = 0 := by omega
            exact Int.le_refl _
  | succ j ih =>
    rcases Nat.lt_or_ge j i with q | q
    · obtain rfl : i = j + 1 := by omega
      exact Int.le_refl _
    · have := ih q
      have h2 : (0 : Int) < 256 ^ j := Int.pow_pos (by decide)
      rw [Int.pow_succ]; omega
theorem leNum_drop_bd (bs : List UInt8) (j m : Nat) (h : bs.length ≤ m) : 0 ≤ leNum (bs.drop j) ∧ leNum (bs.drop j) < 256 ^ m := by
  have h1 := leNum_bd (bs.drop j)
  have h2 : (256 : Int) ^ (bs.drop j).length ≤ 256 ^ m := by
    exact pow256_le (by rw [List.length_drop]; omega)
  omega

set_option maxHeartbeats 1000000 in
theorem head_take32 (v : Value) (bs : List UInt8) (hlen : bs.length ≤ 4) {l : List HP} (hb : RdS σ l v (bs.map byte)) : Fn Tryd.prog σ 51 #[v] l (fun v l' => v = u32 (leNum bs) ∧ l' = l) := by
  obtain ⟨p, cap, rfl, hcap, hr⟩ := hb
  have hl : (bs.map byte).length = bs.length := by simp
  refine Fn.of Tryd.func51 rfl Tryd.ntmps51 rfl ?_
  repeat' (first | (apply JO.ru; exact rfl; exact rfl; exact rfl; (first | (apply Ru.move; exact rfl) | (apply Ru.assign; exact rfl) | (apply Ru.lenS; exact rfl) | (apply Ru.sub; exact rfl; exact rfl; (first | exact wrapI (by omega) (by omega) | exact rfl)))) | refine JC.seq ?_ | refine JC.region ?_ | refine JO.nil ?_ | refine JE.thenN ?_ | refine JC.block ?_)
  refine JC.loop (fun j : Nat => [(0, .slice p (bs.map byte).length cap), (3, u32 (leNum (bs.drop j))), (4, int ((j : Int) - 1))]) (fun _ => l) (fun j => j ≤ bs.length) (fun j => j) bs.length (Nat.le_refl _) ⟨rfl, by rw [List.drop_length]; rfl, by rw [← hl]; rfl, trivial⟩ (fun _ h => h) ?_
  intro j hj
  repeat' (first | (apply JO.ru; exact rfl; exact rfl; exact rfl; (first | (apply Ru.move; exact rfl) | (apply Ru.assign; exact rfl) | (apply Ru.shl; exact rfl; exact rfl; decide; exact rfl))) | refine JC.seq ?_ | refine JC.region ?_ | refine JO.nil ?_ | refine JE.thenN ?_ | refine JE.thenE ?_ | refine JE.blockE ?_ | refine JC.block ?_ | refine JC.ret ?_ | refine JC.skip ?_ | refine JC.exit ?_ | refine JC.condT rfl ?_ | refine JC.condF rfl ?_ | (apply JO.split; exact rfl; exact rfl; exact rfl; ((apply Ru.geq; exact rfl; exact rfl; exact rfl)); all_goals intro _) | (apply JE.done1; exact rfl; (first | (apply Res.tmp; exact rfl) | (apply Res.cell; exact rfl; (repeat (first | exact Pick.here | apply Pick.there)); exact rfl) | (apply Res.cellAN; exact rfl; (repeat (first | exact Pick.here | apply Pick.there)); exact rfl; exact rfl) | (apply Res.cellA; exact rfl; (repeat (first | exact Pick.here | apply Pick.there)); exact rfl; exact rfl))))
  · rename_i hlt
    obtain ⟨j, rfl⟩ : ∃ i, j = i + 1 := ⟨j - 1, by omega⟩
    have hlt' : j < bs.length := by omega
    rcases hr with h0 | ⟨b, o, rfl, hc⟩
    · rw [h0] at hl; simp at hl; omega
    repeat' ((apply JO.ru; exact rfl; exact rfl; exact rfl; ((apply Ru.indexAddr; exact rfl; exact rfl; omega; omega))))
    (apply JO.ru; exact rfl; exact rfl; exact rfl; (apply Ru.loadC; exact rfl; exact rd_cell hc hlt' (by omega)))
    repeat' (first | (apply JO.ru; exact rfl; exact rfl; exact rfl; (first | (apply Ru.move; exact rfl) | (apply Ru.assign; exact rfl) | (apply Ru.sub; exact rfl; exact rfl; (first | exact wrapI (by omega) (by omega) | exact rfl)) | (apply Ru.or; exact rfl; exact rfl) | (apply Ru.conv; exact rfl; exact rfl))) | refine JC.region ?_ | refine JO.nil ?_ | refine JE.thenN ?_ | refine JE.blockN ?_)
    refine JE.round j (by omega) (by omega) ⟨rfl, ?_, ?_, trivial⟩ (fun _ h => h)
    · have b1 := leNum_drop_bd bs (j + 1) 4 hlen
      have b2 := leNum_drop_bd bs j 4 hlen
      have b3 := leNum_drop hlt'
      have b4 : bs[j].toNat < 256 := UInt8.toNat_lt _
      show some _ = some (u32 _)
      rw [bits_or32 _ _ b1.1 (by omega) (by omega), b3]
      congr 2
      omega
    · show some (int _) = some (int _); congr 2; omega
  · obtain rfl : j = 0 := by omega
    refine finS ?_; exact ⟨by rw [List.drop_zero], rfl⟩
set_option maxHeartbeats 1000000 in
theorem head_take64 (v : Value) (bs : List UInt8) (hlen : bs.length ≤ 8) {l : List HP} (hb : RdS σ l v (bs.map byte)) : Fn Tryd.prog σ 52 #[v] l (fun v l' => v = u64 (leNum bs) ∧ l' = l) := by
  obtain ⟨p, cap, rfl, hcap, hr⟩ := hb
  have hl : (bs.map byte).length = bs.length := by simp
  refine Fn.of Tryd.func52 rfl Tryd.ntmps52 rfl ?_
  repeat' (first | (apply JO.ru; exact rfl; exact rfl; exact rfl; (first | (apply Ru.move; exact rfl) | (apply Ru.assign; exact rfl) | (apply Ru.lenS; exact rfl) | (apply Ru.sub; exact rfl; exact rfl; (first | exact wrapI (by omega) (by omega) | exact rfl)))) | refine JC.seq ?_ | refine JC.region ?_ | refine JO.nil ?_ | refine JE.thenN ?_ | refine JC.block ?_)
  refine JC.loop (fun j : Nat => [(0, .slice p (bs.map byte).length cap), (3, u64 (leNum (bs.drop j))), (4, int ((j : Int) - 1))]) (fun _ => l) (fun j => j ≤ bs.length) (fun j => j) bs.length (Nat.le_refl _) ⟨rfl, by rw [List.drop_length]; rfl, by rw [← hl]; rfl, trivial⟩ (fun _ h => h) ?_
  intro j hj
  repeat' (first | (apply JO.ru; exact rfl; exact rfl; exact rfl; (first | (apply Ru.move; exact rfl) | (apply Ru.assign; exact rfl) | (apply Ru.shl; exact rfl; exact rfl; decide; exact rfl))) | refine JC.seq ?_ | refine JC.region ?_ | refine JO.nil ?_ | refine JE.thenN ?_ | refine JE.thenE ?_ | refine JE.blockE ?_ | refine JC.block ?_ | refine JC.ret ?_ | refine JC.skip ?_ | refine JC.exit ?_ | refine JC.condT rfl ?_ | refine JC.condF rfl ?_ | (apply JO.split; exact rfl; exact rfl; exact rfl; ((apply Ru.geq; exact rfl; exact rfl; exact rfl)); all_goals intro _) | (apply JE.done1; exact rfl; (first | (apply Res.tmp; exact rfl) | (apply Res.cell; exact rfl; (repeat (first | exact Pick.here | apply Pick.there)); exact rfl) | (apply Res.cellAN; exact rfl; (repeat (first | exact Pick.here | apply Pick.there)); exact rfl; exact rfl) | (apply Res.cellA; exact rfl; (repeat (first | exact Pick.here | apply Pick.there)); exact rfl; exact rfl))))
  · rename_i hlt
    obtain ⟨j, rfl⟩ : ∃ i, j = i + 1 := ⟨j - 1, by omega⟩
    have hlt' : j < bs.length := by omega
    rcases hr with h0 | ⟨b, o, rfl, hc⟩
    · rw [h0] at hl; simp at hl; omega
    repeat' ((apply JO.ru; exact rfl; exact rfl; exact rfl; ((apply Ru.indexAddr; exact rfl; exact rfl; omega; omega))))
    (apply JO.ru; exact rfl; exact rfl; exact rfl; (apply Ru.loadC; exact rfl; exact rd_cell hc hlt' (by omega)))
    repeat' (first | (apply JO.ru; exact rfl; exact rfl; exact rfl; (first | (apply Ru.move; exact rfl) | (apply Ru.assign; exact rfl) | (apply Ru.sub; exact rfl; exact rfl; (first | exact wrapI (by omega) (by omega) | exact rfl)) | (apply Ru.or; exact rfl; exact rfl) | (apply Ru.conv; exact rfl; exact rfl))) | refine JC.region ?_ | refine JO.nil ?_ | refine JE.thenN ?_ | refine JE.blockN ?_)
    refine JE.round j (by omega) (by omega) ⟨rfl, ?_, ?_, trivial⟩ (fun _ h => h)
    · have b1 := leNum_drop_bd bs (j + 1) 8 hlen
      have b2 := leNum_drop_bd bs j 8 hlen
      have b3 := leNum_drop hlt'
      have b4 : bs[j].toNat < 256 := UInt8.toNat_lt _
      show some _ = some (u64 _)
      rw [bits_or64 _ _ b1.1 (by omega) (by omega), b3]
      congr 2
      omega
    · show some (int _) = some (int _); congr 2; omega
  · obtain rfl : j = 0 := by omega
    refine finS ?_; exact ⟨by rw [List.drop_zero], rfl⟩
end Go.Sep
