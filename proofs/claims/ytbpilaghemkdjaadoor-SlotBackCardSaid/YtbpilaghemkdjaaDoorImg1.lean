/- image: cut. -/
import Derived.Test.YtbpilaghemkdjaaDoorLib1
namespace Go.Sep
open Go Go.Proofs
attribute [local irreducible] JO JC JE JA JQ JB JI Mid Inv Weak ownS Ru Do Fn Sat Pick Take arr pt star ex Holds bodyPost Post Exit.then Exit.inBlock Res
variable {σ : Sig} {F : List HP}
theorem splice_at : ∀ (ys xs : List Value) (o : Nat), o + ys.length ≤ xs.length → splice xs o ys = xs.take o ++ ys ++ xs.drop (o + ys.length)
  | [], xs, o, _ => by simp [splice]
  | y :: ys, xs, o, h => by
    simp only [List.length_cons] at h
    rw [splice, splice_at ys (xs.set o y) (o + 1) (by rw [List.length_set]; omega)]
    have h1 : (xs.set o y).take (o + 1) = xs.take o ++ [y] := by
      rw [List.take_succ_eq_append_getElem (by rw [List.length_set]; omega), List.getElem_set_self, List.take_set_of_le (Nat.le_refl _)]
    have h2 : (xs.set o y).drop (o + 1 + ys.length) = xs.drop (o + (ys.length + 1)) := by
      rw [List.drop_set_of_lt (by omega)]
      congr 1; omega
    rw [h1, h2, List.length_cons]
    simp

/-- bs, and zeroes behind it, m bytes in all. -/
def padB (bs : List UInt8) (m : Nat) : List UInt8 := bs ++ List.replicate (m - bs.length) 0
theorem padB_length {bs : List UInt8} {m : Nat} (h : bs.length ≤ m) : (padB bs m).length = m := by simp [padB]; omega
theorem splice_pad (bs : List UInt8) (m : Nat) (h : bs.length ≤ m) : splice (List.replicate m (Value.int .u8 0)) 0 (bs.map byte) = (padB bs m).map byte := by
  rw [splice_at _ _ _ (by simp; omega)]
  simp [padB]
def cutRows (a z n : Nat) : List Value := (List.range n).map fun i => .slice (some ⟨a, i * z, none⟩) z z
theorem cutRows_succ (a z n : Nat) : cutRows a z (n + 1) = cutRows a z n ++ [.slice (some ⟨a, n * z, none⟩) z z] := by
  simp [cutRows, List.range_succ]

set_option maxHeartbeats 2000000 in
theorem image_Cut (v : Value) (bs : List UInt8) (z : Nat) (hz : 1 ≤ z ∧ z ≤ 4096) (hlen : bs.length ≤ 100000000) {l : List HP} (hb : RdS σ l v (bs.map byte)) :
    Fn Tryd.prog σ 28 #[v, int z] l (fun r l' => ∃ u a, r = .tuple #[u, int 0] ∧ l' = ownS u 24 1 (secs bs.length z).toNat (cutRows a z (secs bs.length z).toNat) :: arr a 5 ((padB bs ((secs bs.length z).toNat * z)).map byte) :: l) := by
  have hb0 := hb
  obtain ⟨p, cap, rfl, hcap, hr⟩ := hb
  have hl : (bs.map byte).length = bs.length := by simp
  rw [hl] at hb0 hcap ⊢
  have hs := secs_bd (m := bs.length) (s := z) (by omega)
  obtain ⟨n, hn⟩ := Int.eq_ofNat_of_zero_le hs.1
  have hn' : n ≤ bs.length := by omega
  have hpos : bs.length ≤ n * z := by
    unfold secs at hn
    split at hn
    · have : bs.length = 0 := by omega
      omega
    · have h1 := Int.emod_add_mul_ediv ((bs.length : Int) - 1) z
      have h2 := Int.emod_lt_of_pos ((bs.length : Int) - 1) (by omega : (0 : Int) < z)
      have h3 : ((n * z : Nat) : Int) = z * (((bs.length : Int) - 1) / z) + z := by
        rw [Int.natCast_mul, ← hn, Int.add_mul, Int.mul_comm]; omega
      omega
  have hmax : n * z ≤ 409600000000 := by
    have := Nat.mul_le_mul hn' hz.2
    omega
  have hok : sizeOk z = true := by simp [sizeOk]; omega
  rw [hn]
  simp only [Int.toNat_natCast]
  refine Fn.of Tryd.func28 rfl Tryd.ntmps28 rfl ?_
  have hmaxI : (n : Int) * (z : Int) ≤ 409600000000 := by rw [← Int.natCast_mul]; omega
  have hminI : 0 ≤ (n : Int) * (z : Int) := by rw [← Int.natCast_mul]; omega
  repeat' (first | (first | (apply JO.ru; exact rfl; exact rfl; exact rfl; (first | (apply Ru.move; exact rfl) | (apply Ru.assign; exact rfl) | (apply Ru.lenS; exact rfl) | (apply Ru.mul; exact rfl; exact rfl; (first | exact wrapI (by omega) (by omega) | exact rfl)) | (apply Ru.not; exact rfl))) | refine JC.seq ?_ | refine JC.region ?_ | refine JO.nil ?_ | refine JE.thenN ?_ | refine JC.skip ?_ | refine JC.condF rfl ?_) | ((first | (apply JO.do; exact rfl; exact rfl; exact rfl; (apply Do.call; exact rfl; exact image_right _); rintro _ _ ⟨rfl, hq⟩; obtain rfl := hq.symm) | (apply JQ.call; exact rfl; exact rfl; exact rfl; exact image_right _; (rintro _ _ ⟨rfl, rfl⟩; exact ⟨rfl, rfl⟩))); rw [hok]) | ((first | (apply JO.do; exact rfl; exact rfl; exact rfl; (apply Do.call; exact rfl; exact image_Sectors _ _ (by omega)); rintro _ _ ⟨rfl, hq⟩; obtain rfl := hq.symm) | (apply JQ.call; exact rfl; exact rfl; exact rfl; exact image_Sectors _ _ (by omega); (rintro _ _ ⟨rfl, rfl⟩; exact ⟨rfl, rfl⟩))); rw [hn]))
  (apply JO.do; exact rfl; exact rfl; exact rfl; (apply Do.makeSlice (k := n * z) (c := n * z); (rw [Int.natCast_mul]; exact rfl); (rw [Int.natCast_mul]; exact rfl); exact Nat.le_refl _; (show n * z * 1 ≤ _; omega); omega); rintro _ _ ⟨a, rfl, rfl⟩)
  repeat' (first | (apply JO.ru; exact rfl; exact rfl; exact rfl; (first | (apply Ru.move; exact rfl) | (apply Ru.assign; exact rfl))) | refine JC.seq ?_ | refine JC.region ?_ | refine JO.nil ?_ | refine JE.thenN ?_)
  (apply JO.do; exact rfl; exact rfl; exact rfl; (apply Do.copy; exact rfl; exact rfl; exact Pick.here; exact hb0.cons; (rw [List.length_replicate]; omega); (intro q hq; obtain ⟨x, _, rfl⟩ := List.mem_map.1 hq; rfl)); rintro _ _ ⟨rfl, rfl⟩)
  have hcp : splice (List.replicate (n * z) (Value.int .u8 0)) 0 ((bs.map byte).take (min bs.length (n * z))) = (padB bs (n * z)).map byte := by
    rw [Nat.min_eq_left hpos, List.take_of_length_le (by rw [hl]; omega), splice_pad _ _ hpos]
  rw [hcp]
  repeat' (first | (apply JO.ru; exact rfl; exact rfl; exact rfl; (first | (apply Ru.move; exact rfl) | (apply Ru.assign; exact rfl))) | refine JC.seq ?_ | refine JC.region ?_ | refine JO.nil ?_ | refine JE.thenN ?_ | refine JC.block ?_)
  refine JC.loop (fun q : Nat × Value => [(1, int z), (7, .slice (some ⟨a, 0, none⟩) (n * z) (n * z)), (8, q.2), (24, int n), (25, int q.1)])
    (fun q => ownS q.2 24 1 q.1 (cutRows a z q.1) :: arr a 5 ((padB bs (n * z)).map byte) :: l) (fun q => q.1 ≤ n) (fun q => n - q.1) (0, .slice none 0 0) (Nat.zero_le _) ⟨rfl, rfl, rfl, rfl, rfl, trivial⟩ (fun _ s => Sat.ownS_nil s) ?_
  rintro ⟨i, u⟩ hi
  dsimp only at hi ⊢
  repeat' (first | (apply JO.ru; exact rfl; exact rfl; exact rfl; (first | (apply Ru.move; exact rfl) | (apply Ru.assign; exact rfl) | (apply Ru.add; exact rfl; exact rfl; (first | exact wrapI (by omega) (by omega) | exact rfl)) | (apply Ru.mul; exact rfl; exact rfl; (first | exact wrapI (by omega) (by omega) | exact rfl)))) | refine JC.seq ?_ | refine JC.region ?_ | refine JO.nil ?_ | refine JE.thenN ?_ | refine JE.thenE ?_ | refine JE.blockE ?_ | refine JC.block ?_ | refine JC.ret ?_ | refine JC.skip ?_ | refine JC.exit ?_ | refine JC.condT rfl ?_ | refine JC.condF rfl ?_ | (apply JO.split; exact rfl; exact rfl; exact rfl; ((apply Ru.lss; exact rfl; exact rfl; exact rfl)); all_goals intro _) | (apply JE.done2; exact rfl; (first | (apply Res.tmp; exact rfl) | (apply Res.cell; exact rfl; (repeat (first | exact Pick.here | apply Pick.there)); exact rfl) | (apply Res.cellAN; exact rfl; (repeat (first | exact Pick.here | apply Pick.there)); exact rfl; exact rfl) | (apply Res.cellA; exact rfl; (repeat (first | exact Pick.here | apply Pick.there)); exact rfl; exact rfl)); (first | (apply Res.tmp; exact rfl) | (apply Res.cell; exact rfl; (repeat (first | exact Pick.here | apply Pick.there)); exact rfl) | (apply Res.cellAN; exact rfl; (repeat (first | exact Pick.here | apply Pick.there)); exact rfl; exact rfl) | (apply Res.cellA; exact rfl; (repeat (first | exact Pick.here | apply Pick.there)); exact rfl; exact rfl))))
  · rename_i hlt
    have g1 : (((i + 1) * z : Nat) : Int) ≤ ((n * z : Nat) : Int) := Int.ofNat_le.2 (Nat.mul_le_mul_right _ (by omega))
    have g2 : ((i : Int) + 1) * (z : Int) = (((i + 1) * z : Nat) : Int) := by rw [Int.natCast_mul]; rfl
    have g3 : (((i + 1) * z : Nat) : Int) = (i : Int) * (z : Int) + z := by rw [Int.natCast_mul, Int.natCast_add, Int.add_mul]; omega
    have g4 : ((n * z : Nat) : Int) = (n : Int) * (z : Int) := Int.natCast_mul _ _
    have g5 : 0 ≤ (i : Int) * (z : Int) := by rw [← Int.natCast_mul]; omega
    have w1 : IntKind.i64.wrap (((i : Int) + 1) * (z : Int)) = ((i : Int) + 1) * (z : Int) := wrapI (by omega) (by omega)
    have w2 : IntKind.i64.wrap ((i : Int) * (z : Int)) = (i : Int) * (z : Int) := wrapI (by omega) (by omega)
    rw [w1, w2]
    repeat' (first | (apply JO.ru; exact rfl; exact rfl; exact rfl; ((apply Ru.sliceS; exact rfl; exact rfl; exact rfl; exact rfl; (first | exact fun _ => rfl | exact fun h => nomatch h); omega; omega; omega))) | (apply JO.do; exact rfl; exact rfl; exact rfl; (first | (apply Do.buildSliceN; exact rfl; exact rfl; exact rfl; exact rfl) | (apply Do.buildSlice; exact rfl; exact rfl; exact rfl; exact rfl)); rintro _ _ ⟨_, rfl, rfl⟩))
    have k1 : ((i : Int) * (z : Int)).toNat = i * z := by rw [← Int.natCast_mul]; rfl
    have k2 : (((i : Int) + 1) * (z : Int) - (i : Int) * (z : Int)).toNat = z := by omega
    have k3 : 0 + i * z * 1 = i * z := by omega
    rw [k1, k2, k3]
    (apply JO.do; exact rfl; exact rfl; exact rfl; (apply Do.append1 (ys := [.slice (some ⟨a, i * z, none⟩) z z]); exact rfl; exact rfl; exact Pick.there Pick.here; exact RdS.arr (vs := [.slice (some ⟨a, i * z, none⟩) z z]) Pick.here 0 1 1 (Nat.le_refl _) (Nat.le_refl _); (intro q hq; rw [List.mem_singleton.1 hq]; rfl); (show (i + 1) * 24 ≤ _; omega)); rintro u' _ ⟨rfl, _⟩)
    repeat' (first | (apply JO.ru; exact rfl; exact rfl; exact rfl; (first | (apply Ru.move; exact rfl) | (apply Ru.assign; exact rfl) | (apply Ru.add; exact rfl; exact rfl; (first | exact wrapI (by omega) (by omega) | exact rfl)))) | refine JC.region ?_ | refine JO.nil ?_ | refine JE.thenN ?_ | refine JE.blockN ?_)
    refine JE.round (i + 1, u') (by show i + 1 ≤ n; omega) (by show n - (i + 1) < n - i; omega) ⟨rfl, rfl, rfl, rfl, rfl, trivial⟩ ?_
    intro w s
    have := Sat.weak (l' := ownS u' 24 1 (i + 1) _ :: arr a 5 ((padB bs (n * z)).map byte) :: l) (by repeat (first | exact Weak.refl | (apply Weak.cons; (first | exact Pick.here | exact Pick.there Pick.here | exact Pick.there (Pick.there Pick.here) | exact Pick.there (Pick.there (Pick.there Pick.here)) | exact Pick.there (Pick.there (Pick.there (Pick.there Pick.here))) | exact Pick.there (Pick.there (Pick.there (Pick.there (Pick.there Pick.here)))) | exact Pick.there (Pick.there (Pick.there (Pick.there (Pick.there (Pick.there Pick.here))))) | exact Pick.there (Pick.there (Pick.there (Pick.there (Pick.there (Pick.there (Pick.there Pick.here)))))))) | apply Weak.drop)) w s
    dsimp only
    rw [cutRows_succ]
    exact this
  · obtain rfl : i = n := by omega
    exact finS ⟨u, a, rfl, rfl⟩
end Go.Sep
