/- slices.Clone at bytes; numbers as bytes. -/
import Derived.Test.YtbpilaghemkdjaaDoorCrc
namespace Go.Sep
open Go Go.Proofs
attribute [local irreducible] JO JC JE JA JQ JB JI Mid Inv Weak ownS Ru Do Fn Sat Pick Take arr pt star ex Holds bodyPost Post Exit.then Exit.inBlock Res
variable {σ : Sig} {F : List HP}
theorem fin_nil {post : Value → List HP → Prop} {v : Value} {E : TypeId} {z : Nat} {l : List HP} (h : fin post v (ownS (.slice none 0 0) E z 0 [] :: l) σ) : fin post v l σ := by
  obtain ⟨l', e, h⟩ := h
  exact ⟨l', fun w s => e w (Sat.ownS_nil s), h⟩

set_option maxHeartbeats 1000000 in
theorem slices_Clone (v : Value) (cs : List Value) (h1 : ∀ q ∈ cs, q.oneCell' = true) (hlen : cs.length ≤ 100000000000000) {l : List HP} (hr : RdS σ l v cs) :
    Fn Tryd.prog σ 60 #[v] l (fun u l' => l' = ownS u 5 1 cs.length cs :: l ∧ (u = .slice none 0 0 → ∃ c, v = .slice none 0 c)) := by
  have hr0 := hr
  obtain ⟨p, cap, rfl, hcap, hr⟩ := hr
  refine Fn.of Tryd.func60 rfl Tryd.ntmps60 rfl ?_
  cases p with
  | none =>
    obtain rfl : cs = [] := by
      rcases hr with h | ⟨b, o, h, _⟩
      · exact h
      · cases h
    repeat' (first | (apply JO.ru; exact rfl; exact rfl; exact rfl; (first | (apply Ru.move; exact rfl) | (apply Ru.assign; exact rfl) | (apply Ru.eqlSN; exact rfl; exact rfl))) | refine JC.seq ?_ | refine JC.region ?_ | refine JO.nil ?_ | refine JE.thenN ?_ | refine JE.thenR ?_ | refine JC.ret ?_ | refine JC.condT rfl ?_ | (apply JE.done1; exact rfl; (first | (apply Res.tmp; exact rfl) | (apply Res.cell; exact rfl; (repeat (first | exact Pick.here | apply Pick.there)); exact rfl) | (apply Res.cellAN; exact rfl; (repeat (first | exact Pick.here | apply Pick.there)); exact rfl; exact rfl) | (apply Res.cellA; exact rfl; (repeat (first | exact Pick.here | apply Pick.there)); exact rfl; exact rfl))))
    apply fin_nil (E := 5) (z := 1); apply finS; exact ⟨rfl, fun _ => ⟨_, rfl⟩⟩
  | some a =>
    repeat' (first | (apply JO.ru; exact rfl; exact rfl; exact rfl; (first | (apply Ru.move; exact rfl) | (apply Ru.assign; exact rfl) | (apply Ru.eqlSN; exact rfl; exact rfl))) | refine JC.seq ?_ | refine JC.region ?_ | refine JO.nil ?_ | refine JE.thenN ?_ | refine JC.skip ?_ | refine JC.condF rfl ?_)
    (apply JO.do; exact rfl; exact rfl; exact rfl; apply Do.buildSlice0; rintro _ _ ⟨b, rfl, rfl⟩)
    refine JO.heap (fun _ s => Sat.ownS_arr (xs := []) (spare := []) (k := 0) (cap := 0) (z := 1) (Nat.le_refl _) rfl (Nat.le_refl _) s) ?_
    repeat' ((apply JO.ru; exact rfl; exact rfl; exact rfl; ((apply Ru.move; exact rfl))))
    (apply JO.do; exact rfl; exact rfl; exact rfl; (apply Do.append1; exact rfl; exact rfl; exact Pick.here; exact hr0.cons; exact h1; (show (0 + cs.length) * 1 ≤ _; omega); exact rfl; exact rfl); rintro u _ ⟨rfl, hnil⟩)
    rw [Nat.zero_add, List.nil_append]
    repeat' (first | (apply JO.ru; exact rfl; exact rfl; exact rfl; ((apply Ru.assign; exact rfl))) | refine JO.nil ?_ | refine JE.thenN ?_ | refine JC.ret ?_ | (apply JE.done1; exact rfl; (first | (apply Res.tmp; exact rfl) | (apply Res.cell; exact rfl; (repeat (first | exact Pick.here | apply Pick.there)); exact rfl) | (apply Res.cellAN; exact rfl; (repeat (first | exact Pick.here | apply Pick.there)); exact rfl; exact rfl) | (apply Res.cellA; exact rfl; (repeat (first | exact Pick.here | apply Pick.there)); exact rfl; exact rfl))))
    refine finS ?_; exact ⟨rfl, fun h => by have := (hnil h).1; cases this⟩

/-! ### Numbers as bytes, the lowest first -/
def leBytes : Nat → Int → List UInt8
  | 0, _ => []
  | m + 1, n => UInt8.ofNat (n % 256).toNat :: leBytes m (n / 256)
theorem leBytes_length : ∀ (m : Nat) (n : Int), (leBytes m n).length = m
  | 0, _ => rfl
  | m + 1, n => by simp [leBytes, leBytes_length m]
theorem byte_wrap (n : Int) (h : 0 ≤ n) : Value.int .u8 (IntKind.u8.wrap n) = byte (UInt8.ofNat (n % 256).toNat) := by
  have e : IntKind.u8.wrap n = n % 256 := by simp [IntKind.wrap, IntKind.bits, IntKind.signed]
  have h2 : ((UInt8.ofNat (n % 256).toNat).toNat : Int) = n % 256 := by
    simp only [UInt8.toNat_ofNat']
    omega
  rw [e]; show _ = Value.int .u8 _; rw [h2]
theorem leBytes_snoc : ∀ (m : Nat) (n : Int), leBytes (m + 1) n = leBytes m n ++ [UInt8.ofNat ((n / 256 ^ m) % 256).toNat]
  | 0, n => by simp [leBytes]
  | m + 1, n => by
    rw [leBytes, leBytes_snoc m (n / 256)]
    simp only [leBytes, List.cons_append]
    rw [Int.ediv_ediv_of_nonneg (by omega), Int.pow_succ, Int.mul_comm]

theorem shr8 (n : Int) (k : IntKind) (hk : 8 ≤ k.bits) (m : Nat) : (n / 256 ^ m).fdiv (2 ^ min (8 : Int).toNat k.bits) = n / 256 ^ (m + 1) := by
  have e : min (8 : Int).toNat k.bits = 8 := by show min 8 k.bits = 8; omega
  rw [e, Int.fdiv_eq_ediv_of_nonneg _ (by decide), Int.ediv_ediv_of_nonneg (Int.pow_nonneg (by decide)), Int.pow_succ]
  rfl

set_option maxHeartbeats 1000000 in
theorem head_lay32 (v : Value) (k : Nat) (xs : List Value) (n : Int) (many : Nat) (hn : 0 ≤ n) (hm : many ≤ 8) (hk : k ≤ 1000000) :
    Fn Tryd.prog σ 56 #[v, u32 n, int many] (ownS v 5 1 k xs :: F) (fun u l' => l' = ownS u 5 1 (k + many) (xs ++ (leBytes many n).map byte) :: F) := by
  refine Fn.of Tryd.func56 rfl Tryd.ntmps56 rfl ?_
  repeat' (first | (apply JO.ru; exact rfl; exact rfl; exact rfl; (first | (apply Ru.move; exact rfl) | (apply Ru.assign; exact rfl))) | refine JC.seq ?_ | refine JC.region ?_ | refine JO.nil ?_ | refine JE.thenN ?_ | refine JC.block ?_)
  refine JC.loop (fun p : Nat × Value => [(0, p.2), (1, u32 (n / 256 ^ p.1)), (7, int many), (8, int p.1)]) (fun p => ownS p.2 5 1 (k + p.1) (xs ++ (leBytes p.1 n).map byte) :: F) (fun p => p.1 ≤ many) (fun p => many - p.1) (0, v) (Nat.zero_le _) ⟨rfl, by show some _ = some (u32 _); rw [Int.pow_zero, Int.ediv_one], rfl, rfl, trivial⟩ (by intro w s; simpa [leBytes] using s) ?_
  rintro ⟨i, u⟩ hi
  dsimp only at hi ⊢
  repeat' (first | (apply JO.ru; exact rfl; exact rfl; exact rfl; (first | (apply Ru.move; exact rfl) | (apply Ru.assign; exact rfl) | (apply Ru.conv; exact rfl; exact rfl))) | refine JC.seq ?_ | refine JC.region ?_ | refine JO.nil ?_ | refine JE.thenN ?_ | refine JE.thenE ?_ | refine JE.blockE ?_ | refine JC.block ?_ | refine JC.ret ?_ | refine JC.skip ?_ | refine JC.exit ?_ | refine JC.condT rfl ?_ | refine JC.condF rfl ?_ | (apply JO.split; exact rfl; exact rfl; exact rfl; ((apply Ru.lss; exact rfl; exact rfl; exact rfl)); all_goals intro _) | (apply JO.do; exact rfl; exact rfl; exact rfl; (first | (apply Do.buildSliceN; exact rfl; exact rfl; exact rfl; exact rfl) | (apply Do.buildSlice; exact rfl; exact rfl; exact rfl; exact rfl)); rintro _ _ ⟨_, rfl, rfl⟩) | (apply JE.done1; exact rfl; (first | (apply Res.tmp; exact rfl) | (apply Res.cell; exact rfl; (repeat (first | exact Pick.here | apply Pick.there)); exact rfl) | (apply Res.cellAN; exact rfl; (repeat (first | exact Pick.here | apply Pick.there)); exact rfl; exact rfl) | (apply Res.cellA; exact rfl; (repeat (first | exact Pick.here | apply Pick.there)); exact rfl; exact rfl))))
  · rename_i hlt
    have h0 : 0 ≤ n / 256 ^ i := Int.ediv_nonneg hn (Int.pow_nonneg (by decide))
    (apply JO.do; exact rfl; exact rfl; exact rfl; (apply Do.append1 (ys := [Value.int .u8 (IntKind.u8.wrap (n / 256 ^ i))]); exact rfl; exact rfl; exact Pick.there Pick.here; exact RdS.arr Pick.here 0 1 1 (Nat.le_refl _) (Nat.le_refl _); (intro q hq; rw [List.mem_singleton.1 hq]; rfl); (show (k + i + 1) * 1 ≤ _; omega)); rintro u' _ ⟨rfl, _⟩)
    repeat' (first | (apply JO.ru; exact rfl; exact rfl; exact rfl; (first | (apply Ru.move; exact rfl) | (apply Ru.assign; exact rfl) | (apply Ru.add; exact rfl; exact rfl; (first | exact wrapI (by omega) (by omega) | exact rfl)) | (apply Ru.shr; exact rfl; exact rfl; decide; exact rfl))) | refine JC.region ?_ | refine JO.nil ?_ | refine JE.thenN ?_ | refine JE.blockN ?_)
    refine JE.round (i + 1, u') (by show i + 1 ≤ many; omega) (by show many - (i + 1) < many - i; omega) ⟨rfl, ?_, rfl, rfl, trivial⟩ ?_
    · show some (u32 _) = some (u32 _)
      rw [shr8 n .u32 (by decide)]
    · intro w s
      have := Sat.weak (l' := ownS u' 5 1 (k + i + 1) _ :: F) (by repeat (first | exact Weak.refl | (apply Weak.cons; (first | exact Pick.here | exact Pick.there Pick.here | exact Pick.there (Pick.there Pick.here) | exact Pick.there (Pick.there (Pick.there Pick.here)) | exact Pick.there (Pick.there (Pick.there (Pick.there Pick.here))) | exact Pick.there (Pick.there (Pick.there (Pick.there (Pick.there Pick.here)))) | exact Pick.there (Pick.there (Pick.there (Pick.there (Pick.there (Pick.there Pick.here))))) | exact Pick.there (Pick.there (Pick.there (Pick.there (Pick.there (Pick.there (Pick.there Pick.here)))))))) | apply Weak.drop)) w s
      rw [List.append_assoc, byte_wrap _ h0] at this
      dsimp only
      rw [leBytes_snoc, List.map_append]
      exact this
  · obtain rfl : i = many := by omega
    exact finS rfl
set_option maxHeartbeats 1000000 in
theorem head_lay64 (v : Value) (k : Nat) (xs : List Value) (n : Int) (many : Nat) (hn : 0 ≤ n) (hm : many ≤ 8) (hk : k ≤ 1000000) :
    Fn Tryd.prog σ 57 #[v, u64 n, int many] (ownS v 5 1 k xs :: F) (fun u l' => l' = ownS u 5 1 (k + many) (xs ++ (leBytes many n).map byte) :: F) := by
  refine Fn.of Tryd.func57 rfl Tryd.ntmps57 rfl ?_
  repeat' (first | (apply JO.ru; exact rfl; exact rfl; exact rfl; (first | (apply Ru.move; exact rfl) | (apply Ru.assign; exact rfl))) | refine JC.seq ?_ | refine JC.region ?_ | refine JO.nil ?_ | refine JE.thenN ?_ | refine JC.block ?_)
  refine JC.loop (fun p : Nat × Value => [(0, p.2), (1, u64 (n / 256 ^ p.1)), (7, int many), (8, int p.1)]) (fun p => ownS p.2 5 1 (k + p.1) (xs ++ (leBytes p.1 n).map byte) :: F) (fun p => p.1 ≤ many) (fun p => many - p.1) (0, v) (Nat.zero_le _) ⟨rfl, by show some _ = some (u64 _); rw [Int.pow_zero, Int.ediv_one], rfl, rfl, trivial⟩ (by intro w s; simpa [leBytes] using s) ?_
  rintro ⟨i, u⟩ hi
  dsimp only at hi ⊢
  repeat' (first | (apply JO.ru; exact rfl; exact rfl; exact rfl; (first | (apply Ru.move; exact rfl) | (apply Ru.assign; exact rfl) | (apply Ru.conv; exact rfl; exact rfl))) | refine JC.seq ?_ | refine JC.region ?_ | refine JO.nil ?_ | refine JE.thenN ?_ | refine JE.thenE ?_ | refine JE.blockE ?_ | refine JC.block ?_ | refine JC.ret ?_ | refine JC.skip ?_ | refine JC.exit ?_ | refine JC.condT rfl ?_ | refine JC.condF rfl ?_ | (apply JO.split; exact rfl; exact rfl; exact rfl; ((apply Ru.lss; exact rfl; exact rfl; exact rfl)); all_goals intro _) | (apply JO.do; exact rfl; exact rfl; exact rfl; (first | (apply Do.buildSliceN; exact rfl; exact rfl; exact rfl; exact rfl) | (apply Do.buildSlice; exact rfl; exact rfl; exact rfl; exact rfl)); rintro _ _ ⟨_, rfl, rfl⟩) | (apply JE.done1; exact rfl; (first | (apply Res.tmp; exact rfl) | (apply Res.cell; exact rfl; (repeat (first | exact Pick.here | apply Pick.there)); exact rfl) | (apply Res.cellAN; exact rfl; (repeat (first | exact Pick.here | apply Pick.there)); exact rfl; exact rfl) | (apply Res.cellA; exact rfl; (repeat (first | exact Pick.here | apply Pick.there)); exact rfl; exact rfl))))
  · rename_i hlt
    have h0 : 0 ≤ n / 256 ^ i := Int.ediv_nonneg hn (Int.pow_nonneg (by decide))
    (apply JO.do; exact rfl; exact rfl; exact rfl; (apply Do.append1 (ys := [Value.int .u8 (IntKind.u8.wrap (n / 256 ^ i))]); exact rfl; exact rfl; exact Pick.there Pick.here; exact RdS.arr Pick.here 0 1 1 (Nat.le_refl _) (Nat.le_refl _); (intro q hq; rw [List.mem_singleton.1 hq]; rfl); (show (k + i + 1) * 1 ≤ _; omega)); rintro u' _ ⟨rfl, _⟩)
    repeat' (first | (apply JO.ru; exact rfl; exact rfl; exact rfl; (first | (apply Ru.move; exact rfl) | (apply Ru.assign; exact rfl) | (apply Ru.add; exact rfl; exact rfl; (first | exact wrapI (by omega) (by omega) | exact rfl)) | (apply Ru.shr; exact rfl; exact rfl; decide; exact rfl))) | refine JC.region ?_ | refine JO.nil ?_ | refine JE.thenN ?_ | refine JE.blockN ?_)
    refine JE.round (i + 1, u') (by show i + 1 ≤ many; omega) (by show many - (i + 1) < many - i; omega) ⟨rfl, ?_, rfl, rfl, trivial⟩ ?_
    · show some (u64 _) = some (u64 _)
      rw [shr8 n .u64 (by decide)]
    · intro w s
      have := Sat.weak (l' := ownS u' 5 1 (k + i + 1) _ :: F) (by repeat (first | exact Weak.refl | (apply Weak.cons; (first | exact Pick.here | exact Pick.there Pick.here | exact Pick.there (Pick.there Pick.here) | exact Pick.there (Pick.there (Pick.there Pick.here)) | exact Pick.there (Pick.there (Pick.there (Pick.there Pick.here))) | exact Pick.there (Pick.there (Pick.there (Pick.there (Pick.there Pick.here)))) | exact Pick.there (Pick.there (Pick.there (Pick.there (Pick.there (Pick.there Pick.here))))) | exact Pick.there (Pick.there (Pick.there (Pick.there (Pick.there (Pick.there (Pick.there Pick.here)))))))) | apply Weak.drop)) w s
      rw [List.append_assoc, byte_wrap _ h0] at this
      dsimp only
      rw [leBytes_snoc, List.map_append]
      exact this
  · obtain rfl : i = many := by omega
    exact finS rfl
end Go.Sep
