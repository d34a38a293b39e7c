/- Part 5: bits.Mul, bytes.Repeat, of one byte; shadow: can, best, Format; shadow: Format; shadow: its parts of the heap; shadow: Open; What a shadow's disk tells, whatever is planned to fail: no program in sight; What Open comes to, whatever is planned to fail: no program in sight; What a commit comes to, whatever is planned to fail: no program in sight; What Format comes to, whatever is planned to fail: no program in sight; A call that may panic, in a drawn order; a quiet operation of one's choice; shadow: Commit's closure; bytes.Equal; shadow: Commit; what it tells; The disk: crashed; The statements' own small functions: two lists of bytes the same; a fresh disk; The statements of layer 7: what they are helped by. -/
import Derived.Test.YtbpilaghemkdjaaGreatDoorPs4
set_option linter.all false
/- bits.Mul, bytes.Repeat, of one byte. -/
namespace Go.Sep
open Go Go.Proofs
attribute [local irreducible] JO JC JE JA JQ JB JI Mid Inv Weak ownS Ru Do Fn Sat Pick Take arr pt star ex Holds bodyPost Post Exit.then Exit.inBlock Res
variable {σ : Sig} {F : List HP}
theorem and_mask {a : Int} (h0 : 0 ≤ a) (h1 : a ≤ 4294967295) : Go.bits .and .u64 a 4294967295 = a := by
  obtain ⟨m, rfl⟩ := Int.eq_ofNat_of_zero_le h0
  show IntKind.u64.wrap (((BitVec.ofInt 64 (m : Int)) &&& (BitVec.ofInt 64 ((4294967295 : Nat) : Int))).toNat : Int) = _
  rw [BitVec.ofInt_natCast, BitVec.ofInt_natCast, BitVec.toNat_and, BitVec.toNat_ofNat, BitVec.toNat_ofNat, Nat.mod_eq_of_lt (by omega), Nat.mod_eq_of_lt (by omega),
    show (4294967295 : Nat) = 2 ^ 32 - 1 from rfl, Nat.and_two_pow_sub_one_eq_mod, Nat.mod_eq_of_lt (by omega), wrapU64 (by omega) (by omega)]
theorem shr_32 {a : Int} (h0 : 0 ≤ a) (h1 : a ≤ 4294967295) : a.fdiv (2 ^ min (32 : Int).toNat IntKind.u64.bits) = 0 := by
  have e : min (32 : Int).toNat IntKind.u64.bits = 32 := rfl
  rw [e, Int.fdiv_eq_ediv_of_nonneg _ (by decide)]
  omega
theorem bits_Mul64 (c : Int) (h0 : 0 ≤ c) (h1 : c ≤ 4294967295) : Fn Tryz.prog σ 155 #[u64 1, u64 c] F (fun v l => v = .tuple #[u64 0, u64 c] ∧ l = F) := by
  refine Fn.of Tryz.func155 rfl Tryz.ntmps155 rfl ?_
  repeat' (first
    | (apply JO.ru; exact rfl; exact rfl; exact rfl; (apply Ru.bits; exact .inl rfl; exact rfl; exact rfl; exact and_mask (by omega) (by omega)))
    | (apply JO.ru; exact rfl; exact rfl; exact rfl; (apply Ru.shr; exact rfl; exact rfl; decide; exact shr_32 (by omega) (by omega)))
    | (apply JO.ru; exact rfl; exact rfl; exact rfl; (apply Ru.mul; exact rfl; exact rfl; exact wrapU64 (by omega) (by omega)))
    | (apply JO.ru; exact rfl; exact rfl; exact rfl; (apply Ru.add; exact rfl; exact rfl; exact wrapU64 (by omega) (by omega)))
    | (first | (apply JO.ru; exact rfl; exact rfl; exact rfl; (first | (apply Ru.move; exact rfl) | (apply Ru.assign; exact rfl))) | refine JC.seq ?_ | refine JC.region ?_ | refine JO.nil ?_ | refine JE.thenN ?_ | refine JC.ret ?_ | (apply JE.done2; exact rfl; (first | (apply Res.tmp; exact rfl) | (apply Res.cell; exact rfl; (repeat (first | exact Pick.here | apply Pick.there)); exact rfl) | (apply Res.cellAN; exact rfl; (repeat (first | exact Pick.here | apply Pick.there)); exact rfl; exact rfl) | (apply Res.cellA; exact rfl; (repeat (first | exact Pick.here | apply Pick.there)); exact rfl; exact rfl)); (first | (apply Res.tmp; exact rfl) | (apply Res.cell; exact rfl; (repeat (first | exact Pick.here | apply Pick.there)); exact rfl) | (apply Res.cellAN; exact rfl; (repeat (first | exact Pick.here | apply Pick.there)); exact rfl; exact rfl) | (apply Res.cellA; exact rfl; (repeat (first | exact Pick.here | apply Pick.there)); exact rfl; exact rfl)))))
  refine finS ⟨?_, rfl⟩
  rw [Int.one_mul]; rfl
theorem bits_Mul (c : Int) (h0 : 0 ≤ c) (h1 : c ≤ 4294967295) : Fn Tryz.prog σ 140 #[u64 1, u64 c] F (fun v l => v = .tuple #[u64 0, u64 c] ∧ l = F) := by
  refine Fn.of Tryz.func140 rfl Tryz.ntmps140 rfl ?_
  repeat' (first | (first | (apply JO.ru; exact rfl; exact rfl; exact rfl; (first | (apply Ru.move; exact rfl) | (apply Ru.assign; exact rfl) | (apply Ru.extractN; exact rfl; exact rfl))) | refine JC.seq ?_ | refine JC.region ?_ | refine JO.nil ?_ | refine JE.thenN ?_ | refine JC.ret ?_ | refine JC.skip ?_ | refine JC.condF rfl ?_ | (apply JE.done2; exact rfl; (first | (apply Res.tmp; exact rfl) | (apply Res.cell; exact rfl; (repeat (first | exact Pick.here | apply Pick.there)); exact rfl) | (apply Res.cellAN; exact rfl; (repeat (first | exact Pick.here | apply Pick.there)); exact rfl; exact rfl) | (apply Res.cellA; exact rfl; (repeat (first | exact Pick.here | apply Pick.there)); exact rfl; exact rfl)); (first | (apply Res.tmp; exact rfl) | (apply Res.cell; exact rfl; (repeat (first | exact Pick.here | apply Pick.there)); exact rfl) | (apply Res.cellAN; exact rfl; (repeat (first | exact Pick.here | apply Pick.there)); exact rfl; exact rfl) | (apply Res.cellA; exact rfl; (repeat (first | exact Pick.here | apply Pick.there)); exact rfl; exact rfl)))) | (first | (apply JO.do; exact rfl; exact rfl; exact rfl; (apply Do.call; exact rfl; exact bits_Mul64 c h0 h1); rintro _ _ ⟨rfl, hq⟩; obtain rfl := hq.symm) | (apply JQ.call; exact rfl; exact rfl; exact rfl; exact bits_Mul64 c h0 h1; (rintro _ _ ⟨rfl, rfl⟩; exact ⟨rfl, rfl⟩))))
  exact finS ⟨rfl, rfl⟩
theorem splice_rep (x : Value) (bp m : Nat) (rest : List Value) (h : m ≤ rest.length) : splice (List.replicate bp x ++ rest) bp (List.replicate m x) = List.replicate (bp + m) x ++ rest.drop m := by
  have := splice_append (List.replicate m x) (List.replicate bp x) rest (by rw [List.length_replicate]; exact h)
  rw [List.length_replicate, List.length_replicate] at this
  rw [this, List.replicate_append_replicate]
set_option maxHeartbeats 1000000 in
theorem bytes_Repeat (v : Value) (x : UInt8) (k : Nat) (hk : k ≤ 8192) {l : List HP} (hb : RdS σ l v [byte x]) :
    Fn Tryz.prog σ 130 #[v, int k] l (fun u l' => l' = ownS u 5 1 k (List.replicate k (byte x)) :: l) := by
  obtain ⟨p, cap, hv, hcap, hr⟩ := id hb
  have hv : v = .slice p 1 cap := hv
  subst hv
  clear hr
  have e1 : IntKind.u64.wrap ((1 : Nat) : Int) = 1 := by decide +kernel
  have e2 : IntKind.u64.wrap (k : Int) = k := wrapU64 (by omega) (by omega)
  have e3 : IntKind.i64.wrap (k : Int) = k := wrapI (by omega) (by omega)
  refine Fn.of Tryz.func130 rfl Tryz.ntmps130 rfl ?_
  rcases Nat.eq_zero_or_pos k with rfl | hk0
  · repeat' (first | (apply JO.ru; exact rfl; exact rfl; exact rfl; (first | (apply Ru.move; exact rfl) | (apply Ru.assign; exact rfl) | (apply Ru.eql; exact rfl; exact rfl; (first | exact decT (by omega) | exact decF (by omega))))) | refine JC.seq ?_ | refine JC.region ?_ | refine JO.nil ?_ | refine JE.thenN ?_ | refine JC.condT rfl ?_)
    (apply JO.do; exact rfl; exact rfl; exact rfl; apply Do.buildSlice0; rintro _ _ ⟨b, rfl, rfl⟩)
    refine JO.heap (fun _ s => Sat.ownS_arr (xs := []) (spare := []) (k := 0) (cap := 0) (z := 1) (Nat.le_refl _) rfl (Nat.le_refl _) s) ?_
    repeat' (first | (apply JO.ru; exact rfl; exact rfl; exact rfl; ((apply Ru.assign; exact rfl))) | refine JO.nil ?_ | refine JE.thenN ?_ | refine JE.thenR ?_ | refine JC.ret ?_ | (apply JE.done1; exact rfl; (first | (apply Res.tmp; exact rfl) | (apply Res.cell; exact rfl; (repeat (first | exact Pick.here | apply Pick.there)); exact rfl) | (apply Res.cellAN; exact rfl; (repeat (first | exact Pick.here | apply Pick.there)); exact rfl; exact rfl) | (apply Res.cellA; exact rfl; (repeat (first | exact Pick.here | apply Pick.there)); exact rfl; exact rfl))))
    exact finS rfl
  · repeat' (first
      | (apply JO.ru; exact rfl; exact rfl; exact rfl; (apply Ru.conv; exact rfl; first | exact e1 | exact e2 | exact e3))
      | (first | (apply JO.ru; exact rfl; exact rfl; exact rfl; (first | (apply Ru.move; exact rfl) | (apply Ru.assign; exact rfl) | (apply Ru.lenS; exact rfl) | (apply Ru.lss; exact rfl; exact rfl; (first | exact decT (by omega) | exact decF (by omega))) | (apply Ru.gtr; exact rfl; exact rfl; (first | exact decT (by omega) | exact decF (by omega))) | (apply Ru.eql; exact rfl; exact rfl; (first | exact decT (by omega) | exact decF (by omega))) | (apply Ru.pickF; exact rfl; exact rfl) | (apply Ru.extractN; exact rfl; exact rfl) | (apply Ru.sliceS; exact rfl; exact rfl; exact rfl; exact rfl; (first | exact fun _ => rfl | exact fun h => nomatch h); omega; omega; omega))) | refine JC.seq ?_ | refine JC.region ?_ | refine JO.nil ?_ | refine JE.thenN ?_ | refine JC.skip ?_ | refine JC.condF rfl ?_ | refine JO.guardT rfl rfl rfl rfl ?_) | (first | (apply JO.do; exact rfl; exact rfl; exact rfl; (apply Do.call; exact rfl; exact bits_Mul (k : Int) (by omega) (by omega)); rintro _ _ ⟨rfl, hq⟩; obtain rfl := hq.symm) | (apply JQ.call; exact rfl; exact rfl; exact rfl; exact bits_Mul (k : Int) (by omega) (by omega); (rintro _ _ ⟨rfl, rfl⟩; exact ⟨rfl, rfl⟩)))
      | (apply JO.do; exact rfl; exact rfl; exact rfl; (apply Do.makeNoZero; exact rfl; omega); rintro _ _ ⟨b2, cs, rfl, hcs, rfl⟩))
    have k1 : 0 + Int.toNat ((0 : Nat) : Int) * 1 = 0 := rfl
    have k2 : ((k : Int) - ((0 : Nat) : Int)).toNat = k := by omega
    rw [k1, k2]
    (apply JO.do; exact rfl; exact rfl; exact rfl; (apply Do.copy; exact rfl; exact rfl; exact Pick.here; exact hb.cons; omega; (intro q hq; rw [List.mem_singleton.1 hq]; rfl)); rintro _ _ ⟨rfl, rfl⟩)
    have m1 : min 1 k = 1 := by omega
    have m2 : splice cs 0 ([byte x].take 1) = List.replicate 1 (byte x) ++ cs.drop 1 := splice_rep (byte x) 0 1 cs (by omega)
    rw [m1, m2]
    repeat' (first | (apply JO.ru; exact rfl; exact rfl; exact rfl; ((apply Ru.assign; exact rfl))) | refine JC.seq ?_ | refine JO.nil ?_ | refine JE.thenN ?_ | refine JC.block ?_)
    refine JC.loop (fun i : Nat => [(7, int k), (8, int k), (9, .slice (some ⟨b2, 0, none⟩) k k), (10, int i)]) (fun i => arr b2 5 (List.replicate i (byte x) ++ cs.drop i) :: l) (fun i => 1 ≤ i ∧ i ≤ k) (fun i => k - i) 1 ⟨Nat.le_refl _, hk0⟩ ⟨rfl, rfl, rfl, rfl, trivial⟩ (fun _ h => h) ?_
    intro i hi
    repeat' (first | (first | (apply JO.ru; exact rfl; exact rfl; exact rfl; (first | (apply Ru.move; exact rfl) | (apply Ru.assign; exact rfl))) | refine JC.seq ?_ | refine JC.region ?_ | refine JO.nil ?_ | refine JE.thenN ?_ | refine JE.thenE ?_ | refine JE.blockE ?_ | refine JC.block ?_ | refine JC.ret ?_ | refine JC.skip ?_ | refine JC.exit ?_ | refine JC.condT rfl ?_ | refine JC.condF rfl ?_ | (apply JO.split; exact rfl; exact rfl; exact rfl; ((apply Ru.lss; exact rfl; exact rfl; exact rfl)); all_goals intro _) | (apply JE.done1; exact rfl; (first | (apply Res.tmp; exact rfl) | (apply Res.cell; exact rfl; (repeat (first | exact Pick.here | apply Pick.there)); exact rfl) | (apply Res.cellAN; exact rfl; (repeat (first | exact Pick.here | apply Pick.there)); exact rfl; exact rfl) | (apply Res.cellA; exact rfl; (repeat (first | exact Pick.here | apply Pick.there)); exact rfl; exact rfl)))) | (apply JO.ru; exact rfl; exact rfl; exact rfl; (apply Ru.min2; exact rfl; exact rfl)))
    · rw [if_neg (by omega)]
      repeat' (fail)
      refine JC.regionB l mixed ?_
      repeat' ((apply JB.ru; exact rfl; exact rfl; exact rfl; exact rfl; (first | (apply Ru.move; exact rfl) | (apply Ru.sliceS; exact rfl; exact rfl; exact rfl; exact rfl; (first | exact fun _ => rfl | exact fun h => nomatch h); omega; omega; omega)); decide +kernel; decide +kernel; (first | exact fun _ h => h | exact fun _ h => Sat.drop h | exact fun _ h => Sat.drop (Sat.drop h) | exact fun _ h => Sat.drop (Sat.drop (Sat.drop h)) | exact fun _ h => Sat.drop (Sat.drop (Sat.drop (Sat.drop h)))); (simp only [Nat.reduceAdd, Nat.reducePow, Nat.reduceMul, Nat.zero_or, Nat.or_zero, Nat.reduceXor, Nat.reduceOr]; try exact rfl)))
      refine JB.one 7 (by decide +kernel) ?_
      have hrs : RdS σ (arr b2 5 (List.replicate i (byte x) ++ cs.drop i) :: l) (.slice (some ⟨b2, 0 + Int.toNat ((0 : Nat) : Int) * 1, none⟩) ((i : Int) - ((0 : Nat) : Int)).toNat ((k : Int) - ((0 : Nat) : Int)).toNat) (List.replicate i (byte x)) := by
        have := RdS.arr (σ := σ) (l := arr b2 5 (List.replicate i (byte x) ++ cs.drop i) :: l) Pick.here 0 i k (by simp) hi.2
        have e1 : ((i : Int) - ((0 : Nat) : Int)).toNat = i := by omega
        rw [k1, e1, k2]
        simpa using this
      (apply JI.do; exact rfl; exact rfl; exact rfl; exact rfl; (apply Do.copy (ys := List.replicate i (byte x)); exact rfl; exact rfl; exact Pick.here; exact hrs; (rw [List.length_append, List.length_replicate, List.length_drop]; omega); (intro q hq; rw [List.eq_of_mem_replicate hq]; rfl)); (simp only [Nat.reduceAdd, Nat.reducePow, Nat.reduceMul, Nat.zero_or, Nat.or_zero, Nat.reduceXor, Nat.reduceOr]; try exact rfl); rintro _ _ ⟨rfl, rfl⟩; refine ⟨fun _ s => s.drop, ?_⟩)
      repeat' (first | (apply JB.ru; exact rfl; exact rfl; exact rfl; exact rfl; (first | (apply Ru.assign; exact rfl) | (apply Ru.add; exact rfl; exact rfl; (first | exact wrapI (by omega) (by omega) | exact rfl))); decide +kernel; decide +kernel; (first | exact fun _ h => h | exact fun _ h => Sat.drop h | exact fun _ h => Sat.drop (Sat.drop h) | exact fun _ h => Sat.drop (Sat.drop (Sat.drop h)) | exact fun _ h => Sat.drop (Sat.drop (Sat.drop (Sat.drop h)))); (simp only [Nat.reduceAdd, Nat.reducePow, Nat.reduceMul, Nat.zero_or, Nat.or_zero, Nat.reduceXor, Nat.reduceOr]; try exact rfl)) | (apply JB.nil; exact rfl))
      obtain ⟨m, hm⟩ : ∃ m, min ((i : Int) - ((0 : Nat) : Int)).toNat ((k : Int) - i).toNat = m := ⟨_, rfl⟩
      have n1 : 0 + Int.toNat (i : Int) * 1 = i := by omega
      have n2 : (List.replicate i (byte x)).take m = List.replicate m (byte x) := by rw [List.take_replicate]; congr 1; omega
      rw [hm, n1, n2, splice_rep (byte x) i m (cs.drop i) (by rw [List.length_drop]; omega), List.drop_drop]
      repeat' (refine JE.blockN ?_)
      refine JE.round (i + m) (by omega) (by omega) ⟨rfl, rfl, rfl, ?_, trivial⟩ (fun _ h => h)
      show some _ = some (int _)
      rw [Int.natCast_add]
    · obtain rfl : i = k := by omega
      refine ⟨_, fun _ s => Sat.ownS_arr (xs := List.replicate i (byte x)) (spare := cs.drop i) (k := i) (cap := i) (z := 1) (Nat.le_refl _) (by simp) (by simp) s, rfl⟩
theorem image_sizes (e f s : Int) {l : List HP} [hg : InG l] : Fn Tryz.prog σ 129 #[geoV e f s] l (fun v l' => v = .tuple #[int (epSize e), int (flSize f), int (srSize s)] ∧ l' = l) := by
  refine Fn.of Tryz.func129 rfl Tryz.ntmps129 rfl ?_
  repeat' (first | (first | (apply JO.ru; exact rfl; exact rfl; exact rfl; ((apply Ru.assign; exact rfl))) | refine JC.seq ?_ | refine JC.region ?_ | refine JO.nil ?_ | refine JE.thenN ?_ | refine JC.ret ?_ | (apply JQ.ru; exact rfl; exact rfl; exact rfl; (first | (apply Ru.loadN; exact rfl; (repeat (first | exact Pick.here | apply Pick.there)); exact rfl) | (apply Ru.fieldAddr; exact rfl) | (apply Ru.assign; exact rfl))) | refine JQ.nil ?_ | (apply JO.do; exact rfl; exact rfl; exact rfl; (first | (apply Do.boxN; exact rfl; exact rfl) | (apply Do.box; exact rfl)); rintro _ _ ⟨_, rfl, rfl⟩) | refine JC.regionQ mixed (by decide +kernel) ?_) | (apply JQ.call; exact rfl; exact rfl; exact rfl; exact geo_Eeprom _; (rintro _ _ ⟨rfl, rfl⟩; exact ⟨rfl, rfl⟩)) | (apply JQ.call; exact rfl; exact rfl; exact rfl; exact geo_Flash _; (rintro _ _ ⟨rfl, rfl⟩; exact ⟨rfl, rfl⟩)) | (apply JQ.call; exact rfl; exact rfl; exact rfl; exact geo_Sram _; (rintro _ _ ⟨rfl, rfl⟩; exact ⟨rfl, rfl⟩)))
  (apply JE.done3; exact rfl; (apply Res.tmp; exact rfl); (apply Res.tmp; exact rfl); (apply Res.tmp; exact rfl))
  exact ⟨l, Sat.weak (by repeat (first | exact Weak.refl | (apply Weak.cons; (first | exact Pick.here | exact Pick.there Pick.here | exact Pick.there (Pick.there Pick.here) | exact Pick.there (Pick.there (Pick.there Pick.here)) | exact Pick.there (Pick.there (Pick.there (Pick.there Pick.here))) | exact Pick.there (Pick.there (Pick.there (Pick.there (Pick.there Pick.here)))) | exact Pick.there (Pick.there (Pick.there (Pick.there (Pick.there (Pick.there Pick.here))))) | exact Pick.there (Pick.there (Pick.there (Pick.there (Pick.there (Pick.there (Pick.there Pick.here)))))))) | apply Weak.drop)), rfl, rfl⟩
def factB (e f s : Int) : List UInt8 := List.replicate (epSize e + flSize f).toNat 255 ++ List.replicate (srSize s).toNat 0
theorem factB_length {e f s : Int} (h : rightG e f s = true) : ((factB e f s).length : Int) = totG e f s := by
  have h1 := epSize_bd e; have h2 := flSize_bd f; have h3 := srSize_bd s
  unfold totG factB
  rw [if_pos h, List.length_append, List.length_replicate, List.length_replicate]
  omega
set_option maxHeartbeats 1000000 in
theorem image_Factory (e f s : Int) (hr : rightG e f s = true) (ht : totG e f s ≤ 8192) {l : List HP} [hg : InG l] :
    Fn Tryz.prog σ 88 #[geoV e f s] l (fun v l' => ∃ u, v = .tuple #[u, int 0] ∧ l' = bytesHP u (factB e f s) :: l) := by
  have h1 := epSize_bd e; have h2 := flSize_bd f; have h3 := srSize_bd s
  have h4 : totG e f s = epSize e + flSize f + srSize s := by unfold totG; rw [if_pos hr]
  obtain ⟨k, hk⟩ : ∃ k, (epSize e + flSize f).toNat = k := ⟨_, rfl⟩
  obtain ⟨m, hm⟩ : ∃ m, (srSize s).toNat = m := ⟨_, rfl⟩
  have hk' : epSize e + flSize f = k := by omega
  have hm' : srSize s = m := by omega
  have hR : ∀ G, Fn Tryz.prog σ 100 #[geoV e f s] G (fun v l => v = .bool true ∧ l = G) := fun G => by have := geo_Right (σ := σ) (F := G) e f s; rw [hr] at this; exact this
  have hS : ∀ (G : List HP) [InG G], Fn Tryz.prog σ 129 #[geoV e f s] G (fun v l' => v = .tuple #[int (epSize e), int (flSize f), int (srSize s)] ∧ l' = G) := fun G _ => image_sizes e f s
  rw [hm'] at hS
  refine Fn.of Tryz.func88 rfl Tryz.ntmps88 rfl ?_
  repeat' (first | (first | (apply JO.ru; exact rfl; exact rfl; exact rfl; (first | (apply Ru.move; exact rfl) | (apply Ru.assign; exact rfl) | (apply Ru.add; exact rfl; exact rfl; (first | exact wrapI (by omega) (by omega) | exact rfl)) | (apply Ru.not; exact rfl) | (apply Ru.extractN; exact rfl; exact rfl) | (apply Ru.loadAN; exact rfl; (repeat (first | exact Pick.here | apply Pick.there)); exact rfl; exact rfl))) | refine JC.seq ?_ | refine JC.region ?_ | refine JO.nil ?_ | refine JE.thenN ?_ | refine JC.skip ?_ | refine JC.condF rfl ?_ | (apply JO.do; exact rfl; exact rfl; exact rfl; (first | (apply Do.boxN; exact rfl; exact rfl) | (apply Do.box; exact rfl)); rintro _ _ ⟨_, rfl, rfl⟩) | (apply JO.do; exact rfl; exact rfl; exact rfl; (first | (apply Do.buildSliceN; exact rfl; exact rfl; exact rfl; exact rfl) | (apply Do.buildSlice; exact rfl; exact rfl; exact rfl; exact rfl)); rintro _ _ ⟨_, rfl, rfl⟩)) | (first | (apply JO.do; exact rfl; exact rfl; exact rfl; (apply Do.call; exact rfl; exact hR _); rintro _ _ ⟨rfl, hq⟩; obtain rfl := hq.symm) | (apply JQ.call; exact rfl; exact rfl; exact rfl; exact hR _; (rintro _ _ ⟨rfl, rfl⟩; exact ⟨rfl, rfl⟩))) | (first | (apply JO.do; exact rfl; exact rfl; exact rfl; (apply Do.call; exact rfl; exact hS _); rintro _ _ ⟨rfl, hq⟩; obtain rfl := hq.symm) | (apply JQ.call; exact rfl; exact rfl; exact rfl; exact hS _; (rintro _ _ ⟨rfl, rfl⟩; exact ⟨rfl, rfl⟩))))
  rename_i gb _ bb
  rw [hk']
  have hrd : RdS σ (arr bb 5 [u8 255] :: arr gb 23 [int e, int f, int s] :: l) (.slice (some ⟨bb, 0, none⟩) 1 1) [byte 255] := RdS.arr (vs := [byte 255]) Pick.here 0 1 1 (Nat.le_refl _) (Nat.le_refl _)
  (apply JO.do; exact rfl; exact rfl; exact rfl; (apply Do.call; exact rfl; exact bytes_Repeat _ 255 k (by omega) hrd); rintro u _ rfl)
  repeat' ((apply JO.ru; exact rfl; exact rfl; exact rfl; ((apply Ru.move; exact rfl))))
  (apply JO.do; exact rfl; exact rfl; exact rfl; (apply Do.appendMake; exact rfl; exact rfl; exact Pick.here; (show (k + m) * 1 ≤ _; omega); exact rfl; exact rfl; exact rfl); rintro u2 _ ⟨rfl, _⟩)
  repeat' (first | (apply JO.ru; exact rfl; exact rfl; exact rfl; ((apply Ru.assign; exact rfl))) | refine JO.nil ?_ | refine JE.thenN ?_ | refine JC.ret ?_ | (apply JE.done2; exact rfl; (first | (apply Res.tmp; exact rfl) | (apply Res.cell; exact rfl; (repeat (first | exact Pick.here | apply Pick.there)); exact rfl) | (apply Res.cellAN; exact rfl; (repeat (first | exact Pick.here | apply Pick.there)); exact rfl; exact rfl) | (apply Res.cellA; exact rfl; (repeat (first | exact Pick.here | apply Pick.there)); exact rfl; exact rfl)); (first | (apply Res.tmp; exact rfl) | (apply Res.cell; exact rfl; (repeat (first | exact Pick.here | apply Pick.there)); exact rfl) | (apply Res.cellAN; exact rfl; (repeat (first | exact Pick.here | apply Pick.there)); exact rfl; exact rfl) | (apply Res.cellA; exact rfl; (repeat (first | exact Pick.here | apply Pick.there)); exact rfl; exact rfl))))
  refine ⟨bytesHP u2 (factB e f s) :: l, ?_, _, rfl, rfl⟩
  have e1 : (factB e f s).map byte = List.replicate k (byte 255) ++ List.replicate m (byte 0) := by unfold factB; rw [hk, hm]; simp
  have e2 : (factB e f s).length = k + m := by unfold factB; rw [hk, hm]; simp
  unfold bytesHP
  rw [e1, e2]
  exact Sat.weak (by repeat (first | exact Weak.refl | (apply Weak.cons; (first | exact Pick.here | exact Pick.there Pick.here | exact Pick.there (Pick.there Pick.here) | exact Pick.there (Pick.there (Pick.there Pick.here)) | exact Pick.there (Pick.there (Pick.there (Pick.there Pick.here))) | exact Pick.there (Pick.there (Pick.there (Pick.there (Pick.there Pick.here)))) | exact Pick.there (Pick.there (Pick.there (Pick.there (Pick.there (Pick.there Pick.here))))) | exact Pick.there (Pick.there (Pick.there (Pick.there (Pick.there (Pick.there (Pick.there Pick.here)))))))) | apply Weak.drop))
end Go.Sep
/- shadow: can, best, Format. -/
namespace Go.Sep
open Go Go.Proofs
attribute [local irreducible] JO JC JE JA JQ JB JI Mid Inv Weak ownS Ru Do Fn Sat Pick Take arr pt star ex Holds bodyPost Post Exit.then Exit.inBlock Res
variable {σ : Sig} {F : List HP}
attribute [local irreducible] diskHP cacheHP planHP rowHP FnX PostX
theorem atE_zero (D : DiskN) (e f s : Int) : atE D 0 e f s = if rightG e f s = false then 9 else if (D.size : Int) < 32 then 1 else if (D.count : Int) < 2 * spanG D.size e f s then 4 else 0 := by
  unfold atE
  split
  · rfl
  · by_cases h : (D.size : Int) < 32
    · rw [if_pos (by omega), if_pos h]
    · rw [if_neg (by omega), if_neg h]
set_option maxHeartbeats 1000000 in
theorem shadow_can (d : Nat) (D : DiskN) (e f s : Int) (hD : D.WF) {l : List HP} [hg : InG l] :
    Fn Tryz.prog σ 91 #[.pointer (some ⟨d, 0, none⟩), geoV e f s] (diskHP d D :: l) (fun v l' => v = int (atE D 0 e f s) ∧ l' = diskHP d D :: l) := by
  have hz2 := hD.hz2
  have hcn := hD.cnt
  have hsp := spanG_bd D.size e f s
  rw [atE_zero]
  refine Fn.of Tryz.func91 rfl Tryz.ntmps91 rfl ?_
  rcases hr : rightG e f s with _ | _
  · repeat' (first | (first | (apply JO.ru; exact rfl; exact rfl; exact rfl; (first | (apply Ru.assign; exact rfl) | (apply Ru.not; exact rfl) | (apply Ru.loadAN; exact rfl; (repeat (first | exact Pick.here | apply Pick.there)); exact rfl; exact rfl))) | refine JC.seq ?_ | refine JC.region ?_ | refine JO.nil ?_ | refine JE.thenN ?_ | refine JE.thenR ?_ | refine JE.blockR ?_ | refine JC.block ?_ | refine JC.ret ?_ | refine JC.condT rfl ?_ | (apply JO.do; exact rfl; exact rfl; exact rfl; (first | (apply Do.boxN; exact rfl; exact rfl) | (apply Do.box; exact rfl)); rintro _ _ ⟨_, rfl, rfl⟩) | (apply JE.done1; exact rfl; (first | (apply Res.tmp; exact rfl) | (apply Res.cell; exact rfl; (repeat (first | exact Pick.here | apply Pick.there)); exact rfl) | (apply Res.cellAN; exact rfl; (repeat (first | exact Pick.here | apply Pick.there)); exact rfl; exact rfl) | (apply Res.cellA; exact rfl; (repeat (first | exact Pick.here | apply Pick.there)); exact rfl; exact rfl)))) | ((first | (apply JO.do; exact rfl; exact rfl; exact rfl; (apply Do.call; exact rfl; exact geo_Right _ _ _); rintro _ _ ⟨rfl, hq⟩; obtain rfl := hq.symm) | (apply JQ.call; exact rfl; exact rfl; exact rfl; exact geo_Right _ _ _; (rintro _ _ ⟨rfl, rfl⟩; exact ⟨rfl, rfl⟩))); rw [hr]))
    exact ⟨diskHP d D :: l, Sat.weak (by repeat (first | exact Weak.refl | (apply Weak.cons; (first | exact Pick.here | exact Pick.there Pick.here | exact Pick.there (Pick.there Pick.here) | exact Pick.there (Pick.there (Pick.there Pick.here)) | exact Pick.there (Pick.there (Pick.there (Pick.there Pick.here))) | exact Pick.there (Pick.there (Pick.there (Pick.there (Pick.there Pick.here)))) | exact Pick.there (Pick.there (Pick.there (Pick.there (Pick.there (Pick.there Pick.here))))) | exact Pick.there (Pick.there (Pick.there (Pick.there (Pick.there (Pick.there (Pick.there Pick.here)))))))) | apply Weak.drop)), rfl, rfl⟩
  by_cases h2 : (D.size : Int) < 32
  · rw [if_neg (by simp), if_pos h2]
    repeat' (first | (first | (apply JO.ru; exact rfl; exact rfl; exact rfl; (first | (apply Ru.move; exact rfl) | (apply Ru.assign; exact rfl) | (apply Ru.lss; exact rfl; exact rfl; (first | exact decT (by omega) | exact decF (by omega))) | (apply Ru.not; exact rfl) | (apply Ru.loadAN; exact rfl; (repeat (first | exact Pick.here | apply Pick.there)); exact rfl; exact rfl))) | refine JC.seq ?_ | refine JC.region ?_ | refine JO.nil ?_ | refine JE.thenN ?_ | refine JE.thenR ?_ | refine JE.blockR ?_ | refine JC.block ?_ | refine JC.ret ?_ | refine JC.condT rfl ?_ | refine JC.condF rfl ?_ | (apply JO.do; exact rfl; exact rfl; exact rfl; (first | (apply Do.boxN; exact rfl; exact rfl) | (apply Do.box; exact rfl)); rintro _ _ ⟨_, rfl, rfl⟩) | (apply JE.done1; exact rfl; (first | (apply Res.tmp; exact rfl) | (apply Res.cell; exact rfl; (repeat (first | exact Pick.here | apply Pick.there)); exact rfl) | (apply Res.cellAN; exact rfl; (repeat (first | exact Pick.here | apply Pick.there)); exact rfl; exact rfl) | (apply Res.cellA; exact rfl; (repeat (first | exact Pick.here | apply Pick.there)); exact rfl; exact rfl)))) | ((first | (apply JO.do; exact rfl; exact rfl; exact rfl; (apply Do.call; exact rfl; exact geo_Right _ _ _); rintro _ _ ⟨rfl, hq⟩; obtain rfl := hq.symm) | (apply JQ.call; exact rfl; exact rfl; exact rfl; exact geo_Right _ _ _; (rintro _ _ ⟨rfl, rfl⟩; exact ⟨rfl, rfl⟩))); rw [hr]) | (first | (apply JO.do; exact rfl; exact rfl; exact rfl; (apply Do.call; exact rfl; exact disk_SizeC d D (by repeat (first | exact Pick.here | apply Pick.there))); rintro _ _ ⟨rfl, hq⟩; obtain rfl := hq.symm) | (apply JQ.call; exact rfl; exact rfl; exact rfl; exact disk_SizeC d D (by repeat (first | exact Pick.here | apply Pick.there)); (rintro _ _ ⟨rfl, rfl⟩; exact ⟨rfl, rfl⟩))))
    all_goals exact ⟨diskHP d D :: l, Sat.weak (by repeat (first | exact Weak.refl | (apply Weak.cons; (first | exact Pick.here | exact Pick.there Pick.here | exact Pick.there (Pick.there Pick.here) | exact Pick.there (Pick.there (Pick.there Pick.here)) | exact Pick.there (Pick.there (Pick.there (Pick.there Pick.here))) | exact Pick.there (Pick.there (Pick.there (Pick.there (Pick.there Pick.here)))) | exact Pick.there (Pick.there (Pick.there (Pick.there (Pick.there (Pick.there Pick.here))))) | exact Pick.there (Pick.there (Pick.there (Pick.there (Pick.there (Pick.there (Pick.there Pick.here)))))))) | apply Weak.drop)), rfl, rfl⟩
  rw [if_neg (by simp), if_neg h2]
  by_cases h3 : (D.count : Int) < 2 * spanG D.size e f s
  · rw [if_pos h3]
    repeat' (first | (first | (apply JO.ru; exact rfl; exact rfl; exact rfl; (first | (apply Ru.move; exact rfl) | (apply Ru.assign; exact rfl) | (apply Ru.lss; exact rfl; exact rfl; (first | exact decT (by omega) | exact decF (by omega))) | (apply Ru.not; exact rfl) | (apply Ru.loadAN; exact rfl; (repeat (first | exact Pick.here | apply Pick.there)); exact rfl; exact rfl))) | refine JC.seq ?_ | refine JC.region ?_ | refine JO.nil ?_ | refine JE.thenN ?_ | refine JE.thenR ?_ | refine JE.blockR ?_ | refine JC.block ?_ | refine JC.ret ?_ | refine JC.condT rfl ?_ | refine JC.condF rfl ?_ | (apply JQ.ru; exact rfl; exact rfl; exact rfl; (first | (apply Ru.move; exact rfl) | (apply Ru.assign; exact rfl) | (apply Ru.lss; exact rfl; exact rfl; (first | exact decT (by omega) | exact decF (by omega))) | (apply Ru.loadAN; exact rfl; (repeat (first | exact Pick.here | apply Pick.there)); exact rfl; exact rfl))) | refine JQ.nil ?_ | (apply JO.do; exact rfl; exact rfl; exact rfl; (first | (apply Do.boxN; exact rfl; exact rfl) | (apply Do.box; exact rfl)); rintro _ _ ⟨_, rfl, rfl⟩) | refine JC.regionQ mixed (by decide +kernel) ?_ | (apply JE.done1; exact rfl; (first | (apply Res.tmp; exact rfl) | (apply Res.cell; exact rfl; (repeat (first | exact Pick.here | apply Pick.there)); exact rfl) | (apply Res.cellAN; exact rfl; (repeat (first | exact Pick.here | apply Pick.there)); exact rfl; exact rfl) | (apply Res.cellA; exact rfl; (repeat (first | exact Pick.here | apply Pick.there)); exact rfl; exact rfl)))) | ((first | (apply JO.do; exact rfl; exact rfl; exact rfl; (apply Do.call; exact rfl; exact geo_Right _ _ _); rintro _ _ ⟨rfl, hq⟩; obtain rfl := hq.symm) | (apply JQ.call; exact rfl; exact rfl; exact rfl; exact geo_Right _ _ _; (rintro _ _ ⟨rfl, rfl⟩; exact ⟨rfl, rfl⟩))); rw [hr]) | (first | (apply JO.do; exact rfl; exact rfl; exact rfl; (apply Do.call; exact rfl; exact disk_SizeC d D (by repeat (first | exact Pick.here | apply Pick.there))); rintro _ _ ⟨rfl, hq⟩; obtain rfl := hq.symm) | (apply JQ.call; exact rfl; exact rfl; exact rfl; exact disk_SizeC d D (by repeat (first | exact Pick.here | apply Pick.there)); (rintro _ _ ⟨rfl, rfl⟩; exact ⟨rfl, rfl⟩))) | (first | (apply JO.do; exact rfl; exact rfl; exact rfl; (apply Do.call; exact rfl; exact disk_SectorsC d D hD (by repeat (first | exact Pick.here | apply Pick.there))); rintro _ _ ⟨rfl, hq⟩; obtain rfl := hq.symm) | (apply JQ.call; exact rfl; exact rfl; exact rfl; exact disk_SectorsC d D hD (by repeat (first | exact Pick.here | apply Pick.there)); (rintro _ _ ⟨rfl, rfl⟩; exact ⟨rfl, rfl⟩))) | (first | (apply JO.do; exact rfl; exact rfl; exact rfl; (apply Do.call; exact rfl; exact slot_Room _ _ _ _); rintro _ _ ⟨rfl, hq⟩; obtain rfl := hq.symm) | (apply JQ.call; exact rfl; exact rfl; exact rfl; exact slot_Room _ _ _ _; (rintro _ _ ⟨rfl, rfl⟩; exact ⟨rfl, rfl⟩))))
    all_goals exact ⟨diskHP d D :: l, Sat.weak (by repeat (first | exact Weak.refl | (apply Weak.cons; (first | exact Pick.here | exact Pick.there Pick.here | exact Pick.there (Pick.there Pick.here) | exact Pick.there (Pick.there (Pick.there Pick.here)) | exact Pick.there (Pick.there (Pick.there (Pick.there Pick.here))) | exact Pick.there (Pick.there (Pick.there (Pick.there (Pick.there Pick.here)))) | exact Pick.there (Pick.there (Pick.there (Pick.there (Pick.there (Pick.there Pick.here))))) | exact Pick.there (Pick.there (Pick.there (Pick.there (Pick.there (Pick.there (Pick.there Pick.here)))))))) | apply Weak.drop)), rfl, rfl⟩
  · rw [if_neg h3]
    repeat' (first | (first | (apply JO.ru; exact rfl; exact rfl; exact rfl; (first | (apply Ru.move; exact rfl) | (apply Ru.assign; exact rfl) | (apply Ru.lss; exact rfl; exact rfl; (first | exact decT (by omega) | exact decF (by omega))) | (apply Ru.not; exact rfl) | (apply Ru.loadAN; exact rfl; (repeat (first | exact Pick.here | apply Pick.there)); exact rfl; exact rfl))) | refine JC.seq ?_ | refine JC.region ?_ | refine JO.nil ?_ | refine JE.thenN ?_ | refine JE.blockN ?_ | refine JC.block ?_ | refine JC.ret ?_ | refine JC.skip ?_ | refine JC.condF rfl ?_ | (apply JQ.ru; exact rfl; exact rfl; exact rfl; (first | (apply Ru.move; exact rfl) | (apply Ru.assign; exact rfl) | (apply Ru.lss; exact rfl; exact rfl; (first | exact decT (by omega) | exact decF (by omega))) | (apply Ru.loadAN; exact rfl; (repeat (first | exact Pick.here | apply Pick.there)); exact rfl; exact rfl))) | refine JQ.nil ?_ | (apply JO.do; exact rfl; exact rfl; exact rfl; (first | (apply Do.boxN; exact rfl; exact rfl) | (apply Do.box; exact rfl)); rintro _ _ ⟨_, rfl, rfl⟩) | refine JC.regionQ mixed (by decide +kernel) ?_ | (apply JE.done1; exact rfl; (first | (apply Res.tmp; exact rfl) | (apply Res.cell; exact rfl; (repeat (first | exact Pick.here | apply Pick.there)); exact rfl) | (apply Res.cellAN; exact rfl; (repeat (first | exact Pick.here | apply Pick.there)); exact rfl; exact rfl) | (apply Res.cellA; exact rfl; (repeat (first | exact Pick.here | apply Pick.there)); exact rfl; exact rfl)))) | ((first | (apply JO.do; exact rfl; exact rfl; exact rfl; (apply Do.call; exact rfl; exact geo_Right _ _ _); rintro _ _ ⟨rfl, hq⟩; obtain rfl := hq.symm) | (apply JQ.call; exact rfl; exact rfl; exact rfl; exact geo_Right _ _ _; (rintro _ _ ⟨rfl, rfl⟩; exact ⟨rfl, rfl⟩))); rw [hr]) | (first | (apply JO.do; exact rfl; exact rfl; exact rfl; (apply Do.call; exact rfl; exact disk_SizeC d D (by repeat (first | exact Pick.here | apply Pick.there))); rintro _ _ ⟨rfl, hq⟩; obtain rfl := hq.symm) | (apply JQ.call; exact rfl; exact rfl; exact rfl; exact disk_SizeC d D (by repeat (first | exact Pick.here | apply Pick.there)); (rintro _ _ ⟨rfl, rfl⟩; exact ⟨rfl, rfl⟩))) | (first | (apply JO.do; exact rfl; exact rfl; exact rfl; (apply Do.call; exact rfl; exact disk_SectorsC d D hD (by repeat (first | exact Pick.here | apply Pick.there))); rintro _ _ ⟨rfl, hq⟩; obtain rfl := hq.symm) | (apply JQ.call; exact rfl; exact rfl; exact rfl; exact disk_SectorsC d D hD (by repeat (first | exact Pick.here | apply Pick.there)); (rintro _ _ ⟨rfl, rfl⟩; exact ⟨rfl, rfl⟩))) | (first | (apply JO.do; exact rfl; exact rfl; exact rfl; (apply Do.call; exact rfl; exact slot_Room _ _ _ _); rintro _ _ ⟨rfl, hq⟩; obtain rfl := hq.symm) | (apply JQ.call; exact rfl; exact rfl; exact rfl; exact slot_Room _ _ _ _; (rintro _ _ ⟨rfl, rfl⟩; exact ⟨rfl, rfl⟩))))
    all_goals exact ⟨diskHP d D :: l, Sat.weak (by repeat (first | exact Weak.refl | (apply Weak.cons; (first | exact Pick.here | exact Pick.there Pick.here | exact Pick.there (Pick.there Pick.here) | exact Pick.there (Pick.there (Pick.there Pick.here)) | exact Pick.there (Pick.there (Pick.there (Pick.there Pick.here))) | exact Pick.there (Pick.there (Pick.there (Pick.there (Pick.there Pick.here)))) | exact Pick.there (Pick.there (Pick.there (Pick.there (Pick.there (Pick.there Pick.here))))) | exact Pick.there (Pick.there (Pick.there (Pick.there (Pick.there (Pick.there (Pick.there Pick.here)))))))) | apply Weak.drop)), rfl, rfl⟩
/-- Which of both slots counts: the second one? -/
def pickB (s1 q1 s2 q2 : Int) : Bool := decide ((s2 = 2 ∧ (s1 ≠ 2 ∨ q1 < q2)) ∨ (s1 ≠ 2 ∧ s1 ≠ 1))
set_option maxHeartbeats 1000000 in
theorem shadow_best (s1 w1 q1 s2 w2 q2 : Int) (p1 p2 : Option Addr) (n1 c1 n2 c2 : Nat) {l : List HP} :
    Fn Tryz.prog σ 92 #[.agg #[int s1, int w1, u64 q1, .slice p1 n1 c1], .agg #[int s2, int w2, u64 q2, .slice p2 n2 c2]] l
      (fun v l' => l' = l ∧ if pickB s1 q1 s2 q2 = true then v = .tuple #[.agg #[int s2, int w2, u64 q2, .slice p2 n2 c2], int 1] else v = .tuple #[.agg #[int s1, int w1, u64 q1, .slice p1 n1 c1], int 0]) := by
  obtain ⟨p, hp⟩ : ∃ p, pickB s1 q1 s2 q2 = p := ⟨_, rfl⟩
  rw [hp]
  simp only [pickB] at hp
  refine Fn.of Tryz.func92 rfl Tryz.ntmps92 rfl ?_
  repeat' (first | (first | (apply JO.ru; exact rfl; exact rfl; exact rfl; (first | (apply Ru.move; exact rfl) | (apply Ru.loadN; exact rfl; (repeat (first | exact Pick.here | apply Pick.there)); exact rfl) | (apply Ru.fieldAddr; exact rfl) | (apply Ru.assign; exact rfl) | (apply Ru.eql; exact rfl; exact rfl; (first | exact decT (by omega) | exact decF (by omega))) | (apply Ru.pickT; exact rfl; exact rfl) | (apply Ru.pickF; exact rfl; exact rfl) | (apply Ru.loadAN; exact rfl; (repeat (first | exact Pick.here | apply Pick.there)); exact rfl; exact rfl))) | refine JC.seq ?_ | refine JC.region ?_ | refine JO.nil ?_ | refine JE.thenN ?_ | refine JE.thenR ?_ | refine JE.blockN ?_ | refine JE.blockR ?_ | refine JC.block ?_ | refine JC.ret ?_ | refine JC.skip ?_ | refine JC.condT rfl ?_ | refine JC.condF rfl ?_ | (apply JO.split; exact rfl; exact rfl; exact rfl; (first | (apply Ru.gtr; exact rfl; exact rfl; exact rfl) | (apply Ru.eql; exact rfl; exact rfl; exact rfl)); all_goals intro _) | (apply JO.splitN; exact rfl; exact rfl; exact rfl; (apply Ru.neq; exact rfl; exact rfl; exact rfl); all_goals intro _) | refine JO.guardF rfl rfl rfl rfl rfl rfl rfl ?_ | refine JO.guardT rfl rfl rfl rfl ?_ | (apply JO.do; exact rfl; exact rfl; exact rfl; (first | (apply Do.allocN; exact rfl) | apply Do.alloc); rintro _ _ ⟨_, rfl, rfl⟩) | (apply JO.do; exact rfl; exact rfl; exact rfl; (first | (apply Do.boxN; exact rfl; exact rfl) | (apply Do.box; exact rfl)); rintro _ _ ⟨_, rfl, rfl⟩) | (apply JO.do0; exact rfl; exact rfl; (first | (apply Do.storeAN; exact rfl; exact rfl; (repeat (first | exact Pick.here | apply Pick.there)); exact rfl; exact rfl; exact rfl; exact rfl) | (apply Do.storeA; exact rfl; exact rfl; (repeat (first | exact Pick.here | apply Pick.there)); exact rfl; exact rfl; exact rfl)); rintro _ _ ⟨rfl, rfl⟩) | (apply JE.done2; exact rfl; (first | (apply Res.tmp; exact rfl) | (apply Res.cell; exact rfl; (repeat (first | exact Pick.here | apply Pick.there)); exact rfl) | (apply Res.cellAN; exact rfl; (repeat (first | exact Pick.here | apply Pick.there)); exact rfl; exact rfl) | (apply Res.cellA; exact rfl; (repeat (first | exact Pick.here | apply Pick.there)); exact rfl; exact rfl)); (first | (apply Res.tmp; exact rfl) | (apply Res.cell; exact rfl; (repeat (first | exact Pick.here | apply Pick.there)); exact rfl) | (apply Res.cellAN; exact rfl; (repeat (first | exact Pick.here | apply Pick.there)); exact rfl; exact rfl) | (apply Res.cellA; exact rfl; (repeat (first | exact Pick.here | apply Pick.there)); exact rfl; exact rfl)))) | refine JO.guardU rfl rfl rfl rfl rfl rfl ?_)
  all_goals
    refine ⟨l, Sat.weak (by repeat (first | exact Weak.refl | (apply Weak.cons; (first | exact Pick.here | exact Pick.there Pick.here | exact Pick.there (Pick.there Pick.here) | exact Pick.there (Pick.there (Pick.there Pick.here)) | exact Pick.there (Pick.there (Pick.there (Pick.there Pick.here))) | exact Pick.there (Pick.there (Pick.there (Pick.there (Pick.there Pick.here)))) | exact Pick.there (Pick.there (Pick.there (Pick.there (Pick.there (Pick.there Pick.here))))) | exact Pick.there (Pick.there (Pick.there (Pick.there (Pick.there (Pick.there (Pick.there Pick.here)))))))) | apply Weak.drop)), rfl, ?_⟩
    first
    | rw [if_pos (by rw [← hp]; apply decide_eq_true; omega)]
    | rw [if_neg (by rw [← hp]; intro h; have := of_decide_eq_true h; omega)]
end Go.Sep
/- shadow: Format. -/
namespace Go.Sep
open Go Go.Proofs
attribute [local irreducible] JO JC JE JA JQ JB JI Mid Inv Weak ownS Ru Do Fn Sat Pick Take arr pt star ex Holds bodyPost Post Exit.then Exit.inBlock Res
variable {σ : Sig} {F : List HP}
attribute [local irreducible] diskHP cacheHP planHP rowHP FnX PostX
def andR (x : Int × DiskN) (k : DiskN → Int × DiskN) : Int × DiskN := if x.1 ≠ 0 then x else k x.2
def formatR (D : DiskN) (e f s : Int) : Int × DiskN :=
  andR (wipeR D 0 e f s) fun D => andR (wipeR D 1 e f s) fun D => andR (syncR D) fun D => layR D 0 e f s 1 (factB e f s)
theorem andR_ne {x : Int × DiskN} {k : DiskN → Int × DiskN} (h : x.1 ≠ 0) : andR x k = x := if_pos h
theorem andR_eq {x : Int × DiskN} {k : DiskN → Int × DiskN} (h : x.1 = 0) : andR x k = k x.2 := if_neg (not_not_intro h)
theorem wipeR_right {D : DiskN} {w e f s : Int} (h : (wipeR D w e f s).1 = 0) : rightG e f s = true := by
  unfold wipeR at h
  split at h
  · rename_i h2; exact absurd h h2
  · rename_i h2; exact atE_right (D := D) (which := w) (by omega)
theorem formatR_grows {D : DiskN} (h : D.WF) (e f s : Int) (ht : rightG e f s = true → totG e f s ≤ 8192) : Grows D (formatR D e f s).2 8300 := by
  have g1 := wipeR_grows h 0 e f s
  have g2 := g1.trans (wipeR_grows g1.wf 1 e f s)
  have g3 := g2.trans (syncR_grows g2.wf)
  unfold formatR
  by_cases h1 : (wipeR D 0 e f s).1 = 0
  · rw [andR_eq h1]
    by_cases h2 : (wipeR (wipeR D 0 e f s).2 1 e f s).1 = 0
    · rw [andR_eq h2]
      by_cases h3 : (syncR (wipeR (wipeR D 0 e f s).2 1 e f s).2).1 = 0
      · rw [andR_eq h3]
        have hr := wipeR_right h1
        have hl := factB_length hr
        have := ht hr
        exact (g3.trans (layR_grows g3.wf 0 e f s 1 (factB e f s))).mono (by omega)
      · rw [andR_ne h3]; exact g3.mono (by omega)
    · rw [andR_ne h2]; exact g2.mono (by omega)
  · rw [andR_ne h1]; exact g1.mono (by omega)
set_option maxHeartbeats 4000000 in
theorem shadow_Format1 (d gb db : Nat) (D : DiskN) (e f s : Int) (ht : rightG e f s = true → totG e f s ≤ 8192) (hD : D.WF) (ho : D.ops ≤ 1000000000) (hw : D.writes ≤ 10000) {l : List HP} [hg : InG l] (p : HP) :
    FnX Tryz.prog σ 86 #[.pointer (some ⟨db, 0, none⟩), .pointer (some ⟨gb, 0, none⟩)] (p :: arr gb 23 [int e, int f, int s] :: arr db 28 [.pointer (some ⟨d, 0, none⟩)] :: diskHP d D :: l)
      (fun en l' => en = endOf errT (formatR D e f s).1 ∧ l' = p :: diskHP d (formatR D e f s).2 :: l) := by
  have g1 := wipeR_grows hD 0 e f s
  have g2 := g1.trans (wipeR_grows g1.wf 1 e f s)
  have g3 := g2.trans (syncR_grows g2.wf)
  have hri : (wipeR D 0 e f s).1 = 0 → rightG e f s = true := wipeR_right
  obtain ⟨D1, hD1⟩ : ∃ x, wipeR D 0 e f s = x := ⟨_, rfl⟩
  obtain ⟨D2, hD2⟩ : ∃ x, wipeR D1.2 1 e f s = x := ⟨_, rfl⟩
  obtain ⟨D3, hD3⟩ : ∃ x, syncR D2.2 = x := ⟨_, rfl⟩
  obtain ⟨D4, hD4⟩ : ∃ x, layR D3.2 0 e f s 1 (factB e f s) = x := ⟨_, rfl⟩
  have hR : formatR D e f s = if D1.1 ≠ 0 then D1 else if D2.1 ≠ 0 then D2 else if D3.1 ≠ 0 then D3 else D4 := by
    unfold formatR andR; dsimp only; rw [hD1, hD2, hD3, hD4]
  rw [hD1] at g1 g2 g3 hri
  rw [hD2] at g2 g3
  rw [hD3] at g3
  have o1 := g1.ops; have o2 := g2.ops; have o3 := g3.ops
  have w1 := g1.writes; have w2 := g2.writes; have w3 := g3.writes
  have c1 := fun (G : List HP) [InG G] => slot_WipeR (σ := σ) (F := G) d D 0 e f s hD (by omega) (by omega)
  simp only [hD1] at c1
  have c2 := fun (G : List HP) [InG G] => slot_WipeR (σ := σ) (F := G) d D1.2 1 e f s g1.wf (by omega) (by omega)
  simp only [hD2] at c2
  have c3 := fun (G : List HP) => disk_SyncR (σ := σ) (F := G) d D2.2 g2.wf (by omega) (by omega)
  simp only [hD3] at c3
  rw [hR]
  have hR2 := hR
  clear hR hR2
  refine FnX.of Tryz.func86 rfl Tryz.ntmps86 rfl ?_
  repeat' (first | (apply JO.ru; exact rfl; exact rfl; exact rfl; (first | (apply Ru.loadN; exact rfl; (repeat (first | exact Pick.here | apply Pick.there)); exact rfl) | (apply Ru.loadAN; exact rfl; (repeat (first | exact Pick.here | apply Pick.there)); exact rfl; exact rfl))) | refine JC.seq ?_ | refine JC.region ?_)
  refine JO.pick (Pick.there (Pick.there (Pick.there Pick.here))) ?_
  (apply JO.do; exact rfl; exact rfl; exact rfl; (apply Do.call; exact rfl; exact c1 _); rintro _ _ ⟨rfl, rfl⟩)
  refine JO.must rfl rfl rfl rfl (shadow_must _) (fun h => ?_) (fun h => ?_)
  · rw [if_neg (not_not_intro h)]
    repeat' (first | (apply JO.ru; exact rfl; exact rfl; exact rfl; (first | (apply Ru.loadN; exact rfl; (repeat (first | exact Pick.here | apply Pick.there)); exact rfl) | (apply Ru.loadAN; exact rfl; (repeat (first | exact Pick.here | apply Pick.there)); exact rfl; exact rfl))) | refine JC.seq ?_ | refine JC.region ?_ | refine JO.nil ?_ | refine JE.thenN ?_)
    (apply JO.do; exact rfl; exact rfl; exact rfl; (apply Do.call; exact rfl; exact c2 _); rintro _ _ ⟨rfl, rfl⟩)
    refine JO.must rfl rfl rfl rfl (shadow_must _) (fun h2 => ?_) (fun h2 => ?_)
    · rw [if_neg (not_not_intro h2)]
      repeat' (first | (apply JO.ru; exact rfl; exact rfl; exact rfl; ((apply Ru.loadN; exact rfl; (repeat (first | exact Pick.here | apply Pick.there)); exact rfl))) | refine JC.seq ?_ | refine JC.region ?_ | refine JO.nil ?_ | refine JE.thenN ?_)
      (apply JO.do; exact rfl; exact rfl; exact rfl; (apply Do.call; exact rfl; exact c3 _); rintro _ _ ⟨rfl, rfl⟩)
      refine JO.must rfl rfl rfl rfl (shadow_must _) (fun h3 => ?_) (fun h3 => ?_)
      · rw [if_neg (not_not_intro h3)]
        repeat' (first | (apply JO.ru; exact rfl; exact rfl; exact rfl; ((apply Ru.loadAN; exact rfl; (repeat (first | exact Pick.here | apply Pick.there)); exact rfl; exact rfl))) | refine JC.seq ?_ | refine JC.region ?_ | refine JO.nil ?_ | refine JE.thenN ?_)
        (apply JO.do; exact rfl; exact rfl; exact rfl; (apply Do.call; exact rfl; exact image_Factory e f s (hri h) (ht (hri h))); rintro _ _ ⟨u, rfl, rfl⟩)
        repeat' (first | (apply JO.ru; exact rfl; exact rfl; exact rfl; (first | (apply Ru.move; exact rfl) | (apply Ru.assign; exact rfl) | (apply Ru.extractN; exact rfl; exact rfl))) | refine JC.seq ?_ | refine JC.region ?_ | refine JO.nil ?_ | refine JE.thenN ?_)
        refine JO.must rfl rfl rfl rfl (shadow_must _) (fun _ => ?_) (fun h4 => absurd rfl h4)
        repeat' (first | (apply JO.ru; exact rfl; exact rfl; exact rfl; (first | (apply Ru.move; exact rfl) | (apply Ru.loadN; exact rfl; (repeat (first | exact Pick.here | apply Pick.there)); exact rfl) | (apply Ru.loadAN; exact rfl; (repeat (first | exact Pick.here | apply Pick.there)); exact rfl; exact rfl))) | refine JC.region ?_ | refine JO.nil ?_ | refine JE.thenN ?_)
        refine JO.pick (Pick.there Pick.here) ?_
        refine JO.tail1 fun hrd => ?_
        have hl := factB_length (hri h)
        have := ht (hri h)
        have c4 := shadow_lay (σ := σ) d D3.2 0 e f s 1 u (factB e f s) (by omega) (by omega) g3.wf (by omega) (by omega) (l := bytesHP u (factB e f s) :: p :: arr gb 23 [int e, int f, int s] :: arr db 28 [.pointer (some ⟨d, 0, none⟩)] :: l) hrd
        rw [hD4] at c4
        refine JO.callX (c := #[]) (d := #[]) (vs := [.pointer (some ⟨d, 0, none⟩), int 0, geoV e f s, u64 1, u]) rfl rfl rfl rfl rfl (by simpa using c4) ?_
        rintro en l' ⟨rfl, rfl⟩
        by_cases h4 : D4.1 = 0
        · rw [endOf, if_pos h4]
          show JO _ _ _ _ _ _ _ _ _
          repeat' (first | (refine JO.nil ?_) | (refine JE.doneX0N rfl ?_))
          exact ⟨_, (by repeat (first | exact Weak.refl | (apply Weak.cons; (first | exact Pick.here | exact Pick.there Pick.here | exact Pick.there (Pick.there Pick.here) | exact Pick.there (Pick.there (Pick.there Pick.here)) | exact Pick.there (Pick.there (Pick.there (Pick.there Pick.here))) | exact Pick.there (Pick.there (Pick.there (Pick.there (Pick.there Pick.here)))) | exact Pick.there (Pick.there (Pick.there (Pick.there (Pick.there (Pick.there Pick.here))))) | exact Pick.there (Pick.there (Pick.there (Pick.there (Pick.there (Pick.there (Pick.there Pick.here)))))))) | apply Weak.drop)), by first | rfl | rw [endOf, if_pos h4], rfl⟩
        · rw [endOf, if_neg h4]
          show JE _ _ _ _ _ _ _
          repeat' (first | (fail) | (refine JE.doneXP ?_))
          exact ⟨_, (by repeat (first | exact Weak.refl | (apply Weak.cons; (first | exact Pick.here | exact Pick.there Pick.here | exact Pick.there (Pick.there Pick.here) | exact Pick.there (Pick.there (Pick.there Pick.here)) | exact Pick.there (Pick.there (Pick.there (Pick.there Pick.here))) | exact Pick.there (Pick.there (Pick.there (Pick.there (Pick.there Pick.here)))) | exact Pick.there (Pick.there (Pick.there (Pick.there (Pick.there (Pick.there Pick.here))))) | exact Pick.there (Pick.there (Pick.there (Pick.there (Pick.there (Pick.there (Pick.there Pick.here)))))))) | apply Weak.drop)), rfl, rfl⟩
      · repeat' (first | (fail) | (first | refine JE.thenP ?_ | refine JE.doneXP ?_))
        rw [if_pos h3]
        exact ⟨_, (by repeat (first | exact Weak.refl | (apply Weak.cons; (first | exact Pick.here | exact Pick.there Pick.here | exact Pick.there (Pick.there Pick.here) | exact Pick.there (Pick.there (Pick.there Pick.here)) | exact Pick.there (Pick.there (Pick.there (Pick.there Pick.here))) | exact Pick.there (Pick.there (Pick.there (Pick.there (Pick.there Pick.here)))) | exact Pick.there (Pick.there (Pick.there (Pick.there (Pick.there (Pick.there Pick.here))))) | exact Pick.there (Pick.there (Pick.there (Pick.there (Pick.there (Pick.there (Pick.there Pick.here)))))))) | apply Weak.drop)), by rw [endOf, if_neg h3], rfl⟩
    · repeat' (first | (fail) | (first | refine JE.thenP ?_ | refine JE.doneXP ?_))
      rw [if_pos h2]
      exact ⟨_, (by repeat (first | exact Weak.refl | (apply Weak.cons; (first | exact Pick.here | exact Pick.there Pick.here | exact Pick.there (Pick.there Pick.here) | exact Pick.there (Pick.there (Pick.there Pick.here)) | exact Pick.there (Pick.there (Pick.there (Pick.there Pick.here))) | exact Pick.there (Pick.there (Pick.there (Pick.there (Pick.there Pick.here)))) | exact Pick.there (Pick.there (Pick.there (Pick.there (Pick.there (Pick.there Pick.here))))) | exact Pick.there (Pick.there (Pick.there (Pick.there (Pick.there (Pick.there (Pick.there Pick.here)))))))) | apply Weak.drop)), by rw [endOf, if_neg h2], rfl⟩
  · repeat' (first | (fail) | (first | refine JE.thenP ?_ | refine JE.doneXP ?_))
    rw [if_pos h]
    exact ⟨_, (by repeat (first | exact Weak.refl | (apply Weak.cons; (first | exact Pick.here | exact Pick.there Pick.here | exact Pick.there (Pick.there Pick.here) | exact Pick.there (Pick.there (Pick.there Pick.here)) | exact Pick.there (Pick.there (Pick.there (Pick.there Pick.here))) | exact Pick.there (Pick.there (Pick.there (Pick.there (Pick.there Pick.here)))) | exact Pick.there (Pick.there (Pick.there (Pick.there (Pick.there (Pick.there Pick.here))))) | exact Pick.there (Pick.there (Pick.there (Pick.there (Pick.there (Pick.there (Pick.there Pick.here)))))))) | apply Weak.drop)), by rw [endOf, if_neg h], rfl⟩
set_option maxHeartbeats 1000000 in
theorem shadow_Format (d : Nat) (D : DiskN) (e f s : Int) (ht : rightG e f s = true → totG e f s ≤ 8192) (hD : D.WF) (ho : D.ops ≤ 1000000000) (hw : D.writes ≤ 10000) {l : List HP} [hg : InG l] :
    Fn Tryz.prog σ 40 #[.pointer (some ⟨d, 0, none⟩), geoV e f s] (diskHP d D :: l) (fun v l' => v = int (formatR D e f s).1 ∧ l' = diskHP d (formatR D e f s).2 :: l) := by
  refine Fn.of Tryz.func40 rfl Tryz.ntmps40 rfl ?_
  repeat' (first | (apply JO.ru; exact rfl; exact rfl; exact rfl; (first | (apply Ru.assign; exact rfl) | (apply Ru.makeFunc; exact rfl; exact rfl))) | refine JC.seq ?_ | refine JC.region ?_ | refine JO.nil ?_ | refine JE.thenN ?_ | (apply JO.do; exact rfl; exact rfl; exact rfl; (first | (apply Do.boxN; exact rfl; exact rfl) | (apply Do.box; exact rfl)); rintro _ _ ⟨_, rfl, rfl⟩))
  (apply JO.do; exact rfl; exact rfl; exact rfl; (apply Do.call; exact rfl; exact shadow_tried fun p => shadow_Format1 d _ _ D e f s ht hD ho hw p); rintro _ _ ⟨rfl, rfl⟩)
  repeat' (first | (apply JO.ru; exact rfl; exact rfl; exact rfl; ((apply Ru.assign; exact rfl))) | refine JO.nil ?_ | refine JE.thenN ?_ | refine JC.ret ?_ | (apply JE.done1; exact rfl; (first | (apply Res.tmp; exact rfl) | (apply Res.cell; exact rfl; (repeat (first | exact Pick.here | apply Pick.there)); exact rfl) | (apply Res.cellAN; exact rfl; (repeat (first | exact Pick.here | apply Pick.there)); exact rfl; exact rfl) | (apply Res.cellA; exact rfl; (repeat (first | exact Pick.here | apply Pick.there)); exact rfl; exact rfl))))
  exact ⟨_, Sat.weak (by repeat (first | exact Weak.refl | (apply Weak.cons; (first | exact Pick.here | exact Pick.there Pick.here | exact Pick.there (Pick.there Pick.here) | exact Pick.there (Pick.there (Pick.there Pick.here)) | exact Pick.there (Pick.there (Pick.there (Pick.there Pick.here))) | exact Pick.there (Pick.there (Pick.there (Pick.there (Pick.there Pick.here)))) | exact Pick.there (Pick.there (Pick.there (Pick.there (Pick.there (Pick.there Pick.here))))) | exact Pick.there (Pick.there (Pick.there (Pick.there (Pick.there (Pick.there (Pick.there Pick.here)))))))) | apply Weak.drop)), rfl, rfl⟩
end Go.Sep
/- shadow: its parts of the heap. -/
namespace Go.Sep
open Go Go.Proofs
variable {σ : Sig} {F : List HP}
structure ShadN where
  now : List UInt8
  seq : Int
  which : Int
  stale : Bool
def ShadN.zero : ShadN := ⟨[], 0, 0, false⟩
abbrev shT : Nat := 134
abbrev shCells (d : Nat) (e f s : Int) (u : Value) (q w : Int) (st : Bool) : List Value := [.pointer (some ⟨d, 0, none⟩), int e, int f, int s, u, u64 q, int w, .bool st]
/-- A shadow: its struct, and its image's own bytes. -/
def shadHP (sb d : Nat) (e f s : Int) (S : ShadN) : HP := fun h => ∃ u, Holds [arr sb shT (shCells d e f s u S.seq S.which S.stale), bytesHP u S.now] h
theorem Weak.shad {sb d : Nat} {e f s : Int} {S : ShadN} {u : Value} {r : List HP} : Weak (arr sb shT (shCells d e f s u S.seq S.which S.stale) :: bytesHP u S.now :: r) (shadHP sb d e f s S :: r) := by
  unfold Weak
  intro h x
  obtain ⟨h1, h2, a, b, c, y, z⟩ := Holds.append (l := [arr sb shT (shCells d e f s u S.seq S.which S.stale), bytesHP u S.now]) (l' := r).1 x
  exact ⟨h1, h2, a, b, c, ⟨u, y⟩, z⟩
theorem Sat.shad {w : World} {sb d : Nat} {e f s : Int} {S : ShadN} {r : List HP} (h : Sat σ w (shadHP sb d e f s S :: r)) : ∃ u, Sat σ w (Sep.arr sb shT (shCells d e f s u S.seq S.which S.stale) :: bytesHP u S.now :: r) := by
  obtain ⟨hs, h1, h2, a, b, c, ⟨u, y⟩, z⟩ := h
  exact ⟨u, hs, Holds.append.2 ⟨h1, h2, a, b, c, y, z⟩⟩
theorem Weak.shadE {sb d : Nat} {e f s : Int} {img : List UInt8} {q w : Int} {st : Bool} {u : Value} {r : List HP} : Weak (Sep.arr sb shT (shCells d e f s u q w st) :: bytesHP u img :: r) (shadHP sb d e f s ⟨img, q, w, st⟩ :: r) := Weak.shad (S := ⟨img, q, w, st⟩)
theorem Weak.trans {l1 l2 l3 : List HP} (a : Weak l1 l2) (b : Weak l2 l3) : Weak l1 l3 := fun h x => b h (a h x)
theorem Fn.shadU {P : Program} {f' : FuncId} {args : Array Value} {post : Value → List HP → Prop} {sb d : Nat} {e f s : Int} {S : ShadN} {l : List HP} (h : ∀ u, Fn P σ f' args (Sep.arr sb shT (shCells d e f s u S.seq S.which S.stale) :: bytesHP u S.now :: l) post) : Fn P σ f' args (shadHP sb d e f s S :: l) post := fun w hs => by
  obtain ⟨u, s'⟩ := Sat.shad hs
  exact h u w s'
end Go.Sep
/- shadow: Open. -/
namespace Go.Sep
open Go Go.Proofs
attribute [local irreducible] JO JC JE JA JQ JB JI Mid Inv Weak ownS Ru Do Fn Sat Pick Take arr pt star ex Holds bodyPost Post Exit.then Exit.inBlock Res
variable {σ : Sig} {F : List HP}
attribute [local irreducible] shadHP diskHP cacheHP planHP rowHP FnX PostX
def openR (D : DiskN) (e f s : Int) : Int × DiskN × ShadN :=
  if atE D 0 e f s ≠ 0 then (atE D 0 e f s, D, .zero)
  else if (syncR D).1 ≠ 0 then ((syncR D).1, (syncR D).2, .zero)
  else if (readR (syncR D).2 0 e f s).1 ≠ 0 then ((readR (syncR D).2 0 e f s).1, (readR (syncR D).2 0 e f s).2.1, .zero)
  else if (readR (readR (syncR D).2 0 e f s).2.1 1 e f s).1 ≠ 0 then ((readR (readR (syncR D).2 0 e f s).2.1 1 e f s).1, (readR (readR (syncR D).2 0 e f s).2.1 1 e f s).2.1, .zero)
  else
    if pickB (readR (syncR D).2 0 e f s).2.2.state (readR (syncR D).2 0 e f s).2.2.seq (readR (readR (syncR D).2 0 e f s).2.1 1 e f s).2.2.state (readR (readR (syncR D).2 0 e f s).2.1 1 e f s).2.2.seq = true then
      chosenR 1 (readR (readR (syncR D).2 0 e f s).2.1 1 e f s).2.2 (readR (readR (syncR D).2 0 e f s).2.1 1 e f s).2.1
    else chosenR 0 (readR (syncR D).2 0 e f s).2.2 (readR (readR (syncR D).2 0 e f s).2.1 1 e f s).2.1
where
  chosenR (which : Int) (x : SlotN) (E : DiskN) : Int × DiskN × ShadN :=
    if x.state = 1 then (9, E, .zero) else if x.state = 0 then (10, E, .zero) else (0, E, ⟨x.image, x.seq, which, false⟩)
def openL (sp sb d : Nat) (e f s : Int) (R : Int × DiskN × ShadN) (l : List HP) : List HP :=
  if R.1 = 0 then arr sp 66 [.pointer (some ⟨sb, 0, none⟩)] :: shadHP sb d e f s R.2.2 :: diskHP d R.2.1 :: l else diskHP d R.2.1 :: l
theorem readR_grows {D D' : DiskN} {w e f s er : Int} {x : SlotN} (h : D.WF) (hr : readR D w e f s = (er, D', x)) : Grows D D' 5000 := by
  unfold readR at hr
  split at hr
  · injection hr with _ hr; injection hr with hr _; subst hr; exact Grows.refl h _
  · rename_i ha
    obtain ⟨m, _, hm, hm2⟩ := atE_span h (by omega : atE D w e f s = 0)
    split at hr
    · injection hr with _ hr; injection hr with hr _; subst hr; exact (Grows.tick h).mono (by omega)
    · split at hr
      · injection hr with _ hr; injection hr with hr _; subst hr; exact (Grows.tick h).mono (by omega)
      · split at hr
        · rw [hm] at hr
          unfold bodyR at hr
          split at hr
          · rename_i k hk
            have hkm : k < m := List.mem_range.1 (List.mem_of_find?_eq_some hk)
            injection hr with _ hr; injection hr with hr _; subst hr; exact ((Grows.tick h).trans (Grows.ticks h.tick (k + 1))).mono (by omega)
          · split at hr
            · split at hr
              · injection hr with _ hr; injection hr with hr _; subst hr; exact ((Grows.tick h).trans (Grows.ticks h.tick m)).mono (by omega)
              · injection hr with _ hr; injection hr with hr _; subst hr; exact ((Grows.tick h).trans (Grows.ticks h.tick m)).mono (by omega)
            · injection hr with _ hr; injection hr with hr _; subst hr; exact ((Grows.tick h).trans (Grows.ticks h.tick m)).mono (by omega)
        · injection hr with _ hr; injection hr with hr _; subst hr; exact (Grows.tick h).mono (by omega)
theorem chosen9 {w st why sq : Int} {img : List UInt8} {E : DiskN} (h : st = 1) : openR.chosenR w ⟨st, why, sq, img⟩ E = (9, E, .zero) := if_pos h
theorem chosen10 {w st why sq : Int} {img : List UInt8} {E : DiskN} (h : st = 0) : openR.chosenR w ⟨st, why, sq, img⟩ E = (10, E, .zero) := by
  unfold openR.chosenR; rw [if_neg (by show ¬ st = 1; omega), if_pos h]
theorem chosenOk {w st why sq : Int} {img : List UInt8} {E : DiskN} (h : st ≠ 1) (h2 : st ≠ 0) : openR.chosenR w ⟨st, why, sq, img⟩ E = (0, E, ⟨img, sq, w, false⟩) := by
  unfold openR.chosenR; rw [if_neg h, if_neg h2]
theorem openL_no {sp sb d : Nat} {e f s : Int} {R : Int × DiskN × ShadN} {l : List HP} (h : R.1 ≠ 0) : openL sp sb d e f s R l = diskHP d R.2.1 :: l := if_neg h
theorem openL_yes {sp sb d : Nat} {e f s : Int} {E : DiskN} {S : ShadN} {l : List HP} : openL sp sb d e f s (0, E, S) l = arr sp 66 [.pointer (some ⟨sb, 0, none⟩)] :: shadHP sb d e f s S :: diskHP d E :: l := if_pos rfl
theorem JO.ownU {P : Program} {n : Nat} {ds : List Deferred} {ops : Array Oper} {Q : Exit → Act → World → Prop} {rest : List Oper} {env : Env} {l r : List HP} {v : Value} {E k : Nat} {xs : List Value} (hp : Pick (ownS v E 1 k xs) l r)
    (h : ∀ p c, v = .slice p k c → JO P σ n ds ops Q rest env l) : JO P σ n ds ops Q rest env l :=
  JO.ownR hp fun _ _ hsh => by
    rcases hsh with ⟨h1, h2⟩ | ⟨b, cap, h1, _⟩
    · exact h none 0 (by rw [h1, h2])
    · exact h _ cap h1
set_option maxHeartbeats 4000000 in
theorem shadow_Open1 (d gb db sp sb : Nat) (D : DiskN) (e f s : Int) (hD : D.WF) (ho : D.ops ≤ 1000000000) (hw : D.writes ≤ 1000000) {l : List HP} [hg : InG l] (p : HP) :
    FnX Tryz.prog σ 90 #[.pointer (some ⟨db, 0, none⟩), .pointer (some ⟨gb, 0, none⟩), .pointer (some ⟨sp, 0, none⟩)]
      (p :: arr sp 66 [.pointer (some ⟨sb, 0, none⟩)] :: arr sb shT (shCells d e f s (.slice none 0 0) 0 0 false) :: arr gb 23 [int e, int f, int s] :: arr db 28 [.pointer (some ⟨d, 0, none⟩)] :: diskHP d D :: l)
      (fun en l' => en = endOf errT (openR D e f s).1 ∧ l' = p :: openL sp sb d e f s (openR D e f s) l) := by
  have g1 := syncR_grows hD
  obtain ⟨c0, hc0⟩ : ∃ x, atE D 0 e f s = x := ⟨_, rfl⟩
  have hcan := fun (G : List HP) [InG G] => shadow_can (σ := σ) d D e f s hD (l := G)
  rw [hc0] at hcan
  refine FnX.of Tryz.func90 rfl Tryz.ntmps90 rfl ?_
  repeat' (first | (apply JO.ru; exact rfl; exact rfl; exact rfl; (first | (apply Ru.loadN; exact rfl; (repeat (first | exact Pick.here | apply Pick.there)); exact rfl) | (apply Ru.loadAN; exact rfl; (repeat (first | exact Pick.here | apply Pick.there)); exact rfl; exact rfl))) | refine JC.seq ?_ | refine JC.region ?_)
  refine JO.pick (Pick.there (Pick.there (Pick.there (Pick.there (Pick.there Pick.here))))) ?_
  (apply JO.do; exact rfl; exact rfl; exact rfl; (apply Do.call; exact rfl; exact hcan _); rintro _ _ ⟨rfl, rfl⟩)
  refine JO.must rfl rfl rfl rfl (shadow_must _) (fun h => ?_) (fun h => ?_)
  · have c3 := fun (G : List HP) => disk_SyncR (σ := σ) (F := G) d D hD (by omega) (by omega)
    obtain ⟨⟨e1, D1⟩, hD1⟩ : ∃ x, syncR D = x := ⟨_, rfl⟩
    rw [hD1] at g1
    dsimp only at g1
    simp only [hD1] at c3
    repeat' (first | (apply JO.ru; exact rfl; exact rfl; exact rfl; ((apply Ru.loadN; exact rfl; (repeat (first | exact Pick.here | apply Pick.there)); exact rfl))) | refine JC.seq ?_ | refine JC.region ?_ | refine JO.nil ?_ | refine JE.thenN ?_)
    (apply JO.do; exact rfl; exact rfl; exact rfl; (apply Do.call; exact rfl; exact c3 _); rintro _ _ ⟨rfl, rfl⟩)
    refine JO.must rfl rfl rfl rfl (shadow_must _) (fun h1 => ?_) (fun h1 => ?_)
    · obtain ⟨⟨e2, D2, st2, why2, sq2, img2⟩, hD2⟩ : ∃ x, readR D1 0 e f s = x := ⟨_, rfl⟩
      have o1 := g1.ops
      repeat' (first | (apply JO.ru; exact rfl; exact rfl; exact rfl; (first | (apply Ru.loadN; exact rfl; (repeat (first | exact Pick.here | apply Pick.there)); exact rfl) | (apply Ru.loadAN; exact rfl; (repeat (first | exact Pick.here | apply Pick.there)); exact rfl; exact rfl))) | refine JC.seq ?_ | refine JC.region ?_ | refine JO.nil ?_ | refine JE.thenN ?_)
      (apply JO.do; exact rfl; exact rfl; exact rfl; (apply Do.call; exact rfl; exact slot_ReadE hD2 g1.wf (by omega)); rintro _ _ ⟨u2, rfl, rfl⟩)
      refine JO.ownU Pick.here fun p2 cu2 hu => ?_
      subst hu
      have g2 : Grows D1 D2 5000 := readR_grows g1.wf hD2
      repeat' (first | (apply JO.ru; exact rfl; exact rfl; exact rfl; (first | (apply Ru.move; exact rfl) | (apply Ru.assign; exact rfl) | (apply Ru.extractN; exact rfl; exact rfl))) | refine JC.seq ?_ | refine JC.region ?_ | refine JO.nil ?_ | refine JE.thenN ?_ | (apply JO.do; exact rfl; exact rfl; exact rfl; (first | (apply Do.allocN; exact rfl) | apply Do.alloc); rintro _ _ ⟨_, rfl, rfl⟩) | (apply JO.do0; exact rfl; exact rfl; (first | (apply Do.storeAN; exact rfl; exact rfl; (repeat (first | exact Pick.here | apply Pick.there)); exact rfl; exact rfl; exact rfl; exact rfl) | (apply Do.storeA; exact rfl; exact rfl; (repeat (first | exact Pick.here | apply Pick.there)); exact rfl; exact rfl; exact rfl)); rintro _ _ ⟨rfl, rfl⟩))
      refine JO.must rfl rfl rfl rfl (shadow_must _) (fun h2 => ?_) (fun h2 => ?_)
      · obtain ⟨⟨e3, D3, st3, why3, sq3, img3⟩, hD3⟩ : ∃ x, readR D2 1 e f s = x := ⟨_, rfl⟩
        have o2 := g2.ops
        repeat' (first | (apply JO.ru; exact rfl; exact rfl; exact rfl; (first | (apply Ru.loadN; exact rfl; (repeat (first | exact Pick.here | apply Pick.there)); exact rfl) | (apply Ru.loadAN; exact rfl; (repeat (first | exact Pick.here | apply Pick.there)); exact rfl; exact rfl))) | refine JC.seq ?_ | refine JC.region ?_ | refine JO.nil ?_ | refine JE.thenN ?_)
        refine JO.pick (Pick.there (Pick.there Pick.here)) ?_
        (apply JO.do; exact rfl; exact rfl; exact rfl; (apply Do.call; exact rfl; exact slot_ReadE hD3 g2.wf (by omega)); rintro _ _ ⟨u3, rfl, rfl⟩)
        refine JO.ownU Pick.here fun p3 cu3 hu => ?_
        subst hu
        repeat' (first | (apply JO.ru; exact rfl; exact rfl; exact rfl; (first | (apply Ru.move; exact rfl) | (apply Ru.assign; exact rfl) | (apply Ru.extractN; exact rfl; exact rfl))) | refine JC.seq ?_ | refine JC.region ?_ | refine JO.nil ?_ | refine JE.thenN ?_ | (apply JO.do; exact rfl; exact rfl; exact rfl; (first | (apply Do.allocN; exact rfl) | apply Do.alloc); rintro _ _ ⟨_, rfl, rfl⟩) | (apply JO.do0; exact rfl; exact rfl; (first | (apply Do.storeAN; exact rfl; exact rfl; (repeat (first | exact Pick.here | apply Pick.there)); exact rfl; exact rfl; exact rfl; exact rfl) | (apply Do.storeA; exact rfl; exact rfl; (repeat (first | exact Pick.here | apply Pick.there)); exact rfl; exact rfl; exact rfl)); rintro _ _ ⟨rfl, rfl⟩))
        refine JO.must rfl rfl rfl rfl (shadow_must _) (fun h3 => ?_) (fun h3 => ?_)
        · have hR : openR D e f s = if pickB st2 sq2 st3 sq3 = true then openR.chosenR 1 ⟨st3, why3, sq3, img3⟩ D3 else openR.chosenR 0 ⟨st2, why2, sq2, img2⟩ D3 := by
            unfold openR; rw [hc0, if_neg (not_not_intro h), hD1, if_neg (not_not_intro h1), hD2, if_neg (not_not_intro h2), hD3, if_neg (not_not_intro h3)]
          repeat' (first | (apply JO.ru; exact rfl; exact rfl; exact rfl; ((apply Ru.loadAN; exact rfl; (repeat (first | exact Pick.here | apply Pick.there)); exact rfl; exact rfl))) | refine JC.seq ?_ | refine JC.region ?_ | refine JO.nil ?_ | refine JE.thenN ?_)
          (apply JO.do; exact rfl; exact rfl; exact rfl; (apply Do.call; exact rfl; exact shadow_best st2 why2 sq2 st3 why3 sq3 _ _ _ _ _ _); rintro _ _ ⟨rfl, hv⟩)
          rcases hp : pickB st2 sq2 st3 sq3 with _ | _
          all_goals
            rw [hp] at hv hR
            simp only [Bool.false_eq_true, if_false, if_true] at hv hR
            subst hv
            repeat' (first | (first | (apply JO.ru; exact rfl; exact rfl; exact rfl; (first | (apply Ru.move; exact rfl) | (apply Ru.loadN; exact rfl; (repeat (first | exact Pick.here | apply Pick.there)); exact rfl) | (apply Ru.fieldAddr; exact rfl) | (apply Ru.assign; exact rfl) | (apply Ru.extractN; exact rfl; exact rfl))) | refine JC.seq ?_ | refine JC.region ?_ | refine JO.nil ?_ | refine JE.thenN ?_ | refine JE.blockN ?_ | refine JC.block ?_ | refine JC.skip ?_ | refine JC.condT rfl ?_ | refine JC.condF rfl ?_ | (apply JO.split; exact rfl; exact rfl; exact rfl; ((apply Ru.eql; exact rfl; exact rfl; exact rfl)); all_goals intro _) | (apply JO.do; exact rfl; exact rfl; exact rfl; (first | (apply Do.allocN; exact rfl) | apply Do.alloc); rintro _ _ ⟨_, rfl, rfl⟩) | (apply JO.do0; exact rfl; exact rfl; (first | (apply Do.storeAN; exact rfl; exact rfl; (repeat (first | exact Pick.here | apply Pick.there)); exact rfl; exact rfl; exact rfl; exact rfl) | (apply Do.storeA; exact rfl; exact rfl; (repeat (first | exact Pick.here | apply Pick.there)); exact rfl; exact rfl; exact rfl)); rintro _ _ ⟨rfl, rfl⟩)) | (first | refine JE.thenP ?_ | refine JE.blockP ?_ | refine JE.doneXP ?_ | (apply JO.ru; exact rfl; exact rfl; exact rfl; (apply Ru.makeIface; exact rfl; exact rfl)) | (apply JO.panic; exact rfl; exact rfl; exact rfl)))
          · rename_i h9
            rw [chosen9 h9] at hR
            rw [hR]
            exact ⟨p :: diskHP d D3 :: l, (by repeat (first | exact Weak.refl | (apply Weak.cons; (first | exact Pick.here | exact Pick.there Pick.here | exact Pick.there (Pick.there Pick.here) | exact Pick.there (Pick.there (Pick.there Pick.here)) | exact Pick.there (Pick.there (Pick.there (Pick.there Pick.here))) | exact Pick.there (Pick.there (Pick.there (Pick.there (Pick.there Pick.here)))) | exact Pick.there (Pick.there (Pick.there (Pick.there (Pick.there (Pick.there Pick.here))))) | exact Pick.there (Pick.there (Pick.there (Pick.there (Pick.there (Pick.there (Pick.there Pick.here)))))))) | apply Weak.drop)), rfl, by rw [openL_no (by show (9 : Int) ≠ 0; decide)]⟩
          · rename_i h9 h10
            rw [chosen10 h10] at hR
            rw [hR]
            exact ⟨p :: diskHP d D3 :: l, (by repeat (first | exact Weak.refl | (apply Weak.cons; (first | exact Pick.here | exact Pick.there Pick.here | exact Pick.there (Pick.there Pick.here) | exact Pick.there (Pick.there (Pick.there Pick.here)) | exact Pick.there (Pick.there (Pick.there (Pick.there Pick.here))) | exact Pick.there (Pick.there (Pick.there (Pick.there (Pick.there Pick.here)))) | exact Pick.there (Pick.there (Pick.there (Pick.there (Pick.there (Pick.there Pick.here))))) | exact Pick.there (Pick.there (Pick.there (Pick.there (Pick.there (Pick.there (Pick.there Pick.here)))))))) | apply Weak.drop)), rfl, by rw [openL_no (by show (10 : Int) ≠ 0; decide)]⟩
          · rename_i xb h9 h10
            rw [chosenOk h9 h10] at hR
            rw [hR]
            refine JC.regionB (arr xb 46 [int st2, int why2, u64 sq2, .slice p2 img2.length cu2] :: bytesHP (.slice p2 img2.length cu2) img2 :: p :: arr sp 66 [.pointer (some ⟨sb, 0, none⟩)] :: diskHP d D3 :: l) mixed
              (JB.heap (l' := arr sb shT (shCells d e f s (.slice none 0 0) 0 0 false) :: arr xb 46 [int st2, int why2, u64 sq2, .slice p2 img2.length cu2] :: bytesHP (.slice p2 img2.length cu2) img2 :: p :: arr sp 66 [.pointer (some ⟨sb, 0, none⟩)] :: diskHP d D3 :: l) (Sat.weak (by repeat (first | exact Weak.refl | (apply Weak.cons; (first | exact Pick.here | exact Pick.there Pick.here | exact Pick.there (Pick.there Pick.here) | exact Pick.there (Pick.there (Pick.there Pick.here)) | exact Pick.there (Pick.there (Pick.there (Pick.there Pick.here))) | exact Pick.there (Pick.there (Pick.there (Pick.there (Pick.there Pick.here)))) | exact Pick.there (Pick.there (Pick.there (Pick.there (Pick.there (Pick.there Pick.here))))) | exact Pick.there (Pick.there (Pick.there (Pick.there (Pick.there (Pick.there (Pick.there Pick.here)))))) | exact Pick.there (Pick.there (Pick.there (Pick.there (Pick.there (Pick.there (Pick.there (Pick.there Pick.here))))))) | exact Pick.there (Pick.there (Pick.there (Pick.there (Pick.there (Pick.there (Pick.there (Pick.there (Pick.there Pick.here)))))))) | exact Pick.there (Pick.there (Pick.there (Pick.there (Pick.there (Pick.there (Pick.there (Pick.there (Pick.there (Pick.there Pick.here))))))))) | exact Pick.there (Pick.there (Pick.there (Pick.there (Pick.there (Pick.there (Pick.there (Pick.there (Pick.there (Pick.there (Pick.there Pick.here)))))))))) | exact Pick.there (Pick.there (Pick.there (Pick.there (Pick.there (Pick.there (Pick.there (Pick.there (Pick.there (Pick.there (Pick.there (Pick.there Pick.here))))))))))) | exact Pick.there (Pick.there (Pick.there (Pick.there (Pick.there (Pick.there (Pick.there (Pick.there (Pick.there (Pick.there (Pick.there (Pick.there (Pick.there Pick.here)))))))))))))) | apply Weak.drop))) ?_)
            repeat' (first | (first | (apply JB.ru; exact rfl; exact rfl; exact rfl; exact rfl; (first | (apply Ru.move; exact rfl) | (apply Ru.loadN; exact rfl; (repeat (first | exact Pick.here | apply Pick.there)); exact rfl) | (apply Ru.fieldAddr; exact rfl) | (apply Ru.nilP; exact rfl)); decide +kernel; decide +kernel; (first | exact fun _ h => h | exact fun _ h => Sat.drop h | exact fun _ h => Sat.drop (Sat.drop h) | exact fun _ h => Sat.drop (Sat.drop (Sat.drop h)) | exact fun _ h => Sat.drop (Sat.drop (Sat.drop (Sat.drop h)))); (simp only [Nat.reduceAdd, Nat.reducePow, Nat.reduceMul, Nat.zero_or, Nat.or_zero, Nat.reduceXor, Nat.reduceOr]; try exact rfl)) | (apply JB.nil; exact rfl) | (apply JI.do0; exact rfl; exact rfl; exact rfl; (first | (apply Do.storeN; exact rfl; exact rfl; exact rfl; (repeat (first | exact Pick.here | apply Pick.there)); exact rfl; exact rfl) | (apply Do.store; exact rfl; exact rfl; exact rfl; (repeat (first | exact Pick.here | apply Pick.there)); exact rfl)); (simp only [Nat.reduceAdd, Nat.reducePow, Nat.reduceMul, Nat.zero_or, Nat.or_zero, Nat.reduceXor, Nat.reduceOr]; try exact rfl); rintro _ _ ⟨rfl, rfl⟩; refine ⟨(by (first | exact fun _ h => h | exact fun _ h => Sat.drop h | exact fun _ h => Sat.drop (Sat.drop h) | exact fun _ h => Sat.drop (Sat.drop (Sat.drop h)) | exact fun _ h => Sat.drop (Sat.drop (Sat.drop (Sat.drop h))))), ?_⟩)) | refine JB.one 10 (by decide +kernel) ?_ | refine JB.one 13 (by decide +kernel) ?_ | refine JB.one 16 (by decide +kernel) ?_)
            repeat' (first | (fail) | (refine JE.doneX0N rfl ?_))
            refine ⟨p :: arr sp 66 [.pointer (some ⟨sb, 0, none⟩)] :: shadHP sb d e f s ⟨img2, sq2, 0, false⟩ :: diskHP d D3 :: l, ?_, rfl, by rw [openL_yes]⟩
            refine Weak.trans (l2 := arr sb shT (shCells d e f s (.slice p2 img2.length cu2) sq2 0 false) :: bytesHP (.slice p2 img2.length cu2) img2 :: p :: arr sp 66 [.pointer (some ⟨sb, 0, none⟩)] :: diskHP d D3 :: l) (by repeat (first | exact Weak.refl | (apply Weak.cons; (first | exact Pick.here | exact Pick.there Pick.here | exact Pick.there (Pick.there Pick.here) | exact Pick.there (Pick.there (Pick.there Pick.here)) | exact Pick.there (Pick.there (Pick.there (Pick.there Pick.here))) | exact Pick.there (Pick.there (Pick.there (Pick.there (Pick.there Pick.here)))) | exact Pick.there (Pick.there (Pick.there (Pick.there (Pick.there (Pick.there Pick.here))))) | exact Pick.there (Pick.there (Pick.there (Pick.there (Pick.there (Pick.there (Pick.there Pick.here)))))) | exact Pick.there (Pick.there (Pick.there (Pick.there (Pick.there (Pick.there (Pick.there (Pick.there Pick.here))))))) | exact Pick.there (Pick.there (Pick.there (Pick.there (Pick.there (Pick.there (Pick.there (Pick.there (Pick.there Pick.here)))))))) | exact Pick.there (Pick.there (Pick.there (Pick.there (Pick.there (Pick.there (Pick.there (Pick.there (Pick.there (Pick.there Pick.here))))))))) | exact Pick.there (Pick.there (Pick.there (Pick.there (Pick.there (Pick.there (Pick.there (Pick.there (Pick.there (Pick.there (Pick.there Pick.here)))))))))) | exact Pick.there (Pick.there (Pick.there (Pick.there (Pick.there (Pick.there (Pick.there (Pick.there (Pick.there (Pick.there (Pick.there (Pick.there Pick.here))))))))))) | exact Pick.there (Pick.there (Pick.there (Pick.there (Pick.there (Pick.there (Pick.there (Pick.there (Pick.there (Pick.there (Pick.there (Pick.there (Pick.there Pick.here)))))))))))))) | apply Weak.drop)) (Weak.trans Weak.shadE (by repeat (first | exact Weak.refl | (apply Weak.cons; (first | exact Pick.here | exact Pick.there Pick.here | exact Pick.there (Pick.there Pick.here) | exact Pick.there (Pick.there (Pick.there Pick.here)) | exact Pick.there (Pick.there (Pick.there (Pick.there Pick.here))) | exact Pick.there (Pick.there (Pick.there (Pick.there (Pick.there Pick.here)))) | exact Pick.there (Pick.there (Pick.there (Pick.there (Pick.there (Pick.there Pick.here))))) | exact Pick.there (Pick.there (Pick.there (Pick.there (Pick.there (Pick.there (Pick.there Pick.here)))))))) | apply Weak.drop)))
          · rename_i h9
            rw [chosen9 h9] at hR
            rw [hR]
            exact ⟨p :: diskHP d D3 :: l, (by repeat (first | exact Weak.refl | (apply Weak.cons; (first | exact Pick.here | exact Pick.there Pick.here | exact Pick.there (Pick.there Pick.here) | exact Pick.there (Pick.there (Pick.there Pick.here)) | exact Pick.there (Pick.there (Pick.there (Pick.there Pick.here))) | exact Pick.there (Pick.there (Pick.there (Pick.there (Pick.there Pick.here)))) | exact Pick.there (Pick.there (Pick.there (Pick.there (Pick.there (Pick.there Pick.here))))) | exact Pick.there (Pick.there (Pick.there (Pick.there (Pick.there (Pick.there (Pick.there Pick.here)))))))) | apply Weak.drop)), rfl, by rw [openL_no (by show (9 : Int) ≠ 0; decide)]⟩
          · rename_i h9 h10
            rw [chosen10 h10] at hR
            rw [hR]
            exact ⟨p :: diskHP d D3 :: l, (by repeat (first | exact Weak.refl | (apply Weak.cons; (first | exact Pick.here | exact Pick.there Pick.here | exact Pick.there (Pick.there Pick.here) | exact Pick.there (Pick.there (Pick.there Pick.here)) | exact Pick.there (Pick.there (Pick.there (Pick.there Pick.here))) | exact Pick.there (Pick.there (Pick.there (Pick.there (Pick.there Pick.here)))) | exact Pick.there (Pick.there (Pick.there (Pick.there (Pick.there (Pick.there Pick.here))))) | exact Pick.there (Pick.there (Pick.there (Pick.there (Pick.there (Pick.there (Pick.there Pick.here)))))))) | apply Weak.drop)), rfl, by rw [openL_no (by show (10 : Int) ≠ 0; decide)]⟩
          · rename_i xb h9 h10
            rw [chosenOk h9 h10] at hR
            rw [hR]
            refine JC.regionB (arr xb 46 [int st3, int why3, u64 sq3, .slice p3 img3.length cu3] :: bytesHP (.slice p3 img3.length cu3) img3 :: p :: arr sp 66 [.pointer (some ⟨sb, 0, none⟩)] :: diskHP d D3 :: l) mixed
              (JB.heap (l' := arr sb shT (shCells d e f s (.slice none 0 0) 0 0 false) :: arr xb 46 [int st3, int why3, u64 sq3, .slice p3 img3.length cu3] :: bytesHP (.slice p3 img3.length cu3) img3 :: p :: arr sp 66 [.pointer (some ⟨sb, 0, none⟩)] :: diskHP d D3 :: l) (Sat.weak (by repeat (first | exact Weak.refl | (apply Weak.cons; (first | exact Pick.here | exact Pick.there Pick.here | exact Pick.there (Pick.there Pick.here) | exact Pick.there (Pick.there (Pick.there Pick.here)) | exact Pick.there (Pick.there (Pick.there (Pick.there Pick.here))) | exact Pick.there (Pick.there (Pick.there (Pick.there (Pick.there Pick.here)))) | exact Pick.there (Pick.there (Pick.there (Pick.there (Pick.there (Pick.there Pick.here))))) | exact Pick.there (Pick.there (Pick.there (Pick.there (Pick.there (Pick.there (Pick.there Pick.here)))))) | exact Pick.there (Pick.there (Pick.there (Pick.there (Pick.there (Pick.there (Pick.there (Pick.there Pick.here))))))) | exact Pick.there (Pick.there (Pick.there (Pick.there (Pick.there (Pick.there (Pick.there (Pick.there (Pick.there Pick.here)))))))) | exact Pick.there (Pick.there (Pick.there (Pick.there (Pick.there (Pick.there (Pick.there (Pick.there (Pick.there (Pick.there Pick.here))))))))) | exact Pick.there (Pick.there (Pick.there (Pick.there (Pick.there (Pick.there (Pick.there (Pick.there (Pick.there (Pick.there (Pick.there Pick.here)))))))))) | exact Pick.there (Pick.there (Pick.there (Pick.there (Pick.there (Pick.there (Pick.there (Pick.there (Pick.there (Pick.there (Pick.there (Pick.there Pick.here))))))))))) | exact Pick.there (Pick.there (Pick.there (Pick.there (Pick.there (Pick.there (Pick.there (Pick.there (Pick.there (Pick.there (Pick.there (Pick.there (Pick.there Pick.here)))))))))))))) | apply Weak.drop))) ?_)
            repeat' (first | (first | (apply JB.ru; exact rfl; exact rfl; exact rfl; exact rfl; (first | (apply Ru.move; exact rfl) | (apply Ru.loadN; exact rfl; (repeat (first | exact Pick.here | apply Pick.there)); exact rfl) | (apply Ru.fieldAddr; exact rfl) | (apply Ru.nilP; exact rfl)); decide +kernel; decide +kernel; (first | exact fun _ h => h | exact fun _ h => Sat.drop h | exact fun _ h => Sat.drop (Sat.drop h) | exact fun _ h => Sat.drop (Sat.drop (Sat.drop h)) | exact fun _ h => Sat.drop (Sat.drop (Sat.drop (Sat.drop h)))); (simp only [Nat.reduceAdd, Nat.reducePow, Nat.reduceMul, Nat.zero_or, Nat.or_zero, Nat.reduceXor, Nat.reduceOr]; try exact rfl)) | (apply JB.nil; exact rfl) | (apply JI.do0; exact rfl; exact rfl; exact rfl; (first | (apply Do.storeN; exact rfl; exact rfl; exact rfl; (repeat (first | exact Pick.here | apply Pick.there)); exact rfl; exact rfl) | (apply Do.store; exact rfl; exact rfl; exact rfl; (repeat (first | exact Pick.here | apply Pick.there)); exact rfl)); (simp only [Nat.reduceAdd, Nat.reducePow, Nat.reduceMul, Nat.zero_or, Nat.or_zero, Nat.reduceXor, Nat.reduceOr]; try exact rfl); rintro _ _ ⟨rfl, rfl⟩; refine ⟨(by (first | exact fun _ h => h | exact fun _ h => Sat.drop h | exact fun _ h => Sat.drop (Sat.drop h) | exact fun _ h => Sat.drop (Sat.drop (Sat.drop h)) | exact fun _ h => Sat.drop (Sat.drop (Sat.drop (Sat.drop h))))), ?_⟩)) | refine JB.one 10 (by decide +kernel) ?_ | refine JB.one 13 (by decide +kernel) ?_ | refine JB.one 16 (by decide +kernel) ?_)
            repeat' (first | (fail) | (refine JE.doneX0N rfl ?_))
            refine ⟨p :: arr sp 66 [.pointer (some ⟨sb, 0, none⟩)] :: shadHP sb d e f s ⟨img3, sq3, 1, false⟩ :: diskHP d D3 :: l, ?_, rfl, by rw [openL_yes]⟩
            refine Weak.trans (l2 := arr sb shT (shCells d e f s (.slice p3 img3.length cu3) sq3 1 false) :: bytesHP (.slice p3 img3.length cu3) img3 :: p :: arr sp 66 [.pointer (some ⟨sb, 0, none⟩)] :: diskHP d D3 :: l) (by repeat (first | exact Weak.refl | (apply Weak.cons; (first | exact Pick.here | exact Pick.there Pick.here | exact Pick.there (Pick.there Pick.here) | exact Pick.there (Pick.there (Pick.there Pick.here)) | exact Pick.there (Pick.there (Pick.there (Pick.there Pick.here))) | exact Pick.there (Pick.there (Pick.there (Pick.there (Pick.there Pick.here)))) | exact Pick.there (Pick.there (Pick.there (Pick.there (Pick.there (Pick.there Pick.here))))) | exact Pick.there (Pick.there (Pick.there (Pick.there (Pick.there (Pick.there (Pick.there Pick.here)))))) | exact Pick.there (Pick.there (Pick.there (Pick.there (Pick.there (Pick.there (Pick.there (Pick.there Pick.here))))))) | exact Pick.there (Pick.there (Pick.there (Pick.there (Pick.there (Pick.there (Pick.there (Pick.there (Pick.there Pick.here)))))))) | exact Pick.there (Pick.there (Pick.there (Pick.there (Pick.there (Pick.there (Pick.there (Pick.there (Pick.there (Pick.there Pick.here))))))))) | exact Pick.there (Pick.there (Pick.there (Pick.there (Pick.there (Pick.there (Pick.there (Pick.there (Pick.there (Pick.there (Pick.there Pick.here)))))))))) | exact Pick.there (Pick.there (Pick.there (Pick.there (Pick.there (Pick.there (Pick.there (Pick.there (Pick.there (Pick.there (Pick.there (Pick.there Pick.here))))))))))) | exact Pick.there (Pick.there (Pick.there (Pick.there (Pick.there (Pick.there (Pick.there (Pick.there (Pick.there (Pick.there (Pick.there (Pick.there (Pick.there Pick.here)))))))))))))) | apply Weak.drop)) (Weak.trans Weak.shadE (by repeat (first | exact Weak.refl | (apply Weak.cons; (first | exact Pick.here | exact Pick.there Pick.here | exact Pick.there (Pick.there Pick.here) | exact Pick.there (Pick.there (Pick.there Pick.here)) | exact Pick.there (Pick.there (Pick.there (Pick.there Pick.here))) | exact Pick.there (Pick.there (Pick.there (Pick.there (Pick.there Pick.here)))) | exact Pick.there (Pick.there (Pick.there (Pick.there (Pick.there (Pick.there Pick.here))))) | exact Pick.there (Pick.there (Pick.there (Pick.there (Pick.there (Pick.there (Pick.there Pick.here)))))))) | apply Weak.drop)))
        · have hR : openR D e f s = (e3, D3, .zero) := by
            unfold openR; rw [hc0, if_neg (not_not_intro h), hD1, if_neg (not_not_intro h1), hD2, if_neg (not_not_intro h2), hD3, if_pos h3]
          rw [hR]
          repeat' (first | (fail) | (first | refine JE.thenP ?_ | refine JE.doneXP ?_))
          refine ⟨p :: diskHP d D3 :: l, (by repeat (first | exact Weak.refl | (apply Weak.cons; (first | exact Pick.here | exact Pick.there Pick.here | exact Pick.there (Pick.there Pick.here) | exact Pick.there (Pick.there (Pick.there Pick.here)) | exact Pick.there (Pick.there (Pick.there (Pick.there Pick.here))) | exact Pick.there (Pick.there (Pick.there (Pick.there (Pick.there Pick.here)))) | exact Pick.there (Pick.there (Pick.there (Pick.there (Pick.there (Pick.there Pick.here))))) | exact Pick.there (Pick.there (Pick.there (Pick.there (Pick.there (Pick.there (Pick.there Pick.here)))))))) | apply Weak.drop)), by rw [endOf, if_neg h3], ?_⟩
          unfold openL; rw [if_neg h3]
      · have hR : openR D e f s = (e2, D2, .zero) := by
          unfold openR; rw [hc0, if_neg (not_not_intro h), hD1, if_neg (not_not_intro h1), hD2, if_pos h2]
        rw [hR]
        repeat' (first | (fail) | (first | refine JE.thenP ?_ | refine JE.doneXP ?_))
        refine ⟨p :: diskHP d D2 :: l, (by repeat (first | exact Weak.refl | (apply Weak.cons; (first | exact Pick.here | exact Pick.there Pick.here | exact Pick.there (Pick.there Pick.here) | exact Pick.there (Pick.there (Pick.there Pick.here)) | exact Pick.there (Pick.there (Pick.there (Pick.there Pick.here))) | exact Pick.there (Pick.there (Pick.there (Pick.there (Pick.there Pick.here)))) | exact Pick.there (Pick.there (Pick.there (Pick.there (Pick.there (Pick.there Pick.here))))) | exact Pick.there (Pick.there (Pick.there (Pick.there (Pick.there (Pick.there (Pick.there Pick.here)))))))) | apply Weak.drop)), by rw [endOf, if_neg h2], ?_⟩
        unfold openL; rw [if_neg h2]
    · have hR : openR D e f s = (e1, D1, .zero) := by
        unfold openR; rw [hc0, if_neg (not_not_intro h), hD1, if_pos h1]
      rw [hR]
      repeat' (first | (fail) | (first | refine JE.thenP ?_ | refine JE.doneXP ?_))
      refine ⟨p :: diskHP d D1 :: l, (by repeat (first | exact Weak.refl | (apply Weak.cons; (first | exact Pick.here | exact Pick.there Pick.here | exact Pick.there (Pick.there Pick.here) | exact Pick.there (Pick.there (Pick.there Pick.here)) | exact Pick.there (Pick.there (Pick.there (Pick.there Pick.here))) | exact Pick.there (Pick.there (Pick.there (Pick.there (Pick.there Pick.here)))) | exact Pick.there (Pick.there (Pick.there (Pick.there (Pick.there (Pick.there Pick.here))))) | exact Pick.there (Pick.there (Pick.there (Pick.there (Pick.there (Pick.there (Pick.there Pick.here)))))))) | apply Weak.drop)), by rw [endOf, if_neg h1], ?_⟩
      unfold openL; rw [if_neg h1]
  · have hR : openR D e f s = (c0, D, .zero) := by
      unfold openR; rw [hc0, if_pos h]
    rw [hR]
    repeat' (first | (fail) | (first | refine JE.thenP ?_ | refine JE.doneXP ?_))
    refine ⟨p :: diskHP d D :: l, (by repeat (first | exact Weak.refl | (apply Weak.cons; (first | exact Pick.here | exact Pick.there Pick.here | exact Pick.there (Pick.there Pick.here) | exact Pick.there (Pick.there (Pick.there Pick.here)) | exact Pick.there (Pick.there (Pick.there (Pick.there Pick.here))) | exact Pick.there (Pick.there (Pick.there (Pick.there (Pick.there Pick.here)))) | exact Pick.there (Pick.there (Pick.there (Pick.there (Pick.there (Pick.there Pick.here))))) | exact Pick.there (Pick.there (Pick.there (Pick.there (Pick.there (Pick.there (Pick.there Pick.here)))))))) | apply Weak.drop)), by rw [endOf, if_neg h], ?_⟩
    unfold openL; rw [if_neg h]
set_option maxHeartbeats 1000000 in
theorem shadow_Open (d : Nat) (D : DiskN) (e f s : Int) (hD : D.WF) (ho : D.ops ≤ 1000000000) (hw : D.writes ≤ 1000000) {l : List HP} [hg : InG l] :
    Fn Tryz.prog σ 41 #[.pointer (some ⟨d, 0, none⟩), geoV e f s] (diskHP d D :: l)
      (fun v l' => ((openR D e f s).1 = 0 ∧ ∃ sb, v = .tuple #[.pointer (some ⟨sb, 0, none⟩), int 0] ∧ l' = shadHP sb d e f s (openR D e f s).2.2 :: diskHP d (openR D e f s).2.1 :: l) ∨
        ((openR D e f s).1 ≠ 0 ∧ v = .tuple #[.pointer none, int (openR D e f s).1] ∧ l' = diskHP d (openR D e f s).2.1 :: l)) := by
  obtain ⟨⟨er, E, S⟩, hR⟩ : ∃ x, openR D e f s = x := ⟨_, rfl⟩
  have h1 := fun db gb sp sb p => shadow_Open1 (σ := σ) d gb db sp sb D e f s hD ho hw (l := l) p
  rw [hR] at h1 ⊢
  refine Fn.of Tryz.func41 rfl Tryz.ntmps41 rfl ?_
  repeat' (first | (apply JO.ru; exact rfl; exact rfl; exact rfl; (first | (apply Ru.loadN; exact rfl; (repeat (first | exact Pick.here | apply Pick.there)); exact rfl) | (apply Ru.assign; exact rfl) | (apply Ru.loadAN; exact rfl; (repeat (first | exact Pick.here | apply Pick.there)); exact rfl; exact rfl) | (apply Ru.buildN; exact rfl; exact rfl) | (apply Ru.makeFunc; exact rfl; exact rfl))) | refine JC.seq ?_ | refine JC.region ?_ | refine JO.nil ?_ | refine JE.thenN ?_ | (apply JO.do; exact rfl; exact rfl; exact rfl; (first | (apply Do.allocN; exact rfl) | apply Do.alloc); rintro _ _ ⟨_, rfl, rfl⟩) | (apply JO.do; exact rfl; exact rfl; exact rfl; (first | (apply Do.boxN; exact rfl; exact rfl) | (apply Do.box; exact rfl)); rintro _ _ ⟨_, rfl, rfl⟩) | (apply JO.do0; exact rfl; exact rfl; (first | (apply Do.storeN; exact rfl; exact rfl; exact rfl; (repeat (first | exact Pick.here | apply Pick.there)); exact rfl; exact rfl) | (apply Do.store; exact rfl; exact rfl; exact rfl; (repeat (first | exact Pick.here | apply Pick.there)); exact rfl)); rintro _ _ ⟨rfl, rfl⟩))
  rename_i db gb sb sp
  refine JO.heap (Sat.weak (l' := arr sp 66 [.pointer (some ⟨sb, 0, none⟩)] :: arr sb shT (shCells d e f s (.slice none 0 0) 0 0 false) :: arr gb 23 [int e, int f, int s] :: arr db 28 [.pointer (some ⟨d, 0, none⟩)] :: diskHP d D :: l) (by repeat (first | exact Weak.refl | (apply Weak.cons; (first | exact Pick.here | exact Pick.there Pick.here | exact Pick.there (Pick.there Pick.here) | exact Pick.there (Pick.there (Pick.there Pick.here)) | exact Pick.there (Pick.there (Pick.there (Pick.there Pick.here))) | exact Pick.there (Pick.there (Pick.there (Pick.there (Pick.there Pick.here)))) | exact Pick.there (Pick.there (Pick.there (Pick.there (Pick.there (Pick.there Pick.here))))) | exact Pick.there (Pick.there (Pick.there (Pick.there (Pick.there (Pick.there (Pick.there Pick.here)))))))) | apply Weak.drop))) ?_
  (apply JO.do; exact rfl; exact rfl; exact rfl; (apply Do.call; exact rfl; exact shadow_tried fun p => h1 db gb sp sb p); rintro _ _ ⟨rfl, rfl⟩)
  by_cases h : er = 0
  · subst h
    rw [openL_yes]
    repeat' (first | (apply JO.ru; exact rfl; exact rfl; exact rfl; (first | (apply Ru.move; exact rfl) | (apply Ru.loadN; exact rfl; (repeat (first | exact Pick.here | apply Pick.there)); exact rfl) | (apply Ru.assign; exact rfl) | (apply Ru.neq; exact rfl; exact rfl; (first | exact ndecF (by omega) | exact ndecT (by omega))))) | refine JC.seq ?_ | refine JC.region ?_ | refine JO.nil ?_ | refine JE.thenN ?_ | refine JC.ret ?_ | refine JC.skip ?_ | refine JC.condF rfl ?_ | (apply JE.done2; exact rfl; (first | (apply Res.tmp; exact rfl) | (apply Res.cell; exact rfl; (repeat (first | exact Pick.here | apply Pick.there)); exact rfl) | (apply Res.cellAN; exact rfl; (repeat (first | exact Pick.here | apply Pick.there)); exact rfl; exact rfl) | (apply Res.cellA; exact rfl; (repeat (first | exact Pick.here | apply Pick.there)); exact rfl; exact rfl)); (first | (apply Res.tmp; exact rfl) | (apply Res.cell; exact rfl; (repeat (first | exact Pick.here | apply Pick.there)); exact rfl) | (apply Res.cellAN; exact rfl; (repeat (first | exact Pick.here | apply Pick.there)); exact rfl; exact rfl) | (apply Res.cellA; exact rfl; (repeat (first | exact Pick.here | apply Pick.there)); exact rfl; exact rfl))))
    exact ⟨_, Sat.weak (by repeat (first | exact Weak.refl | (apply Weak.cons; (first | exact Pick.here | exact Pick.there Pick.here | exact Pick.there (Pick.there Pick.here) | exact Pick.there (Pick.there (Pick.there Pick.here)) | exact Pick.there (Pick.there (Pick.there (Pick.there Pick.here))) | exact Pick.there (Pick.there (Pick.there (Pick.there (Pick.there Pick.here)))) | exact Pick.there (Pick.there (Pick.there (Pick.there (Pick.there (Pick.there Pick.here))))) | exact Pick.there (Pick.there (Pick.there (Pick.there (Pick.there (Pick.there (Pick.there Pick.here)))))))) | apply Weak.drop)), .inl ⟨rfl, sb, rfl, rfl⟩⟩
  · rw [openL_no h]
    repeat' (first | (apply JO.ru; exact rfl; exact rfl; exact rfl; (first | (apply Ru.move; exact rfl) | (apply Ru.assign; exact rfl) | (apply Ru.neq; exact rfl; exact rfl; (first | exact ndecF (by omega) | exact ndecT (by omega))))) | refine JC.seq ?_ | refine JC.region ?_ | refine JO.nil ?_ | refine JE.thenN ?_ | refine JE.thenR ?_ | refine JC.ret ?_ | refine JC.condT rfl ?_ | (apply JE.done2; exact rfl; (first | (apply Res.tmp; exact rfl) | (apply Res.cell; exact rfl; (repeat (first | exact Pick.here | apply Pick.there)); exact rfl) | (apply Res.cellAN; exact rfl; (repeat (first | exact Pick.here | apply Pick.there)); exact rfl; exact rfl) | (apply Res.cellA; exact rfl; (repeat (first | exact Pick.here | apply Pick.there)); exact rfl; exact rfl)); (first | (apply Res.tmp; exact rfl) | (apply Res.cell; exact rfl; (repeat (first | exact Pick.here | apply Pick.there)); exact rfl) | (apply Res.cellAN; exact rfl; (repeat (first | exact Pick.here | apply Pick.there)); exact rfl; exact rfl) | (apply Res.cellA; exact rfl; (repeat (first | exact Pick.here | apply Pick.there)); exact rfl; exact rfl))))
    exact ⟨_, Sat.weak (by repeat (first | exact Weak.refl | (apply Weak.cons; (first | exact Pick.here | exact Pick.there Pick.here | exact Pick.there (Pick.there Pick.here) | exact Pick.there (Pick.there (Pick.there Pick.here)) | exact Pick.there (Pick.there (Pick.there (Pick.there Pick.here))) | exact Pick.there (Pick.there (Pick.there (Pick.there (Pick.there Pick.here)))) | exact Pick.there (Pick.there (Pick.there (Pick.there (Pick.there (Pick.there Pick.here))))) | exact Pick.there (Pick.there (Pick.there (Pick.there (Pick.there (Pick.there (Pick.there Pick.here)))))))) | apply Weak.drop)), .inr ⟨h, rfl, rfl⟩⟩
end Go.Sep
/- What a shadow's disk tells, whatever is planned to fail: no program in sight. -/
namespace Go.Sep
open Go Go.Proofs
theorem failing_mem {D : DiskN} (h : D.failing = true) : ((D.ops + 1 : Nat) : Int) ∈ D.planned := by
  unfold DiskN.failing at h
  rw [List.contains_iff_mem] at h
  simpa using h
/-- What a slot tells, when nothing fails. -/
def slotP (D : DiskN) (fst many : Nat) (e f s : Int) : SlotN :=
  if decE (D.cur fst) ≠ 0 then ⟨0, decE (D.cur fst), 0, []⟩
  else if (decH (D.cur fst)).e = e ∧ (decH (D.cur fst)).f = f ∧ (decH (D.cur fst)).s = s then
    if crcSum ((D.body (fst : Int) many).take (decH (D.cur fst)).len.toNat) = (decH (D.cur fst)).sum then ⟨2, 0, (decH (D.cur fst)).seq, (D.body (fst : Int) many).take (decH (D.cur fst)).len.toNat⟩ else ⟨0, 8, 0, []⟩
  else ⟨1, 0, 0, []⟩
theorem decH_len {bs : List UInt8} (h : decE bs = 0) : (decH bs).len = totG (decH bs).e (decH bs).f (decH bs).s := by
  unfold decH
  rw [if_pos h]
  unfold decE at h
  split at h
  · cases h
  · split at h
    · cases h
    · split at h
      · cases h
      · split at h
        · cases h
        · split at h
          · rename_i hr
            unfold HeadN.right at hr
            simp at hr
            exact hr.2
          · cases h
theorem body_length {D : DiskN} (h : D.WF) (fst : Nat) : ∀ many, fst + many < D.count → (D.body (fst : Int) many).length = many * D.size
  | 0, _ => by simp [DiskN.body, DiskN.rows]
  | m + 1, hm => by
    have ih := body_length h fst m (by omega)
    have e1 : ((fst : Int) + (1 + (m : Int))).toNat = fst + (m + 1) := by omega
    rw [body_succ, List.length_append, ih, e1, h.cur hm, Nat.succ_mul]
section
variable {D : DiskN} {z k fst many : Nat} {which e f s : Int}
theorem read_any (hh : Here z k which e f s fst many) (hwf : D.WF) (hz : D.size = z) (hk : D.count = k) :
    (∃ j, 1 ≤ j ∧ j ≤ 1 + many ∧ readR D which e f s = (0, D.ticks j, slotP D fst many e f s)) ∨ (∃ j, 1 ≤ j ∧ j ≤ 1 + many ∧ readR D which e f s = (3, D.ticks j, .zero) ∧ ((D.ops + j : Nat) : Int) ∈ D.planned) := by
  have hl := hh.lt (j := 0) (by omega)
  have hsz := hh.hsize
  rcases readE_cases (z := z) hk (i := fst) (by omega) with ⟨r1, _⟩ | ⟨r1, r2⟩
  · by_cases c1 : decE (D.cur fst) ≠ 0
    · left
      refine ⟨1, Nat.le_refl _, by omega, ?_⟩
      unfold readR slotP
      rw [if_neg (by rw [hh.atE hz hk]; simp), hh.firstOf hz, if_neg (by rw [r1]; simp), Int.toNat_natCast, if_pos c1, if_pos c1]; rfl
    · by_cases c2 : (decH (D.cur fst)).e = e ∧ (decH (D.cur fst)).f = f ∧ (decH (D.cur fst)).s = s
      · have hlen := decH_len (by omega : decE (D.cur fst) = 0)
        rw [c2.1, c2.2.1, c2.2.2] at hlen
        have htot := totG_bd e f s
        have hroom := hh.room'
        have hbl : (D.body (fst : Int) many).length = many * z := by rw [body_length hwf fst many (by have := hh.lt (Nat.le_refl many); omega), hz]
        have hbl2 : D.tick.body (fst : Int) many = D.body (fst : Int) many := rfl
        have e0 : readR D which e f s = bodyR D.tick (fst : Int) many (decH (D.cur fst)) := by
          unfold readR
          rw [if_neg (by rw [hh.atE hz hk]; simp), hh.firstOf hz, if_neg (by rw [r1]; simp), Int.toNat_natCast, if_neg c1, if_pos c2, hh.manyOf hz]
        have e2 : slotP D fst many e f s = if crcSum ((D.body (fst : Int) many).take (decH (D.cur fst)).len.toNat) = (decH (D.cur fst)).sum then ⟨2, 0, (decH (D.cur fst)).seq, (D.body (fst : Int) many).take (decH (D.cur fst)).len.toNat⟩ else ⟨0, 8, 0, []⟩ := by
          unfold slotP; rw [if_neg c1, if_pos c2]
        rw [e0, e2]
        unfold bodyR
        rcases badK_cases D.tick (fst : Int) many with ⟨b1, _⟩ | ⟨j, b1, b2, b3, b4⟩
        · left
          refine ⟨1 + many, by omega, Nat.le_refl _, ?_⟩
          rw [b1, hbl2]
          dsimp only
          have hpos : 0 ≤ (decH (D.cur fst)).len ∧ (decH (D.cur fst)).len ≤ ((D.body (fst : Int) many).length : Int) := by
            rw [hbl, hlen]
            constructor
            · exact htot.1
            · rw [Int.natCast_mul]; exact hroom
          rw [if_pos hpos]
          have et : D.tick.ticks many = D.ticks (1 + many) := by
            show ({ D with ops := D.ops + 1 + many } : DiskN) = { D with ops := D.ops + (1 + many) }
            rw [Nat.add_assoc]
          rw [et]
          split <;> rfl
        · right
          have hlt := hh.lt (j := 1 + j) (by omega)
          have e1 : (fst : Int) + (1 + (j : Int)) = ((fst + (1 + j) : Nat) : Int) := by omega
          have b5 : bodyE D.tick (fst : Int) j = (D.tick.ticks j).readE ((fst + (1 + j) : Nat) : Int) := by unfold bodyE; rw [e1]
          rcases readE_cases (z := z) (D := D.tick.ticks j) hk hlt with ⟨r3, _⟩ | ⟨r3, r4⟩
          · rw [b5, r3] at b4; exact absurd rfl b4
          · refine ⟨1 + (j + 1), by omega, by omega, ?_, ?_⟩
            · rw [b1]
              dsimp only
              rw [b5, r3]
              show (_, ({ D with ops := D.ops + 1 + (j + 1) } : DiskN), _) = (_, ({ D with ops := D.ops + (1 + (j + 1)) } : DiskN), _)
              rw [Nat.add_assoc]
            · have := failing_mem r4
              have e3 : (D.tick.ticks j).ops + 1 = D.ops + (1 + (j + 1)) := by show D.ops + 1 + j + 1 = _; omega
              rw [e3] at this
              exact this
      · left
        refine ⟨1, Nat.le_refl _, by omega, ?_⟩
        unfold readR slotP
        rw [if_neg (by rw [hh.atE hz hk]; simp), hh.firstOf hz, if_neg (by rw [r1]; simp), Int.toNat_natCast, if_neg c1, if_neg c2, if_neg c1, if_neg c2]; rfl
  · right
    refine ⟨1, Nat.le_refl _, by omega, ?_, failing_mem r2⟩
    unfold readR
    rw [if_neg (by rw [hh.atE hz hk]; simp), hh.firstOf hz, if_pos (by rw [r1]; simp), r1]; rfl
theorem slotP_congr {E : DiskN} (h : ∀ j, j ≤ many → E.cur (fst + j) = D.cur (fst + j)) : slotP E fst many e f s = slotP D fst many e f s := by
  have h0 : E.cur fst = D.cur fst := h 0 (Nat.zero_le _)
  have hb : E.body (fst : Int) many = D.body (fst : Int) many := by
    unfold DiskN.body DiskN.rows
    congr 1
    rw [List.map_map, List.map_map]
    refine List.map_congr_left fun j hj => ?_
    have hj' := List.mem_range.1 hj
    have e1 : ((fst : Int) + (1 + (j : Int))).toNat = fst + (j + 1) := by omega
    simp only [Function.comp, e1]
    exact h (j + 1) (by omega)
  unfold slotP
  rw [h0, hb]
theorem slotP_good (hh : Here z k which e f s fst many) (hz : D.size = z) {bs : List UInt8} {q : Int} (hq : 0 ≤ q ∧ q < 18446744073709551616) (hb : (bs.length : Int) = totG e f s)
    (hc : D.cur fst = padB (enc (sealHead bs e f s q)) z) (hi : ImgIs D fst many bs) : slotP D fst many e f s = ⟨2, 0, q, bs⟩ := by
  have hsz := hh.hsize
  have hcs := crcSum_bd bs
  have hright : (sealHead bs e f s q).right = true := by simp [HeadN.right, sealHead, hh.hright, hb]
  obtain ⟨d1, d2⟩ := dec_enc hright hq hcs (m := z) (by omega)
  have hbody := body_of hh hz hb hi
  have hlen : (sealHead bs e f s q).len = (bs.length : Int) := rfl
  have hsum : (sealHead bs e f s q).sum = crcSum bs := rfl
  have hsq : (sealHead bs e f s q).seq = q := rfl
  unfold slotP
  rw [hc, d1, d2, if_neg (by simp), if_pos ⟨rfl, rfl, rfl⟩, hbody, hlen, hsum, hsq, Int.toNat_natCast, padB_take, if_pos rfl]
theorem slotP_wiped (hh : Here z k which e f s fst many) (hc : D.cur fst = padB [] z) : slotP D fst many e f s = ⟨0, 6, 0, []⟩ := by
  have hd := dec_zero (m := z) (by have := hh.hsize; omega)
  unfold slotP
  rw [hc, hd, if_pos (by decide)]
theorem slotP_seq (q : Int) (h : decE (D.cur fst) ≠ 0 ∨ ((decH (D.cur fst)).e = e ∧ (decH (D.cur fst)).f = f ∧ (decH (D.cur fst)).s = s) ∧ (decH (D.cur fst)).seq ≤ q) :
    (slotP D fst many e f s).state = 0 ∨ ((slotP D fst many e f s).state = 2 ∧ (slotP D fst many e f s).seq ≤ q) := by
  unfold slotP
  rcases h with h | ⟨h, h2⟩
  · rw [if_pos h]; exact .inl rfl
  · split
    · exact .inl rfl
    · split
      · exact .inr ⟨rfl, h2⟩
      · exact .inl rfl
end
end Go.Sep
/- What Open comes to, whatever is planned to fail: no program in sight. -/
namespace Go.Sep
open Go Go.Proofs
/-- The same is read. -/
structure View (D E : DiskN) : Prop where
  wf : E.WF
  size : E.size = D.size
  count : E.count = D.count
  plan : E.planned = D.planned
  cur : ∀ j, j < D.count → E.cur j = D.cur j
  writes : E.writes = D.writes
  ops : D.ops ≤ E.ops
  same : D.cached = [] → E.cached = [] ∧ E.data = D.data
theorem View.refl {D : DiskN} (h : D.WF) : View D D := ⟨h, rfl, rfl, rfl, fun _ _ => rfl, rfl, Nat.le_refl _, fun c => ⟨c, rfl⟩⟩
theorem View.ticks {D : DiskN} (h : D.WF) (n : Nat) : View D (D.ticks n) := ⟨h.ticks n, rfl, rfl, rfl, fun _ _ => rfl, rfl, Nat.le_add_right _ _, fun c => ⟨c, rfl⟩⟩
theorem View.trans {D E G : DiskN} (a : View D E) (b : View E G) : View D G :=
  ⟨b.wf, b.size.trans a.size, b.count.trans a.count, b.plan.trans a.plan, fun j hj => (b.cur j (by rw [a.count]; exact hj)).trans (a.cur j hj), b.writes.trans a.writes, Nat.le_trans a.ops b.ops,
    fun c => ⟨(b.same (a.same c).1).1, (b.same (a.same c).1).2.trans (a.same c).2⟩⟩
theorem View.sync {D : DiskN} (h : D.WF) : View D D.tick.sync := by
  obtain ⟨a, b, c⟩ := sync_wf h.tick
  have hr := settled_rest h.tick D.tick.keys.length
  refine ⟨a, b, c, hr.2.2, fun j hj => sync_cur h.tick hj, hr.2.1, ?_, fun hc => ⟨sync_cached h.tick, ?_⟩⟩
  · have : D.tick.sync.ops = D.ops + 1 := hr.1
    omega
  · have hk : D.tick.keys = [] := by
      refine List.eq_nil_iff_forall_not_mem.2 fun j hj => ?_
      rw [mem_keys] at hj
      have : D.tick.cached = [] := hc
      rw [this] at hj; cases hj
    show (settled D.tick D.tick.keys.length).data = D.data
    rw [hk]; rfl
/-- One that was planned has failed. -/
def Hit (D E : DiskN) : Prop := ∃ n ∈ D.planned, (D.ops : Int) < n ∧ n ≤ (E.ops : Int)
theorem Hit.none {D E : DiskN} (h : D.planned = []) : ¬ Hit D E := fun ⟨n, hn, _⟩ => by rw [h] at hn; cases hn
theorem sync_any {D : DiskN} : (syncR D = (3, D.tick) ∧ ((D.ops + 1 : Nat) : Int) ∈ D.planned) ∨ syncR D = (0, D.tick.sync) := by
  unfold syncR
  by_cases h : D.failing = true
  · rw [if_pos h]; exact .inl ⟨rfl, failing_mem h⟩
  · rw [if_neg h]; exact .inr rfl
theorem sync_ops {D : DiskN} (h : D.WF) : D.tick.sync.ops = D.ops + 1 := (settled_rest h.tick D.tick.keys.length).1
/-- Both slots of a disk. -/
structure Both (z k : Nat) (e f s : Int) (many : Nat) : Prop where
  h0 : Here z k 0 e f s 0 many
  h1 : Here z k 1 e f s (1 + many) many
theorem Both.of {z k : Nat} {e f s : Int} (h1 : rightG e f s = true) (h3 : 32 ≤ z ∧ z ≤ 4096) (h4 : 2 * spanG z e f s ≤ (k : Int)) : Both z k e f s (secs (totG e f s) z).toNat := by
  have a := Here.of h1 (.inl rfl) h3 h4
  have b := Here.of h1 (.inr rfl) h3 h4
  have hs := a.hspan
  have e0 : ((0 : Int) * spanG z e f s).toNat = 0 := by omega
  have e1 : ((1 : Int) * spanG z e f s).toNat = 1 + (secs (totG e f s) z).toNat := by omega
  rw [e0] at a
  rw [e1] at b
  exact ⟨a, b⟩
section
variable {D : DiskN} {z k many : Nat} {e f s : Int}
def openP (a b : SlotN) (E : DiskN) : Int × DiskN × ShadN := if pickB a.state a.seq b.state b.seq = true then openR.chosenR 1 b E else openR.chosenR 0 a E
theorem open_any (hB : Both z k e f s many) (hwf : D.WF) (hz : D.size = z) (hk : D.count = k) :
    (∃ E, openR D e f s = (3, E, .zero) ∧ View D E ∧ Hit D E ∧ E.ops ≤ D.ops + (2 * many + 3)) ∨
    (∃ E, openR D e f s = openP (slotP D 0 many e f s) (slotP D (1 + many) many e f s) E ∧ View D E ∧ E.cached = [] ∧ E.ops ≤ D.ops + (2 * many + 3)) := by
  have hat := hB.h0.atE hz hk
  have l1 := fun {j : Nat} (hj : j ≤ many) => hB.h1.lt (j := j) hj
  rcases sync_any (D := D) with ⟨hs, hm⟩ | hs
  · left
    refine ⟨D.tick, ?_, View.ticks hwf 1, ⟨_, hm, by omega, Int.le_refl _⟩, by show D.ops + 1 ≤ _; omega⟩
    unfold openR
    rw [hat, if_neg (by simp), hs, if_pos (by simp)]
  · have v1 := View.sync hwf
    have o1 := sync_ops hwf
    have hc1 : D.tick.sync.cached = [] := sync_cached hwf.tick
    obtain ⟨D1, hD1⟩ : ∃ x, D.tick.sync = x := ⟨_, rfl⟩
    rw [hD1] at v1 o1 hc1 hs
    rcases read_any hB.h0 v1.wf (v1.size.trans hz) (v1.count.trans hk) with ⟨j, j1, j2, hr⟩ | ⟨j, j1, j2, hr, hm⟩
    · have hcong1 : slotP D1 0 many e f s = slotP D 0 many e f s := slotP_congr fun i hi => v1.cur _ (by rw [hk]; have := l1 hi; omega)
      rw [hcong1] at hr
      have v2 := v1.trans (View.ticks v1.wf j)
      rcases read_any hB.h1 v2.wf (v2.size.trans hz) (v2.count.trans hk) with ⟨i, i1, i2, hr2⟩ | ⟨i, i1, i2, hr2, hm⟩
      · have hcong2 : slotP (D1.ticks j) (1 + many) many e f s = slotP D (1 + many) many e f s := slotP_congr fun i hi => v2.cur _ (by rw [hk]; have := l1 hi; omega)
        rw [hcong2] at hr2
        right
        refine ⟨(D1.ticks j).ticks i, ?_, v2.trans (View.ticks v2.wf i), hc1, ?_⟩
        · unfold openR openP
          rw [hat, if_neg (by simp), hs, if_neg (by simp), hr, if_neg (by simp), hr2, if_neg (by simp)]
        · show D1.ops + j + i ≤ _; omega
      · left
        refine ⟨(D1.ticks j).ticks i, ?_, v2.trans (View.ticks v2.wf i), ⟨_, v2.plan ▸ hm, ?_, ?_⟩, ?_⟩
        · unfold openR
          rw [hat, if_neg (by simp), hs, if_neg (by simp), hr, if_neg (by simp), hr2, if_pos (by simp)]
        · show (D.ops : Int) < ((D1.ops + j + i : Nat) : Int); omega
        · exact Int.le_refl _
        · show D1.ops + j + i ≤ _; omega
    · left
      refine ⟨D1.ticks j, ?_, v1.trans (View.ticks v1.wf j), ⟨_, v1.plan ▸ hm, ?_, ?_⟩, ?_⟩
      · unfold openR
        rw [hat, if_neg (by simp), hs, if_neg (by simp), hr, if_pos (by simp)]
      · show (D.ops : Int) < ((D1.ops + j : Nat) : Int); omega
      · exact Int.le_refl _
      · show D1.ops + j ≤ _; omega
theorem open_no (h : atE D 0 e f s ≠ 0) : openR D e f s = (atE D 0 e f s, D, .zero) := by unfold openR; rw [if_pos h]
end
end Go.Sep
/- What a commit comes to, whatever is planned to fail: no program in sight. -/
namespace Go.Sep
open Go Go.Proofs
theorem writeE_cases {D : DiskN} {z k : Nat} (hz : D.size = z) (hk : D.count = k) {i : Nat} (hi : i < k) : (D.writeE (i : Int) z = 0 ∧ D.failing = false) ∨ (D.writeE (i : Int) z = 3 ∧ D.failing = true) := by
  unfold DiskN.writeE
  by_cases h : D.failing = true
  · rw [if_pos h]; exact .inr ⟨rfl, h⟩
  · rw [if_neg h, if_neg (by omega), if_neg (by omega), if_neg (by rw [hz]; simp)]; exact .inl ⟨rfl, by simpa using h⟩
section
variable {D : DiskN} {z k fst many : Nat} {which e f s : Int}
theorem dataGo_any : ∀ (ps : List (List UInt8)) (D : DiskN) (i : Nat), D.WF → D.size = z → D.count = k → (∀ x ∈ ps, x.length = z) → fst + 1 + i + ps.length ≤ k →
    ((dataGo (fst : Int) i D ps).1 = 0 ∧ (dataGo (fst : Int) i D ps).2.ops = D.ops + ps.length ∧ (dataGo (fst : Int) i D ps).2.writes = D.writes + ps.length ∧
      ∀ j, (dataGo (fst : Int) i D ps).2.cur j = if fst + 1 + i ≤ j ∧ j < fst + 1 + i + ps.length then ps.getD (j - (fst + 1 + i)) [] else D.cur j) ∨
    ((dataGo (fst : Int) i D ps).1 = 3 ∧ Hit D (dataGo (fst : Int) i D ps).2)
  | [], D, i, h, _, _, _, _ => by
    left
    refine ⟨rfl, rfl, rfl, fun j => ?_⟩
    rw [if_neg (by simp only [List.length_nil]; omega)]; rfl
  | x :: r, D, i, h, hz, hk, hx, hr => by
    have hxl := hx x List.mem_cons_self
    have hlt : fst + (1 + i) < k := by rw [List.length_cons] at hr; omega
    have e0 : (fst : Int) + (1 + (i : Int)) = ((fst + (1 + i) : Nat) : Int) := by omega
    rcases writeE_cases hz hk hlt with ⟨w1, _⟩ | ⟨w1, w2⟩
    · have hw : D.writeE ((fst : Int) + (1 + (i : Int))) x.length = 0 := by rw [e0, hxl]; exact w1
      have e1 : dataGo (fst : Int) i D (x :: r) = dataGo (fst : Int) (i + 1) (D.put ((fst + (1 + i) : Nat) : Int) x) r := by
        rw [dataGo, if_neg (by rw [hw]; simp), e0]
      have hp := h.put (i := ((fst + (1 + i) : Nat) : Int)) (bs := x) (by omega) (by rw [hk]; omega) (by rw [hxl, hz])
      rw [e1]
      rcases dataGo_any r (D.put ((fst + (1 + i) : Nat) : Int) x) (i + 1) hp hz hk (fun y hy => hx y (List.mem_cons_of_mem _ hy)) (by rw [List.length_cons] at hr; omega) with ⟨a1, a3, a4, a5⟩ | ⟨a1, n, a2, a3, a4⟩
      · left
        refine ⟨a1, by rw [a3, List.length_cons]; show D.ops + 1 + _ = _; omega, by rw [a4, List.length_cons]; show D.writes + 1 + _ = _; omega, fun j => ?_⟩
        rw [a5 j, List.length_cons]
        by_cases c1 : j = fst + (1 + i)
        · subst c1
          rw [if_neg (by omega), if_pos (by omega), cur_put, if_pos rfl]
          have : fst + (1 + i) - (fst + 1 + i) = 0 := by omega
          rw [this]; rfl
        · by_cases c2 : fst + 1 + (i + 1) ≤ j ∧ j < fst + 1 + (i + 1) + r.length
          · rw [if_pos c2, if_pos (by omega)]
            have : j - (fst + 1 + i) = (j - (fst + 1 + (i + 1))) + 1 := by omega
            rw [this, List.getD_cons_succ]
          · rw [if_neg c2, if_neg (by omega), cur_put, if_neg c1]
      · right
        refine ⟨a1, n, a2, ?_, a4⟩
        have : ((D.ops + 1 : Nat) : Int) < n := a3
        omega
    · have hw : D.writeE ((fst : Int) + (1 + (i : Int))) x.length = 3 := by rw [e0, hxl]; exact w1
      have e1 : dataGo (fst : Int) i D (x :: r) = (3, D.tick) := by rw [dataGo, if_pos (by rw [hw]; simp), hw]
      right
      rw [e1]
      exact ⟨rfl, _, failing_mem w2, by omega, Int.le_refl _⟩
theorem data_any (hh : Here z k which e f s fst many) (hwf : D.WF) (hz : D.size = z) (hk : D.count = k) {bs : List UInt8} (hb : (bs.length : Int) = totG e f s) :
    ((dataR D which e f s bs).1 = 0 ∧ (dataR D which e f s bs).2.ops = D.ops + many ∧ (dataR D which e f s bs).2.writes = D.writes + many ∧ ImgIs (dataR D which e f s bs).2 fst many bs ∧
      ∀ j, ¬ (fst + 1 ≤ j ∧ j < fst + 1 + many) → (dataR D which e f s bs).2.cur j = D.cur j) ∨
    ((dataR D which e f s bs).1 = 3 ∧ Hit D (dataR D which e f s bs).2) := by
  have hn : (secs bs.length D.size).toNat = many := by rw [hb, hz, hh.hsecs]; omega
  have e0 : dataR D which e f s bs = dataGo (fst : Int) 0 D (pieces bs z many) := by
    unfold dataR
    rw [if_neg (by rw [hh.atE hz hk]; simp), if_neg (by rw [hb]; simp), hh.firstOf hz, hn, hz]
  have hroom : bs.length ≤ many * z := by
    have := hh.room'
    rw [← hb, ← Int.natCast_mul] at this
    omega
  have hlt := hh.lt (Nat.le_refl many)
  have hsz : (dataGo (fst : Int) 0 D (pieces bs z many)).2.size = z := by
    have := (dataGo_grows (pieces bs z many) D (fst : Int) 0 hwf).size
    exact this.trans hz
  rcases dataGo_any (fst := fst) (pieces bs z many) D 0 hwf hz hk (pieces_each hroom) (by rw [pieces_length]; omega) with ⟨a1, a3, a4, a5⟩ | h
  · left
    rw [pieces_length] at a3 a4 a5
    rw [e0]
    refine ⟨a1, a3, a4, fun j hj => ?_, fun j hj => ?_⟩
    · rw [a5, if_pos (by omega), hsz]
      congr 1; omega
    · rw [a5, if_neg (by omega)]
  · right; rw [e0]; exact h
theorem Kept.sync {S : Nat → Prop} {E : DiskN} (h : Kept S D E) : Kept S D E.tick.sync := by
  obtain ⟨a, b, c⟩ := sync_wf h.wf.tick
  have hr := settled_rest h.wf.tick E.tick.keys.length
  refine ⟨a, b.trans h.size, c.trans h.count, hr.2.2.trans h.plan, fun j _ _ => ?_, fun j hj hc => ?_, ?_⟩
  · rw [sync_cached h.wf.tick]; rfl
  · have h1 : E.tick.sync.sector j = E.tick.cur j := sync_sector h.wf.tick (by show j < E.count; rw [h.count]; exact hc)
    rw [h1]
    exact h.cur hj hc
  · have : E.tick.sync.ops = E.ops + 1 := hr.1
    have := h.ops
    omega
/-- All but a slot's own sectors; all but those with its image. -/
def offSlot (fst many : Nat) (j : Nat) : Prop := ¬ (fst ≤ j ∧ j ≤ fst + many)
def offImg (fst many : Nat) (j : Nat) : Prop := ¬ (fst + 1 ≤ j ∧ j < fst + 1 + many)
theorem Kept.off {E : DiskN} (h : Kept (offImg fst many) D E) : Kept (offSlot fst many) D E :=
  ⟨h.wf, h.size, h.count, h.plan, fun j hj => h.look j (fun c => hj ⟨by omega, by omega⟩), fun j hj => h.sec j (fun c => hj ⟨by omega, by omega⟩), h.ops⟩
/-- What laying an image comes to: it is there and lasts; or an operation failed ahead of its head; or the one behind it. -/
theorem lay_any (hh : Here z k which e f s fst many) (hwf : D.WF) (hz : D.size = z) (hk : D.count = k) (hc : D.cached = []) {bs : List UInt8} (hb : (bs.length : Int) = totG e f s) (q : Int) :
    (∃ E, layR D which e f s q bs = (0, E) ∧ Kept (offSlot fst many) D E ∧ E.cached = [] ∧ E.cur fst = padB (enc (sealHead bs e f s q)) z ∧ ImgIs E fst many bs ∧ E.ops = D.ops + (many + 3) ∧ E.writes = D.writes + (many + 1)) ∨
    (∃ E, layR D which e f s q bs = (3, E) ∧ Kept (offImg fst many) D E ∧ Hit D E ∧ E.ops ≤ D.ops + (many + 3) ∧ E.writes ≤ D.writes + (many + 1)) ∨
    (∃ E, layR D which e f s q bs = (3, E) ∧ Kept (offSlot fst many) D E ∧ Hit D E ∧ E.cur fst = padB (enc (sealHead bs e f s q)) z ∧ ImgIs E fst many bs ∧ E.sector fst = D.sector fst ∧ (∀ j, j < many → lookI E.cached ((fst + 1 + j : Nat) : Int) = none) ∧
      E.ops = D.ops + (many + 3) ∧ E.writes = D.writes + (many + 1)) := by
  have hsz := hh.hsize
  have hl0 := hh.lt (j := 0) (by omega)
  have hlm := hh.lt (j := many) (Nat.le_refl _)
  obtain ⟨K1, o1, w1⟩ := data_kept (E := D) hh hz hk (Kept.refl (S := offImg fst many) hwf hc) hb (fun j hj => fun h => h ⟨by omega, by omega⟩)
  obtain ⟨⟨e1, D1⟩, hD1⟩ : ∃ x, dataR D which e f s bs = x := ⟨_, rfl⟩
  have hany := data_any hh hwf hz hk hb
  rw [hD1] at K1 o1 w1 hany
  dsimp only at K1 o1 w1 hany
  rcases hany with ⟨rfl, o1', w1', i1, c1⟩ | ⟨rfl, h1⟩
  · have hL1 : layR D which e f s q bs = (if (syncR D1).1 ≠ 0 then syncR D1 else if (sealR (syncR D1).2 which e f s q bs).1 ≠ 0 then sealR (syncR D1).2 which e f s q bs else syncR (sealR (syncR D1).2 which e f s q bs).2) := by
      unfold layR; rw [hD1, if_neg (by simp)]
    rcases sync_any (D := D1) with ⟨hs, hm⟩ | hs
    · right; left
      refine ⟨D1.tick, by rw [hL1, hs, if_pos (by simp)], K1.tick, ⟨((D1.ops + 1 : Nat) : Int), K1.plan ▸ hm, by omega, Int.le_refl _⟩, by show D1.ops + 1 ≤ _; omega, by show D1.writes ≤ _; omega⟩
    · have K2 := K1.sync
      have o2 := sync_ops K1.wf
      have w2 : D1.tick.sync.writes = D1.writes := (settled_rest K1.wf.tick D1.tick.keys.length).2.1
      have hc2 : D1.tick.sync.cached = [] := sync_cached K1.wf.tick
      have cu2 : ∀ j, j < D1.count → D1.tick.sync.cur j = D1.cur j := fun j hj => sync_cur K1.wf.tick hj
      obtain ⟨D2, hD2⟩ : ∃ x, D1.tick.sync = x := ⟨_, rfl⟩
      rw [hD2] at K2 o2 w2 hc2 cu2 hs
      have k1c : D1.count = k := K1.count.trans hk
      have z2 : D2.size = z := K2.size.trans hz
      have k2 : D2.count = k := K2.count.trans hk
      have hbl : (bs.length : Int) ≠ totG e f s ↔ False := by simp [hb]
      have hseal : sealR D2 which e f s q bs = if D2.writeE (fst : Int) z ≠ 0 then (D2.writeE (fst : Int) z, D2.tick) else (0, D2.put (fst : Int) (padB (enc (sealHead bs e f s q)) z)) := by
        unfold sealR
        rw [if_neg (by rw [hh.atE z2 k2]; simp), if_neg (by rw [hb]; simp), hh.firstOf z2, z2]
      have i2 : ImgIs D2 fst many bs := i1.of_cur (z2.trans (K1.size.trans hz).symm) fun j hj => cu2 _ (by omega)
      rcases writeE_cases z2 k2 (i := fst) (by omega) with ⟨x1, _⟩ | ⟨x1, x2⟩
      · rw [x1, if_neg (by simp)] at hseal
        have hpl : (padB (enc (sealHead bs e f s q)) z).length = z := padB_length (by rw [enc_length]; omega)
        have K3 : Kept (offSlot fst many) D (D2.put (fst : Int) (padB (enc (sealHead bs e f s q)) z)) := K2.off.put (by omega) (by rw [hpl, z2]) (fun h => h ⟨Nat.le_refl _, Nat.le_add_right _ _⟩)
        have o3 : (D2.put (fst : Int) (padB (enc (sealHead bs e f s q)) z)).ops = D2.ops + 1 := rfl
        have w3 : (D2.put (fst : Int) (padB (enc (sealHead bs e f s q)) z)).writes = D2.writes + 1 := rfl
        have cu3 : ∀ j, (D2.put (fst : Int) (padB (enc (sealHead bs e f s q)) z)).cur j = if j = fst then padB (enc (sealHead bs e f s q)) z else D2.cur j := fun j => cur_put _ _ _
        have se3 : (D2.put (fst : Int) (padB (enc (sealHead bs e f s q)) z)).sector fst = D.sector fst := K2.sec fst (fun h => by omega) (by omega)
        have lk3 : ∀ j, j < many → lookI (D2.put (fst : Int) (padB (enc (sealHead bs e f s q)) z)).cached ((fst + 1 + j : Nat) : Int) = none := fun j hj => by
          show lookI (updI D2.cached (fst : Int) _) _ = none
          rw [lookI_updI, if_neg (by omega), hc2]; rfl
        obtain ⟨D3, hD3⟩ : ∃ x, D2.put (fst : Int) (padB (enc (sealHead bs e f s q)) z) = x := ⟨_, rfl⟩
        rw [hD3] at K3 o3 w3 cu3 hseal se3 lk3
        have z3 : D3.size = z := K3.size.trans hz
        have i3 : ImgIs D3 fst many bs := i2.of_cur (z3.trans z2.symm) fun j hj => by rw [cu3, if_neg (by omega)]
        have hh3 : D3.cur fst = padB (enc (sealHead bs e f s q)) z := by rw [cu3, if_pos rfl]
        have hL2 : layR D which e f s q bs = syncR D3 := by rw [hL1, hs, if_neg (by simp), hseal, if_neg (by simp)]
        have k3 : D3.count = k := K3.count.trans hk
        rcases sync_any (D := D3) with ⟨hs3, hm3⟩ | hs3
        · right; right
          refine ⟨D3.tick, by rw [hL2, hs3], K3.tick, ⟨((D3.ops + 1 : Nat) : Int), K3.plan ▸ hm3, by omega, Int.le_refl _⟩, hh3, i3, se3, lk3, by show D3.ops + 1 = _; omega, by show D3.writes = _; omega⟩
        · left
          refine ⟨D3.tick.sync, by rw [hL2, hs3], K3.sync, sync_cached K3.wf.tick, ?_, i3.of_cur ((sync_wf K3.wf.tick).2.1) fun j hj => sync_cur K3.wf.tick (by show _ < D3.count; omega), ?_, ?_⟩
          · rw [sync_cur K3.wf.tick (by show _ < D3.count; omega)]; exact hh3
          · rw [sync_ops K3.wf]; omega
          · have h3 : D3.tick.sync.writes = D3.writes := (settled_rest K3.wf.tick D3.tick.keys.length).2.1
            rw [h3]; omega
      · rw [x1, if_pos (by simp)] at hseal
        right; left
        refine ⟨D2.tick, by rw [hL1, hs, if_neg (by simp), hseal, if_pos (by simp)], K2.tick, ⟨((D2.ops + 1 : Nat) : Int), K2.plan ▸ failing_mem x2, by omega, Int.le_refl _⟩, by show D2.ops + 1 ≤ _; omega, by show D2.writes ≤ _; omega⟩
  · right; left
    refine ⟨D1, ?_, K1, h1, by omega, by omega⟩
    unfold layR; rw [hD1, if_pos (by simp)]
end
end Go.Sep
/- What Format comes to, whatever is planned to fail: no program in sight. -/
namespace Go.Sep
open Go Go.Proofs
section
variable {D : DiskN} {z k fst many : Nat} {which e f s : Int}
theorem wipe_any (hh : Here z k which e f s fst many) (hz : D.size = z) (hk : D.count = k) :
    wipeR D which e f s = (0, D.put (fst : Int) (padB [] z)) ∨ (wipeR D which e f s = (3, D.tick) ∧ ((D.ops + 1 : Nat) : Int) ∈ D.planned) := by
  have hl0 := hh.lt (j := 0) (by omega)
  have hw : wipeR D which e f s = if D.writeE (fst : Int) z ≠ 0 then (D.writeE (fst : Int) z, D.tick) else (0, D.put (fst : Int) (padB [] z)) := by
    unfold wipeR
    rw [if_neg (by rw [hh.atE hz hk]; simp), hh.firstOf hz, hz]
  rcases writeE_cases hz hk (i := fst) (by omega) with ⟨x1, _⟩ | ⟨x1, x2⟩
  · left; rw [hw, x1, if_neg (by simp)]
  · right; rw [hw, x1, if_pos (by simp)]; exact ⟨rfl, failing_mem x2⟩
/-- A disk whose first slot is good with the factory's, whose second one is wiped; all lasts. -/
structure Fresh1 (D E : DiskN) (z : Nat) (many : Nat) (e f s : Int) : Prop where
  wf : E.WF
  size : E.size = D.size
  count : E.count = D.count
  plan : E.planned = D.planned
  cach : E.cached = []
  s0 : slotP E 0 many e f s = ⟨2, 0, 1, factB e f s⟩
  s1 : E.cur (1 + many) = padB [] z
  ops : E.ops = D.ops + (many + 6)
  writes : E.writes = D.writes + (many + 3)
theorem format_any (hB : Both z k e f s many) (hwf : D.WF) (hz : D.size = z) (hk : D.count = k) (ht : totG e f s ≤ 8192) :
    (∃ E, formatR D e f s = (0, E) ∧ Fresh1 D E z many e f s) ∨ (∃ E, formatR D e f s = (3, E) ∧ Grows D E 8300 ∧ Hit D E) := by
  have hg := formatR_grows hwf e f s (fun _ => ht)
  have hpl : (padB [] z).length = z := padB_length (by simp)
  have l1 := hB.h1.lt (j := many) (Nat.le_refl _)
  have hfl := factB_length hB.h0.hright
  rcases wipe_any hB.h0 hz hk with h1 | ⟨h1, m1⟩
  · have g1 := wipeR_grows hwf 0 e f s
    rw [h1] at g1
    dsimp only at g1
    obtain ⟨D1, hD1⟩ : ∃ x, D.put ((0 : Nat) : Int) (padB [] z) = x := ⟨_, rfl⟩
    have o1 : D1.ops = D.ops + 1 := by rw [← hD1]; rfl
    have w1 : D1.writes = D.writes + 1 := by rw [← hD1]; rfl
    rw [hD1] at h1 g1
    have z1 := g1.size.trans hz
    have k1 := g1.count.trans hk
    have f1 : formatR D e f s = andR (wipeR D1 1 e f s) fun D => andR (syncR D) fun D => layR D 0 e f s 1 (factB e f s) := by
      unfold formatR; rw [h1, andR_eq rfl]
    rcases wipe_any hB.h1 z1 k1 with h2 | ⟨h2, m2⟩
    · have g2 := wipeR_grows g1.wf 1 e f s
      rw [h2] at g2
      dsimp only at g2
      have c2 : (D1.put ((1 + many : Nat) : Int) (padB [] z)).cur (1 + many) = padB [] z := by rw [cur_put, if_pos rfl]
      obtain ⟨D2, hD2⟩ : ∃ x, D1.put ((1 + many : Nat) : Int) (padB [] z) = x := ⟨_, rfl⟩
      have o2 : D2.ops = D1.ops + 1 := by rw [← hD2]; rfl
      have w2 : D2.writes = D1.writes + 1 := by rw [← hD2]; rfl
      rw [hD2] at h2 g2 c2
      have z2 := g2.size.trans z1
      have k2 := g2.count.trans k1
      have f2 : formatR D e f s = andR (syncR D2) fun D => layR D 0 e f s 1 (factB e f s) := by
        rw [f1, h2, andR_eq rfl]
      rcases sync_any (D := D2) with ⟨h3, m3⟩ | h3
      · right
        refine ⟨D2.tick, by rw [f2, h3, andR_ne (by simp)], ?_, ((D2.ops + 1 : Nat) : Int), ?_, by omega, Int.le_refl _⟩
        · have := hg; rw [f2, h3, andR_ne (by simp)] at this; exact this
        · rw [← g1.plan, ← g2.plan]; exact m3
      · have v3 := View.sync g2.wf
        have o3 := sync_ops g2.wf
        have hc3 : D2.tick.sync.cached = [] := sync_cached g2.wf.tick
        obtain ⟨D3, hD3⟩ : ∃ x, D2.tick.sync = x := ⟨_, rfl⟩
        rw [hD3] at v3 o3 hc3 h3
        have f3 : formatR D e f s = layR D3 0 e f s 1 (factB e f s) := by rw [f2, h3, andR_eq rfl]
        have w3 := v3.writes
        have z3 := v3.size.trans z2
        have k3 := v3.count.trans k2
        have p3 : D3.planned = D.planned := v3.plan.trans (g2.plan.trans g1.plan)
        rcases lay_any hB.h0 v3.wf z3 k3 hc3 hfl 1 with ⟨E, hE, K, hcE, hcur, himg, ho, hwr⟩ | ⟨E, hE, K, ⟨n, hn, n1, n2⟩, _, _⟩ | ⟨E, hE, K, ⟨n, hn, n1, n2⟩, _⟩
        · left
          refine ⟨E, by rw [f3, hE], K.wf, K.size.trans (z3.trans hz.symm), K.count.trans (k3.trans hk.symm), K.plan.trans p3, hcE, slotP_good hB.h0 (K.size.trans z3) (by omega) hfl hcur himg, ?_, by omega, by omega⟩
          rw [K.cur (fun h => by omega) (by omega)]
          have := v3.cur (1 + many) (by omega)
          unfold DiskN.cur at this
          rw [hc3] at this
          show D3.sector (1 + many) = _
          have h5 : D3.sector (1 + many) = D2.cur (1 + many) := this
          rw [h5, c2]
        · right
          exact ⟨E, by rw [f3, hE], by have := hg; rw [f3, hE] at this; exact this, n, p3 ▸ hn, by omega, n2⟩
        · right
          exact ⟨E, by rw [f3, hE], by have := hg; rw [f3, hE] at this; exact this, n, p3 ▸ hn, by omega, n2⟩
    · right
      refine ⟨D1.tick, by rw [f1, h2, andR_ne (by simp)], ?_, ((D1.ops + 1 : Nat) : Int), ?_, by omega, Int.le_refl _⟩
      · have := hg; rw [f1, h2, andR_ne (by simp)] at this; exact this
      · rw [← g1.plan]; exact m2
  · right
    have f1 : formatR D e f s = (3, D.tick) := by unfold formatR; rw [h1, andR_ne (by simp)]
    exact ⟨D.tick, f1, by have := hg; rw [f1] at this; exact this, _, m1, by omega, Int.le_refl _⟩
end
/-! ### A disk that has a shadow -/
def slotOf (w : Int) (many : Nat) : Nat := if w = 0 then 0 else 1 + many
theorem Both.here {z k many : Nat} {e f s : Int} (h : Both z k e f s many) {w : Int} (hw : w = 0 ∨ w = 1) : Here z k w e f s (slotOf w many) many := by
  rcases hw with rfl | rfl
  · exact h.h0
  · exact h.h1
/-- Slot w is good with an image and a number; the other one is bad, or has a smaller number. -/
structure HasS (D : DiskN) (many : Nat) (e f s : Int) (w q : Int) (img : List UInt8) : Prop where
  w01 : w = 0 ∨ w = 1
  good : slotP D (slotOf w many) many e f s = ⟨2, 0, q, img⟩
  other : (slotP D (slotOf (1 - w) many) many e f s).state = 0 ∨ ((slotP D (slotOf (1 - w) many) many e f s).state = 2 ∧ (slotP D (slotOf (1 - w) many) many e f s).seq < q)
theorem HasS.openP {D : DiskN} {many : Nat} {e f s w q : Int} {img : List UInt8} (h : HasS D many e f s w q img) (E : DiskN) :
    openP (slotP D 0 many e f s) (slotP D (1 + many) many e f s) E = (0, E, ⟨img, q, w, false⟩) := by
  obtain ⟨w01, good, other⟩ := h
  rcases w01 with rfl | rfl
  · have e0 : slotOf 0 many = 0 := rfl
    have e1 : slotOf (1 - 0) many = 1 + many := rfl
    rw [e0] at good; rw [e1] at other
    unfold Go.Sep.openP
    rw [good, if_neg]
    · exact chosenOk (by decide) (by decide)
    · intro hp
      have := of_decide_eq_true hp
      dsimp only at this
      omega
  · have e0 : slotOf (1 - 1) many = 0 := rfl
    have e1 : slotOf 1 many = 1 + many := rfl
    rw [e1] at good; rw [e0] at other
    unfold Go.Sep.openP
    rw [good, if_pos]
    · exact chosenOk (by decide) (by decide)
    · apply decide_eq_true
      dsimp only
      omega
theorem HasS.congr {D E : DiskN} {z k many : Nat} {e f s w q : Int} {img : List UInt8} (hB : Both z k e f s many) (hk : D.count = k) (h : HasS D many e f s w q img) (hc : ∀ j, j < D.count → E.cur j = D.cur j) : HasS E many e f s w q img := by
  have l1 := fun {j : Nat} (hj : j ≤ many) => hB.h1.lt (j := j) hj
  have key : ∀ w' : Int, slotP E (slotOf w' many) many e f s = slotP D (slotOf w' many) many e f s := fun w' => slotP_congr fun j hj => hc _ (by
    have := l1 hj
    unfold slotOf; split <;> omega)
  exact ⟨h.w01, by rw [key]; exact h.good, by rw [key]; exact h.other⟩
theorem Fresh1.has {D E : DiskN} {z k many : Nat} {e f s : Int} (hB : Both z k e f s many) (h : Fresh1 D E z many e f s) : HasS E many e f s 0 1 (factB e f s) :=
  ⟨.inl rfl, h.s0, .inl (by
    have e1 : slotOf (1 - 0) many = 1 + many := rfl
    rw [e1, slotP_wiped hB.h1 h.s1])⟩
/-- What a commit that succeeds leaves. -/
theorem HasS.laid {D E : DiskN} {z k many : Nat} {e f s w q : Int} {img bs : List UInt8} (hB : Both z k e f s many) (hz : D.size = z) (hk : D.count = k) (hc : D.cached = []) (h : HasS D many e f s w q img) (hq : 0 ≤ q ∧ q + 1 < 18446744073709551616) (hb : (bs.length : Int) = totG e f s)
    (K : Kept (offSlot (slotOf (1 - w) many) many) D E) (hcur : E.cur (slotOf (1 - w) many) = padB (enc (sealHead bs e f s (q + 1))) z) (hi : ImgIs E (slotOf (1 - w) many) many bs) : HasS E many e f s (1 - w) (q + 1) bs := by
  have hw2 : 1 - w = 0 ∨ 1 - w = 1 := by rcases h.w01 with rfl | rfl <;> simp
  have hh := hB.here hw2
  have l1 := fun {j : Nat} (hj : j ≤ many) => hB.h1.lt (j := j) hj
  refine ⟨hw2, slotP_good hh (K.size.trans hz) (by omega) hb hcur hi, .inr ?_⟩
  have e1 : 1 - (1 - w) = w := by omega
  have hkeep : slotP E (slotOf w many) many e f s = slotP D (slotOf w many) many e f s := slotP_congr fun j hj => by
    have hlt : slotOf w many + j < D.count := by
      have := l1 hj
      unfold slotOf; split <;> omega
    rw [K.cur ?_ hlt]
    · unfold DiskN.cur; rw [hc]; rfl
    · intro hin
      rcases h.w01 with rfl | rfl
      · have e2 : slotOf (1 - 0) many = 1 + many := rfl
        have e3 : slotOf 0 many = 0 := rfl
        rw [e2, e3] at hin; omega
      · have e2 : slotOf (1 - 1) many = 0 := rfl
        have e3 : slotOf 1 many = 1 + many := rfl
        rw [e2, e3] at hin; omega
  rw [e1, hkeep, h.good]
  exact ⟨rfl, by show q < q + 1; omega⟩
end Go.Sep
/- A call that may panic, in a drawn order; a quiet operation of one's choice. -/
namespace Go.Sep
open Go
section
variable {P : Program} {σ : Sig} {n : Nat} {ds : List Deferred} {ops : Array Oper} {Q : Exit → Act → World → Prop} {rest : List Oper} {env : Env} {l r : List HP} {o : Oper}
  {dst : Option Tmp} {ty : TypeId} {pos : String} {af : Array Edge} {gd : Option (Nat × Bool)}
theorem JI.callX {l0 : List HP} {mask mask' fuel i : Nat} {f : FuncId} {xs : Array Operand} {ts : Array TypeId} {vs : List Value} {D : Nat} {RX : Ending → List HP → Prop} [HasBody P f]
    (hi : ops[i]? = some o) (ho : o = ⟨some D, .call ⟨.value (.func f), xs, ts⟩, ty, pos, af, gd⟩) (hlt : Nat.blt D n = true) (hwt : want env ops o = some true)
    (hx : xs.toList.mapM (ev env) = some vs) (h : FnX P σ f vs.toArray l RX) (hm : mask ||| 2 ^ i = mask')
    (hr : ∀ e l', RX e l' → match e with
      | .returned v => (∀ w, Sat σ w l' → Sat σ w l0) ∧ JB P σ n ds ops Q l0 mask' fuel ((D, v) :: env) l'
      | .panicked ch => JE σ n ds Q (.panic ch) env l'
      | .outgrown => False) : JI P σ n ds ops Q l0 mask fuel i env l := by
  subst ho; subst hm
  intro a w ka kd s
  have hw := want_spec ka hwt
  unfold wpOp
  simp only [hi, hw, if_true]
  left
  have e : xs.map a.eval = vs.toArray := by apply Array.ext'; rw [Array.toList_map]; exact mapM_ev ka _ _ hx
  have hb := HasBody.run (P := P) (f := f) vs.toArray w
  unfold Oper.wp
  have he : (execOp a.eval ⟨some D, .call ⟨.value (.func f), xs, ts⟩, ty, pos, af, gd⟩).run P w = .ok (.enter f vs.toArray) w := by
    simp only [execOp, resolve, Act.eval, Deferred.ofValue, e, Sem.run_bind, Sem.run_pure, Result.andThen_ok, invoke]
    simpa using hb
  rw [he, Oper.upon_enter]
  refine (h w s).mono ?_
  rintro en w' ⟨l', p, s'⟩
  have := hr en l' p
  cases en with
  | returned v =>
    obtain ⟨q1, q2⟩ := this
    refine ⟨q1 w' s', ?_⟩
    rw [lsb_set]
    exact q2 _ w' (ka.put D v hlt) (by rw [Act.put_defers']; exact kd) s'
  | panicked ch => exact this _ _ ka kd s'
  | outgrown => exact this.elim
theorem JB.at {l0 : List HP} {mask mask' fuel d : Nat} (i : Nat) {v : Value} [hq : PQ Q] (hi : ops[i]? = some o) (hn : (rdyL ops.size mask 0 ops.toList).contains i = true) (hd : o.dst = some d) (hlt : Nat.blt d n = true) (hwt : want env ops o = some true) (h : Ru P σ n env l0 o v)
    (hs : Region.noSelect ops = true) (hf : Region.free .any ops (lsb ops.size mask).toArray i = true) (hL : ∀ w, Sat σ w l → Sat σ w l0)
    (hm : mask ||| 2 ^ i = mask') (hk : JB P σ n ds ops Q l0 mask' fuel ((d, v) :: env) l) : JB P σ n ds ops Q l0 mask (fuel + 1) env l := by
  subst hm
  intro a w ka kd s
  have hr : (Region.ready .any ops (lsb ops.size mask).toArray).contains i = true := List.contains_iff_mem.2 (ready_mem.2 (List.contains_iff_mem.1 hn))
  refine wpAnyH_take (v := v) hi hs hf hr (fun c a w x => hq.h c a _ v w x) (.inl ⟨want_spec ka hwt, fun w' s' => h a w' ka s'⟩) (hL w s) ?_
  rw [lsb_set, hd]
  exact hk _ w (ka.put d v hlt) (by rw [Act.put_defers']; exact kd) s
theorem JB.ownU {l0 : List HP} {mask fuel : Nat} {v : Value} {E k : Nat} {xs : List Value} (hp : Pick (ownS v E 1 k xs) l r) (h : ∀ p c, v = .slice p k c → JB P σ n ds ops Q l0 mask fuel env l) : JB P σ n ds ops Q l0 mask fuel env l := fun a w ka kd s => by
  obtain ⟨_, _, hsh⟩ := (s.perm hp).ownR
  rcases hsh with ⟨h1, h2⟩ | ⟨b, cap, h1, _⟩
  · exact h none 0 (by rw [h1, h2]) a w ka kd s
  · exact h _ cap h1 a w ka kd s
theorem JO.openOwn {v : Value} {E k : Nat} {xs : List Value} (hp : Pick (ownS v E 1 k xs) l r) (hk : 0 < k)
    (h : ∀ b cap spare, v = .slice (some ⟨b, 0, none⟩) k cap → k ≤ cap → xs.length = k → cap ≤ (xs ++ spare).length → JO P σ n ds ops Q rest env (Sep.arr b E (xs ++ spare) :: r)) : JO P σ n ds ops Q rest env l := by
  intro a w ka kd s
  rcases (s.perm hp).ownS with ⟨_, h2, _⟩ | ⟨b, cap, spare, h1, h2, h3, h4, s'⟩
  · omega
  · exact h b cap spare h1 h2 (by omega) (by omega) a w ka kd s'
theorem Fn.atP {f : FuncId} {args : Array Value} {p : HP} {c : Value} (hp : Pick p l r) (h : Fn P σ f args (p :: r) (fun v l' => v = c ∧ l' = p :: r)) : Fn P σ f args l (fun v l' => v = c ∧ l' = l) := by
  intro w s
  refine (h w (s.perm hp)).mono ?_
  rintro e w' ⟨v, l', h1, ⟨h2, rfl⟩, s'⟩
  exact ⟨v, l, h1, ⟨h2, rfl⟩, s'.perm hp.symm⟩
theorem Fn.atI {f : FuncId} {args : Array Value} {p : HP} {R : Value → HP} (hp : Pick p l r) (h : Fn P σ f args (p :: r) (fun v l' => l' = R v :: p :: r)) : Fn P σ f args l (fun v l' => l' = R v :: l) := by
  intro w s
  refine (h w (s.perm hp)).mono ?_
  rintro e w' ⟨v, l', h1, rfl, s'⟩
  exact ⟨v, _, h1, rfl, s'.perm (hp.symm.cons _)⟩
theorem JO.tail2 {p1 p2 : HP} {v : Value} {E k : Nat} {xs : List Value}
    (h : RdS σ (ownS v E 1 k xs :: r) v xs → JO P σ n ds ops Q rest env (p1 :: p2 :: ownS v E 1 k xs :: r)) : JO P σ n ds ops Q rest env (p1 :: p2 :: ownS v E 1 k xs :: r) :=
  fun a w ka kd s => h (Sat.ownR (Sat.drop (Sat.drop s))).1 a w ka kd s
theorem JO.ownD {v : Value} {E k : Nat} {xs : List Value} (hp : Pick (ownS v E 1 k xs) l r) (h : RdS σ l v xs → JO P σ n ds ops Q rest env l) : JO P σ n ds ops Q rest env l := JO.ownR hp fun h1 _ _ => h h1
end
end Go.Sep
/- shadow: Commit's closure; bytes.Equal. -/
namespace Go.Sep
open Go Go.Proofs
attribute [local irreducible] JO JC JE JA JQ JB JI Mid Inv Weak ownS Ru Do Fn Sat Pick Take arr pt star ex Holds bodyPost Post Exit.then Exit.inBlock Res
variable {σ : Sig} {F : List HP}
attribute [local irreducible] shadHP diskHP cacheHP planHP rowHP FnX PostX
theorem strEq (xs ys : List UInt8) : ((⟨xs.toArray⟩ : ByteArray).toList == (⟨ys.toArray⟩ : ByteArray).toList) = decide (xs = ys) := by
  rw [ByteArray.toList_eq, ByteArray.toList_eq]
  by_cases h : xs = ys <;> simp [h]
theorem bytes_Equal (va vb : Value) (xs ys : List UInt8) {l : List HP} (ha : RdS σ l va (xs.map byte)) (hb : RdS σ l vb (ys.map byte)) :
    Fn Tryz.prog σ 93 #[va, vb] l (fun v l' => v = .bool (decide (xs = ys)) ∧ l' = l) := by
  refine Fn.of Tryz.func93 rfl Tryz.ntmps93 rfl ?_
  repeat' (first | (apply JO.ru; exact rfl; exact rfl; exact rfl; (first | (apply Ru.move; exact rfl) | (apply Ru.assign; exact rfl))) | refine JC.seq ?_ | refine JC.region ?_ | refine JO.nil ?_ | refine JE.thenN ?_)
  (apply JO.ru; exact rfl; exact rfl; exact rfl; (apply Ru.bytesStr; exact rfl; exact ha))
  repeat' ((apply JO.ru; exact rfl; exact rfl; exact rfl; ((apply Ru.move; exact rfl))))
  (apply JO.ru; exact rfl; exact rfl; exact rfl; (apply Ru.bytesStr; exact rfl; exact hb))
  (apply JO.ru; exact rfl; exact rfl; exact rfl; (apply Ru.eqlS (r := decide (xs = ys)); exact rfl; exact rfl; exact strEq xs ys))
  repeat' (first | (apply JO.ru; exact rfl; exact rfl; exact rfl; ((apply Ru.assign; exact rfl))) | refine JO.nil ?_ | refine JE.thenN ?_ | refine JC.ret ?_ | (apply JE.done1; exact rfl; (first | (apply Res.tmp; exact rfl) | (apply Res.cell; exact rfl; (repeat (first | exact Pick.here | apply Pick.there)); exact rfl) | (apply Res.cellAN; exact rfl; (repeat (first | exact Pick.here | apply Pick.there)); exact rfl; exact rfl) | (apply Res.cellA; exact rfl; (repeat (first | exact Pick.here | apply Pick.there)); exact rfl; exact rfl))))
  exact finS ⟨rfl, rfl⟩
set_option maxHeartbeats 4000000 in
theorem shadow_Commit1 (d sb bb ob tb : Nat) (D : DiskN) (e f s q w o : Int) (st : Bool) (u v : Value) (bs : List UInt8) (hq : 0 ≤ q ∧ q < 18446744073709551615) (hbl : bs.length ≤ 100000) (hD : D.WF) (hops : D.ops ≤ 1000000000) (hwr : D.writes ≤ 100000) {l : List HP} [hg : InG l] (hb : RdS σ l v (bs.map byte)) (p : HP) :
    FnX Tryz.prog σ 94 #[.pointer (some ⟨tb, 0, none⟩), .pointer (some ⟨ob, 0, none⟩), .pointer (some ⟨bb, 0, none⟩)]
      (p :: diskHP d D :: arr ob 3 [int o] :: arr tb 66 [.pointer (some ⟨sb, 0, none⟩)] :: arr bb 35 [v] :: arr sb shT (shCells d e f s u q w st) :: l)
      (fun en l' => en = endOf errT (layR D o e f s (q + 1) bs).1 ∧ l' = p :: diskHP d (layR D o e f s (q + 1) bs).2 :: arr ob 3 [int o] :: arr tb 66 [.pointer (some ⟨sb, 0, none⟩)] :: arr bb 35 [v] :: arr sb shT (shCells d e f s u q w st) :: l) := by
  have hwq : IntKind.u64.wrap (q + 1) = q + 1 := wrapU64 (by omega) (by omega)
  refine FnX.of Tryz.func94 rfl Tryz.ntmps94 rfl ?_
  repeat' (fail)
  refine JC.regionB (p :: arr ob 3 [int o] :: arr tb 66 [.pointer (some ⟨sb, 0, none⟩)] :: arr bb 35 [v] :: arr sb shT (shCells d e f s u q w st) :: l) mixed
    (JB.heap (l' := diskHP d D :: p :: arr ob 3 [int o] :: arr tb 66 [.pointer (some ⟨sb, 0, none⟩)] :: arr bb 35 [v] :: arr sb shT (shCells d e f s u q w st) :: l) (Sat.weak (by repeat (first | exact Weak.refl | (apply Weak.cons; (first | exact Pick.here | exact Pick.there Pick.here | exact Pick.there (Pick.there Pick.here) | exact Pick.there (Pick.there (Pick.there Pick.here)) | exact Pick.there (Pick.there (Pick.there (Pick.there Pick.here))) | exact Pick.there (Pick.there (Pick.there (Pick.there (Pick.there Pick.here)))) | exact Pick.there (Pick.there (Pick.there (Pick.there (Pick.there (Pick.there Pick.here))))) | exact Pick.there (Pick.there (Pick.there (Pick.there (Pick.there (Pick.there (Pick.there Pick.here)))))) | exact Pick.there (Pick.there (Pick.there (Pick.there (Pick.there (Pick.there (Pick.there (Pick.there Pick.here))))))) | exact Pick.there (Pick.there (Pick.there (Pick.there (Pick.there (Pick.there (Pick.there (Pick.there (Pick.there Pick.here)))))))) | exact Pick.there (Pick.there (Pick.there (Pick.there (Pick.there (Pick.there (Pick.there (Pick.there (Pick.there (Pick.there Pick.here))))))))) | exact Pick.there (Pick.there (Pick.there (Pick.there (Pick.there (Pick.there (Pick.there (Pick.there (Pick.there (Pick.there (Pick.there Pick.here)))))))))) | exact Pick.there (Pick.there (Pick.there (Pick.there (Pick.there (Pick.there (Pick.there (Pick.there (Pick.there (Pick.there (Pick.there (Pick.there Pick.here))))))))))) | exact Pick.there (Pick.there (Pick.there (Pick.there (Pick.there (Pick.there (Pick.there (Pick.there (Pick.there (Pick.there (Pick.there (Pick.there (Pick.there Pick.here)))))))))))))) | apply Weak.drop))) ?_)
  repeat' ((apply JB.ru; exact rfl; exact rfl; exact rfl; exact rfl; (first | (apply Ru.loadN; exact rfl; (repeat (first | exact Pick.here | apply Pick.there)); exact rfl) | (apply Ru.fieldAddr; exact rfl) | (apply Ru.nilP; exact rfl) | (apply Ru.add; exact rfl; exact rfl; (first | exact wrapI (by omega) (by omega) | exact rfl)) | (apply Ru.loadAN; exact rfl; (repeat (first | exact Pick.here | apply Pick.there)); exact rfl; exact rfl)); decide +kernel; decide +kernel; (first | exact fun _ h => h | exact fun _ h => Sat.drop h | exact fun _ h => Sat.drop (Sat.drop h) | exact fun _ h => Sat.drop (Sat.drop (Sat.drop h)) | exact fun _ h => Sat.drop (Sat.drop (Sat.drop (Sat.drop h)))); (simp only [Nat.reduceAdd, Nat.reducePow, Nat.reduceMul, Nat.zero_or, Nat.or_zero, Nat.reduceXor, Nat.reduceOr]; try exact rfl)))
  rw [hwq]
  refine JB.one 15 (by decide +kernel) ?_
  have hl := shadow_lay (σ := σ) d D o e f s (q + 1) v bs (by omega) hbl hD (by omega) (by omega) (l := p :: arr ob 3 [int o] :: arr tb 66 [.pointer (some ⟨sb, 0, none⟩)] :: arr bb 35 [v] :: arr sb shT (shCells d e f s u q w st) :: l) (hb.heap (Sat.weak (by repeat (first | exact Weak.refl | (apply Weak.cons; (first | exact Pick.here | exact Pick.there Pick.here | exact Pick.there (Pick.there Pick.here) | exact Pick.there (Pick.there (Pick.there Pick.here)) | exact Pick.there (Pick.there (Pick.there (Pick.there Pick.here))) | exact Pick.there (Pick.there (Pick.there (Pick.there (Pick.there Pick.here)))) | exact Pick.there (Pick.there (Pick.there (Pick.there (Pick.there (Pick.there Pick.here))))) | exact Pick.there (Pick.there (Pick.there (Pick.there (Pick.there (Pick.there (Pick.there Pick.here)))))) | exact Pick.there (Pick.there (Pick.there (Pick.there (Pick.there (Pick.there (Pick.there (Pick.there Pick.here))))))) | exact Pick.there (Pick.there (Pick.there (Pick.there (Pick.there (Pick.there (Pick.there (Pick.there (Pick.there Pick.here)))))))) | exact Pick.there (Pick.there (Pick.there (Pick.there (Pick.there (Pick.there (Pick.there (Pick.there (Pick.there (Pick.there Pick.here))))))))) | exact Pick.there (Pick.there (Pick.there (Pick.there (Pick.there (Pick.there (Pick.there (Pick.there (Pick.there (Pick.there (Pick.there Pick.here)))))))))) | exact Pick.there (Pick.there (Pick.there (Pick.there (Pick.there (Pick.there (Pick.there (Pick.there (Pick.there (Pick.there (Pick.there (Pick.there Pick.here))))))))))) | exact Pick.there (Pick.there (Pick.there (Pick.there (Pick.there (Pick.there (Pick.there (Pick.there (Pick.there (Pick.there (Pick.there (Pick.there (Pick.there Pick.here)))))))))))))) | apply Weak.drop))))
  obtain ⟨⟨er, E⟩, hE⟩ : ∃ x, layR D o e f s (q + 1) bs = x := ⟨_, rfl⟩
  rw [hE] at hl ⊢
  refine JI.callX rfl rfl rfl rfl rfl hl (by (simp only [Nat.reduceAdd, Nat.reducePow, Nat.reduceMul, Nat.zero_or, Nat.or_zero, Nat.reduceXor, Nat.reduceOr]; try exact rfl)) ?_
  rintro en l' ⟨rfl, rfl⟩
  by_cases h : er = 0
  · subst h
    rw [endOf, if_pos rfl]
    refine ⟨fun _ s => s.drop, ?_⟩
    repeat' (first | ((apply JB.nil; exact rfl)) | (fail) | (refine JE.doneX0N rfl ?_))
    exact ⟨_, (by repeat (first | exact Weak.refl | (apply Weak.cons; (first | exact Pick.here | exact Pick.there Pick.here | exact Pick.there (Pick.there Pick.here) | exact Pick.there (Pick.there (Pick.there Pick.here)) | exact Pick.there (Pick.there (Pick.there (Pick.there Pick.here))) | exact Pick.there (Pick.there (Pick.there (Pick.there (Pick.there Pick.here)))) | exact Pick.there (Pick.there (Pick.there (Pick.there (Pick.there (Pick.there Pick.here))))) | exact Pick.there (Pick.there (Pick.there (Pick.there (Pick.there (Pick.there (Pick.there Pick.here)))))))) | apply Weak.drop)), rfl, rfl⟩
  · rw [endOf, if_neg h]
    show JE _ _ _ _ _ _ _
    repeat' (first | (fail) | (refine JE.doneXP ?_))
    exact ⟨_, (by repeat (first | exact Weak.refl | (apply Weak.cons; (first | exact Pick.here | exact Pick.there Pick.here | exact Pick.there (Pick.there Pick.here) | exact Pick.there (Pick.there (Pick.there Pick.here)) | exact Pick.there (Pick.there (Pick.there (Pick.there Pick.here))) | exact Pick.there (Pick.there (Pick.there (Pick.there (Pick.there Pick.here)))) | exact Pick.there (Pick.there (Pick.there (Pick.there (Pick.there (Pick.there Pick.here))))) | exact Pick.there (Pick.there (Pick.there (Pick.there (Pick.there (Pick.there (Pick.there Pick.here)))))))) | apply Weak.drop)), rfl, rfl⟩
end Go.Sep
/- shadow: Commit; what it tells. -/
namespace Go.Sep
open Go Go.Proofs
attribute [local irreducible] JO JC JE JA JQ JB JI Mid Inv Weak ownS Ru Do Fn Sat Pick Take arr pt star ex Holds bodyPost Post Exit.then Exit.inBlock Res
variable {σ : Sig} {F : List HP}
attribute [local irreducible] shadHP diskHP cacheHP planHP rowHP FnX PostX
def commitR (D : DiskN) (e f s : Int) (S : ShadN) (b : List UInt8) : Int × DiskN × ShadN :=
  if S.stale = true then (11, D, S)
  else if (b.length : Int) ≠ S.now.length then (1, D, S)
  else if b = S.now then (0, D, S)
  else if S.seq = 18446744073709551615 then (12, D, S)
  else if (layR D (1 - S.which) e f s (S.seq + 1) b).1 ≠ 0 then ((layR D (1 - S.which) e f s (S.seq + 1) b).1, (layR D (1 - S.which) e f s (S.seq + 1) b).2, { S with stale := true })
  else (0, (layR D (1 - S.which) e f s (S.seq + 1) b).2, ⟨b, S.seq + 1, 1 - S.which, false⟩)
theorem Fn.shad {P : Program} {f' : FuncId} {args : Array Value} {post : Value → List HP → Prop} {sb d : Nat} {e f s : Int} {S : ShadN} {l : List HP} (h : ∀ p c, Fn P σ f' args (arr sb shT (shCells d e f s (.slice p S.now.length c) S.seq S.which S.stale) :: bytesHP (.slice p S.now.length c) S.now :: l) post) : Fn P σ f' args (shadHP sb d e f s S :: l) post :=
  Fn.shadU fun u => Fn.ownR (Pick.there Pick.here) fun _ _ hsh => by
    rcases hsh with ⟨rfl, h2⟩ | ⟨b, cap, rfl, _⟩
    · have e1 : Value.slice none 0 0 = Value.slice none S.now.length 0 := by rw [h2]
      rw [e1]
      exact h none 0
    · exact h _ cap
theorem finShad {post : Value → List HP → Prop} {v : Value} {l : List HP} {sb d : Nat} {e f s : Int} {img : List UInt8} {q w : Int} {st : Bool} {u : Value} {r l2 : List HP} (k : Weak l (arr sb shT (shCells d e f s u q w st) :: bytesHP u img :: r)) (k2 : Weak (shadHP sb d e f s ⟨img, q, w, st⟩ :: r) l2) (h : post v l2) : fin post v l σ :=
  ⟨_, Sat.weak (Weak.trans k (Weak.trans Weak.shadE k2)), h⟩
set_option maxHeartbeats 4000000 in
theorem shadow_Commit (sb d : Nat) (D : DiskN) (e f s : Int) (S : ShadN) (v : Value) (bs : List UInt8) (hw01 : S.which = 0 ∨ S.which = 1) (hq : 0 ≤ S.seq ∧ S.seq ≤ 18446744073709551615) (hbl : bs.length ≤ 100000) (hnl : S.now.length ≤ 100000) (hD : D.WF) (hops : D.ops ≤ 1000000000) (hwr : D.writes ≤ 100000) {l : List HP} [hg : InG l] (hb : RdS σ l v (bs.map byte)) :
    Fn Tryz.prog σ 46 #[.pointer (some ⟨sb, 0, none⟩), v] (shadHP sb d e f s S :: diskHP d D :: l)
      (fun r l' => r = int (commitR D e f s S bs).1 ∧ l' = shadHP sb d e f s (commitR D e f s S bs).2.2 :: diskHP d (commitR D e f s S bs).2.1 :: l) := by
  obtain ⟨now, q, w, st⟩ := S
  dsimp only at hw01 hq hnl
  refine Fn.shad fun p c => ?_
  dsimp only
  refine Fn.ownR (Pick.there Pick.here) fun hu _ _ => ?_
  obtain ⟨pv, cv, rfl, hcv, hrv⟩ := id hb
  have hlm : (bs.map byte).length = bs.length := by simp
  rw [hlm] at hb ⊢
  clear hrv hcv
  refine Fn.of Tryz.func46 rfl Tryz.ntmps46 rfl ?_
  cases st with
  | true =>
    have hR : commitR D e f s ⟨now, q, w, true⟩ bs = (11, D, ⟨now, q, w, true⟩) := if_pos rfl
    rw [hR]
    repeat' (first | (apply JO.ru; exact rfl; exact rfl; exact rfl; (first | (apply Ru.loadN; exact rfl; (repeat (first | exact Pick.here | apply Pick.there)); exact rfl) | (apply Ru.fieldAddr; exact rfl) | (apply Ru.nilP; exact rfl) | (apply Ru.assign; exact rfl))) | refine JC.seq ?_ | refine JC.region ?_ | refine JO.nil ?_ | refine JE.thenN ?_ | refine JE.thenR ?_ | refine JE.blockR ?_ | refine JC.block ?_ | refine JC.ret ?_ | refine JC.condT rfl ?_ | (apply JO.do; exact rfl; exact rfl; exact rfl; (first | (apply Do.boxN; exact rfl; exact rfl) | (apply Do.box; exact rfl)); rintro _ _ ⟨_, rfl, rfl⟩) | (apply JE.done1; exact rfl; (first | (apply Res.tmp; exact rfl) | (apply Res.cell; exact rfl; (repeat (first | exact Pick.here | apply Pick.there)); exact rfl) | (apply Res.cellAN; exact rfl; (repeat (first | exact Pick.here | apply Pick.there)); exact rfl; exact rfl) | (apply Res.cellA; exact rfl; (repeat (first | exact Pick.here | apply Pick.there)); exact rfl; exact rfl))))
    exact finShad (r := diskHP d D :: l) (by repeat (first | exact Weak.refl | (apply Weak.cons; (first | exact Pick.here | exact Pick.there Pick.here | exact Pick.there (Pick.there Pick.here) | exact Pick.there (Pick.there (Pick.there Pick.here)) | exact Pick.there (Pick.there (Pick.there (Pick.there Pick.here))) | exact Pick.there (Pick.there (Pick.there (Pick.there (Pick.there Pick.here)))) | exact Pick.there (Pick.there (Pick.there (Pick.there (Pick.there (Pick.there Pick.here))))) | exact Pick.there (Pick.there (Pick.there (Pick.there (Pick.there (Pick.there (Pick.there Pick.here)))))))) | apply Weak.drop)) (by repeat (first | exact Weak.refl | (apply Weak.cons; (first | exact Pick.here | exact Pick.there Pick.here | exact Pick.there (Pick.there Pick.here) | exact Pick.there (Pick.there (Pick.there Pick.here)) | exact Pick.there (Pick.there (Pick.there (Pick.there Pick.here))) | exact Pick.there (Pick.there (Pick.there (Pick.there (Pick.there Pick.here)))) | exact Pick.there (Pick.there (Pick.there (Pick.there (Pick.there (Pick.there Pick.here))))) | exact Pick.there (Pick.there (Pick.there (Pick.there (Pick.there (Pick.there (Pick.there Pick.here)))))))) | apply Weak.drop)) ⟨rfl, rfl⟩
  | false =>
    repeat' (first | (apply JO.ru; exact rfl; exact rfl; exact rfl; (first | (apply Ru.loadN; exact rfl; (repeat (first | exact Pick.here | apply Pick.there)); exact rfl) | (apply Ru.fieldAddr; exact rfl) | (apply Ru.nilP; exact rfl) | (apply Ru.assign; exact rfl))) | refine JC.seq ?_ | refine JC.region ?_ | refine JO.nil ?_ | refine JE.thenN ?_ | refine JE.thenR ?_ | refine JE.blockR ?_ | refine JC.block ?_ | refine JC.ret ?_ | refine JC.condT rfl ?_ | refine JC.condF rfl ?_ | (apply JQ.ru; exact rfl; exact rfl; exact rfl; (first | (apply Ru.loadN; exact rfl; (repeat (first | exact Pick.here | apply Pick.there)); exact rfl) | (apply Ru.fieldAddr; exact rfl) | (apply Ru.nilP; exact rfl) | (apply Ru.assign; exact rfl) | (apply Ru.lenS; exact rfl))) | (apply JQ.splitN; exact rfl; exact rfl; exact rfl; (apply Ru.neq; exact rfl; exact rfl; exact rfl); all_goals intro _) | refine JQ.nil ?_ | (apply JO.do; exact rfl; exact rfl; exact rfl; (first | (apply Do.boxN; exact rfl; exact rfl) | (apply Do.box; exact rfl)); rintro _ _ ⟨_, rfl, rfl⟩) | refine JC.regionQ mixed (by decide +kernel) ?_ | (apply JE.done1; exact rfl; (first | (apply Res.tmp; exact rfl) | (apply Res.cell; exact rfl; (repeat (first | exact Pick.here | apply Pick.there)); exact rfl) | (apply Res.cellAN; exact rfl; (repeat (first | exact Pick.here | apply Pick.there)); exact rfl; exact rfl) | (apply Res.cellA; exact rfl; (repeat (first | exact Pick.here | apply Pick.there)); exact rfl; exact rfl))))
    · rename_i tb bb heq
      have he := bytes_Equal (σ := σ) _ _ bs now (l := arr bb 35 [.slice pv bs.length cv] :: arr tb 66 [.pointer (some ⟨sb, 0, none⟩)] :: arr sb shT (shCells d e f s (.slice p now.length c) q w false) :: bytesHP (.slice p now.length c) now :: diskHP d D :: l) hb.cons.cons.cons.cons.cons hu.cons.cons
      rcases hbb : decide (bs = now) with _ | _
      · rw [hbb] at he
        have hne : ¬ bs = now := of_decide_eq_false hbb
        (apply JQ.call; exact rfl; exact rfl; exact rfl; exact he; (rintro _ _ ⟨rfl, rfl⟩; exact ⟨rfl, rfl⟩))
        repeat' (first | (apply JO.ru; exact rfl; exact rfl; exact rfl; (first | (apply Ru.loadN; exact rfl; (repeat (first | exact Pick.here | apply Pick.there)); exact rfl) | (apply Ru.fieldAddr; exact rfl) | (apply Ru.nilP; exact rfl) | (apply Ru.assign; exact rfl) | (apply Ru.sub; exact rfl; exact rfl; (first | exact wrapI (by omega) (by omega) | exact rfl)) | (apply Ru.makeFunc; exact rfl; exact rfl))) | refine JC.seq ?_ | refine JC.region ?_ | refine JO.nil ?_ | refine JE.thenN ?_ | refine JE.thenR ?_ | refine JE.blockN ?_ | refine JE.blockR ?_ | refine JC.ret ?_ | refine JC.skip ?_ | refine JC.condT rfl ?_ | refine JC.condF rfl ?_ | (apply JQ.ru; exact rfl; exact rfl; exact rfl; ((apply Ru.assign; exact rfl))) | (apply JO.split; exact rfl; exact rfl; exact rfl; ((apply Ru.eql; exact rfl; exact rfl; exact rfl)); all_goals intro _) | refine JQ.nil ?_ | (apply JO.do; exact rfl; exact rfl; exact rfl; (first | (apply Do.allocN; exact rfl) | apply Do.alloc); rintro _ _ ⟨_, rfl, rfl⟩) | (apply JO.do0; exact rfl; exact rfl; (first | (apply Do.storeN; exact rfl; exact rfl; exact rfl; (repeat (first | exact Pick.here | apply Pick.there)); exact rfl; exact rfl) | (apply Do.store; exact rfl; exact rfl; exact rfl; (repeat (first | exact Pick.here | apply Pick.there)); exact rfl)); rintro _ _ ⟨rfl, rfl⟩) | (apply JE.done1; exact rfl; (first | (apply Res.tmp; exact rfl) | (apply Res.cell; exact rfl; (repeat (first | exact Pick.here | apply Pick.there)); exact rfl) | (apply Res.cellAN; exact rfl; (repeat (first | exact Pick.here | apply Pick.there)); exact rfl; exact rfl) | (apply Res.cellA; exact rfl; (repeat (first | exact Pick.here | apply Pick.there)); exact rfl; exact rfl))))
        · rename_i hqq
          have hR : commitR D e f s ⟨now, q, w, false⟩ bs = (12, D, ⟨now, q, w, false⟩) := by
            unfold commitR; rw [if_neg (by simp), if_neg (by show ¬ ((bs.length : Int) ≠ now.length); omega), if_neg hne, if_pos hqq]
          rw [hR]
          exact finShad (r := diskHP d D :: l) (by repeat (first | exact Weak.refl | (apply Weak.cons; (first | exact Pick.here | exact Pick.there Pick.here | exact Pick.there (Pick.there Pick.here) | exact Pick.there (Pick.there (Pick.there Pick.here)) | exact Pick.there (Pick.there (Pick.there (Pick.there Pick.here))) | exact Pick.there (Pick.there (Pick.there (Pick.there (Pick.there Pick.here)))) | exact Pick.there (Pick.there (Pick.there (Pick.there (Pick.there (Pick.there Pick.here))))) | exact Pick.there (Pick.there (Pick.there (Pick.there (Pick.there (Pick.there (Pick.there Pick.here)))))))) | apply Weak.drop)) (by repeat (first | exact Weak.refl | (apply Weak.cons; (first | exact Pick.here | exact Pick.there Pick.here | exact Pick.there (Pick.there Pick.here) | exact Pick.there (Pick.there (Pick.there Pick.here)) | exact Pick.there (Pick.there (Pick.there (Pick.there Pick.here))) | exact Pick.there (Pick.there (Pick.there (Pick.there (Pick.there Pick.here)))) | exact Pick.there (Pick.there (Pick.there (Pick.there (Pick.there (Pick.there Pick.here))))) | exact Pick.there (Pick.there (Pick.there (Pick.there (Pick.there (Pick.there (Pick.there Pick.here)))))))) | apply Weak.drop)) ⟨rfl, rfl⟩
        · rename_i hqq ob
          obtain ⟨⟨er, E⟩, hE⟩ : ∃ x, layR D (1 - w) e f s (q + 1) bs = x := ⟨_, rfl⟩
          have h1 := fun p' => shadow_Commit1 (σ := σ) d sb bb ob tb D e f s q w (1 - w) false (.slice p now.length c) (.slice pv bs.length cv) bs (by omega) hbl hD hops hwr (l := bytesHP (.slice p now.length c) now :: l) hb.cons p'
          rw [hE] at h1
          refine JO.heap (Sat.weak (l' := diskHP d D :: arr ob 3 [int (1 - w)] :: arr tb 66 [.pointer (some ⟨sb, 0, none⟩)] :: arr bb 35 [.slice pv bs.length cv] :: arr sb shT (shCells d e f s (.slice p now.length c) q w false) :: bytesHP (.slice p now.length c) now :: l) (by repeat (first | exact Weak.refl | (apply Weak.cons; (first | exact Pick.here | exact Pick.there Pick.here | exact Pick.there (Pick.there Pick.here) | exact Pick.there (Pick.there (Pick.there Pick.here)) | exact Pick.there (Pick.there (Pick.there (Pick.there Pick.here))) | exact Pick.there (Pick.there (Pick.there (Pick.there (Pick.there Pick.here)))) | exact Pick.there (Pick.there (Pick.there (Pick.there (Pick.there (Pick.there Pick.here))))) | exact Pick.there (Pick.there (Pick.there (Pick.there (Pick.there (Pick.there (Pick.there Pick.here)))))))) | apply Weak.drop))) ?_
          repeat' (fail)
          (apply JO.do; exact rfl; exact rfl; exact rfl; (apply Do.call; exact rfl; exact shadow_tried h1); rintro _ _ ⟨rfl, rfl⟩)
          by_cases h : er = 0
          · subst h
            have hR : commitR D e f s ⟨now, q, w, false⟩ bs = (0, E, ⟨bs, q + 1, 1 - w, false⟩) := by
              unfold commitR; rw [if_neg (by simp), if_neg (by show ¬ ((bs.length : Int) ≠ now.length); omega), if_neg hne, if_neg hqq, hE, if_neg (by simp)]
            rw [hR]
            repeat' (first | (apply JO.ru; exact rfl; exact rfl; exact rfl; (first | (apply Ru.move; exact rfl) | (apply Ru.loadN; exact rfl; (repeat (first | exact Pick.here | apply Pick.there)); exact rfl) | (apply Ru.fieldAddr; exact rfl) | (apply Ru.nilP; exact rfl) | (apply Ru.assign; exact rfl) | (apply Ru.neq; exact rfl; exact rfl; (first | exact ndecF (by omega) | exact ndecT (by omega))))) | refine JC.seq ?_ | refine JC.region ?_ | refine JO.nil ?_ | refine JE.thenN ?_ | refine JC.skip ?_ | refine JC.condF rfl ?_ | (apply JO.do0; exact rfl; exact rfl; (first | (apply Do.storeN; exact rfl; exact rfl; exact rfl; (repeat (first | exact Pick.here | apply Pick.there)); exact rfl; exact rfl) | (apply Do.store; exact rfl; exact rfl; exact rfl; (repeat (first | exact Pick.here | apply Pick.there)); exact rfl)); rintro _ _ ⟨rfl, rfl⟩))
            refine JC.regionB (diskHP d E :: arr ob 3 [int (1 - w)] :: arr tb 66 [.pointer (some ⟨sb, 0, none⟩)] :: arr bb 35 [.slice pv bs.length cv] :: bytesHP (.slice p now.length c) now :: l) mixed ?_
            repeat' ((apply JB.ru; exact rfl; exact rfl; exact rfl; exact rfl; (first | (apply Ru.loadN; exact rfl; (repeat (first | exact Pick.here | apply Pick.there)); exact rfl) | (apply Ru.fieldAddr; exact rfl) | (apply Ru.nilP; exact rfl)); decide +kernel; decide +kernel; (first | exact fun _ h => h | exact fun _ h => Sat.drop h | exact fun _ h => Sat.drop (Sat.drop h) | exact fun _ h => Sat.drop (Sat.drop (Sat.drop h)) | exact fun _ h => Sat.drop (Sat.drop (Sat.drop (Sat.drop h)))); (simp only [Nat.reduceAdd, Nat.reducePow, Nat.reduceMul, Nat.zero_or, Nat.or_zero, Nat.reduceXor, Nat.reduceOr]; try exact rfl)))
            (apply JB.at 10; exact rfl; decide +kernel; exact rfl; exact rfl; exact rfl; ((apply Ru.loadN; exact rfl; (repeat (first | exact Pick.here | apply Pick.there)); exact rfl)); decide +kernel; decide +kernel; exact fun _ h => Sat.drop h; (simp only [Nat.reduceAdd, Nat.reducePow, Nat.reduceMul, Nat.zero_or, Nat.or_zero, Nat.reduceXor, Nat.reduceOr]; try exact rfl))
            have hcl := slices_Clone (σ := σ) (.slice pv bs.length cv) (bs.map byte) (byteOne _) (by rw [hlm]; omega) (l := arr sb shT [.pointer (some ⟨d, 0, none⟩), int e, int f, int s, .slice p now.length c, u64 q, int w, .bool false] :: diskHP d E :: arr ob 3 [int (1 - w)] :: arr tb 66 [.pointer (some ⟨sb, 0, none⟩)] :: arr bb 35 [.slice pv bs.length cv] :: bytesHP (.slice p now.length c) now :: l) hb.cons.cons.cons.cons.cons.cons
            rw [hlm] at hcl
            have hwq : IntKind.u64.wrap (q + 1) = q + 1 := wrapU64 (by omega) (by omega)
            refine JB.two 4 8 (by decide +kernel) ?_ ?_
            · (apply JI.do; exact rfl; exact rfl; exact rfl; exact rfl; (apply Do.call; exact rfl; exact hcl); (simp only [Nat.reduceAdd, Nat.reducePow, Nat.reduceMul, Nat.zero_or, Nat.or_zero, Nat.reduceXor, Nat.reduceOr]; try exact rfl); rintro u2 _ ⟨rfl, _⟩; refine ⟨fun _ s => s.drop.drop, ?_⟩)
              refine JB.ownU Pick.here fun pu cu hu2 => ?_
              subst hu2
              refine JB.one 8 (by decide +kernel) ?_
              (apply JI.do; exact rfl; exact rfl; exact rfl; exact rfl; (apply Ru.ofDo; (apply Ru.loadN; exact rfl; (repeat (first | exact Pick.here | apply Pick.there)); exact rfl)); (simp only [Nat.reduceAdd, Nat.reducePow, Nat.reduceMul, Nat.zero_or, Nat.or_zero, Nat.reduceXor, Nat.reduceOr]; try exact rfl); rintro _ _ ⟨rfl, rfl⟩; refine ⟨fun _ s => s.drop.drop, ?_⟩)
              repeat' (first | (first | (apply JB.ru; exact rfl; exact rfl; exact rfl; exact rfl; (first | (apply Ru.fieldAddr; exact rfl) | (apply Ru.nilP; exact rfl) | (apply Ru.add; exact rfl; exact rfl; (first | exact wrapI (by omega) (by omega) | exact rfl))); decide +kernel; decide +kernel; (first | exact fun _ h => h | exact fun _ h => Sat.drop h | exact fun _ h => Sat.drop (Sat.drop h) | exact fun _ h => Sat.drop (Sat.drop (Sat.drop h)) | exact fun _ h => Sat.drop (Sat.drop (Sat.drop (Sat.drop h)))); (simp only [Nat.reduceAdd, Nat.reducePow, Nat.reduceMul, Nat.zero_or, Nat.or_zero, Nat.reduceXor, Nat.reduceOr]; try exact rfl)) | (apply JB.nil; exact rfl) | (apply JI.do0; exact rfl; exact rfl; exact rfl; (first | (apply Do.storeN; exact rfl; exact rfl; exact rfl; (repeat (first | exact Pick.here | apply Pick.there)); exact rfl; exact rfl) | (apply Do.store; exact rfl; exact rfl; exact rfl; (repeat (first | exact Pick.here | apply Pick.there)); exact rfl)); (simp only [Nat.reduceAdd, Nat.reducePow, Nat.reduceMul, Nat.zero_or, Nat.or_zero, Nat.reduceXor, Nat.reduceOr]; try exact rfl); rintro _ _ ⟨rfl, rfl⟩; refine ⟨(by (first | exact fun _ h => h | exact fun _ h => Sat.drop h | exact fun _ h => Sat.drop (Sat.drop h) | exact fun _ h => Sat.drop (Sat.drop (Sat.drop h)) | exact fun _ h => Sat.drop (Sat.drop (Sat.drop (Sat.drop h))))), ?_⟩)) | refine JB.one 13 (by decide +kernel) ?_ | refine JB.one 16 (by decide +kernel) ?_ | refine JB.one 19 (by decide +kernel) ?_)
              rw [hwq]
              repeat' (first | (apply JO.ru; exact rfl; exact rfl; exact rfl; ((apply Ru.assign; exact rfl))) | refine JC.seq ?_ | refine JC.region ?_ | refine JO.nil ?_ | refine JE.thenN ?_ | refine JC.ret ?_ | (apply JE.done1; exact rfl; (first | (apply Res.tmp; exact rfl) | (apply Res.cell; exact rfl; (repeat (first | exact Pick.here | apply Pick.there)); exact rfl) | (apply Res.cellAN; exact rfl; (repeat (first | exact Pick.here | apply Pick.there)); exact rfl; exact rfl) | (apply Res.cellA; exact rfl; (repeat (first | exact Pick.here | apply Pick.there)); exact rfl; exact rfl))))
              exact finShad (r := diskHP d E :: l) (by repeat (first | exact Weak.refl | (apply Weak.cons; (first | exact Pick.here | exact Pick.there Pick.here | exact Pick.there (Pick.there Pick.here) | exact Pick.there (Pick.there (Pick.there Pick.here)) | exact Pick.there (Pick.there (Pick.there (Pick.there Pick.here))) | exact Pick.there (Pick.there (Pick.there (Pick.there (Pick.there Pick.here)))) | exact Pick.there (Pick.there (Pick.there (Pick.there (Pick.there (Pick.there Pick.here))))) | exact Pick.there (Pick.there (Pick.there (Pick.there (Pick.there (Pick.there (Pick.there Pick.here)))))) | exact Pick.there (Pick.there (Pick.there (Pick.there (Pick.there (Pick.there (Pick.there (Pick.there Pick.here))))))) | exact Pick.there (Pick.there (Pick.there (Pick.there (Pick.there (Pick.there (Pick.there (Pick.there (Pick.there Pick.here)))))))) | exact Pick.there (Pick.there (Pick.there (Pick.there (Pick.there (Pick.there (Pick.there (Pick.there (Pick.there (Pick.there Pick.here))))))))) | exact Pick.there (Pick.there (Pick.there (Pick.there (Pick.there (Pick.there (Pick.there (Pick.there (Pick.there (Pick.there (Pick.there Pick.here)))))))))) | exact Pick.there (Pick.there (Pick.there (Pick.there (Pick.there (Pick.there (Pick.there (Pick.there (Pick.there (Pick.there (Pick.there (Pick.there Pick.here))))))))))) | exact Pick.there (Pick.there (Pick.there (Pick.there (Pick.there (Pick.there (Pick.there (Pick.there (Pick.there (Pick.there (Pick.there (Pick.there (Pick.there Pick.here)))))))))))))) | apply Weak.drop)) (by repeat (first | exact Weak.refl | (apply Weak.cons; (first | exact Pick.here | exact Pick.there Pick.here | exact Pick.there (Pick.there Pick.here) | exact Pick.there (Pick.there (Pick.there Pick.here)) | exact Pick.there (Pick.there (Pick.there (Pick.there Pick.here))) | exact Pick.there (Pick.there (Pick.there (Pick.there (Pick.there Pick.here)))) | exact Pick.there (Pick.there (Pick.there (Pick.there (Pick.there (Pick.there Pick.here))))) | exact Pick.there (Pick.there (Pick.there (Pick.there (Pick.there (Pick.there (Pick.there Pick.here)))))))) | apply Weak.drop)) ⟨rfl, rfl⟩
            · (apply JI.do; exact rfl; exact rfl; exact rfl; exact rfl; (apply Ru.ofDo; (apply Ru.loadN; exact rfl; (repeat (first | exact Pick.here | apply Pick.there)); exact rfl)); (simp only [Nat.reduceAdd, Nat.reducePow, Nat.reduceMul, Nat.zero_or, Nat.or_zero, Nat.reduceXor, Nat.reduceOr]; try exact rfl); rintro _ _ ⟨rfl, rfl⟩; refine ⟨fun _ s => s.drop, ?_⟩)
              repeat' ((apply JB.ru; exact rfl; exact rfl; exact rfl; exact rfl; ((apply Ru.add; exact rfl; exact rfl; (first | exact wrapI (by omega) (by omega) | exact rfl))); decide +kernel; decide +kernel; (first | exact fun _ h => h | exact fun _ h => Sat.drop h | exact fun _ h => Sat.drop (Sat.drop h) | exact fun _ h => Sat.drop (Sat.drop (Sat.drop h)) | exact fun _ h => Sat.drop (Sat.drop (Sat.drop (Sat.drop h)))); (simp only [Nat.reduceAdd, Nat.reducePow, Nat.reduceMul, Nat.zero_or, Nat.or_zero, Nat.reduceXor, Nat.reduceOr]; try exact rfl)))
              refine JB.one 4 (by decide +kernel) ?_
              (apply JI.do; exact rfl; exact rfl; exact rfl; exact rfl; (apply Do.call; exact rfl; exact hcl); (simp only [Nat.reduceAdd, Nat.reducePow, Nat.reduceMul, Nat.zero_or, Nat.or_zero, Nat.reduceXor, Nat.reduceOr]; try exact rfl); rintro u2 _ ⟨rfl, _⟩; refine ⟨fun _ s => s.drop.drop, ?_⟩)
              refine JB.ownU Pick.here fun pu cu hu2 => ?_
              subst hu2
              repeat' (first | (first | (apply JB.ru; exact rfl; exact rfl; exact rfl; exact rfl; (first | (apply Ru.fieldAddr; exact rfl) | (apply Ru.nilP; exact rfl)); decide +kernel; decide +kernel; (first | exact fun _ h => h | exact fun _ h => Sat.drop h | exact fun _ h => Sat.drop (Sat.drop h) | exact fun _ h => Sat.drop (Sat.drop (Sat.drop h)) | exact fun _ h => Sat.drop (Sat.drop (Sat.drop (Sat.drop h)))); (simp only [Nat.reduceAdd, Nat.reducePow, Nat.reduceMul, Nat.zero_or, Nat.or_zero, Nat.reduceXor, Nat.reduceOr]; try exact rfl)) | (apply JB.nil; exact rfl) | (apply JI.do0; exact rfl; exact rfl; exact rfl; (first | (apply Do.storeN; exact rfl; exact rfl; exact rfl; (repeat (first | exact Pick.here | apply Pick.there)); exact rfl; exact rfl) | (apply Do.store; exact rfl; exact rfl; exact rfl; (repeat (first | exact Pick.here | apply Pick.there)); exact rfl)); (simp only [Nat.reduceAdd, Nat.reducePow, Nat.reduceMul, Nat.zero_or, Nat.or_zero, Nat.reduceXor, Nat.reduceOr]; try exact rfl); rintro _ _ ⟨rfl, rfl⟩; refine ⟨(by (first | exact fun _ h => h | exact fun _ h => Sat.drop h | exact fun _ h => Sat.drop (Sat.drop h) | exact fun _ h => Sat.drop (Sat.drop (Sat.drop h)) | exact fun _ h => Sat.drop (Sat.drop (Sat.drop (Sat.drop h))))), ?_⟩)) | refine JB.one 13 (by decide +kernel) ?_ | refine JB.one 16 (by decide +kernel) ?_ | refine JB.one 19 (by decide +kernel) ?_)
              rw [hwq]
              repeat' (first | (apply JO.ru; exact rfl; exact rfl; exact rfl; ((apply Ru.assign; exact rfl))) | refine JC.seq ?_ | refine JC.region ?_ | refine JO.nil ?_ | refine JE.thenN ?_ | refine JC.ret ?_ | (apply JE.done1; exact rfl; (first | (apply Res.tmp; exact rfl) | (apply Res.cell; exact rfl; (repeat (first | exact Pick.here | apply Pick.there)); exact rfl) | (apply Res.cellAN; exact rfl; (repeat (first | exact Pick.here | apply Pick.there)); exact rfl; exact rfl) | (apply Res.cellA; exact rfl; (repeat (first | exact Pick.here | apply Pick.there)); exact rfl; exact rfl))))
              exact finShad (r := diskHP d E :: l) (by repeat (first | exact Weak.refl | (apply Weak.cons; (first | exact Pick.here | exact Pick.there Pick.here | exact Pick.there (Pick.there Pick.here) | exact Pick.there (Pick.there (Pick.there Pick.here)) | exact Pick.there (Pick.there (Pick.there (Pick.there Pick.here))) | exact Pick.there (Pick.there (Pick.there (Pick.there (Pick.there Pick.here)))) | exact Pick.there (Pick.there (Pick.there (Pick.there (Pick.there (Pick.there Pick.here))))) | exact Pick.there (Pick.there (Pick.there (Pick.there (Pick.there (Pick.there (Pick.there Pick.here)))))) | exact Pick.there (Pick.there (Pick.there (Pick.there (Pick.there (Pick.there (Pick.there (Pick.there Pick.here))))))) | exact Pick.there (Pick.there (Pick.there (Pick.there (Pick.there (Pick.there (Pick.there (Pick.there (Pick.there Pick.here)))))))) | exact Pick.there (Pick.there (Pick.there (Pick.there (Pick.there (Pick.there (Pick.there (Pick.there (Pick.there (Pick.there Pick.here))))))))) | exact Pick.there (Pick.there (Pick.there (Pick.there (Pick.there (Pick.there (Pick.there (Pick.there (Pick.there (Pick.there (Pick.there Pick.here)))))))))) | exact Pick.there (Pick.there (Pick.there (Pick.there (Pick.there (Pick.there (Pick.there (Pick.there (Pick.there (Pick.there (Pick.there (Pick.there Pick.here))))))))))) | exact Pick.there (Pick.there (Pick.there (Pick.there (Pick.there (Pick.there (Pick.there (Pick.there (Pick.there (Pick.there (Pick.there (Pick.there (Pick.there Pick.here)))))))))))))) | apply Weak.drop)) (by repeat (first | exact Weak.refl | (apply Weak.cons; (first | exact Pick.here | exact Pick.there Pick.here | exact Pick.there (Pick.there Pick.here) | exact Pick.there (Pick.there (Pick.there Pick.here)) | exact Pick.there (Pick.there (Pick.there (Pick.there Pick.here))) | exact Pick.there (Pick.there (Pick.there (Pick.there (Pick.there Pick.here)))) | exact Pick.there (Pick.there (Pick.there (Pick.there (Pick.there (Pick.there Pick.here))))) | exact Pick.there (Pick.there (Pick.there (Pick.there (Pick.there (Pick.there (Pick.there Pick.here)))))))) | apply Weak.drop)) ⟨rfl, rfl⟩
          · have hR : commitR D e f s ⟨now, q, w, false⟩ bs = (er, E, ⟨now, q, w, true⟩) := by
              unfold commitR; rw [if_neg (by simp), if_neg (by show ¬ ((bs.length : Int) ≠ now.length); omega), if_neg hne, if_neg hqq, hE, if_pos h]
            rw [hR]
            repeat' (first | (apply JO.ru; exact rfl; exact rfl; exact rfl; (first | (apply Ru.move; exact rfl) | (apply Ru.loadN; exact rfl; (repeat (first | exact Pick.here | apply Pick.there)); exact rfl) | (apply Ru.fieldAddr; exact rfl) | (apply Ru.nilP; exact rfl) | (apply Ru.assign; exact rfl) | (apply Ru.neq; exact rfl; exact rfl; (first | exact ndecF (by omega) | exact ndecT (by omega))))) | refine JC.seq ?_ | refine JC.region ?_ | refine JO.nil ?_ | refine JE.thenN ?_ | refine JE.thenR ?_ | refine JC.ret ?_ | refine JC.condT rfl ?_ | (apply JO.do0; exact rfl; exact rfl; (first | (apply Do.storeN; exact rfl; exact rfl; exact rfl; (repeat (first | exact Pick.here | apply Pick.there)); exact rfl; exact rfl) | (apply Do.store; exact rfl; exact rfl; exact rfl; (repeat (first | exact Pick.here | apply Pick.there)); exact rfl)); rintro _ _ ⟨rfl, rfl⟩) | (apply JE.done1; exact rfl; (first | (apply Res.tmp; exact rfl) | (apply Res.cell; exact rfl; (repeat (first | exact Pick.here | apply Pick.there)); exact rfl) | (apply Res.cellAN; exact rfl; (repeat (first | exact Pick.here | apply Pick.there)); exact rfl; exact rfl) | (apply Res.cellA; exact rfl; (repeat (first | exact Pick.here | apply Pick.there)); exact rfl; exact rfl))))
            exact finShad (r := diskHP d E :: l) (by repeat (first | exact Weak.refl | (apply Weak.cons; (first | exact Pick.here | exact Pick.there Pick.here | exact Pick.there (Pick.there Pick.here) | exact Pick.there (Pick.there (Pick.there Pick.here)) | exact Pick.there (Pick.there (Pick.there (Pick.there Pick.here))) | exact Pick.there (Pick.there (Pick.there (Pick.there (Pick.there Pick.here)))) | exact Pick.there (Pick.there (Pick.there (Pick.there (Pick.there (Pick.there Pick.here))))) | exact Pick.there (Pick.there (Pick.there (Pick.there (Pick.there (Pick.there (Pick.there Pick.here)))))) | exact Pick.there (Pick.there (Pick.there (Pick.there (Pick.there (Pick.there (Pick.there (Pick.there Pick.here))))))) | exact Pick.there (Pick.there (Pick.there (Pick.there (Pick.there (Pick.there (Pick.there (Pick.there (Pick.there Pick.here)))))))) | exact Pick.there (Pick.there (Pick.there (Pick.there (Pick.there (Pick.there (Pick.there (Pick.there (Pick.there (Pick.there Pick.here))))))))) | exact Pick.there (Pick.there (Pick.there (Pick.there (Pick.there (Pick.there (Pick.there (Pick.there (Pick.there (Pick.there (Pick.there Pick.here)))))))))) | exact Pick.there (Pick.there (Pick.there (Pick.there (Pick.there (Pick.there (Pick.there (Pick.there (Pick.there (Pick.there (Pick.there (Pick.there Pick.here))))))))))) | exact Pick.there (Pick.there (Pick.there (Pick.there (Pick.there (Pick.there (Pick.there (Pick.there (Pick.there (Pick.there (Pick.there (Pick.there (Pick.there Pick.here)))))))))))))) | apply Weak.drop)) (by repeat (first | exact Weak.refl | (apply Weak.cons; (first | exact Pick.here | exact Pick.there Pick.here | exact Pick.there (Pick.there Pick.here) | exact Pick.there (Pick.there (Pick.there Pick.here)) | exact Pick.there (Pick.there (Pick.there (Pick.there Pick.here))) | exact Pick.there (Pick.there (Pick.there (Pick.there (Pick.there Pick.here)))) | exact Pick.there (Pick.there (Pick.there (Pick.there (Pick.there (Pick.there Pick.here))))) | exact Pick.there (Pick.there (Pick.there (Pick.there (Pick.there (Pick.there (Pick.there Pick.here)))))))) | apply Weak.drop)) ⟨rfl, rfl⟩
      · rw [hbb] at he
        have hne : bs = now := of_decide_eq_true hbb
        have hR : commitR D e f s ⟨now, q, w, false⟩ bs = (0, D, ⟨now, q, w, false⟩) := by
          unfold commitR; rw [if_neg (by simp), if_neg (by show ¬ ((bs.length : Int) ≠ now.length); omega), if_pos hne]
        rw [hR]
        (apply JQ.call; exact rfl; exact rfl; exact rfl; exact he; (rintro _ _ ⟨rfl, rfl⟩; exact ⟨rfl, rfl⟩))
        repeat' (first | (apply JO.ru; exact rfl; exact rfl; exact rfl; ((apply Ru.assign; exact rfl))) | refine JC.seq ?_ | refine JC.region ?_ | refine JO.nil ?_ | refine JE.thenN ?_ | refine JE.thenR ?_ | refine JE.blockR ?_ | refine JC.ret ?_ | refine JC.condT rfl ?_ | (apply JQ.ru; exact rfl; exact rfl; exact rfl; ((apply Ru.assign; exact rfl))) | refine JQ.nil ?_ | (apply JE.done1; exact rfl; (first | (apply Res.tmp; exact rfl) | (apply Res.cell; exact rfl; (repeat (first | exact Pick.here | apply Pick.there)); exact rfl) | (apply Res.cellAN; exact rfl; (repeat (first | exact Pick.here | apply Pick.there)); exact rfl; exact rfl) | (apply Res.cellA; exact rfl; (repeat (first | exact Pick.here | apply Pick.there)); exact rfl; exact rfl))))
        exact finShad (r := diskHP d D :: l) (by repeat (first | exact Weak.refl | (apply Weak.cons; (first | exact Pick.here | exact Pick.there Pick.here | exact Pick.there (Pick.there Pick.here) | exact Pick.there (Pick.there (Pick.there Pick.here)) | exact Pick.there (Pick.there (Pick.there (Pick.there Pick.here))) | exact Pick.there (Pick.there (Pick.there (Pick.there (Pick.there Pick.here)))) | exact Pick.there (Pick.there (Pick.there (Pick.there (Pick.there (Pick.there Pick.here))))) | exact Pick.there (Pick.there (Pick.there (Pick.there (Pick.there (Pick.there (Pick.there Pick.here)))))))) | apply Weak.drop)) (by repeat (first | exact Weak.refl | (apply Weak.cons; (first | exact Pick.here | exact Pick.there Pick.here | exact Pick.there (Pick.there Pick.here) | exact Pick.there (Pick.there (Pick.there Pick.here)) | exact Pick.there (Pick.there (Pick.there (Pick.there Pick.here))) | exact Pick.there (Pick.there (Pick.there (Pick.there (Pick.there Pick.here)))) | exact Pick.there (Pick.there (Pick.there (Pick.there (Pick.there (Pick.there Pick.here))))) | exact Pick.there (Pick.there (Pick.there (Pick.there (Pick.there (Pick.there (Pick.there Pick.here)))))))) | apply Weak.drop)) ⟨rfl, rfl⟩
    · rename_i hle
      have hR : commitR D e f s ⟨now, q, w, false⟩ bs = (1, D, ⟨now, q, w, false⟩) := by
        unfold commitR; rw [if_neg (by simp), if_pos hle]
      rw [hR]
      exact finShad (r := diskHP d D :: l) (by repeat (first | exact Weak.refl | (apply Weak.cons; (first | exact Pick.here | exact Pick.there Pick.here | exact Pick.there (Pick.there Pick.here) | exact Pick.there (Pick.there (Pick.there Pick.here)) | exact Pick.there (Pick.there (Pick.there (Pick.there Pick.here))) | exact Pick.there (Pick.there (Pick.there (Pick.there (Pick.there Pick.here)))) | exact Pick.there (Pick.there (Pick.there (Pick.there (Pick.there (Pick.there Pick.here))))) | exact Pick.there (Pick.there (Pick.there (Pick.there (Pick.there (Pick.there (Pick.there Pick.here)))))))) | apply Weak.drop)) (by repeat (first | exact Weak.refl | (apply Weak.cons; (first | exact Pick.here | exact Pick.there Pick.here | exact Pick.there (Pick.there Pick.here) | exact Pick.there (Pick.there (Pick.there Pick.here)) | exact Pick.there (Pick.there (Pick.there (Pick.there Pick.here))) | exact Pick.there (Pick.there (Pick.there (Pick.there (Pick.there Pick.here)))) | exact Pick.there (Pick.there (Pick.there (Pick.there (Pick.there (Pick.there Pick.here))))) | exact Pick.there (Pick.there (Pick.there (Pick.there (Pick.there (Pick.there (Pick.there Pick.here)))))))) | apply Weak.drop)) ⟨rfl, rfl⟩
set_option maxHeartbeats 1000000 in
theorem shadow_Image (sb d : Nat) (e f s : Int) (S : ShadN) (hn : S.now.length ≤ 100000) {l : List HP} :
    Fn Tryz.prog σ 42 #[.pointer (some ⟨sb, 0, none⟩)] (shadHP sb d e f s S :: l) (fun v l' => l' = bytesHP v S.now :: shadHP sb d e f s S :: l) := by
  obtain ⟨now, q, w, st⟩ := S
  refine Fn.shad fun p c => ?_
  dsimp only at hn ⊢
  refine Fn.ownR (Pick.there Pick.here) fun hu _ _ => ?_
  have hlm : (now.map byte).length = now.length := by simp
  have hcl := slices_Clone (σ := σ) (.slice p now.length c) (now.map byte) (byteOne _) (by rw [hlm]; omega) hu
  rw [hlm] at hcl
  refine Fn.of Tryz.func42 rfl Tryz.ntmps42 rfl ?_
  repeat' (first | (apply JO.ru; exact rfl; exact rfl; exact rfl; (first | (apply Ru.move; exact rfl) | (apply Ru.loadN; exact rfl; (repeat (first | exact Pick.here | apply Pick.there)); exact rfl) | (apply Ru.fieldAddr; exact rfl) | (apply Ru.nilP; exact rfl) | (apply Ru.assign; exact rfl))) | refine JC.seq ?_ | refine JC.region ?_ | refine JO.nil ?_ | refine JE.thenN ?_)
  (apply JO.do; exact rfl; exact rfl; exact rfl; (apply Do.call; exact rfl; exact hcl); rintro u2 _ ⟨rfl, _⟩)
  repeat' (first | (apply JO.ru; exact rfl; exact rfl; exact rfl; ((apply Ru.assign; exact rfl))) | refine JO.nil ?_ | refine JE.thenN ?_ | refine JC.ret ?_ | (apply JE.done1; exact rfl; (first | (apply Res.tmp; exact rfl) | (apply Res.cell; exact rfl; (repeat (first | exact Pick.here | apply Pick.there)); exact rfl) | (apply Res.cellAN; exact rfl; (repeat (first | exact Pick.here | apply Pick.there)); exact rfl; exact rfl) | (apply Res.cellA; exact rfl; (repeat (first | exact Pick.here | apply Pick.there)); exact rfl; exact rfl))))
  refine ⟨bytesHP u2 now :: shadHP sb d e f s ⟨now, q, w, st⟩ :: l, Sat.weak ?_, rfl⟩
  exact Weak.cons Pick.here Weak.shadE
theorem shadow_Seq (sb d : Nat) (e f s : Int) (S : ShadN) {l : List HP} :
    Fn Tryz.prog σ 43 #[.pointer (some ⟨sb, 0, none⟩)] (shadHP sb d e f s S :: l) (fun v l' => v = u64 S.seq ∧ l' = shadHP sb d e f s S :: l) := by
  obtain ⟨now, q, w, st⟩ := S
  refine Fn.shad fun p c => ?_
  dsimp only
  refine Fn.of Tryz.func43 rfl Tryz.ntmps43 rfl ?_
  repeat' (first | (apply JO.ru; exact rfl; exact rfl; exact rfl; (first | (apply Ru.move; exact rfl) | (apply Ru.loadN; exact rfl; (repeat (first | exact Pick.here | apply Pick.there)); exact rfl) | (apply Ru.fieldAddr; exact rfl) | (apply Ru.nilP; exact rfl) | (apply Ru.assign; exact rfl))) | refine JC.seq ?_ | refine JC.region ?_ | refine JO.nil ?_ | refine JE.thenN ?_ | refine JC.ret ?_ | (apply JE.done1; exact rfl; (first | (apply Res.tmp; exact rfl) | (apply Res.cell; exact rfl; (repeat (first | exact Pick.here | apply Pick.there)); exact rfl) | (apply Res.cellAN; exact rfl; (repeat (first | exact Pick.here | apply Pick.there)); exact rfl; exact rfl) | (apply Res.cellA; exact rfl; (repeat (first | exact Pick.here | apply Pick.there)); exact rfl; exact rfl))))
  exact finShad (r := l) Weak.refl Weak.refl ⟨rfl, rfl⟩
theorem shadow_Which (sb d : Nat) (e f s : Int) (S : ShadN) {l : List HP} :
    Fn Tryz.prog σ 44 #[.pointer (some ⟨sb, 0, none⟩)] (shadHP sb d e f s S :: l) (fun v l' => v = int S.which ∧ l' = shadHP sb d e f s S :: l) := by
  obtain ⟨now, q, w, st⟩ := S
  refine Fn.shad fun p c => ?_
  dsimp only
  refine Fn.of Tryz.func44 rfl Tryz.ntmps44 rfl ?_
  repeat' (first | (apply JO.ru; exact rfl; exact rfl; exact rfl; (first | (apply Ru.move; exact rfl) | (apply Ru.loadN; exact rfl; (repeat (first | exact Pick.here | apply Pick.there)); exact rfl) | (apply Ru.fieldAddr; exact rfl) | (apply Ru.nilP; exact rfl) | (apply Ru.assign; exact rfl))) | refine JC.seq ?_ | refine JC.region ?_ | refine JO.nil ?_ | refine JE.thenN ?_ | refine JC.ret ?_ | (apply JE.done1; exact rfl; (first | (apply Res.tmp; exact rfl) | (apply Res.cell; exact rfl; (repeat (first | exact Pick.here | apply Pick.there)); exact rfl) | (apply Res.cellAN; exact rfl; (repeat (first | exact Pick.here | apply Pick.there)); exact rfl; exact rfl) | (apply Res.cellA; exact rfl; (repeat (first | exact Pick.here | apply Pick.there)); exact rfl; exact rfl))))
  exact finShad (r := l) Weak.refl Weak.refl ⟨rfl, rfl⟩
theorem shadow_Stale (sb d : Nat) (e f s : Int) (S : ShadN) {l : List HP} :
    Fn Tryz.prog σ 49 #[.pointer (some ⟨sb, 0, none⟩)] (shadHP sb d e f s S :: l) (fun v l' => v = .bool S.stale ∧ l' = shadHP sb d e f s S :: l) := by
  obtain ⟨now, q, w, st⟩ := S
  refine Fn.shad fun p c => ?_
  dsimp only
  refine Fn.of Tryz.func49 rfl Tryz.ntmps49 rfl ?_
  repeat' (first | (apply JO.ru; exact rfl; exact rfl; exact rfl; (first | (apply Ru.move; exact rfl) | (apply Ru.loadN; exact rfl; (repeat (first | exact Pick.here | apply Pick.there)); exact rfl) | (apply Ru.fieldAddr; exact rfl) | (apply Ru.nilP; exact rfl) | (apply Ru.assign; exact rfl))) | refine JC.seq ?_ | refine JC.region ?_ | refine JO.nil ?_ | refine JE.thenN ?_ | refine JC.ret ?_ | (apply JE.done1; exact rfl; (first | (apply Res.tmp; exact rfl) | (apply Res.cell; exact rfl; (repeat (first | exact Pick.here | apply Pick.there)); exact rfl) | (apply Res.cellAN; exact rfl; (repeat (first | exact Pick.here | apply Pick.there)); exact rfl; exact rfl) | (apply Res.cellA; exact rfl; (repeat (first | exact Pick.here | apply Pick.there)); exact rfl; exact rfl))))
  exact finShad (r := l) Weak.refl Weak.refl ⟨rfl, rfl⟩
end Go.Sep
/- The disk: crashed. -/
namespace Go.Sep
open Go Go.Proofs
attribute [local irreducible] JO JC JE JA JQ JB JI Mid Inv Weak ownS Ru Do Fn Sat Pick Take arr pt star ex Holds bodyPost Post Exit.then Exit.inBlock Res
variable {σ : Sig} {F : List HP}
/-- The tears that a slice reads as. -/
def RdT (σ : Sig) (l : List HP) (v : Value) (ts : List TearN) : Prop :=
  ∃ p cap, v = .slice p ts.length cap ∧ ts.length ≤ cap ∧ (ts = [] ∨ ∃ b o, p = some ⟨b, o, none⟩ ∧ ∀ (i : Nat) (t : TearN), ts[i]? = some t → ∃ q c, t.bytes.length ≤ c ∧
    (∀ w, Sat σ w l → ∀ j u, ([int t.kind, .slice q t.bytes.length c] : List Value)[j]? = some u → w.cell? ⟨b, o + (i : Int).toNat * 2 + j, none⟩ = some u) ∧ RdS σ l (.slice q t.bytes.length c) (t.bytes.map byte))
theorem keys_nodup {D : DiskN} (h : D.WF) : D.keys.Nodup := (List.mergeSort_perm _ _).nodup_iff.2 h.nodup
theorem not_take {α : Type} {l : List α} (h : l.Nodup) {j : Nat} {k : α} (hk : l[j]? = some k) : k ∉ l.take j := by
  intro hm
  obtain ⟨h1, h2⟩ := List.getElem?_eq_some_iff.1 hk
  have e : l = l.take j ++ l.drop j := (List.take_append_drop j l).symm
  rw [e, List.nodup_append] at h
  exact h.2.2 k hm k (by rw [List.drop_eq_getElem_cons h1, h2]; exact List.mem_cons_self) rfl
theorem torn_cached {D : DiskN} (h : D.WF) (ts : List TearN) {j : Nat} {k : Int} (hk : D.keys[j]? = some k) : ∃ bs, lookI (torn D ts j).cached k = some bs := by
  have hj : j < D.keys.length := (List.getElem?_eq_some_iff.1 hk).1
  obtain ⟨_, _, _, _, _, _, a7⟩ := torn_facts h ts j (by omega)
  rw [a7, if_neg (not_take (keys_nodup h) hk)]
  exact lookI_some_of (mem_keys.1 (List.mem_of_getElem? hk))
theorem splice_bytes {data ys : List UInt8} {spare : List Value} {o : Nat} (h : o + ys.length ≤ data.length) : splice (data.map byte ++ spare) o (ys.map byte) = (data.take o ++ ys ++ data.drop (o + ys.length)).map byte ++ spare := by
  rw [splice_at _ _ _ (by simp only [List.length_append, List.length_map]; omega)]
  have e1 : o ≤ (data.map byte).length := by rw [List.length_map]; omega
  rw [List.take_append_of_le_length e1, List.drop_append_of_le_length (by simp only [List.length_map]; omega)]
  simp
theorem splice_sec {data bs : List UInt8} {spare : List Value} {size i : Nat} (h : i * size + bs.length ≤ data.length) : splice (data.map byte ++ spare) (i * size) (bs.map byte) = (setSec data size i bs).map byte ++ spare := splice_bytes h
theorem cut_three {T Z R : List UInt8} {a n : Nat} (hT : T.length = a) (hn : n ≤ Z.length) : (T ++ Z ++ R).take a = T ∧ (T ++ Z ++ R).drop (a + n) = Z.drop n ++ R := by
  subst hT
  refine ⟨by rw [List.append_assoc, List.take_left], ?_⟩
  rw [List.append_assoc, ← List.drop_drop, List.drop_left, List.drop_append_of_le_length hn]
theorem set_fit {data bs : List UInt8} {size i : Nat} (h : i * size + size ≤ data.length) :
    (setSec data size i (List.replicate size 0)).take (i * size) ++ bs.take size ++ (setSec data size i (List.replicate size 0)).drop (i * size + (bs.take size).length) = setSec data size i (fit bs size) := by
  have hl : (data.take (i * size)).length = i * size := by rw [List.length_take]; omega
  have hf := fit_length bs size
  have hm : (bs.take size).length ≤ size := by rw [List.length_take]; omega
  unfold setSec
  obtain ⟨e1, e2⟩ := cut_three (R := data.drop (i * size + (List.replicate size (0 : UInt8)).length)) hl (Z := List.replicate size 0) (n := (bs.take size).length) (by rw [List.length_replicate]; exact hm)
  rw [e1, e2, hf, List.drop_replicate]
  unfold fit padB
  simp only [List.length_replicate, List.append_assoc]
attribute [local irreducible] diskHP cacheHP planHP rowHP
set_option maxHeartbeats 4000000 in
theorem disk_Crash (d : Nat) (D : DiskN) (v : Value) (ts : List TearN) (hD : D.WF) (hw : D.writes ≤ 1000000) (hts : ts.length ≤ 1000000) (htb : ∀ t ∈ ts, t.bytes.length ≤ 1000000) {l : List HP} (hv : RdT σ l v ts) :
    Fn Tryz.prog σ 27 #[.pointer (some ⟨d, 0, none⟩), v] (diskHP d D :: l) (fun r l' => r = .tuple #[] ∧ l' = diskHP d (D.crash ts) :: l) := by
  obtain ⟨pv, cv, rfl, hcv, hrv⟩ := hv
  have hfew : D.cached.length ≤ 1000000 := Nat.le_trans hD.few hw
  have hkl := D.keys_length
  refine Fn.of Tryz.func27 rfl Tryz.ntmps27 rfl ?_
  repeat' (first | (first | (apply JO.ru; exact rfl; exact rfl; exact rfl; ((apply Ru.move; exact rfl))) | refine JC.seq ?_ | refine JC.region ?_) | (apply JO.do; exact rfl; exact rfl; exact rfl; (apply Do.call; exact rfl; exact disk_Unsynced d D hD hw); rintro v _ rfl))
  refine JO.ownR Pick.here fun _ _ hsh => ?_
  obtain ⟨p, c, rfl, hp⟩ : ∃ p c, v = .slice p D.keys.length c ∧ (p = none ∧ D.keys.length = 0 ∨ ∃ b, p = some ⟨b, 0, none⟩) := by
    rcases hsh with ⟨rfl, h⟩ | ⟨b, c, rfl, _⟩
    · exact ⟨none, 0, by rw [h], .inl ⟨rfl, h⟩⟩
    · exact ⟨_, c, rfl, .inr ⟨b, rfl⟩⟩
  clear hsh
  repeat' (first | (apply JO.ru; exact rfl; exact rfl; exact rfl; (first | (apply Ru.move; exact rfl) | (apply Ru.lenS; exact rfl))) | refine JO.nil ?_ | refine JE.thenN ?_ | refine JC.block ?_)
  refine JC.loop (fun j : Nat => [(0, .pointer (some ⟨d, 0, none⟩)), (1, .slice pv ts.length cv), (8, .slice p D.keys.length c), (9, int D.keys.length), (10, int j)]) (fun j => ownS (.slice p D.keys.length c) 3 1 D.keys.length (D.keys.map int) :: diskHP d (torn D ts j) :: l) (fun j => j ≤ D.keys.length) (fun j => D.keys.length - j) 0 (Nat.zero_le _) ⟨rfl, rfl, rfl, rfl, rfl, trivial⟩ (fun _ h => h) ?_
  intro j hj
  repeat' (first | (apply JO.ru; exact rfl; exact rfl; exact rfl; ((apply Ru.move; exact rfl))) | refine JC.seq ?_ | refine JC.region ?_ | refine JO.nil ?_ | refine JE.thenN ?_ | refine JE.thenE ?_ | refine JE.blockE ?_ | refine JC.block ?_ | refine JC.skip ?_ | refine JC.exit ?_ | refine JC.condT rfl ?_ | refine JC.condF rfl ?_ | (apply JO.split; exact rfl; exact rfl; exact rfl; ((apply Ru.lss; exact rfl; exact rfl; exact rfl)); all_goals intro _))
  · rename_i hlt
    obtain ⟨k, hk⟩ : ∃ k, D.keys[j]? = some k := ⟨_, List.getElem?_eq_getElem (by omega)⟩
    obtain ⟨hr0, hr1⟩ := keys_range hD hk
    obtain ⟨i, rfl⟩ := Int.eq_ofNat_of_zero_le hr0
    obtain ⟨b0, rfl⟩ : ∃ b, p = some ⟨b, 0, none⟩ := by
      rcases hp with ⟨_, h⟩ | h
      · omega
      · exact h
    refine JO.ownR Pick.here fun hrd _ _ => ?_
    obtain ⟨p', cap', e, _, hr2⟩ := hrd
    injection e with e1 e2 e3
    subst e1; clear e2 e3
    rcases hr2 with h | ⟨b', o', e4, hc⟩
    · have := congrArg List.length h
      rw [List.length_map, List.length_nil] at this
      omega
    cases e4
    repeat' ((apply JO.ru; exact rfl; exact rfl; exact rfl; ((apply Ru.indexAddr; exact rfl; exact rfl; omega; omega))))
    (apply JO.ru; exact rfl; exact rfl; exact rfl; (apply Ru.loadC; exact rfl; exact rd_row (i := j) (u := int i) hc (by rw [List.getElem?_map, hk]; rfl) _ (by simp)))
    iterate 12 (first | (apply JO.ru; exact rfl; exact rfl; exact rfl; (first | (apply Ru.assign; exact rfl) | (apply Ru.buildN; exact rfl; exact rfl))) | refine JC.seq ?_ | refine JC.region ?_ | refine JO.nil ?_ | refine JE.thenN ?_ | (apply JO.do; exact rfl; exact rfl; exact rfl; (first | (apply Do.allocN; exact rfl) | apply Do.alloc); rintro _ _ ⟨_, rfl, rfl⟩) | (apply JO.do0; exact rfl; exact rfl; (first | (apply Do.storeAN; exact rfl; exact rfl; (repeat (first | exact Pick.here | apply Pick.there)); exact rfl; exact rfl; exact rfl; exact rfl) | (apply Do.storeA; exact rfl; exact rfl; (repeat (first | exact Pick.here | apply Pick.there)); exact rfl; exact rfl; exact rfl)); rintro _ _ ⟨rfl, rfl⟩))
    obtain ⟨t, ht⟩ : ∃ t, ts.getD j .zero = t := ⟨_, rfl⟩
    refine JC.mid (fun q : Nat × Option Addr × Nat => [(0, .pointer (some ⟨d, 0, none⟩)), (1, .slice pv ts.length cv), (5, int i), (6, .pointer (some ⟨q.1, 0, none⟩)), (8, .slice (some ⟨b0, 0, none⟩) D.keys.length c), (9, int D.keys.length), (10, int j)])
      (fun q => arr q.1 100 [int t.kind, .slice q.2.1 t.bytes.length q.2.2] :: ownS (.slice (some ⟨b0, 0, none⟩) D.keys.length c) 3 1 D.keys.length (D.keys.map int) :: diskHP d (torn D ts j) :: l) (fun q => RdS σ l (.slice q.2.1 t.bytes.length q.2.2) (t.bytes.map byte)) ?_ ?_
    · rintro ⟨wb, q, cq⟩ hrt
      dsimp only at hrt ⊢
      have hss := torn_succ (ts := ts) hk
      obtain ⟨hEw, hEs, hEc, _⟩ := torn_facts hD ts j hj
      obtain ⟨bs, hbs⟩ := torn_cached hD ts hk
      have htl : t.bytes.length ≤ 1000000 := by
        rw [← ht, List.getD_eq_getElem?_getD]
        cases q : ts[j]? with
        | none => simp [TearN.zero]
        | some t' => exact htb t' (List.mem_of_getElem? q)
      rw [ht] at hss
      obtain ⟨E, hE⟩ : ∃ E, torn D ts j = E := ⟨_, rfl⟩
      rw [hE] at hss hEw hEs hEc hbs ⊢
      have hi : i < E.count := by omega
      have hroom := hEw.room hi
      have hsm := hEw.small
      have g0 : (i + 1) * E.size = i * E.size + E.size := Nat.succ_mul i E.size
      have hz := hEw.hz
      refine JC.disk (Pick.there (Pick.there Pick.here)) fun lv cm pm => ?_
      refine JC.cache (Pick.there (Pick.there Pick.here)) fun R hR => ?_
      refine JC.heap (Sat.weak (l' := bytesHP lv E.data :: mapI cm (R.map fun p => (p.1, p.2.1)) :: star (R.map rowHP) :: arr d 121 (diskCells E lv cm pm) :: planHP pm E.planned :: arr wb 100 [int t.kind, .slice q t.bytes.length cq] :: ownS (.slice (some ⟨b0, 0, none⟩) D.keys.length c) 3 1 D.keys.length (D.keys.map int) :: l) (by repeat (first | exact Weak.refl | (apply Weak.cons; (first | exact Pick.here | exact Pick.there Pick.here | exact Pick.there (Pick.there Pick.here) | exact Pick.there (Pick.there (Pick.there Pick.here)) | exact Pick.there (Pick.there (Pick.there (Pick.there Pick.here))) | exact Pick.there (Pick.there (Pick.there (Pick.there (Pick.there Pick.here)))) | exact Pick.there (Pick.there (Pick.there (Pick.there (Pick.there (Pick.there Pick.here))))) | exact Pick.there (Pick.there (Pick.there (Pick.there (Pick.there (Pick.there (Pick.there Pick.here)))))))) | apply Weak.drop))) ?_
      refine JC.own (fun _ h _ => (by omega)) ?_
      rintro b cap spare rfl hcap hxs hsp
      have hlk : lookI (R.map fun (p : Int × Value × List UInt8) => (p.1, p.2.1)) (i : Int) = (lookI R (i : Int)).map (·.1) := lookI_map (·.1) R i
      have hlc2 : lookI E.cached (i : Int) = (lookI R (i : Int)).map (·.2) := hR ▸ lookI_map (·.2) R i
      obtain ⟨u, hu⟩ : ∃ u, lookI R (i : Int) = some u := by
        rw [hbs] at hlc2
        cases q : lookI R (i : Int) with
        | none => rw [q] at hlc2; cases hlc2
        | some u => exact ⟨u, rfl⟩
      rw [hu] at hlk hlc2
      simp only [Option.map_some] at hlk hlc2
      have hul : u.2.length = E.size := (hEw.cach _ (lookI_mem hlc2)).2.2
      have hul' : (u.2.map byte).length = u.2.length := by simp
      have hcur : E.cur i = u.2 := by unfold DiskN.cur; rw [hlc2]; rfl
      have em : delI (R.map fun (p : Int × Value × List UInt8) => (p.1, p.2.1)) (i : Int) = (delI R (i : Int)).map fun p => (p.1, p.2.1) := delI_map (·.1) R i
      have ec : delI E.cached (i : Int) = (delI R (i : Int)).map fun p => (p.1, p.2.2) := by rw [hR]; exact delI_map (·.2) R i
      have fin2 : ∀ (data' : List UInt8), data'.length = E.data.length → E.tear (i : Int) t = { E with data := data', cached := delI E.cached (i : Int) } → ∀ w, Sat σ w (mapI cm (delI (R.map fun (p : Int × Value × List UInt8) => (p.1, p.2.1)) (i : Int)) :: arr b 5 (data'.map byte ++ spare) :: star (R.map rowHP) :: arr d 121 (diskCells E (.slice (some ⟨b, 0, none⟩) E.data.length cap) cm pm) :: planHP pm E.planned :: ownS (.slice (some ⟨b0, 0, none⟩) D.keys.length c) 3 1 D.keys.length (D.keys.map int) :: l) → Sat σ w (ownS (.slice (some ⟨b0, 0, none⟩) D.keys.length c) 3 1 D.keys.length (D.keys.map int) :: diskHP d (torn D ts (j + 1)) :: l) := by
        intro data' hsl hset w s
        rw [hss, hset]
        rw [em] at s
        have s0 := Sat.weak (l' := arr b 5 (data'.map byte ++ spare) :: star (R.map rowHP) :: mapI cm ((delI R (i : Int)).map fun p => (p.1, p.2.1)) :: arr d 121 (diskCells E (.slice (some ⟨b, 0, none⟩) E.data.length cap) cm pm) :: planHP pm E.planned :: ownS (.slice (some ⟨b0, 0, none⟩) D.keys.length c) 3 1 D.keys.length (D.keys.map int) :: l) (by repeat (first | exact Weak.refl | (apply Weak.cons; (first | exact Pick.here | exact Pick.there Pick.here | exact Pick.there (Pick.there Pick.here) | exact Pick.there (Pick.there (Pick.there Pick.here)) | exact Pick.there (Pick.there (Pick.there (Pick.there Pick.here))) | exact Pick.there (Pick.there (Pick.there (Pick.there (Pick.there Pick.here)))) | exact Pick.there (Pick.there (Pick.there (Pick.there (Pick.there (Pick.there Pick.here))))) | exact Pick.there (Pick.there (Pick.there (Pick.there (Pick.there (Pick.there (Pick.there Pick.here)))))))) | apply Weak.drop)) w s
        have s1 := Sat.ownS_arr (k := data'.length) (cap := cap) (z := 1) (by omega) (by rw [List.length_map]; omega) (by rw [List.length_append, List.length_map, hsl, ← List.length_map (f := byte), ← List.length_append]; exact hsp) s0
        rw [hsl] at s1
        have s2 := Sat.weak (l' := star (R.map rowHP) :: ownS (.slice (some ⟨b, 0, none⟩) E.data.length cap) 5 1 E.data.length (data'.map byte) :: mapI cm ((delI R (i : Int)).map fun p => (p.1, p.2.1)) :: arr d 121 (diskCells E (.slice (some ⟨b, 0, none⟩) E.data.length cap) cm pm) :: planHP pm E.planned :: ownS (.slice (some ⟨b0, 0, none⟩) D.keys.length c) 3 1 D.keys.length (D.keys.map int) :: l) (by repeat (first | exact Weak.refl | (apply Weak.cons; (first | exact Pick.here | exact Pick.there Pick.here | exact Pick.there (Pick.there Pick.here) | exact Pick.there (Pick.there (Pick.there Pick.here)) | exact Pick.there (Pick.there (Pick.there (Pick.there Pick.here))) | exact Pick.there (Pick.there (Pick.there (Pick.there (Pick.there Pick.here)))) | exact Pick.there (Pick.there (Pick.there (Pick.there (Pick.there (Pick.there Pick.here))))) | exact Pick.there (Pick.there (Pick.there (Pick.there (Pick.there (Pick.there (Pick.there Pick.here)))))))) | apply Weak.drop)) w s1
        have s3 := Sat.delRows (k := (i : Int)) s2
        have e9 : ownS (.slice (some ⟨b, 0, none⟩) E.data.length cap) 5 1 E.data.length (data'.map byte) = bytesHP (.slice (some ⟨b, 0, none⟩) E.data.length cap) data' := by rw [← hsl]
        rw [e9] at s3
        have s4 := Sat.weak (l' := opn2 d { E with data := data', cached := delI E.cached (i : Int) } (.slice (some ⟨b, 0, none⟩) E.data.length cap) cm pm (delI R (i : Int)) (ownS (.slice (some ⟨b0, 0, none⟩) D.keys.length c) 3 1 D.keys.length (D.keys.map int) :: l)) (by repeat (first | exact Weak.refl | (apply Weak.cons; (first | exact Pick.here | exact Pick.there Pick.here | exact Pick.there (Pick.there Pick.here) | exact Pick.there (Pick.there (Pick.there Pick.here)) | exact Pick.there (Pick.there (Pick.there (Pick.there Pick.here))) | exact Pick.there (Pick.there (Pick.there (Pick.there (Pick.there Pick.here)))) | exact Pick.there (Pick.there (Pick.there (Pick.there (Pick.there (Pick.there Pick.here))))) | exact Pick.there (Pick.there (Pick.there (Pick.there (Pick.there (Pick.there (Pick.there Pick.here)))))))) | apply Weak.drop)) w s3
        exact Sat.weak (by repeat (first | exact Weak.refl | (apply Weak.cons; (first | exact Pick.here | exact Pick.there Pick.here | exact Pick.there (Pick.there Pick.here) | exact Pick.there (Pick.there (Pick.there Pick.here)) | exact Pick.there (Pick.there (Pick.there (Pick.there Pick.here))) | exact Pick.there (Pick.there (Pick.there (Pick.there (Pick.there Pick.here)))) | exact Pick.there (Pick.there (Pick.there (Pick.there (Pick.there (Pick.there Pick.here))))) | exact Pick.there (Pick.there (Pick.there (Pick.there (Pick.there (Pick.there (Pick.there Pick.here)))))))) | apply Weak.drop)) w (Sat.close ec s4)
      refine JC.rowR (lookI_mem hu) (Pick.there (Pick.there Pick.here)) fun hrow => ?_
      by_cases k1 : t.kind = 1
      · repeat' (first | (apply JO.ru; exact rfl; exact rfl; exact rfl; (first | (apply Ru.loadN; exact rfl; (repeat (first | exact Pick.here | apply Pick.there)); exact rfl) | (apply Ru.fieldAddr; exact rfl) | (apply Ru.assign; exact rfl) | (apply Ru.eql; exact rfl; exact rfl; (first | exact decT (by omega) | exact decF (by omega))))) | refine JC.seq ?_ | refine JC.region ?_ | refine JO.nil ?_ | refine JE.thenN ?_ | refine JC.block ?_ | refine JC.condT rfl ?_)
        refine JC.regionB (mapI cm (R.map fun p => (p.1, p.2.1)) :: star (R.map rowHP) :: arr d 121 (diskCells E (.slice (some ⟨b, 0, none⟩) E.data.length cap) cm pm) :: planHP pm E.planned :: arr wb 100 [int t.kind, .slice q t.bytes.length cq] :: ownS (.slice (some ⟨b0, 0, none⟩) D.keys.length c) 3 1 D.keys.length (D.keys.map int) :: l) mixed ?_
        repeat' (first | ((apply JB.ru; exact rfl; exact rfl; exact rfl; exact rfl; (first | (apply Ru.move; exact rfl) | (apply Ru.loadN; exact rfl; (repeat (first | exact Pick.here | apply Pick.there)); exact rfl) | (apply Ru.fieldAddr; exact rfl) | (apply Ru.nilP; exact rfl)); decide +kernel; decide +kernel; (first | exact fun _ h => h | exact fun _ h => Sat.drop h | exact fun _ h => Sat.drop (Sat.drop h) | exact fun _ h => Sat.drop (Sat.drop (Sat.drop h)) | exact fun _ h => Sat.drop (Sat.drop (Sat.drop (Sat.drop h)))); (simp only [Nat.reduceAdd, Nat.reducePow, Nat.reduceMul, Nat.zero_or, Nat.or_zero, Nat.reduceXor, Nat.reduceOr]; try exact rfl))) | (apply JB.ru; exact rfl; exact rfl; exact rfl; exact rfl; (apply Ru.lookupO0; exact rfl; exact rfl; exact Pick.here; exact hlk); decide +kernel; decide +kernel; exact fun _ h => Sat.drop h; (simp only [Nat.reduceAdd, Nat.reducePow, Nat.reduceMul, Nat.zero_or, Nat.or_zero, Nat.reduceXor, Nat.reduceOr]; try exact rfl)))
        refine JB.one 2 (by decide +kernel) ?_
        (apply JI.do; exact rfl; exact rfl; exact rfl; exact rfl; (apply Do.call; exact rfl; exact disk_at d E.size i b E.data.length cap _ _ _ _ hz (by omega) hcap hroom (Pick.there (Pick.there (Pick.there Pick.here)))); (simp only [Nat.reduceAdd, Nat.reducePow, Nat.reduceMul, Nat.zero_or, Nat.or_zero, Nat.reduceXor, Nat.reduceOr]; try exact rfl); rintro _ _ ⟨rfl, hq⟩; obtain rfl := hq.symm; refine ⟨fun _ s => s.drop, ?_⟩)
        refine JB.one 9 (by decide +kernel) ?_
        obtain ⟨ku, pu, cu, hu1⟩ : ∃ k p c, u.1 = .slice p k c ∧ k = u.2.length := by
          obtain ⟨pp, cc, h1, _, _⟩ := hrow
          exact ⟨_, pp, cc, h1, hul'⟩
        obtain ⟨hu1, rfl⟩ := hu1
        dsimp only at hrow
        rw [hu1] at hrow ⊢
        (apply JI.do; exact rfl; exact rfl; exact rfl; exact rfl; (apply Do.copy (ys := u.2.map byte); exact rfl; exact rfl; exact Pick.here; exact hrow; (rw [List.length_append, List.length_map]; omega); exact byteOne _); (simp only [Nat.reduceAdd, Nat.reducePow, Nat.reduceMul, Nat.zero_or, Nat.or_zero, Nat.reduceXor, Nat.reduceOr]; try exact rfl); rintro _ _ ⟨rfl, rfl⟩; refine ⟨fun _ s => s.drop, ?_⟩)
        rw [List.take_of_length_le (by rw [hul']; omega), splice_sec (by omega)]
        repeat' ((apply JB.nil; exact rfl))
        repeat' (first | (apply JO.ru; exact rfl; exact rfl; exact rfl; (first | (apply Ru.move; exact rfl) | (apply Ru.loadN; exact rfl; (repeat (first | exact Pick.here | apply Pick.there)); exact rfl) | (apply Ru.fieldAddr; exact rfl) | (apply Ru.nilP; exact rfl))) | refine JC.region ?_ | refine JE.thenN ?_ | refine JE.blockN ?_)
        (apply JO.do0; exact rfl; exact rfl; (apply Do.deleteI; exact rfl; exact rfl; exact Pick.there Pick.here); rintro _ _ ⟨rfl, rfl⟩)
        repeat' (first | (apply JO.ru; exact rfl; exact rfl; exact rfl; (first | (apply Ru.move; exact rfl) | (apply Ru.add; exact rfl; exact rfl; (first | exact wrapI (by omega) (by omega) | exact rfl)))) | refine JC.region ?_ | refine JO.nil ?_ | refine JE.thenN ?_ | refine JE.blockN ?_)
        refine JE.round (j + 1) (by omega) (by omega) ⟨rfl, rfl, rfl, rfl, rfl, trivial⟩ ?_
        have hset : E.tear (i : Int) t = { E with data := setSec E.data E.size i u.2, cached := delI E.cached (i : Int) } := by unfold DiskN.tear; rw [if_pos k1, Int.toNat_natCast, hcur]
        intro w s
        exact fin2 _ (setSec_length (by omega)) hset w (Sat.weak (by repeat (first | exact Weak.refl | (apply Weak.cons; (first | exact Pick.here | exact Pick.there Pick.here | exact Pick.there (Pick.there Pick.here) | exact Pick.there (Pick.there (Pick.there Pick.here)) | exact Pick.there (Pick.there (Pick.there (Pick.there Pick.here))) | exact Pick.there (Pick.there (Pick.there (Pick.there (Pick.there Pick.here)))) | exact Pick.there (Pick.there (Pick.there (Pick.there (Pick.there (Pick.there Pick.here))))) | exact Pick.there (Pick.there (Pick.there (Pick.there (Pick.there (Pick.there (Pick.there Pick.here)))))))) | apply Weak.drop)) w s)
      by_cases k2 : t.kind = 2
      · repeat' (first | (apply JO.ru; exact rfl; exact rfl; exact rfl; (first | (apply Ru.move; exact rfl) | (apply Ru.loadN; exact rfl; (repeat (first | exact Pick.here | apply Pick.there)); exact rfl) | (apply Ru.fieldAddr; exact rfl) | (apply Ru.assign; exact rfl) | (apply Ru.eql; exact rfl; exact rfl; (first | exact decT (by omega) | exact decF (by omega))))) | refine JC.seq ?_ | refine JC.region ?_ | refine JO.nil ?_ | refine JE.thenN ?_ | refine JC.block ?_ | refine JC.condT rfl ?_ | refine JC.condF rfl ?_)
        (apply JO.do; exact rfl; exact rfl; exact rfl; (apply Do.call; exact rfl; exact disk_at d E.size i b E.data.length cap _ _ _ _ hz (by omega) hcap hroom (Pick.there (Pick.there (Pick.there Pick.here)))); rintro _ _ ⟨rfl, hq⟩; obtain rfl := hq.symm)
        (apply JO.do0; exact rfl; exact rfl; (apply Do.clear; exact rfl; exact Pick.here; (rw [List.length_append, List.length_map]; omega); exact rfl); rintro _ _ ⟨rfl, rfl⟩)
        have hzr : List.replicate E.size (Value.int .u8 0) = (List.replicate E.size (0 : UInt8)).map byte := by simp
        rw [hzr, splice_sec (by rw [List.length_replicate]; omega)]
        have hsl2 := setSec_length (data := E.data) (size := E.size) (i := i) (bs := List.replicate E.size 0) (by rw [List.length_replicate]; omega)
        repeat' (first | refine JO.nil ?_ | refine JE.thenN ?_)
        refine JC.regionB (mapI cm (R.map fun p => (p.1, p.2.1)) :: star (R.map rowHP) :: arr d 121 (diskCells E (.slice (some ⟨b, 0, none⟩) E.data.length cap) cm pm) :: planHP pm E.planned :: arr wb 100 [int t.kind, .slice q t.bytes.length cq] :: ownS (.slice (some ⟨b0, 0, none⟩) D.keys.length c) 3 1 D.keys.length (D.keys.map int) :: l) mixed ?_
        repeat' ((apply JB.ru; exact rfl; exact rfl; exact rfl; exact rfl; (first | (apply Ru.move; exact rfl) | (apply Ru.loadN; exact rfl; (repeat (first | exact Pick.here | apply Pick.there)); exact rfl) | (apply Ru.fieldAddr; exact rfl)); decide +kernel; decide +kernel; (first | exact fun _ h => h | exact fun _ h => Sat.drop h | exact fun _ h => Sat.drop (Sat.drop h) | exact fun _ h => Sat.drop (Sat.drop (Sat.drop h)) | exact fun _ h => Sat.drop (Sat.drop (Sat.drop (Sat.drop h)))); (simp only [Nat.reduceAdd, Nat.reducePow, Nat.reduceMul, Nat.zero_or, Nat.or_zero, Nat.reduceXor, Nat.reduceOr]; try exact rfl)))
        refine JB.one 2 (by decide +kernel) ?_
        (apply JI.do; exact rfl; exact rfl; exact rfl; exact rfl; (apply Do.call; exact rfl; exact disk_at d E.size i b E.data.length cap _ _ _ _ hz (by omega) hcap hroom (Pick.there (Pick.there (Pick.there Pick.here)))); (simp only [Nat.reduceAdd, Nat.reducePow, Nat.reduceMul, Nat.zero_or, Nat.or_zero, Nat.reduceXor, Nat.reduceOr]; try exact rfl); rintro _ _ ⟨rfl, hq⟩; obtain rfl := hq.symm; refine ⟨fun _ s => s.drop, ?_⟩)
        refine JB.one 5 (by decide +kernel) ?_
        (apply JI.do; exact rfl; exact rfl; exact rfl; exact rfl; (apply Do.copy (ys := t.bytes.map byte); exact rfl; exact rfl; exact Pick.here; exact hrt.cons.cons.cons.cons.cons.cons.cons; (rw [List.length_append, List.length_map]; omega); exact byteOne _); (simp only [Nat.reduceAdd, Nat.reducePow, Nat.reduceMul, Nat.zero_or, Nat.or_zero, Nat.reduceXor, Nat.reduceOr]; try exact rfl); rintro _ _ ⟨rfl, rfl⟩; refine ⟨fun _ s => s.drop, ?_⟩)
        have htk : (t.bytes.map byte).take (min t.bytes.length E.size) = (t.bytes.take E.size).map byte := by
          rw [List.map_take]
          exact List.take_eq_take_iff.2 (by rw [List.length_map]; omega)
        rw [htk, splice_bytes (by rw [List.length_take]; omega), set_fit (by omega)]
        repeat' ((apply JB.nil; exact rfl))
        repeat' (first | (apply JO.ru; exact rfl; exact rfl; exact rfl; (first | (apply Ru.move; exact rfl) | (apply Ru.loadN; exact rfl; (repeat (first | exact Pick.here | apply Pick.there)); exact rfl) | (apply Ru.fieldAddr; exact rfl) | (apply Ru.nilP; exact rfl))) | refine JC.region ?_ | refine JE.thenN ?_ | refine JE.blockN ?_)
        (apply JO.do0; exact rfl; exact rfl; (apply Do.deleteI; exact rfl; exact rfl; exact Pick.there Pick.here); rintro _ _ ⟨rfl, rfl⟩)
        repeat' (first | (apply JO.ru; exact rfl; exact rfl; exact rfl; (first | (apply Ru.move; exact rfl) | (apply Ru.add; exact rfl; exact rfl; (first | exact wrapI (by omega) (by omega) | exact rfl)))) | refine JC.region ?_ | refine JO.nil ?_ | refine JE.thenN ?_ | refine JE.blockN ?_)
        refine JE.round (j + 1) (by omega) (by omega) ⟨rfl, rfl, rfl, rfl, rfl, trivial⟩ ?_
        have hset : E.tear (i : Int) t = { E with data := setSec E.data E.size i (fit t.bytes E.size), cached := delI E.cached (i : Int) } := by unfold DiskN.tear; rw [if_neg k1, if_pos k2, Int.toNat_natCast]
        intro w s
        exact fin2 _ (setSec_length (by rw [fit_length]; omega)) hset w (Sat.weak (by repeat (first | exact Weak.refl | (apply Weak.cons; (first | exact Pick.here | exact Pick.there Pick.here | exact Pick.there (Pick.there Pick.here) | exact Pick.there (Pick.there (Pick.there Pick.here)) | exact Pick.there (Pick.there (Pick.there (Pick.there Pick.here))) | exact Pick.there (Pick.there (Pick.there (Pick.there (Pick.there Pick.here)))) | exact Pick.there (Pick.there (Pick.there (Pick.there (Pick.there (Pick.there Pick.here))))) | exact Pick.there (Pick.there (Pick.there (Pick.there (Pick.there (Pick.there (Pick.there Pick.here)))))))) | apply Weak.drop)) w s)
      · repeat' (first | (apply JO.ru; exact rfl; exact rfl; exact rfl; (first | (apply Ru.move; exact rfl) | (apply Ru.loadN; exact rfl; (repeat (first | exact Pick.here | apply Pick.there)); exact rfl) | (apply Ru.fieldAddr; exact rfl) | (apply Ru.nilP; exact rfl) | (apply Ru.assign; exact rfl) | (apply Ru.eql; exact rfl; exact rfl; (first | exact decT (by omega) | exact decF (by omega))))) | refine JC.seq ?_ | refine JC.region ?_ | refine JO.nil ?_ | refine JE.thenN ?_ | refine JE.blockN ?_ | refine JC.block ?_ | refine JC.skip ?_ | refine JC.condF rfl ?_)
        (apply JO.do0; exact rfl; exact rfl; (apply Do.deleteI; exact rfl; exact rfl; exact Pick.there Pick.here); rintro _ _ ⟨rfl, rfl⟩)
        repeat' (first | (apply JO.ru; exact rfl; exact rfl; exact rfl; (first | (apply Ru.move; exact rfl) | (apply Ru.add; exact rfl; exact rfl; (first | exact wrapI (by omega) (by omega) | exact rfl)))) | refine JC.region ?_ | refine JO.nil ?_ | refine JE.thenN ?_ | refine JE.blockN ?_)
        refine JE.round (j + 1) (by omega) (by omega) ⟨rfl, rfl, rfl, rfl, rfl, trivial⟩ ?_
        have hset : E.tear (i : Int) t = { E with data := E.data, cached := delI E.cached (i : Int) } := by unfold DiskN.tear; rw [if_neg k1, if_neg k2]
        intro w s
        exact fin2 _ rfl hset w (Sat.weak (by repeat (first | exact Weak.refl | (apply Weak.cons; (first | exact Pick.here | exact Pick.there Pick.here | exact Pick.there (Pick.there Pick.here) | exact Pick.there (Pick.there (Pick.there Pick.here)) | exact Pick.there (Pick.there (Pick.there (Pick.there Pick.here))) | exact Pick.there (Pick.there (Pick.there (Pick.there (Pick.there Pick.here)))) | exact Pick.there (Pick.there (Pick.there (Pick.there (Pick.there (Pick.there Pick.here))))) | exact Pick.there (Pick.there (Pick.there (Pick.there (Pick.there (Pick.there (Pick.there Pick.here)))))))) | apply Weak.drop)) w s)
    · repeat' (first | (apply JO.ru; exact rfl; exact rfl; exact rfl; (first | (apply Ru.move; exact rfl) | (apply Ru.lenS; exact rfl))) | refine JC.seq ?_ | refine JC.region ?_ | refine JO.nil ?_ | refine JE.thenN ?_ | refine JC.skip ?_ | refine JC.condT rfl ?_ | refine JC.condF rfl ?_ | (apply JO.split; exact rfl; exact rfl; exact rfl; ((apply Ru.lss; exact rfl; exact rfl; exact rfl)); all_goals intro _))
      · rename_i wb hjt
        have hjt' : j < ts.length := by omega
        rcases hrv with h | ⟨bt, ot, rfl, hct⟩
        · rw [h] at hjt'; exact absurd hjt' (Nat.not_lt_zero _)
        obtain ⟨q, cq, hqc, hcell, hrq⟩ := hct j t (by rw [← ht, List.getD_eq_getElem?_getD, List.getElem?_eq_getElem hjt']; rfl)
        repeat' ((apply JO.ru; exact rfl; exact rfl; exact rfl; ((apply Ru.indexAddr; exact rfl; exact rfl; omega; omega))))
        (apply JO.ru; exact rfl; exact rfl; exact rfl; (apply Ru.loadAC (vs := [int t.kind, .slice q t.bytes.length cq]); exact rfl; exact rfl; exact fun w s => hcell w (Sat.drop (Sat.drop (Sat.drop s)))))
        repeat' (first | refine JO.nil ?_ | (apply JO.do0; exact rfl; exact rfl; (first | (apply Do.storeAN; exact rfl; exact rfl; (repeat (first | exact Pick.here | apply Pick.there)); exact rfl; exact rfl; exact rfl; exact rfl) | (apply Do.storeA; exact rfl; exact rfl; (repeat (first | exact Pick.here | apply Pick.there)); exact rfl; exact rfl; exact rfl)); rintro _ _ ⟨rfl, rfl⟩))
        exact JE.mid (wb, q, cq) hrq ⟨rfl, rfl, rfl, rfl, rfl, rfl, rfl, trivial⟩ (fun _ h => h)
      · rename_i wb hjt
        have hz : t = .zero := by rw [← ht, List.getD_eq_getElem?_getD, List.getElem?_eq_none (by omega)]; rfl
        subst hz
        exact JE.mid (wb, none, 0) RdS.nil ⟨rfl, rfl, rfl, rfl, rfl, rfl, rfl, trivial⟩ (fun _ h => h)
  · obtain rfl : j = D.keys.length := by omega
    refine JE.done0N rfl ?_
    exact ⟨diskHP d (D.crash ts) :: l, Sat.weak (by repeat (first | exact Weak.refl | (apply Weak.cons; (first | exact Pick.here | exact Pick.there Pick.here | exact Pick.there (Pick.there Pick.here) | exact Pick.there (Pick.there (Pick.there Pick.here)) | exact Pick.there (Pick.there (Pick.there (Pick.there Pick.here))) | exact Pick.there (Pick.there (Pick.there (Pick.there (Pick.there Pick.here)))) | exact Pick.there (Pick.there (Pick.there (Pick.there (Pick.there (Pick.there Pick.here))))) | exact Pick.there (Pick.there (Pick.there (Pick.there (Pick.there (Pick.there (Pick.there Pick.here)))))))) | apply Weak.drop)), rfl, rfl⟩
end Go.Sep
/- The statements' own small functions: two lists of bytes the same; a fresh disk. -/
namespace Go.Sep
open Go Go.Proofs
attribute [local irreducible] JO JC JE JA JQ JB JI Mid Inv Weak ownS Ru Do Fn Sat Pick Take arr pt star ex Holds bodyPost Post Exit.then Exit.inBlock Res
variable {σ : Sig} {F : List HP}
attribute [local irreducible] diskHP cacheHP planHP rowHP
theorem byte_inj {a b : UInt8} (h : (a.toNat : Int) = b.toNat) : a = b := UInt8.toNat_inj.1 (by omega)
set_option maxHeartbeats 1000000 in
theorem ref_Same (va vb : Value) (xs ys : List UInt8) (hx : xs.length ≤ 100000000) {l : List HP} (ha : RdS σ l va (xs.map byte)) (hb : RdS σ l vb (ys.map byte)) :
    Fn Tryz.prog σ 31 #[va, vb] l (fun v l' => v = .bool (decide (xs = ys)) ∧ l' = l) := by
  obtain ⟨pa, ca, rfl, hca, hra⟩ := ha
  obtain ⟨pb, cb, rfl, hcb, hrb⟩ := hb
  have hl : (xs.map byte).length = xs.length := by simp
  have hm : (ys.map byte).length = ys.length := by simp
  refine Fn.of Tryz.func31 rfl Tryz.ntmps31 rfl ?_
  repeat' (first | (apply JO.ru; exact rfl; exact rfl; exact rfl; (first | (apply Ru.move; exact rfl) | (apply Ru.assign; exact rfl) | (apply Ru.lenS; exact rfl))) | refine JC.seq ?_ | refine JC.region ?_ | refine JO.nil ?_ | refine JE.thenN ?_ | refine JE.thenR ?_ | refine JC.block ?_ | refine JC.ret ?_ | refine JC.skip ?_ | refine JC.condT rfl ?_ | refine JC.condF rfl ?_ | (apply JO.splitN; exact rfl; exact rfl; exact rfl; (apply Ru.neq; exact rfl; exact rfl; exact rfl); all_goals intro _) | (apply JE.done1; exact rfl; (first | (apply Res.tmp; exact rfl) | (apply Res.cell; exact rfl; (repeat (first | exact Pick.here | apply Pick.there)); exact rfl) | (apply Res.cellAN; exact rfl; (repeat (first | exact Pick.here | apply Pick.there)); exact rfl; exact rfl) | (apply Res.cellA; exact rfl; (repeat (first | exact Pick.here | apply Pick.there)); exact rfl; exact rfl))))
  · rename_i hne
    refine JC.loop (fun i : Nat => [(0, .slice pa (xs.map byte).length ca), (1, .slice pb (ys.map byte).length cb), (5, int i)]) (fun _ => l) (fun i => i ≤ xs.length ∧ xs.take i = ys.take i) (fun i => xs.length - i) 0 ⟨Nat.zero_le _, rfl⟩ ⟨rfl, rfl, rfl, trivial⟩ (fun _ h => h) ?_
    rintro i ⟨hi, hs⟩
    repeat' (first | (apply JO.ru; exact rfl; exact rfl; exact rfl; (first | (apply Ru.move; exact rfl) | (apply Ru.assign; exact rfl) | (apply Ru.lenS; exact rfl))) | refine JC.seq ?_ | refine JC.region ?_ | refine JO.nil ?_ | refine JE.thenN ?_ | refine JE.thenE ?_ | refine JE.blockE ?_ | refine JC.block ?_ | refine JC.ret ?_ | refine JC.skip ?_ | refine JC.exit ?_ | refine JC.condT rfl ?_ | refine JC.condF rfl ?_ | (apply JQ.ru; exact rfl; exact rfl; exact rfl; ((apply Ru.move; exact rfl))) | (apply JO.split; exact rfl; exact rfl; exact rfl; ((apply Ru.lss; exact rfl; exact rfl; exact rfl)); all_goals intro _) | refine JC.regionQ mixed (by decide +kernel) ?_ | (apply JE.done1; exact rfl; (first | (apply Res.tmp; exact rfl) | (apply Res.cell; exact rfl; (repeat (first | exact Pick.here | apply Pick.there)); exact rfl) | (apply Res.cellAN; exact rfl; (repeat (first | exact Pick.here | apply Pick.there)); exact rfl; exact rfl) | (apply Res.cellA; exact rfl; (repeat (first | exact Pick.here | apply Pick.there)); exact rfl; exact rfl))))
    · rename_i hlt
      have hlt' : i < xs.length := by omega
      have hlt2 : i < ys.length := by omega
      rcases hra with h0 | ⟨b1, o1, rfl, hc1⟩
      · rw [h0] at hl; simp at hl; omega
      rcases hrb with h0 | ⟨b2, o2, rfl, hc2⟩
      · rw [h0] at hm; simp at hm; omega
      have hsucc : ∀ (h : xs[i] = ys[i]), xs.take (i + 1) = ys.take (i + 1) := fun h => by
        rw [List.take_succ_eq_append_getElem hlt', List.take_succ_eq_append_getElem hlt2, hs, h]
      repeat' (first | (first | (apply JO.ru; exact rfl; exact rfl; exact rfl; (first | (apply Ru.move; exact rfl) | (apply Ru.assign; exact rfl) | (apply Ru.add; exact rfl; exact rfl; (first | exact wrapI (by omega) (by omega) | exact rfl)))) | refine JC.seq ?_ | refine JC.region ?_ | refine JO.nil ?_ | refine JE.thenN ?_ | refine JE.thenR ?_ | refine JE.blockN ?_ | refine JE.blockR ?_ | refine JC.ret ?_ | refine JC.skip ?_ | refine JC.condT rfl ?_ | refine JC.condF rfl ?_ | (apply JQ.ru; exact rfl; exact rfl; exact rfl; (first | (apply Ru.move; exact rfl) | (apply Ru.indexAddr; exact rfl; exact rfl; omega; omega))) | (apply JQ.splitN; exact rfl; exact rfl; exact rfl; (apply Ru.neq; exact rfl; exact rfl; exact rfl); all_goals intro _) | refine JQ.nil ?_ | (apply JE.done1; exact rfl; (first | (apply Res.tmp; exact rfl) | (apply Res.cell; exact rfl; (repeat (first | exact Pick.here | apply Pick.there)); exact rfl) | (apply Res.cellAN; exact rfl; (repeat (first | exact Pick.here | apply Pick.there)); exact rfl; exact rfl) | (apply Res.cellA; exact rfl; (repeat (first | exact Pick.here | apply Pick.there)); exact rfl; exact rfl)))) | (apply JQ.ru; exact rfl; exact rfl; exact rfl; (apply Ru.loadC; exact rfl; exact rd_cell hc1 hlt' (by omega))) | (apply JQ.ru; exact rfl; exact rfl; exact rfl; (apply Ru.loadC; exact rfl; exact rd_cell hc2 hlt2 (by omega))))
      · rename_i he
        refine JE.round (i + 1) ⟨by omega, hsucc (byte_inj he)⟩ (by omega) ⟨rfl, rfl, rfl, trivial⟩ (fun _ h => h)
      · rename_i he
        refine finS ?_
        refine ⟨?_, rfl⟩
        have : ¬ xs = ys := by rintro rfl; exact he rfl
        rw [decide_eq_false this]
    · rename_i hge
      refine finS ?_
      have : xs = ys := by
        have h1 : xs.take i = xs := List.take_of_length_le (by omega)
        have h2 : ys.take i = ys := List.take_of_length_le (by omega)
        rw [← h1, ← h2, hs]
      exact ⟨by rw [decide_eq_true this], rfl⟩
  · rename_i hne
    refine finS ?_
    have : ¬ xs = ys := by rintro rfl; exact hne rfl
    exact ⟨by rw [decide_eq_false this], rfl⟩
end Go.Sep
/- The statements of layer 7: what they are helped by. -/
namespace Go.Sep
open Go Go.Proofs
attribute [local irreducible] JO JC JE JA JQ JB JI Mid Inv Weak ownS Ru Do Fn Sat Pick Take arr pt star ex Holds bodyPost Post Exit.then Exit.inBlock Res
variable {σ : Sig} {F : List HP}
attribute [local irreducible] shadHP diskHP cacheHP planHP rowHP FnX PostX
def sizeOfU (z : UInt8) : Nat := 32 + z.toNat % 100
theorem sizeOfU_bd (z : UInt8) : 32 ≤ sizeOfU z ∧ sizeOfU z ≤ 131 := by unfold sizeOfU; omega
theorem span_few {z : Nat} {e f s : Int} (ht : totG e f s ≤ 500) : 0 ≤ spanG z e f s ∧ spanG z e f s ≤ 501 := by
  have h1 := totG_bd e f s
  have h2 := secs_bd (m := totG e f s) (s := (z : Int)) h1.1
  unfold spanG
  split <;> omega
theorem few_tot {e f s : Int} (h : fewG e f s = true) (hr : rightG e f s = true) : totG e f s ≤ 500 := by
  unfold fewG at h; rw [hr] at h; simpa using h
theorem padB_nil (m : Nat) : padB [] m = List.replicate m 0 := by simp [padB]
theorem secs_ref {m z : Int} (hm : 1 ≤ m) (hz : 1 ≤ z ∧ z ≤ 4096) : secs m z = m / z + (if m % z > 0 then 1 else 0) := by
  unfold secs
  rw [if_neg (by omega)]
  have h1 := Int.mul_ediv_add_emod m z
  have h2 := Int.emod_nonneg m (by omega : z ≠ 0)
  have h3 := Int.emod_lt_of_pos m (by omega : 0 < z)
  have h4 := Int.mul_ediv_add_emod (m - 1) z
  have h5 := Int.emod_nonneg (m - 1) (by omega : z ≠ 0)
  have h6 := Int.emod_lt_of_pos (m - 1) (by omega : 0 < z)
  generalize m / z = a at *
  generalize m % z = b at *
  generalize (m - 1) / z = c at *
  generalize (m - 1) % z = d at *
  by_cases hb : b > 0
  · rw [if_pos hb]
    have : z * a + b = z * c + d + 1 := by omega
    have e1 : z * (a - c) = d + 1 - b := by rw [Int.mul_sub]; omega
    have : a - c = 0 := by
      rcases Int.lt_trichotomy (a - c) 0 with q | q | q
      · have : z * (a - c) ≤ z * (-1) := Int.mul_le_mul_of_nonneg_left (by omega) (by omega)
        omega
      · exact q
      · have : z * 1 ≤ z * (a - c) := Int.mul_le_mul_of_nonneg_left (by omega) (by omega)
        omega
    omega
  · rw [if_neg hb]
    have e1 : z * (a - c) = d + 1 - b := by rw [Int.mul_sub]; omega
    have : a - c = 1 := by
      rcases Int.lt_trichotomy (a - c) 1 with q | q | q
      · have : z * (a - c) ≤ z * 0 := Int.mul_le_mul_of_nonneg_left (by omega) (by omega)
        omega
      · exact q
      · have : z * 2 ≤ z * (a - c) := Int.mul_le_mul_of_nonneg_left (by omega) (by omega)
        omega
    omega
theorem ref_Sectors (m z : Int) (hm : 0 ≤ m ∧ m ≤ 1000000000) : Fn Tryz.prog σ 98 #[int m, int z] F (fun v l => v = int (secs m z) ∧ l = F) := by
  have hs := secs_bd (m := m) (s := z) hm.1
  by_cases h1 : z < 1
  · have e0 : secs m z = 0 := by unfold secs; rw [if_pos (by omega)]
    rw [e0]
    refine Fn.of Tryz.func98 rfl Tryz.ntmps98 rfl ?_
    repeat' (first | (first | (apply JO.ru; exact rfl; exact rfl; exact rfl; (first | (apply Ru.move; exact rfl) | (apply Ru.assign; exact rfl) | (apply Ru.lss; exact rfl; exact rfl; (first | exact decT (by omega) | exact decF (by omega))) | (apply Ru.pickT; exact rfl; exact rfl))) | refine JC.seq ?_ | refine JC.region ?_ | refine JO.nil ?_ | refine JE.thenN ?_ | refine JE.thenR ?_ | refine JC.ret ?_ | refine JC.condT rfl ?_ | refine JO.guardF rfl rfl rfl rfl rfl rfl rfl ?_ | (apply JE.done1; exact rfl; (first | (apply Res.tmp; exact rfl) | (apply Res.cell; exact rfl; (repeat (first | exact Pick.here | apply Pick.there)); exact rfl) | (apply Res.cellAN; exact rfl; (repeat (first | exact Pick.here | apply Pick.there)); exact rfl; exact rfl) | (apply Res.cellA; exact rfl; (repeat (first | exact Pick.here | apply Pick.there)); exact rfl; exact rfl)))) | refine JO.guardU rfl rfl rfl rfl rfl rfl ?_)
    all_goals exact finS ⟨rfl, rfl⟩
  by_cases h2 : 4096 < z
  · have e0 : secs m z = 0 := by unfold secs; rw [if_pos (by omega)]
    rw [e0]
    refine Fn.of Tryz.func98 rfl Tryz.ntmps98 rfl ?_
    repeat' (first | (first | (apply JO.ru; exact rfl; exact rfl; exact rfl; (first | (apply Ru.move; exact rfl) | (apply Ru.assign; exact rfl) | (apply Ru.lss; exact rfl; exact rfl; (first | exact decT (by omega) | exact decF (by omega))) | (apply Ru.gtr; exact rfl; exact rfl; (first | exact decT (by omega) | exact decF (by omega))) | (apply Ru.pickT; exact rfl; exact rfl) | (apply Ru.pickF; exact rfl; exact rfl))) | refine JC.seq ?_ | refine JC.region ?_ | refine JO.nil ?_ | refine JE.thenN ?_ | refine JE.thenR ?_ | refine JC.ret ?_ | refine JC.condT rfl ?_ | refine JO.guardF rfl rfl rfl rfl rfl rfl rfl ?_ | refine JO.guardT rfl rfl rfl rfl ?_ | (apply JE.done1; exact rfl; (first | (apply Res.tmp; exact rfl) | (apply Res.cell; exact rfl; (repeat (first | exact Pick.here | apply Pick.there)); exact rfl) | (apply Res.cellAN; exact rfl; (repeat (first | exact Pick.here | apply Pick.there)); exact rfl; exact rfl) | (apply Res.cellA; exact rfl; (repeat (first | exact Pick.here | apply Pick.there)); exact rfl; exact rfl)))) | refine JO.guardU rfl rfl rfl rfl rfl rfl ?_)
    all_goals exact finS ⟨rfl, rfl⟩
  by_cases h3 : m < 1
  · have e0 : secs m z = 0 := by unfold secs; rw [if_pos (by omega)]
    rw [e0]
    refine Fn.of Tryz.func98 rfl Tryz.ntmps98 rfl ?_
    repeat' (first | (first | (apply JO.ru; exact rfl; exact rfl; exact rfl; (first | (apply Ru.move; exact rfl) | (apply Ru.assign; exact rfl) | (apply Ru.lss; exact rfl; exact rfl; (first | exact decT (by omega) | exact decF (by omega))) | (apply Ru.gtr; exact rfl; exact rfl; (first | exact decT (by omega) | exact decF (by omega))) | (apply Ru.pickF; exact rfl; exact rfl))) | refine JC.seq ?_ | refine JC.region ?_ | refine JO.nil ?_ | refine JE.thenN ?_ | refine JE.thenR ?_ | refine JC.ret ?_ | refine JC.condT rfl ?_ | refine JO.guardT rfl rfl rfl rfl ?_ | (apply JE.done1; exact rfl; (first | (apply Res.tmp; exact rfl) | (apply Res.cell; exact rfl; (repeat (first | exact Pick.here | apply Pick.there)); exact rfl) | (apply Res.cellAN; exact rfl; (repeat (first | exact Pick.here | apply Pick.there)); exact rfl; exact rfl) | (apply Res.cellA; exact rfl; (repeat (first | exact Pick.here | apply Pick.there)); exact rfl; exact rfl)))) | refine JO.guardU rfl rfl rfl rfl rfl rfl ?_)
    all_goals exact finS ⟨rfl, rfl⟩
  have e0 := secs_ref (m := m) (z := z) (by omega) (by omega)
  have hd : 0 ≤ m / z ∧ m / z ≤ 1000000000 := by
    constructor
    · exact Int.ediv_nonneg hm.1 (by omega)
    · exact Int.le_trans (Int.ediv_le_self z hm.1) hm.2
  have hwd : IntKind.i64.wrap (m / z + 1) = m / z + 1 := wrapI (by omega) (by omega)
  obtain ⟨a, ha⟩ : ∃ a, m / z = a := ⟨_, rfl⟩
  obtain ⟨b, hb⟩ : ∃ b, m % z = b := ⟨_, rfl⟩
  by_cases h4 : m % z > 0
  · rw [if_pos h4] at e0
    rw [e0]
    refine Fn.of Tryz.func98 rfl Tryz.ntmps98 rfl ?_
    repeat' (first | (first | (apply JO.ru; exact rfl; exact rfl; exact rfl; (first | (apply Ru.move; exact rfl) | (apply Ru.assign; exact rfl) | (apply Ru.lss; exact rfl; exact rfl; (first | exact decT (by omega) | exact decF (by omega))) | (apply Ru.gtr; exact rfl; exact rfl; (first | exact decT (by omega) | exact decF (by omega))) | (apply Ru.add; exact rfl; exact rfl; (first | exact wrapI (by omega) (by omega) | exact rfl)) | (apply Ru.pickF; exact rfl; exact rfl) | (apply Ru.quoN; exact rfl; exact rfl; omega; omega; omega) | (apply Ru.remN; exact rfl; exact rfl; omega; omega))) | refine JC.seq ?_ | refine JC.region ?_ | refine JO.nil ?_ | refine JE.thenN ?_ | refine JC.ret ?_ | refine JC.skip ?_ | refine JC.condT rfl ?_ | refine JC.condF rfl ?_ | refine JO.guardT rfl rfl rfl rfl ?_ | (apply JE.done1; exact rfl; (first | (apply Res.tmp; exact rfl) | (apply Res.cell; exact rfl; (repeat (first | exact Pick.here | apply Pick.there)); exact rfl) | (apply Res.cellAN; exact rfl; (repeat (first | exact Pick.here | apply Pick.there)); exact rfl; exact rfl) | (apply Res.cellA; exact rfl; (repeat (first | exact Pick.here | apply Pick.there)); exact rfl; exact rfl)))) | refine JO.guardU rfl rfl rfl rfl rfl rfl ?_ | (apply JO.ru; exact rfl; exact rfl; exact rfl; (apply Ru.add; exact rfl; exact rfl; exact hwd)))
    all_goals exact finS ⟨rfl, rfl⟩
  · rw [if_neg h4, Int.add_zero] at e0
    rw [e0]
    refine Fn.of Tryz.func98 rfl Tryz.ntmps98 rfl ?_
    repeat' (first | (first | (apply JO.ru; exact rfl; exact rfl; exact rfl; (first | (apply Ru.move; exact rfl) | (apply Ru.assign; exact rfl) | (apply Ru.lss; exact rfl; exact rfl; (first | exact decT (by omega) | exact decF (by omega))) | (apply Ru.gtr; exact rfl; exact rfl; (first | exact decT (by omega) | exact decF (by omega))) | (apply Ru.pickF; exact rfl; exact rfl) | (apply Ru.quoN; exact rfl; exact rfl; omega; omega; omega) | (apply Ru.remN; exact rfl; exact rfl; omega; omega))) | refine JC.seq ?_ | refine JC.region ?_ | refine JO.nil ?_ | refine JE.thenN ?_ | refine JC.ret ?_ | refine JC.skip ?_ | refine JC.condF rfl ?_ | refine JO.guardT rfl rfl rfl rfl ?_ | (apply JE.done1; exact rfl; (first | (apply Res.tmp; exact rfl) | (apply Res.cell; exact rfl; (repeat (first | exact Pick.here | apply Pick.there)); exact rfl) | (apply Res.cellAN; exact rfl; (repeat (first | exact Pick.here | apply Pick.there)); exact rfl; exact rfl) | (apply Res.cellA; exact rfl; (repeat (first | exact Pick.here | apply Pick.there)); exact rfl; exact rfl)))) | refine JO.guardU rfl rfl rfl rfl rfl rfl ?_)
    all_goals exact finS ⟨rfl, rfl⟩
theorem ref_Span (z e f s : Int) : Fn Tryz.prog σ 48 #[int z, geoV e f s] F (fun v l => v = int (spanG z e f s) ∧ l = F) := by
  have ht := totG_bd e f s
  have hs := secs_bd (m := totG e f s) (s := z) ht.1
  have hsp := spanG_bd z e f s
  unfold spanG at hsp ⊢
  by_cases h1 : rightG e f s = true
  case neg =>
    simp only [Bool.not_eq_true] at h1
    rw [if_neg (by simp [h1])]
    refine Fn.of Tryz.func48 rfl Tryz.ntmps48 rfl ?_
    repeat' (first | (first | (apply JO.ru; exact rfl; exact rfl; exact rfl; (first | (apply Ru.move; exact rfl) | (apply Ru.assign; exact rfl) | (apply Ru.pickT; exact rfl; exact rfl) | (apply Ru.not; exact rfl) | (apply Ru.loadAN; exact rfl; (repeat (first | exact Pick.here | apply Pick.there)); exact rfl; exact rfl))) | refine JC.seq ?_ | refine JC.region ?_ | refine JO.nil ?_ | refine JE.thenN ?_ | refine JE.thenR ?_ | refine JC.ret ?_ | refine JC.condT rfl ?_ | refine JO.guardF rfl rfl rfl rfl rfl rfl rfl ?_ | (apply JO.do; exact rfl; exact rfl; exact rfl; (first | (apply Do.boxN; exact rfl; exact rfl) | (apply Do.box; exact rfl)); rintro _ _ ⟨_, rfl, rfl⟩) | (apply JE.done1; exact rfl; (first | (apply Res.tmp; exact rfl) | (apply Res.cell; exact rfl; (repeat (first | exact Pick.here | apply Pick.there)); exact rfl) | (apply Res.cellAN; exact rfl; (repeat (first | exact Pick.here | apply Pick.there)); exact rfl; exact rfl) | (apply Res.cellA; exact rfl; (repeat (first | exact Pick.here | apply Pick.there)); exact rfl; exact rfl)))) | refine JO.guardU rfl rfl rfl rfl rfl rfl ?_ | ((first | (apply JO.do; exact rfl; exact rfl; exact rfl; (apply Do.call; exact rfl; exact ref_Right _ _ _); rintro _ _ ⟨rfl, hq⟩; obtain rfl := hq.symm) | (apply JQ.call; exact rfl; exact rfl; exact rfl; exact ref_Right _ _ _; (rintro _ _ ⟨rfl, rfl⟩; exact ⟨rfl, rfl⟩))); rw [h1]))
    all_goals exact ⟨F, Sat.weak (by repeat (first | exact Weak.refl | (apply Weak.cons; (first | exact Pick.here | exact Pick.there Pick.here | exact Pick.there (Pick.there Pick.here) | exact Pick.there (Pick.there (Pick.there Pick.here)) | exact Pick.there (Pick.there (Pick.there (Pick.there Pick.here))) | exact Pick.there (Pick.there (Pick.there (Pick.there (Pick.there Pick.here)))) | exact Pick.there (Pick.there (Pick.there (Pick.there (Pick.there (Pick.there Pick.here))))) | exact Pick.there (Pick.there (Pick.there (Pick.there (Pick.there (Pick.there (Pick.there Pick.here)))))))) | apply Weak.drop)), rfl, rfl⟩
  by_cases h2 : 32 ≤ z ∧ z ≤ 4096
  case neg =>
    rw [if_neg (by omega)]
    by_cases h3 : z < 32
    all_goals
      refine Fn.of Tryz.func48 rfl Tryz.ntmps48 rfl ?_
      repeat' (first | (first | (apply JO.ru; exact rfl; exact rfl; exact rfl; (first | (apply Ru.move; exact rfl) | (apply Ru.assign; exact rfl) | (apply Ru.lss; exact rfl; exact rfl; (first | exact decT (by omega) | exact decF (by omega))) | (apply Ru.gtr; exact rfl; exact rfl; (first | exact decT (by omega) | exact decF (by omega))) | (apply Ru.pickT; exact rfl; exact rfl) | (apply Ru.pickF; exact rfl; exact rfl) | (apply Ru.not; exact rfl) | (apply Ru.loadAN; exact rfl; (repeat (first | exact Pick.here | apply Pick.there)); exact rfl; exact rfl))) | refine JC.seq ?_ | refine JC.region ?_ | refine JO.nil ?_ | refine JE.thenN ?_ | refine JE.thenR ?_ | refine JC.ret ?_ | refine JC.condT rfl ?_ | refine JO.guardF rfl rfl rfl rfl rfl rfl rfl ?_ | refine JO.guardT rfl rfl rfl rfl ?_ | (apply JO.do; exact rfl; exact rfl; exact rfl; (first | (apply Do.boxN; exact rfl; exact rfl) | (apply Do.box; exact rfl)); rintro _ _ ⟨_, rfl, rfl⟩) | (apply JE.done1; exact rfl; (first | (apply Res.tmp; exact rfl) | (apply Res.cell; exact rfl; (repeat (first | exact Pick.here | apply Pick.there)); exact rfl) | (apply Res.cellAN; exact rfl; (repeat (first | exact Pick.here | apply Pick.there)); exact rfl; exact rfl) | (apply Res.cellA; exact rfl; (repeat (first | exact Pick.here | apply Pick.there)); exact rfl; exact rfl)))) | refine JO.guardU rfl rfl rfl rfl rfl rfl ?_ | ((first | (apply JO.do; exact rfl; exact rfl; exact rfl; (apply Do.call; exact rfl; exact ref_Right _ _ _); rintro _ _ ⟨rfl, hq⟩; obtain rfl := hq.symm) | (apply JQ.call; exact rfl; exact rfl; exact rfl; exact ref_Right _ _ _; (rintro _ _ ⟨rfl, rfl⟩; exact ⟨rfl, rfl⟩))); rw [h1]))
      all_goals exact ⟨F, Sat.weak (by repeat (first | exact Weak.refl | (apply Weak.cons; (first | exact Pick.here | exact Pick.there Pick.here | exact Pick.there (Pick.there Pick.here) | exact Pick.there (Pick.there (Pick.there Pick.here)) | exact Pick.there (Pick.there (Pick.there (Pick.there Pick.here))) | exact Pick.there (Pick.there (Pick.there (Pick.there (Pick.there Pick.here)))) | exact Pick.there (Pick.there (Pick.there (Pick.there (Pick.there (Pick.there Pick.here))))) | exact Pick.there (Pick.there (Pick.there (Pick.there (Pick.there (Pick.there (Pick.there Pick.here)))))))) | apply Weak.drop)), rfl, rfl⟩
  rw [if_pos ⟨h1, h2⟩]
  refine Fn.of Tryz.func48 rfl Tryz.ntmps48 rfl ?_
  repeat' (first | (first | (apply JO.ru; exact rfl; exact rfl; exact rfl; (first | (apply Ru.move; exact rfl) | (apply Ru.assign; exact rfl) | (apply Ru.lss; exact rfl; exact rfl; (first | exact decT (by omega) | exact decF (by omega))) | (apply Ru.gtr; exact rfl; exact rfl; (first | exact decT (by omega) | exact decF (by omega))) | (apply Ru.add; exact rfl; exact rfl; (first | exact wrapI (by omega) (by omega) | exact rfl)) | (apply Ru.pickF; exact rfl; exact rfl) | (apply Ru.not; exact rfl) | (apply Ru.loadAN; exact rfl; (repeat (first | exact Pick.here | apply Pick.there)); exact rfl; exact rfl))) | refine JC.seq ?_ | refine JC.region ?_ | refine JO.nil ?_ | refine JE.thenN ?_ | refine JC.ret ?_ | refine JC.skip ?_ | refine JC.condF rfl ?_ | refine JO.guardT rfl rfl rfl rfl ?_ | (apply JO.do; exact rfl; exact rfl; exact rfl; (first | (apply Do.boxN; exact rfl; exact rfl) | (apply Do.box; exact rfl)); rintro _ _ ⟨_, rfl, rfl⟩) | (apply JE.done1; exact rfl; (first | (apply Res.tmp; exact rfl) | (apply Res.cell; exact rfl; (repeat (first | exact Pick.here | apply Pick.there)); exact rfl) | (apply Res.cellAN; exact rfl; (repeat (first | exact Pick.here | apply Pick.there)); exact rfl; exact rfl) | (apply Res.cellA; exact rfl; (repeat (first | exact Pick.here | apply Pick.there)); exact rfl; exact rfl)))) | refine JO.guardU rfl rfl rfl rfl rfl rfl ?_ | ((first | (apply JO.do; exact rfl; exact rfl; exact rfl; (apply Do.call; exact rfl; exact ref_Right _ _ _); rintro _ _ ⟨rfl, hq⟩; obtain rfl := hq.symm) | (apply JQ.call; exact rfl; exact rfl; exact rfl; exact ref_Right _ _ _; (rintro _ _ ⟨rfl, rfl⟩; exact ⟨rfl, rfl⟩))); rw [h1]) | (first | (apply JO.do; exact rfl; exact rfl; exact rfl; (apply Do.call; exact rfl; exact ref_Total _ _ _); rintro _ _ ⟨rfl, hq⟩; obtain rfl := hq.symm) | (apply JQ.call; exact rfl; exact rfl; exact rfl; exact ref_Total _ _ _; (rintro _ _ ⟨rfl, rfl⟩; exact ⟨rfl, rfl⟩))) | (first | (apply JO.do; exact rfl; exact rfl; exact rfl; (apply Do.call; exact rfl; exact ref_Sectors _ _ (by omega)); rintro _ _ ⟨rfl, hq⟩; obtain rfl := hq.symm) | (apply JQ.call; exact rfl; exact rfl; exact rfl; exact ref_Sectors _ _ (by omega); (rintro _ _ ⟨rfl, rfl⟩; exact ⟨rfl, rfl⟩))))
  all_goals exact ⟨F, Sat.weak (by repeat (first | exact Weak.refl | (apply Weak.cons; (first | exact Pick.here | exact Pick.there Pick.here | exact Pick.there (Pick.there Pick.here) | exact Pick.there (Pick.there (Pick.there Pick.here)) | exact Pick.there (Pick.there (Pick.there (Pick.there Pick.here))) | exact Pick.there (Pick.there (Pick.there (Pick.there (Pick.there Pick.here)))) | exact Pick.there (Pick.there (Pick.there (Pick.there (Pick.there (Pick.there Pick.here))))) | exact Pick.there (Pick.there (Pick.there (Pick.there (Pick.there (Pick.there (Pick.there Pick.here)))))))) | apply Weak.drop)), rfl, rfl⟩
end Go.Sep
