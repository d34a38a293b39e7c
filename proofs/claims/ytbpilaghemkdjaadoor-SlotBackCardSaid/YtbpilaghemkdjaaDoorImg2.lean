/- bytes.Join with nothing between; image: glued. -/
import Derived.Test.YtbpilaghemkdjaaDoorImg1
namespace Go.Sep
open Go Go.Proofs
attribute [local irreducible] JO JC JE JA JQ JB JI Mid Inv Weak ownS Ru Do Fn Sat Pick Take arr pt star ex Holds bodyPost Post Exit.then Exit.inBlock Res
variable {σ : Sig} {F : List HP}
def tot (bss : List (List UInt8)) (i : Nat) : Nat := (bss.take i).flatten.length
theorem tot_succ {bss : List (List UInt8)} {i : Nat} {bs : List UInt8} (h : bss[i]? = some bs) : tot bss (i + 1) = tot bss i + bs.length := by
  simp [tot, List.take_add_one, h]
theorem tot_all {bss : List (List UInt8)} {i : Nat} (h : bss.length ≤ i) : tot bss i = bss.flatten.length := by
  rw [tot, List.take_of_length_le h]
theorem tot_mono (bss : List (List UInt8)) (i : Nat) : tot bss i ≤ bss.flatten.length := by
  have : bss.flatten.length = tot bss i + (bss.drop i).flatten.length := by
    rw [tot, ← List.length_append, ← List.flatten_append, List.take_append_drop]
  omega
theorem take_flatten {bss : List (List UInt8)} {i : Nat} {bs : List UInt8} (h : bss[i]? = some bs) : (bss.take (i + 1)).flatten = (bss.take i).flatten ++ bs := by
  simp [List.take_add_one, h]

/-- The rows read as these bytes, one for one. -/
def RowsAre (σ : Sig) (l : List HP) (rows : List Value) (bss : List (List UInt8)) : Prop :=
  rows.length = bss.length ∧ ∀ (i : Nat) (bs : List UInt8), bss[i]? = some bs → ∃ u, rows[i]? = some u ∧ RdS σ l u (bs.map byte)
theorem rd_row {l : List HP} {rows : List Value} {b o : Nat} (hc : ∀ w, Sat σ w l → ∀ i u, rows[i]? = some u → w.cell? ⟨b, o + i, none⟩ = some u) {i : Nat} {u : Value} (hu : rows[i]? = some u) (a : Addr) (ha : a = ⟨b, o + i, none⟩) :
    ∀ w, Sat σ w l → w.cell? a = some u := fun w s => ha ▸ hc w s i u hu
/-- What has been copied so far, and what lay behind it. -/
def joined (bss : List (List UInt8)) (cs : List Value) (i : Nat) : List Value := (bss.take i).flatten.map byte ++ cs.drop (tot bss i)
theorem joined_length {bss : List (List UInt8)} {cs : List Value} {i : Nat} (h : bss.flatten.length ≤ cs.length) : (joined bss cs i).length = cs.length := by
  have := tot_mono bss i
  simp only [joined, List.length_append, List.length_map, List.length_drop]
  unfold tot at *; omega
theorem joined_splice {bss : List (List UInt8)} {cs : List Value} {i : Nat} {bs : List UInt8} (h : bss[i]? = some bs) (hl : bss.flatten.length ≤ cs.length) : splice (joined bss cs i) (tot bss i) (bs.map byte) = joined bss cs (i + 1) := by
  have h1 := tot_succ h
  have h2 := tot_mono bss (i + 1)
  rw [splice_at _ _ _ (by rw [joined_length hl, List.length_map]; omega)]
  simp only [joined, take_flatten h, List.map_append, List.length_map]
  have e : tot bss i = ((bss.take i).flatten.map byte).length := by rw [List.length_map]; rfl
  rw [List.take_append_of_le_length (by rw [← e]; exact Nat.le_refl _), List.take_of_length_le (by rw [← e]; exact Nat.le_refl _)]
  rw [List.drop_append, List.drop_eq_nil_of_le (by rw [← e]; omega), List.nil_append, List.drop_drop, ← e, h1]
  congr 2
  omega

set_option maxHeartbeats 4000000 in
theorem bytes_Join (v : Value) (rows : List Value) (bss : List (List UInt8)) (hlen : bss.flatten.length ≤ 1000000000) (hk : bss.length ≤ 1000000000) (hne : ∀ bs ∈ bss, 1 ≤ bs.length) {l : List HP} (hr : RdS σ l v rows) (he : RowsAre σ l rows bss) :
    Fn Tryd.prog σ 63 #[v, .slice none 0 0] l (fun u l' => l' = ownS u 5 1 bss.flatten.length (bss.flatten.map byte) :: l ∧ (u = .slice none 0 0 → False)) := by
  obtain ⟨hn, he⟩ := he
  obtain ⟨p, cap, rfl, hcap, hr⟩ := hr
  rw [hn] at hcap ⊢
  obtain ⟨k, hkk⟩ : ∃ k, bss.length = k := ⟨_, rfl⟩
  rw [hkk] at hn hcap hk ⊢
  by_cases c0 : k = 0
  · have hb : bss = [] := List.eq_nil_of_length_eq_zero (by omega)
    subst hb
    refine Fn.of Tryd.func63 rfl Tryd.ntmps63 rfl ?_
    repeat' (first | (apply JO.ru; exact rfl; exact rfl; exact rfl; (first | (apply Ru.move; exact rfl) | (apply Ru.assign; exact rfl) | (apply Ru.lenS; exact rfl) | (apply Ru.eql; exact rfl; exact rfl; (first | exact decT (by omega) | exact decF (by omega))))) | refine JC.seq ?_ | refine JC.region ?_ | refine JO.nil ?_ | refine JE.thenN ?_ | refine JC.condT rfl ?_)
    (apply JO.do; exact rfl; exact rfl; exact rfl; apply Do.buildSlice0; rintro _ _ ⟨b, rfl, rfl⟩)
    refine JO.heap (fun _ s => Sat.ownS_arr (xs := []) (spare := []) (k := 0) (cap := 0) (z := 1) (Nat.le_refl _) rfl (Nat.le_refl _) s) ?_
    repeat' (first | (apply JO.ru; exact rfl; exact rfl; exact rfl; ((apply Ru.assign; exact rfl))) | refine JO.nil ?_ | refine JE.thenN ?_ | refine JE.thenR ?_ | refine JC.ret ?_ | (apply JE.done1; exact rfl; (first | (apply Res.tmp; exact rfl) | (apply Res.cell; exact rfl; (repeat (first | exact Pick.here | apply Pick.there)); exact rfl) | (apply Res.cellAN; exact rfl; (repeat (first | exact Pick.here | apply Pick.there)); exact rfl; exact rfl) | (apply Res.cellA; exact rfl; (repeat (first | exact Pick.here | apply Pick.there)); exact rfl; exact rfl))))
    refine finS ?_; exact ⟨rfl, fun h => by cases h⟩
  rcases hr with h | ⟨b, o, rfl, hc⟩
  · rw [h] at hn; simp at hn; omega
  obtain ⟨bs0, h0⟩ : ∃ bs, bss[0]? = some bs := ⟨_, List.getElem?_eq_getElem (by omega)⟩
  obtain ⟨u0, hu0, hrd0⟩ := he 0 bs0 h0
  have hne0 := hne bs0 (List.mem_of_getElem? h0)
  by_cases c1 : k = 1
  · have hb : bss.flatten = bs0 := by
      match bss, hkk, h0 with
      | [x], _, h0 => simp at h0; simp [h0]
      | [], hkk, _ => simp at hkk; omega
      | _ :: _ :: _, hkk, _ => simp at hkk; omega
    rw [hb] at hlen ⊢
    refine Fn.of Tryd.func63 rfl Tryd.ntmps63 rfl ?_
    repeat' (first | (apply JO.ru; exact rfl; exact rfl; exact rfl; (first | (apply Ru.move; exact rfl) | (apply Ru.assign; exact rfl) | (apply Ru.lenS; exact rfl) | (apply Ru.eql; exact rfl; exact rfl; (first | exact decT (by omega) | exact decF (by omega))) | (apply Ru.indexAddr; exact rfl; exact rfl; omega; omega))) | refine JC.seq ?_ | refine JC.region ?_ | refine JO.nil ?_ | refine JE.thenN ?_ | refine JC.skip ?_ | refine JC.condT rfl ?_ | refine JC.condF rfl ?_)
    (apply JO.ru; exact rfl; exact rfl; exact rfl; (apply Ru.loadC; exact rfl; exact rd_row hc hu0 _ rfl))
    refine JO.heap (fun _ s => Sat.ownS_nil (E := 5) (z := 1) s) ?_
    (apply JO.do; exact rfl; exact rfl; exact rfl; (apply Do.append1 (ys := bs0.map byte); exact rfl; exact rfl; exact Pick.here; exact hrd0.cons; (intro q hq; obtain ⟨x, _, rfl⟩ := List.mem_map.1 hq; rfl); (show (0 + (bs0.map byte).length) * 1 ≤ _; rw [List.length_map]; omega)); rintro u' _ ⟨rfl, hnil⟩)
    repeat' (first | (apply JO.ru; exact rfl; exact rfl; exact rfl; ((apply Ru.assign; exact rfl))) | refine JO.nil ?_ | refine JE.thenN ?_ | refine JE.thenR ?_ | refine JC.ret ?_ | (apply JE.done1; exact rfl; (first | (apply Res.tmp; exact rfl) | (apply Res.cell; exact rfl; (repeat (first | exact Pick.here | apply Pick.there)); exact rfl) | (apply Res.cellAN; exact rfl; (repeat (first | exact Pick.here | apply Pick.there)); exact rfl; exact rfl) | (apply Res.cellA; exact rfl; (repeat (first | exact Pick.here | apply Pick.there)); exact rfl; exact rfl))))
    refine finS ?_
    refine ⟨by rw [List.length_map, Nat.zero_add, List.nil_append], fun h => ?_⟩
    have := (hnil h).2
    rw [List.length_map] at this; omega
  · have h2 : 2 ≤ k := by omega
    refine Fn.of Tryd.func63 rfl Tryd.ntmps63 rfl ?_
    repeat' (first | (apply JO.ru; exact rfl; exact rfl; exact rfl; (first | (apply Ru.move; exact rfl) | (apply Ru.assign; exact rfl) | (apply Ru.lenS; exact rfl) | (apply Ru.gtr; exact rfl; exact rfl; (first | exact decT (by omega) | exact decF (by omega))) | (apply Ru.eql; exact rfl; exact rfl; (first | exact decT (by omega) | exact decF (by omega))))) | refine JC.seq ?_ | refine JC.region ?_ | refine JO.nil ?_ | refine JE.thenN ?_ | refine JC.block ?_ | refine JC.skip ?_ | refine JC.condF rfl ?_)
    refine JC.loop (fun i : Nat => [(0, .slice (some ⟨b, o, none⟩) k cap), (1, .slice none 0 0), (5, int (tot bss i)), (42, .slice (some ⟨b, o, none⟩) k cap), (43, int k), (44, int i)]) (fun _ => l) (fun i => i ≤ k) (fun i => k - i) 0 (Nat.zero_le _) ⟨rfl, rfl, rfl, rfl, rfl, rfl, trivial⟩ (fun _ h => h) ?_
    intro i hi
    repeat' (first | (apply JO.ru; exact rfl; exact rfl; exact rfl; (first | (apply Ru.move; exact rfl) | (apply Ru.indexAddr; exact rfl; exact rfl; omega; omega))) | refine JC.seq ?_ | refine JC.region ?_ | refine JO.nil ?_ | refine JE.thenN ?_ | refine JE.thenE ?_ | refine JE.blockE ?_ | refine JC.block ?_ | refine JC.skip ?_ | refine JC.exit ?_ | refine JC.condT rfl ?_ | refine JC.condF rfl ?_ | (apply JO.split; exact rfl; exact rfl; exact rfl; ((apply Ru.lss; exact rfl; exact rfl; exact rfl)); all_goals intro _))
    · rename_i hlt
      obtain ⟨bs, hbs⟩ : ∃ bs, bss[i]? = some bs := ⟨_, List.getElem?_eq_getElem (by omega)⟩
      obtain ⟨u, hu, hrd⟩ := he i bs hbs
      obtain ⟨pu, cu, rfl, hcu, hru⟩ := hrd
      have t1 := tot_succ hbs
      have t2 := tot_mono bss (i + 1)
      have hl : (bs.map byte).length = bs.length := by simp
      repeat' (fail)
      (apply JO.ru; exact rfl; exact rfl; exact rfl; (apply Ru.loadC; exact rfl; exact rd_row hc hu _ (by simp)))
      repeat' (first | (apply JO.ru; exact rfl; exact rfl; exact rfl; (first | (apply Ru.move; exact rfl) | (apply Ru.assign; exact rfl) | (apply Ru.lenS; exact rfl) | (apply Ru.gtr; exact rfl; exact rfl; (first | exact decT (by omega) | exact decF (by omega))) | (apply Ru.add; exact rfl; exact rfl; (first | exact wrapI (by omega) (by omega) | exact rfl)) | (apply Ru.sub; exact rfl; exact rfl; (first | exact wrapI (by omega) (by omega) | exact rfl)))) | refine JC.seq ?_ | refine JC.region ?_ | refine JO.nil ?_ | refine JE.thenN ?_ | refine JE.blockN ?_ | refine JC.skip ?_ | refine JC.condF rfl ?_)
      refine JE.round (i + 1) (by omega) (by omega) ⟨rfl, rfl, ?_, rfl, rfl, rfl, trivial⟩ (fun _ h => h)
      show some (int _) = some (int _)
      rw [t1, hl]; rfl
    · obtain rfl : i = k := by omega
      rw [tot_all (Nat.le_of_eq hkk)]
      obtain ⟨T, hT⟩ : ∃ T, bss.flatten.length = T := ⟨_, rfl⟩
      rw [hT] at hlen ⊢
      repeat' (fail)
      (apply JO.do; exact rfl; exact rfl; exact rfl; (apply Do.makeNoZero; exact rfl; omega); rintro _ _ ⟨b2, cs, rfl, hcs, rfl⟩)
      repeat' (first | (apply JO.ru; exact rfl; exact rfl; exact rfl; (first | (apply Ru.move; exact rfl) | (apply Ru.assign; exact rfl) | (apply Ru.indexAddr; exact rfl; exact rfl; omega; omega) | (apply Ru.sliceS; exact rfl; exact rfl; exact rfl; exact rfl; (first | exact fun _ => rfl | exact fun h => nomatch h); omega; omega; omega))) | refine JC.seq ?_ | refine JC.region ?_ | refine JO.nil ?_ | refine JE.thenN ?_)
      have t0 : tot bss 1 = tot bss 0 + bs0.length := tot_succ h0
      have t1 := tot_mono bss 1
      have tz : tot bss 0 = 0 := rfl
      have hl0 : (bs0.map byte).length = bs0.length := by simp
      obtain ⟨p0, c0, rfl, hcu0, hru0⟩ := hrd0
      have hrd0 : RdS σ l (.slice p0 (bs0.map byte).length c0) (bs0.map byte) := ⟨p0, c0, rfl, hcu0, hru0⟩
      rw [hl0] at hrd0 hu0
      (apply JO.ru; exact rfl; exact rfl; exact rfl; (apply Ru.loadC; exact rfl; exact fun w s => rd_row hc hu0 _ (by simp) w (Sat.drop s)))
      have k1 : 0 + Int.toNat ((0 : Nat) : Int) * 1 = 0 := rfl
      have k2 : ((T : Int) - ((0 : Nat) : Int)).toNat = T := by omega
      rw [k1, k2]
      (apply JO.do; exact rfl; exact rfl; exact rfl; (apply Do.copy; exact rfl; exact rfl; exact Pick.here; exact hrd0.cons; omega; (intro q hq; obtain ⟨x, _, rfl⟩ := List.mem_map.1 hq; rfl)); rintro _ _ ⟨rfl, rfl⟩)
      have k3 : splice cs 0 ((bs0.map byte).take (min bs0.length T)) = joined bss cs 1 := by
        have := joined_splice (cs := cs) h0 (by omega)
        rw [List.take_of_length_le (by rw [hl0]; omega)]
        rw [← this, tz]
        simp [joined, tot]
      have k4 : ((min bs0.length T : Nat) : Int) = (tot bss 1 : Nat) := by omega
      rw [k3, k4]
      repeat' (first | (apply JO.ru; exact rfl; exact rfl; exact rfl; (first | (apply Ru.move; exact rfl) | (apply Ru.assign; exact rfl) | (apply Ru.lenS; exact rfl) | (apply Ru.sliceS; exact rfl; exact rfl; exact rfl; exact rfl; (first | exact fun _ => rfl | exact fun h => nomatch h); omega; omega; omega))) | refine JC.seq ?_ | refine JC.region ?_ | refine JO.nil ?_ | refine JE.thenN ?_ | refine JC.block ?_)
      refine JC.loop (fun j : Nat => [(1, .slice none 0 0), (8, .slice (some ⟨b2, 0, none⟩) T T), (9, int (tot bss (j + 1))), (70, .slice (some ⟨b, o + Int.toNat 1 * 1, none⟩) ((i : Int) - 1).toNat ((cap : Int) - 1).toNat), (71, int ((i : Int) - 1).toNat), (72, int j)])
        (fun j => arr b2 5 (joined bss cs (j + 1)) :: l) (fun j => j + 1 ≤ i) (fun j => i - j) 0 (by omega) ⟨rfl, rfl, rfl, rfl, rfl, rfl, trivial⟩ (fun _ h => h) ?_
      intro j hj
      repeat' (first | (apply JO.ru; exact rfl; exact rfl; exact rfl; (first | (apply Ru.move; exact rfl) | (apply Ru.assign; exact rfl) | (apply Ru.indexAddr; exact rfl; exact rfl; omega; omega))) | refine JC.seq ?_ | refine JC.region ?_ | refine JO.nil ?_ | refine JE.thenN ?_ | refine JE.thenE ?_ | refine JE.blockE ?_ | refine JC.block ?_ | refine JC.ret ?_ | refine JC.skip ?_ | refine JC.exit ?_ | refine JC.condT rfl ?_ | refine JC.condF rfl ?_ | (apply JO.split; exact rfl; exact rfl; exact rfl; ((apply Ru.lss; exact rfl; exact rfl; exact rfl)); all_goals intro _) | (apply JE.done1; exact rfl; (first | (apply Res.tmp; exact rfl) | (apply Res.cell; exact rfl; (repeat (first | exact Pick.here | apply Pick.there)); exact rfl) | (apply Res.cellAN; exact rfl; (repeat (first | exact Pick.here | apply Pick.there)); exact rfl; exact rfl) | (apply Res.cellA; exact rfl; (repeat (first | exact Pick.here | apply Pick.there)); exact rfl; exact rfl))))
      · rename_i hlt
        obtain ⟨bs, hbs⟩ : ∃ bs, bss[j + 1]? = some bs := ⟨_, List.getElem?_eq_getElem (by omega)⟩
        obtain ⟨u, hu, hrd⟩ := he (j + 1) bs hbs
        have t3 := tot_succ hbs
        have t4 := tot_mono bss (j + 1 + 1)
        have t5 := hne bs (List.mem_of_getElem? hbs)
        have hl : (bs.map byte).length = bs.length := by simp
        have hjl := joined_length (cs := cs) (i := j + 1) (bss := bss) (by omega)
        obtain ⟨pu, cu, rfl, hcu, hru⟩ := hrd
        have hrd : RdS σ l (.slice pu (bs.map byte).length cu) (bs.map byte) := ⟨pu, cu, rfl, hcu, hru⟩
        rw [hl] at hrd hu
        (apply JO.ru; exact rfl; exact rfl; exact rfl; (apply Ru.loadC; exact rfl; exact fun w s => rd_row hc hu _ (by simp [Nat.add_assoc, Nat.add_comm]) w (Sat.drop s)))
        repeat' (first | (apply JO.ru; exact rfl; exact rfl; exact rfl; (first | (apply Ru.move; exact rfl) | (apply Ru.assign; exact rfl) | (apply Ru.sliceS; exact rfl; exact rfl; exact rfl; exact rfl; (first | exact fun _ => rfl | exact fun h => nomatch h); omega; omega; omega))) | refine JC.seq ?_ | refine JC.region ?_ | refine JO.nil ?_ | refine JE.thenN ?_)
        (apply JO.do; exact rfl; exact rfl; exact rfl; (apply Do.copy (ys := []); exact rfl; exact rfl; exact Pick.here; exact RdS.nil; (rw [hjl]; omega); (intro q hq; cases hq)); rintro _ _ ⟨rfl, rfl⟩)
        rw [List.take_nil, splice]
        repeat' (first | (apply JO.ru; exact rfl; exact rfl; exact rfl; (first | (apply Ru.move; exact rfl) | (apply Ru.assign; exact rfl) | (apply Ru.add; exact rfl; exact rfl; (first | exact wrapI (by omega) (by omega) | exact rfl)) | (apply Ru.sliceS; exact rfl; exact rfl; exact rfl; exact rfl; (first | exact fun _ => rfl | exact fun h => nomatch h); omega; omega; omega))) | refine JC.region ?_ | refine JO.nil ?_ | refine JE.thenN ?_)
        (apply JO.do; exact rfl; exact rfl; exact rfl; (apply Do.copy; exact rfl; exact rfl; exact Pick.here; exact hrd.cons; (rw [hjl]; omega); (intro q hq; obtain ⟨x, _, rfl⟩ := List.mem_map.1 hq; rfl)); rintro _ _ ⟨rfl, rfl⟩)
        have m1 : (tot bss (j + 1) : Int) + ((min 0 ((T : Int) - tot bss (j + 1)).toNat : Nat) : Int) = (tot bss (j + 1) : Nat) := by omega
        rw [m1]
        have m2 : 0 + (tot bss (j + 1) : Int).toNat * 1 = tot bss (j + 1) := by omega
        have m3 : min bs.length ((T : Int) - tot bss (j + 1)).toNat = bs.length := by omega
        rw [m2, m3, List.take_of_length_le (by rw [hl]; exact Nat.le_refl _), joined_splice hbs (by omega)]
        repeat' (first | (apply JO.ru; exact rfl; exact rfl; exact rfl; (first | (apply Ru.move; exact rfl) | (apply Ru.assign; exact rfl) | (apply Ru.add; exact rfl; exact rfl; (first | exact wrapI (by omega) (by omega) | exact rfl)))) | refine JC.region ?_ | refine JO.nil ?_ | refine JE.thenN ?_ | refine JE.blockN ?_)
        refine JE.round (j + 1) (by omega) (by omega) ⟨rfl, rfl, ?_, rfl, rfl, rfl, trivial⟩ (fun _ h => h)
        show some (int _) = some (int _)
        rw [t3]; rfl
      · obtain rfl : i = j + 1 := by omega
        have m4 : joined bss cs (j + 1) = bss.flatten.map byte ++ cs.drop T := by
          rw [joined, List.take_of_length_le (by omega), tot_all (by omega), hT]
        rw [m4]
        refine ⟨_, fun w s => Sat.ownS_arr (xs := bss.flatten.map byte) (spare := cs.drop T) (k := T) (cap := T) (z := 1) (Nat.le_refl _) (by rw [List.length_map]; omega) (by rw [List.length_append, List.length_map]; omega) s, rfl, fun h => by cases h⟩
end Go.Sep
