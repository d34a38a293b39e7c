/- slot: a slot's other sectors, read. -/
import Derived.Test.YtbpilaghemkdjaaDoorSlot2
import Derived.Test.YtbpilaghemkdjaaDoorImg3
namespace Go.Sep
open Go Go.Proofs
attribute [local irreducible] JO JC JE JA JQ JB JI Mid Inv Weak ownS Ru Do Fn Sat Pick Take arr pt star ex Holds bodyPost Post Exit.then Exit.inBlock Res
variable {σ : Sig} {F : List HP}
attribute [local irreducible] diskHP cacheHP planHP rowHP
/-- The sectors behind a slot's first one. -/
def DiskN.rows (D : DiskN) (first : Int) (many : Nat) : List (Int × List UInt8) := (List.range many).map fun (j : Nat) => ((j : Int), D.cur (first + (1 + (j : Int))).toNat)
def DiskN.body (D : DiskN) (first : Int) (many : Nat) : List UInt8 := ((D.rows first many).map (·.2)).flatten
def bodyE (D : DiskN) (first : Int) (j : Nat) : Int := (D.ticks j).readE (first + (1 + (j : Int)))
theorem rows_succ (D : DiskN) (first : Int) (k : Nat) : D.rows first (k + 1) = D.rows first k ++ [((k : Int), D.cur (first + (1 + (k : Int))).toNat)] := by
  simp [DiskN.rows, List.range_succ]
theorem body_succ (D : DiskN) (first : Int) (k : Nat) : D.body first (k + 1) = D.body first k ++ D.cur (first + (1 + (k : Int))).toNat := by
  unfold DiskN.body; rw [rows_succ]; simp
theorem bodyE_range {D : DiskN} {first : Int} {j : Nat} (h : bodyE D first j = 0) (hf : 0 ≤ first) : (first + (1 + (j : Int))).toNat < D.count := by
  unfold bodyE DiskN.readE at h
  split at h
  · cases h
  · split at h
    · cases h
    · rename_i h2
      have : ((D.ticks j).count : Int) = D.count := rfl
      omega
theorem body_len {D : DiskN} {first : Int} (hD : D.WF) (hf : 0 ≤ first) : ∀ (k : Nat), (∀ j, j < k → bodyE D first j = 0) → (D.body first k).length = k * D.size
  | 0, _ => by simp [DiskN.body, DiskN.rows]
  | k + 1, h => by
    have ih := body_len hD hf k fun j hj => h j (by omega)
    have := hD.cur (bodyE_range (h k (by omega)) hf)
    rw [body_succ, List.length_append, ih, this, Nat.succ_mul]
set_option maxHeartbeats 4000000 in
theorem place_whole (d : Nat) (D : DiskN) (db fb : Nat) (first len : Int) (many : Nat) (hD : D.WF) (ho : D.ops + many ≤ 1000000000000) (hm : many ≤ 4096) (hi : 0 ≤ first ∧ first ≤ 1000000) :
    Fn Tryd.prog σ 30 #[placeV many D.size db fb, int len] (slotL d D db fb first F)
      (fun v l' => (∃ k, k < many ∧ (∀ j, j < k → bodyE D first j = 0) ∧ bodyE D first k ≠ 0 ∧ v = .tuple #[.slice none 0 0, int (bodyE D first k)] ∧ l' = slotL d (D.ticks (k + 1)) db fb first F) ∨
        ((∀ j, j < many → bodyE D first j = 0) ∧
          ((0 ≤ len ∧ len ≤ (D.body first many).length ∧ ∃ u, v = .tuple #[u, int 0] ∧ l' = ownS u 5 1 len.toNat (((D.body first many).take len.toNat).map byte) :: slotL d (D.ticks many) db fb first F) ∨
           (¬ (0 ≤ len ∧ len ≤ (D.body first many).length) ∧ v = .tuple #[.slice none 0 0, int 1] ∧ l' = slotL d (D.ticks many) db fb first F)))) := by
  refine Fn.of Tryd.func30 rfl Tryd.ntmps30 rfl ?_
  repeat' (first | (apply JO.ru; exact rfl; exact rfl; exact rfl; (first | (apply Ru.move; exact rfl) | (apply Ru.loadN; exact rfl; (repeat (first | exact Pick.here | apply Pick.there)); exact rfl) | (apply Ru.fieldAddr; exact rfl) | (apply Ru.assign; exact rfl))) | refine JC.seq ?_ | refine JC.region ?_ | refine JO.nil ?_ | refine JE.thenN ?_ | refine JC.block ?_ | (apply JO.do; exact rfl; exact rfl; exact rfl; (first | (apply Do.boxN; exact rfl; exact rfl) | (apply Do.box; exact rfl)); rintro _ _ ⟨_, rfl, rfl⟩))
  rename_i pb
  refine JC.loop (fun x : Nat × List (Int × Value × List UInt8) × Value => [(1, int len), (2, .pointer (some ⟨pb, 0, none⟩)), (6, x.2.2), (11, int many), (12, int x.1)])
    (fun x => ownS x.2.2 24 1 x.1 (x.2.1.map (·.2.1)) :: star (x.2.1.map rowHP) :: arr pb 58 [int many, int D.size, rdV db fb, wrV db fb] :: slotL d (D.ticks x.1) db fb first F)
    (fun x => x.1 ≤ many ∧ x.2.1.map (fun p => (p.1, p.2.2)) = D.rows first x.1 ∧ ∀ j, j < x.1 → bodyE D first j = 0) (fun x => many - x.1) (0, [], .slice none 0 0) ⟨Nat.zero_le _, rfl, fun j h => absurd h (Nat.not_lt_zero _)⟩ ⟨rfl, rfl, rfl, rfl, rfl, trivial⟩ ?_ ?_
  · intro w s
    have s1 : Sat σ w (star (([] : List (Int × Value × List UInt8)).map rowHP) :: arr pb 58 [int many, int D.size, rdV db fb, wrV db fb] :: slotL d D db fb first F) :=
      Sat.star0 s
    exact Sat.ownS_nil s1
  rintro ⟨k, R, v⟩ ⟨hk, hR, hok⟩
  dsimp only at hk hR hok ⊢
  repeat' (first | (apply JO.ru; exact rfl; exact rfl; exact rfl; (first | (apply Ru.move; exact rfl) | (apply Ru.loadN; exact rfl; (repeat (first | exact Pick.here | apply Pick.there)); exact rfl) | (apply Ru.fieldAddr; exact rfl) | (apply Ru.assign; exact rfl) | (apply Ru.add; exact rfl; exact rfl; (first | exact wrapI (by omega) (by omega) | exact rfl)))) | refine JC.seq ?_ | refine JC.region ?_ | refine JO.nil ?_ | refine JE.thenN ?_ | refine JE.thenE ?_ | refine JE.blockE ?_ | refine JC.block ?_ | refine JC.skip ?_ | refine JC.exit ?_ | refine JC.condT rfl ?_ | refine JC.condF rfl ?_ | (apply JO.split; exact rfl; exact rfl; exact rfl; ((apply Ru.lss; exact rfl; exact rfl; exact rfl)); all_goals intro _))
  · rename_i hlt
    have hrd := slot_rd (σ := σ) d (D.ticks k) db fb first (1 + (k : Int)) (hD.ticks k) (by show D.ops + k ≤ _; omega) (by omega) (F := ownS v 24 1 k (R.map (·.2.1)) :: star (R.map rowHP) :: arr pb 58 [int many, int D.size, rdV db fb, wrV db fb] :: F)
    repeat' (fail)
    refine JO.heap (Sat.weak (l' := slotL d (D.ticks k) db fb first (ownS v 24 1 k (R.map (·.2.1)) :: star (R.map rowHP) :: arr pb 58 [int many, int D.size, rdV db fb, wrV db fb] :: F)) (by repeat (first | exact Weak.refl | (apply Weak.cons; (first | exact Pick.here | exact Pick.there Pick.here | exact Pick.there (Pick.there Pick.here) | exact Pick.there (Pick.there (Pick.there Pick.here)) | exact Pick.there (Pick.there (Pick.there (Pick.there Pick.here))) | exact Pick.there (Pick.there (Pick.there (Pick.there (Pick.there Pick.here)))) | exact Pick.there (Pick.there (Pick.there (Pick.there (Pick.there (Pick.there Pick.here))))) | exact Pick.there (Pick.there (Pick.there (Pick.there (Pick.there (Pick.there (Pick.there Pick.here)))))))) | apply Weak.drop))) ?_
    (apply JO.do; exact rfl; exact rfl; exact rfl; (apply Do.callV (f := 43); exact rfl; exact rfl; exact hrd); rintro _ _ (⟨hE, u, rfl, rfl⟩ | ⟨hE, rfl, rfl⟩))
    · have hb0 : bodyE D first k = 0 := hE
      refine JO.ownR Pick.here fun _ _ hsh => ?_
      rcases hsh with ⟨rfl, _⟩ | ⟨bu, cu, rfl, _⟩
      · repeat' (first | (apply JO.ru; exact rfl; exact rfl; exact rfl; (first | (apply Ru.move; exact rfl) | (apply Ru.assign; exact rfl) | (apply Ru.neq; exact rfl; exact rfl; (first | exact ndecF (by omega) | exact ndecT (by omega))) | (apply Ru.extractN; exact rfl; exact rfl))) | refine JC.seq ?_ | refine JC.region ?_ | refine JO.nil ?_ | refine JE.thenN ?_ | refine JC.skip ?_ | refine JC.condF rfl ?_ | (apply JO.do; exact rfl; exact rfl; exact rfl; (first | (apply Do.buildSliceN; exact rfl; exact rfl; exact rfl; exact rfl) | (apply Do.buildSlice; exact rfl; exact rfl; exact rfl; exact rfl)); rintro _ _ ⟨_, rfl, rfl⟩))
        (apply JO.do; exact rfl; exact rfl; exact rfl; (apply Do.append1 (ys := [.slice none 0 0]); exact rfl; exact rfl; exact Pick.there (Pick.there (Pick.there (Pick.there (Pick.there Pick.here)))); exact RdS.arr (vs := [.slice none 0 0]) Pick.here 0 1 1 (Nat.le_refl _) (Nat.le_refl _); (intro q hq; rw [List.mem_singleton.1 hq]; rfl); (show (k + 1) * 24 ≤ _; omega)); rintro v' _ ⟨rfl, _⟩)
        repeat' (first | (apply JO.ru; exact rfl; exact rfl; exact rfl; (first | (apply Ru.move; exact rfl) | (apply Ru.assign; exact rfl) | (apply Ru.add; exact rfl; exact rfl; (first | exact wrapI (by omega) (by omega) | exact rfl)))) | refine JC.region ?_ | refine JO.nil ?_ | refine JE.thenN ?_ | refine JE.blockN ?_)
        refine JE.round (k + 1, R ++ [((k : Int), .slice none 0 0, D.cur (first + (1 + (k : Int))).toNat)], v') ⟨by show k + 1 ≤ many; omega, ?_, ?_⟩ (by show many - (k + 1) < many - k; omega) ⟨rfl, rfl, rfl, rfl, rfl, trivial⟩ ?_
        · show (R ++ _).map _ = D.rows first (k + 1)
          rw [List.map_append, hR, rows_succ]; rfl
        · intro j hj
          by_cases hjk : j = k
          · subst hjk; exact hb0
          · exact hok j (by have : j < k + 1 := hj; omega)
        · intro w s
          have s0 := Sat.weak (l' := bytesHP (.slice none 0 0) (D.cur (first + (1 + (k : Int))).toNat) :: star (R.map rowHP) :: ownS v' 24 1 (k + 1) (R.map (·.2.1) ++ [.slice none 0 0]) :: arr pb 58 [int many, int D.size, rdV db fb, wrV db fb] :: slotL d (D.ticks (k + 1)) db fb first F) (by repeat (first | exact Weak.refl | (apply Weak.cons; (first | exact Pick.here | exact Pick.there Pick.here | exact Pick.there (Pick.there Pick.here) | exact Pick.there (Pick.there (Pick.there Pick.here)) | exact Pick.there (Pick.there (Pick.there (Pick.there Pick.here))) | exact Pick.there (Pick.there (Pick.there (Pick.there (Pick.there Pick.here)))) | exact Pick.there (Pick.there (Pick.there (Pick.there (Pick.there (Pick.there Pick.here))))) | exact Pick.there (Pick.there (Pick.there (Pick.there (Pick.there (Pick.there (Pick.there Pick.here)))))))) | apply Weak.drop)) w s
          have s1 := Sat.rowPush (p := ((k : Int), .slice none 0 0, D.cur (first + (1 + (k : Int))).toNat)) s0
          dsimp only
          rw [List.map_append (f := fun p : Int × Value × List UInt8 => p.2.1)]
          exact Sat.weak (by repeat (first | exact Weak.refl | (apply Weak.cons; (first | exact Pick.here | exact Pick.there Pick.here | exact Pick.there (Pick.there Pick.here) | exact Pick.there (Pick.there (Pick.there Pick.here)) | exact Pick.there (Pick.there (Pick.there (Pick.there Pick.here))) | exact Pick.there (Pick.there (Pick.there (Pick.there (Pick.there Pick.here)))) | exact Pick.there (Pick.there (Pick.there (Pick.there (Pick.there (Pick.there Pick.here))))) | exact Pick.there (Pick.there (Pick.there (Pick.there (Pick.there (Pick.there (Pick.there Pick.here)))))))) | apply Weak.drop)) w s1
      · repeat' (first | (apply JO.ru; exact rfl; exact rfl; exact rfl; (first | (apply Ru.move; exact rfl) | (apply Ru.assign; exact rfl) | (apply Ru.neq; exact rfl; exact rfl; (first | exact ndecF (by omega) | exact ndecT (by omega))) | (apply Ru.extractN; exact rfl; exact rfl))) | refine JC.seq ?_ | refine JC.region ?_ | refine JO.nil ?_ | refine JE.thenN ?_ | refine JC.skip ?_ | refine JC.condF rfl ?_ | (apply JO.do; exact rfl; exact rfl; exact rfl; (first | (apply Do.buildSliceN; exact rfl; exact rfl; exact rfl; exact rfl) | (apply Do.buildSlice; exact rfl; exact rfl; exact rfl; exact rfl)); rintro _ _ ⟨_, rfl, rfl⟩))
        (apply JO.do; exact rfl; exact rfl; exact rfl; (apply Do.append1 (ys := [.slice (some ⟨bu, 0, none⟩) (D.cur (first + (1 + (k : Int))).toNat).length cu]); exact rfl; exact rfl; exact Pick.there (Pick.there (Pick.there (Pick.there (Pick.there Pick.here)))); exact RdS.arr (vs := [.slice (some ⟨bu, 0, none⟩) (D.cur (first + (1 + (k : Int))).toNat).length cu]) Pick.here 0 1 1 (Nat.le_refl _) (Nat.le_refl _); (intro q hq; rw [List.mem_singleton.1 hq]; rfl); (show (k + 1) * 24 ≤ _; omega)); rintro v' _ ⟨rfl, _⟩)
        repeat' (first | (apply JO.ru; exact rfl; exact rfl; exact rfl; (first | (apply Ru.move; exact rfl) | (apply Ru.assign; exact rfl) | (apply Ru.add; exact rfl; exact rfl; (first | exact wrapI (by omega) (by omega) | exact rfl)))) | refine JC.region ?_ | refine JO.nil ?_ | refine JE.thenN ?_ | refine JE.blockN ?_)
        refine JE.round (k + 1, R ++ [((k : Int), .slice (some ⟨bu, 0, none⟩) (D.cur (first + (1 + (k : Int))).toNat).length cu, D.cur (first + (1 + (k : Int))).toNat)], v') ⟨by show k + 1 ≤ many; omega, ?_, ?_⟩ (by show many - (k + 1) < many - k; omega) ⟨rfl, rfl, rfl, rfl, rfl, trivial⟩ ?_
        · show (R ++ _).map _ = D.rows first (k + 1)
          rw [List.map_append, hR, rows_succ]; rfl
        · intro j hj
          by_cases hjk : j = k
          · subst hjk; exact hb0
          · exact hok j (by have : j < k + 1 := hj; omega)
        · intro w s
          have s0 := Sat.weak (l' := bytesHP (.slice (some ⟨bu, 0, none⟩) (D.cur (first + (1 + (k : Int))).toNat).length cu) (D.cur (first + (1 + (k : Int))).toNat) :: star (R.map rowHP) :: ownS v' 24 1 (k + 1) (R.map (·.2.1) ++ [.slice (some ⟨bu, 0, none⟩) (D.cur (first + (1 + (k : Int))).toNat).length cu]) :: arr pb 58 [int many, int D.size, rdV db fb, wrV db fb] :: slotL d (D.ticks (k + 1)) db fb first F) (by repeat (first | exact Weak.refl | (apply Weak.cons; (first | exact Pick.here | exact Pick.there Pick.here | exact Pick.there (Pick.there Pick.here) | exact Pick.there (Pick.there (Pick.there Pick.here)) | exact Pick.there (Pick.there (Pick.there (Pick.there Pick.here))) | exact Pick.there (Pick.there (Pick.there (Pick.there (Pick.there Pick.here)))) | exact Pick.there (Pick.there (Pick.there (Pick.there (Pick.there (Pick.there Pick.here))))) | exact Pick.there (Pick.there (Pick.there (Pick.there (Pick.there (Pick.there (Pick.there Pick.here)))))))) | apply Weak.drop)) w s
          have s1 := Sat.rowPush (p := ((k : Int), .slice (some ⟨bu, 0, none⟩) (D.cur (first + (1 + (k : Int))).toNat).length cu, D.cur (first + (1 + (k : Int))).toNat)) s0
          dsimp only
          rw [List.map_append (f := fun p : Int × Value × List UInt8 => p.2.1)]
          exact Sat.weak (by repeat (first | exact Weak.refl | (apply Weak.cons; (first | exact Pick.here | exact Pick.there Pick.here | exact Pick.there (Pick.there Pick.here) | exact Pick.there (Pick.there (Pick.there Pick.here)) | exact Pick.there (Pick.there (Pick.there (Pick.there Pick.here))) | exact Pick.there (Pick.there (Pick.there (Pick.there (Pick.there Pick.here)))) | exact Pick.there (Pick.there (Pick.there (Pick.there (Pick.there (Pick.there Pick.here))))) | exact Pick.there (Pick.there (Pick.there (Pick.there (Pick.there (Pick.there (Pick.there Pick.here)))))))) | apply Weak.drop)) w s1
    · repeat' (first | (apply JO.ru; exact rfl; exact rfl; exact rfl; (first | (apply Ru.move; exact rfl) | (apply Ru.assign; exact rfl) | (apply Ru.neq; exact rfl; exact rfl; (first | exact ndecF (by omega) | exact ndecT (by omega))) | (apply Ru.extractN; exact rfl; exact rfl))) | refine JC.seq ?_ | refine JC.region ?_ | refine JO.nil ?_ | refine JE.thenN ?_ | refine JE.thenR ?_ | refine JE.blockR ?_ | refine JC.ret ?_ | refine JC.condT rfl ?_ | (apply JE.done2; exact rfl; (first | (apply Res.tmp; exact rfl) | (apply Res.cell; exact rfl; (repeat (first | exact Pick.here | apply Pick.there)); exact rfl) | (apply Res.cellAN; exact rfl; (repeat (first | exact Pick.here | apply Pick.there)); exact rfl; exact rfl) | (apply Res.cellA; exact rfl; (repeat (first | exact Pick.here | apply Pick.there)); exact rfl; exact rfl)); (first | (apply Res.tmp; exact rfl) | (apply Res.cell; exact rfl; (repeat (first | exact Pick.here | apply Pick.there)); exact rfl) | (apply Res.cellAN; exact rfl; (repeat (first | exact Pick.here | apply Pick.there)); exact rfl; exact rfl) | (apply Res.cellA; exact rfl; (repeat (first | exact Pick.here | apply Pick.there)); exact rfl; exact rfl))))
      refine ⟨slotL d (D.ticks (k + 1)) db fb first F, Sat.weak (by repeat (first | exact Weak.refl | (apply Weak.cons; (first | exact Pick.here | exact Pick.there Pick.here | exact Pick.there (Pick.there Pick.here) | exact Pick.there (Pick.there (Pick.there Pick.here)) | exact Pick.there (Pick.there (Pick.there (Pick.there Pick.here))) | exact Pick.there (Pick.there (Pick.there (Pick.there (Pick.there Pick.here)))) | exact Pick.there (Pick.there (Pick.there (Pick.there (Pick.there (Pick.there Pick.here))))) | exact Pick.there (Pick.there (Pick.there (Pick.there (Pick.there (Pick.there (Pick.there Pick.here)))))))) | apply Weak.drop)), .inl ⟨k, by omega, hok, hE, rfl, rfl⟩⟩
  · obtain rfl : k = many := by omega
    have hbl := body_len hD hi.1 k hok
    have hbl2 : k * D.size ≤ 16777216 := Nat.mul_le_mul hm hD.hz2
    have hR2 : (D.rows first k).map (·.2) = R.map (·.2.2) := by rw [← hR, List.map_map]; rfl
    have hfl : (R.map (·.2.2)).flatten = D.body first k := by unfold DiskN.body; rw [hR2]
    have hRl : R.length = k := by
      have := congrArg List.length hR
      simpa [DiskN.rows] using this
    refine JO.rowsR (Pick.there Pick.here) fun hrows => ?_
    refine JO.ownR Pick.here fun hrd _ _ => ?_
    have hgl := image_Glue v (R.map (·.2.1)) (R.map (·.2.2)) len (by rw [hfl]; omega) (by rw [List.length_map]; omega) (by
      intro bs hbs
      rw [← hR2] at hbs
      obtain ⟨p, hp, rfl⟩ := List.mem_map.1 hbs
      obtain ⟨j, hj, rfl⟩ := List.mem_map.1 hp
      have := hD.cur (bodyE_range (hok j (List.mem_range.1 hj)) hi.1)
      have := hD.hz
      dsimp only; omega) hrd ⟨by simp, fun j bs hbs => by
        rw [List.getElem?_map] at hbs
        obtain ⟨p, hp, rfl⟩ := Option.map_eq_some_iff.1 hbs
        exact ⟨p.2.1, by rw [List.getElem?_map, hp]; rfl, hrows p (List.mem_of_getElem? hp)⟩⟩
    rw [hfl] at hgl
    (apply JO.do; exact rfl; exact rfl; exact rfl; (apply Do.call; exact rfl; exact hgl); rintro _ _ (⟨g1, g2, u, rfl, rfl⟩ | ⟨g1, rfl, rfl⟩))
    · repeat' (first | (apply JO.ru; exact rfl; exact rfl; exact rfl; (first | (apply Ru.assign; exact rfl) | (apply Ru.extractN; exact rfl; exact rfl))) | refine JO.nil ?_ | refine JE.thenN ?_ | refine JC.ret ?_ | (apply JE.done2; exact rfl; (first | (apply Res.tmp; exact rfl) | (apply Res.cell; exact rfl; (repeat (first | exact Pick.here | apply Pick.there)); exact rfl) | (apply Res.cellAN; exact rfl; (repeat (first | exact Pick.here | apply Pick.there)); exact rfl; exact rfl) | (apply Res.cellA; exact rfl; (repeat (first | exact Pick.here | apply Pick.there)); exact rfl; exact rfl)); (first | (apply Res.tmp; exact rfl) | (apply Res.cell; exact rfl; (repeat (first | exact Pick.here | apply Pick.there)); exact rfl) | (apply Res.cellAN; exact rfl; (repeat (first | exact Pick.here | apply Pick.there)); exact rfl; exact rfl) | (apply Res.cellA; exact rfl; (repeat (first | exact Pick.here | apply Pick.there)); exact rfl; exact rfl))))
      exact ⟨ownS u 5 1 len.toNat (((D.body first k).take len.toNat).map byte) :: slotL d (D.ticks k) db fb first F, Sat.weak (by repeat (first | exact Weak.refl | (apply Weak.cons; (first | exact Pick.here | exact Pick.there Pick.here | exact Pick.there (Pick.there Pick.here) | exact Pick.there (Pick.there (Pick.there Pick.here)) | exact Pick.there (Pick.there (Pick.there (Pick.there Pick.here))) | exact Pick.there (Pick.there (Pick.there (Pick.there (Pick.there Pick.here)))) | exact Pick.there (Pick.there (Pick.there (Pick.there (Pick.there (Pick.there Pick.here))))) | exact Pick.there (Pick.there (Pick.there (Pick.there (Pick.there (Pick.there (Pick.there Pick.here)))))))) | apply Weak.drop)), .inr ⟨hok, .inl ⟨g1, g2, u, rfl, rfl⟩⟩⟩
    · repeat' (first | (apply JO.ru; exact rfl; exact rfl; exact rfl; (first | (apply Ru.assign; exact rfl) | (apply Ru.extractN; exact rfl; exact rfl))) | refine JO.nil ?_ | refine JE.thenN ?_ | refine JC.ret ?_ | (apply JE.done2; exact rfl; (first | (apply Res.tmp; exact rfl) | (apply Res.cell; exact rfl; (repeat (first | exact Pick.here | apply Pick.there)); exact rfl) | (apply Res.cellAN; exact rfl; (repeat (first | exact Pick.here | apply Pick.there)); exact rfl; exact rfl) | (apply Res.cellA; exact rfl; (repeat (first | exact Pick.here | apply Pick.there)); exact rfl; exact rfl)); (first | (apply Res.tmp; exact rfl) | (apply Res.cell; exact rfl; (repeat (first | exact Pick.here | apply Pick.there)); exact rfl) | (apply Res.cellAN; exact rfl; (repeat (first | exact Pick.here | apply Pick.there)); exact rfl; exact rfl) | (apply Res.cellA; exact rfl; (repeat (first | exact Pick.here | apply Pick.there)); exact rfl; exact rfl))))
      exact ⟨slotL d (D.ticks k) db fb first F, Sat.weak (by repeat (first | exact Weak.refl | (apply Weak.cons; (first | exact Pick.here | exact Pick.there Pick.here | exact Pick.there (Pick.there Pick.here) | exact Pick.there (Pick.there (Pick.there Pick.here)) | exact Pick.there (Pick.there (Pick.there (Pick.there Pick.here))) | exact Pick.there (Pick.there (Pick.there (Pick.there (Pick.there Pick.here)))) | exact Pick.there (Pick.there (Pick.there (Pick.there (Pick.there (Pick.there Pick.here))))) | exact Pick.there (Pick.there (Pick.there (Pick.there (Pick.there (Pick.there (Pick.there Pick.here)))))))) | apply Weak.drop)), .inr ⟨hok, .inr ⟨g1, rfl, rfl⟩⟩⟩
end Go.Sep
