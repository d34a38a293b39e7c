/- The disk: synced. -/
import Derived.Test.YtbpilaghemkdjaaDoorDisk5
import Derived.Test.YtbpilaghemkdjaaDoorImg2
namespace Go.Sep
open Go Go.Proofs
attribute [local irreducible] JO JC JE JA JQ JB JI Mid Inv Weak ownS Ru Do Fn Sat Pick Take arr pt star ex Holds bodyPost Post Exit.then Exit.inBlock Res
variable {σ : Sig} {F : List HP}
attribute [local irreducible] diskHP cacheHP planHP rowHP
theorem disk_failsC (d : Nat) (D : DiskN) (ho : D.ops ≤ 1000000000000) : Fn Tryd.prog σ 34 #[.pointer (some ⟨d, 0, none⟩)] (diskHP d D :: F) (fun v l => v = .bool D.failing ∧ l = diskHP d D.tick :: F) :=
  Fn.diskD fun lv cm pm => disk_fails d D lv cm pm ho
def settled (D : DiskN) (j : Nat) : DiskN := (D.keys.take j).foldl DiskN.settle D
theorem settled_succ {D : DiskN} {j : Nat} {k : Int} (h : D.keys[j]? = some k) : settled D (j + 1) = (settled D j).settle k := by
  simp [settled, List.take_add_one, h]
theorem settled_wf {D : DiskN} (h : D.WF) (j : Nat) : (settled D j).WF ∧ (settled D j).size = D.size ∧ (settled D j).count = D.count := by
  have key : ∀ (l : List Int) (D : DiskN), D.WF → (l.foldl DiskN.settle D).WF ∧ (l.foldl DiskN.settle D).size = D.size ∧ (l.foldl DiskN.settle D).count = D.count := by
    intro l
    induction l with
    | nil => intro D h; exact ⟨h, rfl, rfl⟩
    | cons k l ih =>
      intro D h
      obtain ⟨a1, a2, a3, _⟩ := h.settle k
      obtain ⟨b1, b2, b3⟩ := ih _ a1
      exact ⟨b1, b2.trans a2, b3.trans a3⟩
  exact key _ D h
theorem keys_range {D : DiskN} (h : D.WF) {j : Nat} {k : Int} (hk : D.keys[j]? = some k) : 0 ≤ k ∧ k < D.count := by
  have h1 : k ∈ D.keys := List.mem_of_getElem? hk
  have h2 : k ∈ D.cached.map (·.1) := (List.mergeSort_perm _ _).mem_iff.1 h1
  obtain ⟨p, hp, rfl⟩ := List.mem_map.1 h2
  have := h.cach p hp
  exact ⟨this.1, this.2.1⟩

set_option maxHeartbeats 4000000 in
theorem disk_Sync (d : Nat) (D : DiskN) (hD : D.WF) (ho : D.ops ≤ 1000000000000) (hw : D.writes ≤ 1000000) :
    Fn Tryd.prog σ 13 #[.pointer (some ⟨d, 0, none⟩)] (diskHP d D :: F)
      (fun v l => (D.failing = true ∧ v = int 3 ∧ l = diskHP d D.tick :: F) ∨ (D.failing = false ∧ v = int 0 ∧ l = diskHP d (settled D.tick D.tick.keys.length) :: F)) := by
  refine Fn.of Tryd.func13 rfl Tryd.ntmps13 rfl ?_
  by_cases hf : D.failing = true
  · rw [hf]
    repeat' (first | (first | (apply JO.ru; exact rfl; exact rfl; exact rfl; (first | (apply Ru.move; exact rfl) | (apply Ru.assign; exact rfl))) | refine JC.seq ?_ | refine JC.region ?_ | refine JO.nil ?_ | refine JE.thenN ?_ | refine JE.thenR ?_ | refine JC.ret ?_ | refine JC.condT rfl ?_ | (apply JE.done1; exact rfl; (first | (apply Res.tmp; exact rfl) | (apply Res.cell; exact rfl; (repeat (first | exact Pick.here | apply Pick.there)); exact rfl) | (apply Res.cellAN; exact rfl; (repeat (first | exact Pick.here | apply Pick.there)); exact rfl; exact rfl) | (apply Res.cellA; exact rfl; (repeat (first | exact Pick.here | apply Pick.there)); exact rfl; exact rfl)))) | ((apply JO.do; exact rfl; exact rfl; exact rfl; (apply Do.call; exact rfl; exact disk_failsC d D ho); rintro _ _ ⟨rfl, rfl⟩); rw [hf]))
    refine finS ?_; exact .inl ⟨rfl, rfl, rfl⟩
  have hf' : D.failing = false := by simpa using hf
  have hwf := hD.tick
  have hfew : D.tick.cached.length ≤ 1000000 := Nat.le_trans hD.few hw
  have hkl := D.tick.keys_length
  rw [hf']
  repeat' (first | (first | (apply JO.ru; exact rfl; exact rfl; exact rfl; (first | (apply Ru.move; exact rfl) | (apply Ru.assign; exact rfl))) | refine JC.seq ?_ | refine JC.region ?_ | refine JO.nil ?_ | refine JE.thenN ?_ | refine JC.skip ?_ | refine JC.condF rfl ?_) | ((apply JO.do; exact rfl; exact rfl; exact rfl; (apply Do.call; exact rfl; exact disk_failsC d D ho); rintro _ _ ⟨rfl, rfl⟩); rw [hf']) | (apply JO.do; exact rfl; exact rfl; exact rfl; (apply Do.call; exact rfl; exact disk_Unsynced d D.tick hwf hw); rintro v _ rfl))
  refine JO.ownR Pick.here fun _ _ hsh => ?_
  obtain ⟨p, c, rfl, hp⟩ : ∃ p c, v = .slice p D.tick.keys.length c ∧ (p = none ∧ D.tick.keys.length = 0 ∨ ∃ b, p = some ⟨b, 0, none⟩) := by
    rcases hsh with ⟨rfl, h⟩ | ⟨b, c, rfl, _⟩
    · exact ⟨none, 0, by rw [h], .inl ⟨rfl, h⟩⟩
    · exact ⟨_, c, rfl, .inr ⟨b, rfl⟩⟩
  repeat' (first | (apply JO.ru; exact rfl; exact rfl; exact rfl; (first | (apply Ru.move; exact rfl) | (apply Ru.lenS; exact rfl))) | refine JO.nil ?_ | refine JE.thenN ?_ | refine JC.block ?_)
  refine JC.loop (fun j : Nat => [(0, .pointer (some ⟨d, 0, none⟩)), (8, .slice p D.tick.keys.length c), (9, int D.tick.keys.length), (10, int j)]) (fun j => ownS (.slice p D.tick.keys.length c) 3 1 D.tick.keys.length (D.tick.keys.map int) :: diskHP d (settled D.tick j) :: F) (fun j => j ≤ D.tick.keys.length) (fun j => D.tick.keys.length - j) 0 (Nat.zero_le _) ⟨rfl, rfl, rfl, rfl, trivial⟩ (fun _ h => h) ?_
  intro j hj
  repeat' (first | (apply JO.ru; exact rfl; exact rfl; exact rfl; ((apply Ru.assign; exact rfl))) | refine JC.seq ?_ | refine JC.region ?_ | refine JO.nil ?_ | refine JE.thenN ?_ | refine JE.thenE ?_ | refine JE.blockE ?_ | refine JC.block ?_ | refine JC.ret ?_ | refine JC.skip ?_ | refine JC.exit ?_ | refine JC.condT rfl ?_ | refine JC.condF rfl ?_ | (apply JO.split; exact rfl; exact rfl; exact rfl; ((apply Ru.lss; exact rfl; exact rfl; exact rfl)); all_goals intro _) | (apply JE.done1; exact rfl; (first | (apply Res.tmp; exact rfl) | (apply Res.cell; exact rfl; (repeat (first | exact Pick.here | apply Pick.there)); exact rfl) | (apply Res.cellAN; exact rfl; (repeat (first | exact Pick.here | apply Pick.there)); exact rfl; exact rfl) | (apply Res.cellA; exact rfl; (repeat (first | exact Pick.here | apply Pick.there)); exact rfl; exact rfl))))
  · rename_i hlt
    obtain ⟨k, hk⟩ : ∃ k, D.tick.keys[j]? = some k := ⟨_, List.getElem?_eq_getElem (by omega)⟩
    obtain ⟨hr0, hr1⟩ := keys_range hwf hk
    obtain ⟨i, rfl⟩ := Int.eq_ofNat_of_zero_le hr0
    obtain ⟨b0, rfl⟩ : ∃ b, p = some ⟨b, 0, none⟩ := by
      rcases hp with ⟨_, h⟩ | h
      · omega
      · exact h
    refine JO.ownR Pick.here fun hrd _ _ => ?_
    obtain ⟨p', cap', e, _, hr2⟩ := hrd
    injection e with e1 e2 e3
    subst e1
    rcases hr2 with h | ⟨b', o', e4, hc⟩
    · have := congrArg List.length h
      rw [List.length_map, List.length_nil] at this
      omega
    cases e4
    repeat' ((apply JO.ru; exact rfl; exact rfl; exact rfl; ((apply Ru.indexAddr; exact rfl; exact rfl; omega; omega))))
    (apply JO.ru; exact rfl; exact rfl; exact rfl; (apply Ru.loadC; exact rfl; exact rd_row (i := j) (u := int i) hc (by rw [List.getElem?_map, hk]; rfl) _ (by simp)))
    repeat' (first | (apply JO.ru; exact rfl; exact rfl; exact rfl; ((apply Ru.assign; exact rfl))) | refine JC.seq ?_ | refine JO.nil ?_ | refine JE.thenN ?_)
    have hss := settled_succ hk
    obtain ⟨hEw, hEs, hEc⟩ := settled_wf hwf j
    obtain ⟨E, hE⟩ : ∃ E, settled D.tick j = E := ⟨_, rfl⟩
    rw [hE] at hss hEw hEs hEc ⊢
    have hi : i < E.count := by omega
    have hroom := hEw.room hi
    have hsm := hEw.small
    have g0 : (i + 1) * E.size = i * E.size + E.size := Nat.succ_mul i E.size
    have hz := hEw.hz
    refine JC.disk (Pick.there Pick.here) fun lv cm pm => ?_
    refine JC.cache (Pick.there (Pick.there Pick.here)) fun R hR => ?_
    refine JC.heap (Sat.weak (l' := bytesHP lv E.data :: mapI cm (R.map fun p => (p.1, p.2.1)) :: star (R.map rowHP) :: arr d 79 (diskCells E lv cm pm) :: planHP pm E.planned :: ownS (.slice (some ⟨b0, 0, none⟩) D.tick.keys.length c) 3 1 D.tick.keys.length (D.tick.keys.map int) :: F) (by repeat (first | exact Weak.refl | (apply Weak.cons; (first | exact Pick.here | exact Pick.there Pick.here | exact Pick.there (Pick.there Pick.here) | exact Pick.there (Pick.there (Pick.there Pick.here)) | exact Pick.there (Pick.there (Pick.there (Pick.there Pick.here))) | exact Pick.there (Pick.there (Pick.there (Pick.there (Pick.there Pick.here)))) | exact Pick.there (Pick.there (Pick.there (Pick.there (Pick.there (Pick.there Pick.here))))) | exact Pick.there (Pick.there (Pick.there (Pick.there (Pick.there (Pick.there (Pick.there Pick.here)))))))) | apply Weak.drop))) ?_
    refine JC.own (fun _ h _ => (by omega)) ?_
    rintro b cap spare rfl hcap hxs hsp
    have hlk : lookI (R.map fun (p : Int × Value × List UInt8) => (p.1, p.2.1)) (i : Int) = (lookI R (i : Int)).map (·.1) := lookI_map (·.1) R i
    have hlc2 : lookI E.cached (i : Int) = (lookI R (i : Int)).map (·.2) := hR ▸ lookI_map (·.2) R i
    cases q : lookI R (i : Int) with
    | none =>
      rw [q] at hlk hlc2
      simp only [Option.map_none] at hlk hlc2
      refine JC.regionB (mapI cm (R.map fun p => (p.1, p.2.1)) :: star (R.map rowHP) :: arr d 79 (diskCells E (.slice (some ⟨b, 0, none⟩) E.data.length cap) cm pm) :: planHP pm E.planned :: ownS (.slice (some ⟨b0, 0, none⟩) D.tick.keys.length c) 3 1 D.tick.keys.length (D.tick.keys.map int) :: F) mixed ?_
      repeat' (first | ((apply JB.ru; exact rfl; exact rfl; exact rfl; exact rfl; (first | (apply Ru.move; exact rfl) | (apply Ru.loadN; exact rfl; (repeat (first | exact Pick.here | apply Pick.there)); exact rfl) | (apply Ru.fieldAddr; exact rfl) | (apply Ru.nilP; exact rfl)); decide +kernel; decide +kernel; (first | exact fun _ h => h | exact fun _ h => Sat.drop h | exact fun _ h => Sat.drop (Sat.drop h) | exact fun _ h => Sat.drop (Sat.drop (Sat.drop h)) | exact fun _ h => Sat.drop (Sat.drop (Sat.drop (Sat.drop h)))); (simp only [Nat.reduceAdd, Nat.reducePow, Nat.reduceMul, Nat.zero_or, Nat.or_zero, Nat.reduceXor, Nat.reduceOr]; try exact rfl))) | (apply JB.ru; exact rfl; exact rfl; exact rfl; exact rfl; (apply Ru.lookupO0; exact rfl; exact rfl; exact Pick.here; exact hlk); decide +kernel; decide +kernel; exact fun _ h => Sat.drop h; (simp only [Nat.reduceAdd, Nat.reducePow, Nat.reduceMul, Nat.zero_or, Nat.or_zero, Nat.reduceXor, Nat.reduceOr]; try exact rfl)))
      refine JB.one 2 (by decide +kernel) ?_
      (apply JI.do; exact rfl; exact rfl; exact rfl; exact rfl; (apply Do.call; exact rfl; exact disk_at d E.size i b E.data.length cap _ _ _ _ hz (by omega) hcap hroom (Pick.there (Pick.there (Pick.there Pick.here)))); (simp only [Nat.reduceAdd, Nat.reducePow, Nat.reduceMul, Nat.zero_or, Nat.or_zero, Nat.reduceXor, Nat.reduceOr]; try exact rfl); rintro _ _ ⟨rfl, hq⟩; obtain rfl := hq.symm; refine ⟨fun _ s => s.drop, ?_⟩)
      refine JB.one 9 (by decide +kernel) ?_
      (apply JI.do; exact rfl; exact rfl; exact rfl; exact rfl; (apply Do.copy (ys := []); exact rfl; exact rfl; exact Pick.here; exact RdS.nil; (rw [List.length_append, List.length_map]; omega); (intro q hq; cases hq)); (simp only [Nat.reduceAdd, Nat.reducePow, Nat.reduceMul, Nat.zero_or, Nat.or_zero, Nat.reduceXor, Nat.reduceOr]; try exact rfl); rintro _ _ ⟨rfl, rfl⟩; refine ⟨fun _ s => s.drop, ?_⟩)
      rw [List.take_nil, splice]
      repeat' ((apply JB.nil; exact rfl))
      repeat' (first | (apply JO.ru; exact rfl; exact rfl; exact rfl; (first | (apply Ru.move; exact rfl) | (apply Ru.loadN; exact rfl; (repeat (first | exact Pick.here | apply Pick.there)); exact rfl) | (apply Ru.fieldAddr; exact rfl) | (apply Ru.nilP; exact rfl))) | refine JC.region ?_ | refine JE.thenN ?_)
      (apply JO.do0; exact rfl; exact rfl; (apply Do.deleteI; exact rfl; exact rfl; exact Pick.there Pick.here); rintro _ _ ⟨rfl, rfl⟩)
      repeat' (first | (apply JO.ru; exact rfl; exact rfl; exact rfl; (first | (apply Ru.move; exact rfl) | (apply Ru.add; exact rfl; exact rfl; (first | exact wrapI (by omega) (by omega) | exact rfl)))) | refine JC.region ?_ | refine JO.nil ?_ | refine JE.thenN ?_ | refine JE.blockN ?_)
      refine JE.round (j + 1) (by omega) (by omega) ⟨rfl, rfl, rfl, rfl, trivial⟩ ?_
      have hset : E.settle (i : Int) = E := by unfold DiskN.settle; rw [hlc2]
      have hidx : idxI (R.map fun (p : Int × Value × List UInt8) => (p.1, p.2.1)) (i : Int) = none := by
        unfold lookI at hlk
        simpa using hlk
      intro w s
      rw [hss, hset]
      rw [del_none hidx] at s
      have s1 := Sat.ownS_arr (k := E.data.length) (cap := cap) (z := 1) hcap hxs hsp (s.perm (.swap _ _ _))
      have s4 := Sat.weak (l' := opn2 d E (.slice (some ⟨b, 0, none⟩) E.data.length cap) cm pm R (ownS (.slice (some ⟨b0, 0, none⟩) D.tick.keys.length c) 3 1 D.tick.keys.length (D.tick.keys.map int) :: F)) (by repeat (first | exact Weak.refl | (apply Weak.cons; (first | exact Pick.here | exact Pick.there Pick.here | exact Pick.there (Pick.there Pick.here) | exact Pick.there (Pick.there (Pick.there Pick.here)) | exact Pick.there (Pick.there (Pick.there (Pick.there Pick.here))) | exact Pick.there (Pick.there (Pick.there (Pick.there (Pick.there Pick.here)))) | exact Pick.there (Pick.there (Pick.there (Pick.there (Pick.there (Pick.there Pick.here))))) | exact Pick.there (Pick.there (Pick.there (Pick.there (Pick.there (Pick.there (Pick.there Pick.here)))))))) | apply Weak.drop)) w s1
      exact Sat.weak (by repeat (first | exact Weak.refl | (apply Weak.cons; (first | exact Pick.here | exact Pick.there Pick.here | exact Pick.there (Pick.there Pick.here) | exact Pick.there (Pick.there (Pick.there Pick.here)) | exact Pick.there (Pick.there (Pick.there (Pick.there Pick.here))) | exact Pick.there (Pick.there (Pick.there (Pick.there (Pick.there Pick.here)))) | exact Pick.there (Pick.there (Pick.there (Pick.there (Pick.there (Pick.there Pick.here))))) | exact Pick.there (Pick.there (Pick.there (Pick.there (Pick.there (Pick.there (Pick.there Pick.here)))))))) | apply Weak.drop)) w (Sat.close hR s4)
    | some u =>
      rw [q] at hlk hlc2
      simp only [Option.map_some] at hlk hlc2
      refine JC.rowR (lookI_mem q) (Pick.there (Pick.there Pick.here)) fun hrow => ?_
      refine JC.regionB (mapI cm (R.map fun p => (p.1, p.2.1)) :: star (R.map rowHP) :: arr d 79 (diskCells E (.slice (some ⟨b, 0, none⟩) E.data.length cap) cm pm) :: planHP pm E.planned :: ownS (.slice (some ⟨b0, 0, none⟩) D.tick.keys.length c) 3 1 D.tick.keys.length (D.tick.keys.map int) :: F) mixed ?_
      repeat' (first | ((apply JB.ru; exact rfl; exact rfl; exact rfl; exact rfl; (first | (apply Ru.move; exact rfl) | (apply Ru.loadN; exact rfl; (repeat (first | exact Pick.here | apply Pick.there)); exact rfl) | (apply Ru.fieldAddr; exact rfl) | (apply Ru.nilP; exact rfl)); decide +kernel; decide +kernel; (first | exact fun _ h => h | exact fun _ h => Sat.drop h | exact fun _ h => Sat.drop (Sat.drop h) | exact fun _ h => Sat.drop (Sat.drop (Sat.drop h)) | exact fun _ h => Sat.drop (Sat.drop (Sat.drop (Sat.drop h)))); (simp only [Nat.reduceAdd, Nat.reducePow, Nat.reduceMul, Nat.zero_or, Nat.or_zero, Nat.reduceXor, Nat.reduceOr]; try exact rfl))) | (apply JB.ru; exact rfl; exact rfl; exact rfl; exact rfl; (apply Ru.lookupO0; exact rfl; exact rfl; exact Pick.here; exact hlk); decide +kernel; decide +kernel; exact fun _ h => Sat.drop h; (simp only [Nat.reduceAdd, Nat.reducePow, Nat.reduceMul, Nat.zero_or, Nat.or_zero, Nat.reduceXor, Nat.reduceOr]; try exact rfl)))
      have hul : u.2.length = E.size := (hEw.cach _ (lookI_mem hlc2)).2.2
      have hul' : (u.2.map byte).length = u.2.length := by simp
      refine JB.one 2 (by decide +kernel) ?_
      (apply JI.do; exact rfl; exact rfl; exact rfl; exact rfl; (apply Do.call; exact rfl; exact disk_at d E.size i b E.data.length cap _ _ _ _ hz (by omega) hcap hroom (Pick.there (Pick.there (Pick.there Pick.here)))); (simp only [Nat.reduceAdd, Nat.reducePow, Nat.reduceMul, Nat.zero_or, Nat.or_zero, Nat.reduceXor, Nat.reduceOr]; try exact rfl); rintro _ _ ⟨rfl, hq⟩; obtain rfl := hq.symm; refine ⟨fun _ s => s.drop, ?_⟩)
      refine JB.one 9 (by decide +kernel) ?_
      obtain ⟨ku, pu, cu, hu1⟩ : ∃ k p c, u.1 = .slice p k c ∧ k = u.2.length := by
        obtain ⟨pp, cc, h1, _, _⟩ := hrow
        exact ⟨_, pp, cc, h1, hul'⟩
      obtain ⟨hu1, rfl⟩ := hu1
      dsimp only at hrow
      rw [hu1] at hrow ⊢
      (apply JI.do; exact rfl; exact rfl; exact rfl; exact rfl; (apply Do.copy (ys := u.2.map byte); exact rfl; exact rfl; exact Pick.here; exact hrow; (rw [List.length_append, List.length_map]; omega); exact byteOne _); (simp only [Nat.reduceAdd, Nat.reducePow, Nat.reduceMul, Nat.zero_or, Nat.or_zero, Nat.reduceXor, Nat.reduceOr]; try exact rfl); rintro _ _ ⟨rfl, rfl⟩; refine ⟨fun _ s => s.drop, ?_⟩)
      have hcp : splice (E.data.map byte ++ spare) (i * E.size) ((u.2.map byte).take (min u.2.length E.size)) = (setSec E.data E.size i u.2).map byte ++ spare := by
        rw [List.take_of_length_le (by rw [hul']; omega), splice_at _ _ _ (by simp only [List.length_append, List.length_map]; omega)]
        have e1 : i * E.size ≤ (E.data.map byte).length := by rw [List.length_map]; omega
        rw [List.take_append_of_le_length e1, List.drop_append_of_le_length (by simp only [List.length_map]; omega)]
        simp [setSec]
      rw [hcp]
      repeat' ((apply JB.nil; exact rfl))
      repeat' (first | (apply JO.ru; exact rfl; exact rfl; exact rfl; (first | (apply Ru.move; exact rfl) | (apply Ru.loadN; exact rfl; (repeat (first | exact Pick.here | apply Pick.there)); exact rfl) | (apply Ru.fieldAddr; exact rfl) | (apply Ru.nilP; exact rfl))) | refine JC.region ?_ | refine JE.thenN ?_)
      (apply JO.do0; exact rfl; exact rfl; (apply Do.deleteI; exact rfl; exact rfl; exact Pick.there Pick.here); rintro _ _ ⟨rfl, rfl⟩)
      repeat' (first | (apply JO.ru; exact rfl; exact rfl; exact rfl; (first | (apply Ru.move; exact rfl) | (apply Ru.add; exact rfl; exact rfl; (first | exact wrapI (by omega) (by omega) | exact rfl)))) | refine JC.region ?_ | refine JO.nil ?_ | refine JE.thenN ?_ | refine JE.blockN ?_)
      refine JE.round (j + 1) (by omega) (by omega) ⟨rfl, rfl, rfl, rfl, trivial⟩ ?_
      have hset : E.settle (i : Int) = { E with data := setSec E.data E.size i u.2, cached := delI E.cached i } := by unfold DiskN.settle; rw [hlc2]; rfl
      have hsl := setSec_length (data := E.data) (size := E.size) (i := i) (bs := u.2) (by omega)
      have em : delI (R.map fun (p : Int × Value × List UInt8) => (p.1, p.2.1)) (i : Int) = (delI R (i : Int)).map fun p => (p.1, p.2.1) := delI_map (·.1) R i
      have ec : delI E.cached (i : Int) = (delI R (i : Int)).map fun p => (p.1, p.2.2) := by rw [hR]; exact delI_map (·.2) R i
      intro w s
      rw [hss, hset]
      rw [em] at s
      have s0 := Sat.weak (l' := arr b 5 ((setSec E.data E.size i u.2).map byte ++ spare) :: star (R.map rowHP) :: mapI cm ((delI R (i : Int)).map fun p => (p.1, p.2.1)) :: arr d 79 (diskCells E (.slice (some ⟨b, 0, none⟩) E.data.length cap) cm pm) :: planHP pm E.planned :: ownS (.slice (some ⟨b0, 0, none⟩) D.tick.keys.length c) 3 1 D.tick.keys.length (D.tick.keys.map int) :: F) (by repeat (first | exact Weak.refl | (apply Weak.cons; (first | exact Pick.here | exact Pick.there Pick.here | exact Pick.there (Pick.there Pick.here) | exact Pick.there (Pick.there (Pick.there Pick.here)) | exact Pick.there (Pick.there (Pick.there (Pick.there Pick.here))) | exact Pick.there (Pick.there (Pick.there (Pick.there (Pick.there Pick.here)))) | exact Pick.there (Pick.there (Pick.there (Pick.there (Pick.there (Pick.there Pick.here))))) | exact Pick.there (Pick.there (Pick.there (Pick.there (Pick.there (Pick.there (Pick.there Pick.here)))))))) | apply Weak.drop)) w s
      have s1 := Sat.ownS_arr (k := (setSec E.data E.size i u.2).length) (cap := cap) (z := 1) (by omega) (by rw [List.length_map]; omega) (by rw [List.length_append, List.length_map, hsl, ← List.length_map (f := byte), ← List.length_append]; exact hsp) s0
      rw [hsl] at s1
      have s2 := Sat.weak (l' := star (R.map rowHP) :: ownS (.slice (some ⟨b, 0, none⟩) E.data.length cap) 5 1 E.data.length ((setSec E.data E.size i u.2).map byte) :: mapI cm ((delI R (i : Int)).map fun p => (p.1, p.2.1)) :: arr d 79 (diskCells E (.slice (some ⟨b, 0, none⟩) E.data.length cap) cm pm) :: planHP pm E.planned :: ownS (.slice (some ⟨b0, 0, none⟩) D.tick.keys.length c) 3 1 D.tick.keys.length (D.tick.keys.map int) :: F) (by repeat (first | exact Weak.refl | (apply Weak.cons; (first | exact Pick.here | exact Pick.there Pick.here | exact Pick.there (Pick.there Pick.here) | exact Pick.there (Pick.there (Pick.there Pick.here)) | exact Pick.there (Pick.there (Pick.there (Pick.there Pick.here))) | exact Pick.there (Pick.there (Pick.there (Pick.there (Pick.there Pick.here)))) | exact Pick.there (Pick.there (Pick.there (Pick.there (Pick.there (Pick.there Pick.here))))) | exact Pick.there (Pick.there (Pick.there (Pick.there (Pick.there (Pick.there (Pick.there Pick.here)))))))) | apply Weak.drop)) w s1
      have s3 := Sat.delRows (k := (i : Int)) s2
      have e9 : ownS (.slice (some ⟨b, 0, none⟩) E.data.length cap) 5 1 E.data.length ((setSec E.data E.size i u.2).map byte) = bytesHP (.slice (some ⟨b, 0, none⟩) E.data.length cap) (setSec E.data E.size i u.2) := by rw [← hsl]
      rw [e9] at s3
      have s4 := Sat.weak (l' := opn2 d { E with data := setSec E.data E.size i u.2, cached := delI E.cached i } (.slice (some ⟨b, 0, none⟩) E.data.length cap) cm pm (delI R (i : Int)) (ownS (.slice (some ⟨b0, 0, none⟩) D.tick.keys.length c) 3 1 D.tick.keys.length (D.tick.keys.map int) :: F)) (by repeat (first | exact Weak.refl | (apply Weak.cons; (first | exact Pick.here | exact Pick.there Pick.here | exact Pick.there (Pick.there Pick.here) | exact Pick.there (Pick.there (Pick.there Pick.here)) | exact Pick.there (Pick.there (Pick.there (Pick.there Pick.here))) | exact Pick.there (Pick.there (Pick.there (Pick.there (Pick.there Pick.here)))) | exact Pick.there (Pick.there (Pick.there (Pick.there (Pick.there (Pick.there Pick.here))))) | exact Pick.there (Pick.there (Pick.there (Pick.there (Pick.there (Pick.there (Pick.there Pick.here)))))))) | apply Weak.drop)) w s3
      exact Sat.weak (by repeat (first | exact Weak.refl | (apply Weak.cons; (first | exact Pick.here | exact Pick.there Pick.here | exact Pick.there (Pick.there Pick.here) | exact Pick.there (Pick.there (Pick.there Pick.here)) | exact Pick.there (Pick.there (Pick.there (Pick.there Pick.here))) | exact Pick.there (Pick.there (Pick.there (Pick.there (Pick.there Pick.here)))) | exact Pick.there (Pick.there (Pick.there (Pick.there (Pick.there (Pick.there Pick.here))))) | exact Pick.there (Pick.there (Pick.there (Pick.there (Pick.there (Pick.there (Pick.there Pick.here)))))))) | apply Weak.drop)) w (Sat.close ec s4)
  · obtain rfl : j = D.tick.keys.length := by omega
    refine ⟨_, Sat.weak (by repeat (first | exact Weak.refl | (apply Weak.cons; (first | exact Pick.here | exact Pick.there Pick.here | exact Pick.there (Pick.there Pick.here) | exact Pick.there (Pick.there (Pick.there Pick.here)) | exact Pick.there (Pick.there (Pick.there (Pick.there Pick.here))) | exact Pick.there (Pick.there (Pick.there (Pick.there (Pick.there Pick.here)))) | exact Pick.there (Pick.there (Pick.there (Pick.there (Pick.there (Pick.there Pick.here))))) | exact Pick.there (Pick.there (Pick.there (Pick.there (Pick.there (Pick.there (Pick.there Pick.here)))))))) | apply Weak.drop)), .inr ⟨rfl, rfl, rfl⟩⟩
end Go.Sep
