/- The disk: a sector read. -/
import Derived.Test.YtbpilaghemkdjaaDoorDisk2
namespace Go.Sep
open Go Go.Proofs
attribute [local irreducible] JO JC JE JA JQ JB JI Mid Inv Weak ownS Ru Do Fn Sat Pick Take arr pt star ex Holds bodyPost Post Exit.then Exit.inBlock Res
variable {σ : Sig} {F : List HP}
attribute [local irreducible] diskHP cacheHP planHP rowHP
theorem byteOne (bs : List UInt8) : ∀ q ∈ bs.map byte, q.oneCell' = true := by
  intro q hq; obtain ⟨x, _, rfl⟩ := List.mem_map.1 hq; rfl
theorem bytesHP_map (u : Value) (bs : List UInt8) : ownS u 5 1 (bs.map byte).length (bs.map byte) = bytesHP u bs := by
  rw [List.length_map]
/-- Where a sector lies. -/
theorem DiskN.WF.room {D : DiskN} (h : D.WF) {i : Nat} (hi : i < D.count) : (i + 1) * D.size ≤ D.data.length := by
  rw [h.len]; exact Nat.mul_le_mul_right _ hi

set_option maxHeartbeats 2000000 in
theorem disk_Read (d : Nat) (D : DiskN) (i : Int) (hD : D.WF) (ho : D.ops ≤ 1000000000000) :
    Fn Tryd.prog σ 44 #[.pointer (some ⟨d, 0, none⟩), int i] (diskHP d D :: F)
      (fun v l' => (D.readE i = 0 ∧ ∃ u, v = .tuple #[u, int 0] ∧ l' = bytesHP u (D.cur i.toNat) :: diskHP d D.tick :: F) ∨ (D.readE i ≠ 0 ∧ v = .tuple #[.slice none 0 0, int (D.readE i)] ∧ l' = diskHP d D.tick :: F)) := by
  refine Fn.disk fun lv cm pm => Fn.bytes (Pick.there Pick.here) fun p c hlv hlc hp => ?_
  subst hlv
  have hsm := hD.small
  have hz := hD.hz
  have hcnt : (D.data.length : Int) / (D.size : Int) = D.count := by rw [← Int.natCast_ediv]; rfl
  refine Fn.of Tryd.func44 rfl Tryd.ntmps44 rfl ?_
  by_cases hf : D.failing = true
  · have hE : D.readE i = 3 := by unfold DiskN.readE; rw [if_pos hf]
    rw [hE]
    repeat' (first | (first | (apply JO.ru; exact rfl; exact rfl; exact rfl; (first | (apply Ru.move; exact rfl) | (apply Ru.assign; exact rfl))) | refine JC.seq ?_ | refine JC.region ?_ | refine JO.nil ?_ | refine JE.thenN ?_ | refine JE.thenR ?_ | refine JE.blockR ?_ | refine JC.block ?_ | refine JC.ret ?_ | refine JC.condT rfl ?_ | (apply JE.done2; exact rfl; (first | (apply Res.tmp; exact rfl) | (apply Res.cell; exact rfl; (repeat (first | exact Pick.here | apply Pick.there)); exact rfl) | (apply Res.cellAN; exact rfl; (repeat (first | exact Pick.here | apply Pick.there)); exact rfl; exact rfl) | (apply Res.cellA; exact rfl; (repeat (first | exact Pick.here | apply Pick.there)); exact rfl; exact rfl)); (first | (apply Res.tmp; exact rfl) | (apply Res.cell; exact rfl; (repeat (first | exact Pick.here | apply Pick.there)); exact rfl) | (apply Res.cellAN; exact rfl; (repeat (first | exact Pick.here | apply Pick.there)); exact rfl; exact rfl) | (apply Res.cellA; exact rfl; (repeat (first | exact Pick.here | apply Pick.there)); exact rfl; exact rfl)))) | ((apply JO.do; exact rfl; exact rfl; exact rfl; (apply Do.call; exact rfl; exact disk_fails d D _ cm pm ho); rintro _ _ ⟨rfl, rfl⟩); rw [hf]))
    exact ⟨_, fun w s => Sat.disk.2 ⟨_, cm, pm, s⟩, .inr ⟨by decide, rfl, rfl⟩⟩
  have hf' : D.failing = false := by simpa using hf
  by_cases hr : i < 0 ∨ (D.count : Int) ≤ i
  · have hE : D.readE i = 2 := by unfold DiskN.readE; rw [if_neg hf, if_pos hr]
    rw [hE]
    repeat' (first | (first | (apply JO.ru; exact rfl; exact rfl; exact rfl; (first | (apply Ru.move; exact rfl) | (apply Ru.assign; exact rfl) | (apply Ru.geq; exact rfl; exact rfl; (first | exact decT (by omega) | exact decF (by omega))) | (apply Ru.pickT; exact rfl; exact rfl) | (apply Ru.pickF; exact rfl; exact rfl))) | refine JC.seq ?_ | refine JC.region ?_ | refine JO.nil ?_ | refine JE.thenN ?_ | refine JE.thenR ?_ | refine JE.blockR ?_ | refine JC.block ?_ | refine JC.ret ?_ | refine JC.condT rfl ?_ | refine JC.condF rfl ?_ | (apply JO.split; exact rfl; exact rfl; exact rfl; ((apply Ru.lss; exact rfl; exact rfl; exact rfl)); all_goals intro _) | refine JO.guardF rfl rfl rfl rfl rfl rfl rfl ?_ | refine JO.guardT rfl rfl rfl rfl ?_ | (apply JE.done2; exact rfl; (first | (apply Res.tmp; exact rfl) | (apply Res.cell; exact rfl; (repeat (first | exact Pick.here | apply Pick.there)); exact rfl) | (apply Res.cellAN; exact rfl; (repeat (first | exact Pick.here | apply Pick.there)); exact rfl; exact rfl) | (apply Res.cellA; exact rfl; (repeat (first | exact Pick.here | apply Pick.there)); exact rfl; exact rfl)); (first | (apply Res.tmp; exact rfl) | (apply Res.cell; exact rfl; (repeat (first | exact Pick.here | apply Pick.there)); exact rfl) | (apply Res.cellAN; exact rfl; (repeat (first | exact Pick.here | apply Pick.there)); exact rfl; exact rfl) | (apply Res.cellA; exact rfl; (repeat (first | exact Pick.here | apply Pick.there)); exact rfl; exact rfl)))) | ((apply JO.do; exact rfl; exact rfl; exact rfl; (apply Do.call; exact rfl; exact disk_fails d D _ cm pm ho); rintro _ _ ⟨rfl, rfl⟩); rw [hf']) | (apply JO.do; exact rfl; exact rfl; exact rfl; (apply Do.call; exact rfl; exact disk_Sectors d D.size p D.data.length c _ _ _ _ hz (by omega) Pick.here); rintro _ _ ⟨rfl, hq⟩; obtain rfl := hq.symm))
    all_goals exact ⟨_, fun w s => Sat.disk.2 ⟨_, cm, pm, s⟩, .inr ⟨by decide, rfl, rfl⟩⟩
  · have hE : D.readE i = 0 := by unfold DiskN.readE; rw [if_neg hf, if_neg hr]
    rw [hE]
    obtain ⟨j, rfl⟩ := Int.eq_ofNat_of_zero_le (by omega : 0 ≤ i)
    have hj : j < D.count := by omega
    have hroom := hD.room hj
    have g0 : (j + 1) * D.size = j * D.size + D.size := Nat.succ_mul j D.size
    obtain ⟨b, rfl⟩ : ∃ b, p = some ⟨b, 0, none⟩ := by
      rcases hp with ⟨_, h⟩ | h
      · omega
      · exact h
    repeat' (first | (first | (apply JO.ru; exact rfl; exact rfl; exact rfl; (first | (apply Ru.move; exact rfl) | (apply Ru.loadN; exact rfl; (repeat (first | exact Pick.here | apply Pick.there)); exact rfl) | (apply Ru.fieldAddr; exact rfl) | (apply Ru.nilP; exact rfl) | (apply Ru.assign; exact rfl) | (apply Ru.lss; exact rfl; exact rfl; (first | exact decT (by omega) | exact decF (by omega))) | (apply Ru.geq; exact rfl; exact rfl; (first | exact decT (by omega) | exact decF (by omega))) | (apply Ru.pickF; exact rfl; exact rfl))) | refine JC.seq ?_ | refine JC.region ?_ | refine JO.nil ?_ | refine JE.thenN ?_ | refine JE.blockN ?_ | refine JC.block ?_ | refine JC.skip ?_ | refine JC.condF rfl ?_ | refine JO.guardT rfl rfl rfl rfl ?_) | ((apply JO.do; exact rfl; exact rfl; exact rfl; (apply Do.call; exact rfl; exact disk_fails d D _ cm pm ho); rintro _ _ ⟨rfl, rfl⟩); rw [hf']) | (apply JO.do; exact rfl; exact rfl; exact rfl; (apply Do.call; exact rfl; exact disk_Sectors d D.size _ D.data.length c _ _ _ _ hz (by omega) Pick.here); rintro _ _ ⟨rfl, hq⟩; obtain rfl := hq.symm))
    refine JO.cache (Pick.there (Pick.there Pick.here)) fun R hR => ?_
    have hlk : lookI (R.map fun (p : Int × Value × List UInt8) => (p.1, p.2.1)) (j : Int) = (lookI R (j : Int)).map (·.1) := lookI_map (·.1) R j
    have hlc2 : lookI D.cached (j : Int) = (lookI R (j : Int)).map (·.2) := by exact hR ▸ lookI_map (·.2) R j
    cases q : lookI R (j : Int) with
    | none =>
      rw [q] at hlk hlc2
      simp only [Option.map_none] at hlk hlc2
      (apply JO.ru; exact rfl; exact rfl; exact rfl; (apply Ru.lookupO; exact rfl; exact rfl; exact Pick.here; exact hlk))
      repeat' (first | (apply JO.ru; exact rfl; exact rfl; exact rfl; (first | (apply Ru.move; exact rfl) | (apply Ru.assign; exact rfl) | (apply Ru.extractN; exact rfl; exact rfl))) | refine JC.seq ?_ | refine JC.region ?_ | refine JO.nil ?_ | refine JE.thenN ?_ | refine JC.skip ?_ | refine JC.condF rfl ?_)
      (apply JO.do; exact rfl; exact rfl; exact rfl; (apply Do.call; exact rfl; exact disk_at d D.size j b D.data.length c _ _ _ _ hz (by omega) hlc hroom (Pick.there (Pick.there Pick.here))); rintro _ _ ⟨rfl, hq⟩; obtain rfl := hq.symm)
      refine JO.ownR (Pick.there (Pick.there (Pick.there Pick.here))) fun hrd _ _ => ?_
      have hcur : D.cur j = D.sector j := by unfold DiskN.cur; rw [hlc2]; rfl
      have hsl := hD.sector hj
      have hrd2 := hrd.part (j * D.size) D.size (c - j * D.size) (by omega) (by omega)
      rw [← List.map_drop, ← List.map_take, Nat.zero_add, Nat.mul_one] at hrd2
      (apply JO.do; exact rfl; exact rfl; exact rfl; (apply Do.call; exact rfl; exact slices_Clone _ ((D.sector j).map byte) (byteOne _) (by rw [List.length_map]; omega) hrd2); rintro u _ ⟨rfl, _⟩)
      repeat' (first | (apply JO.ru; exact rfl; exact rfl; exact rfl; ((apply Ru.assign; exact rfl))) | refine JO.nil ?_ | refine JE.thenN ?_ | refine JC.ret ?_ | (apply JE.done2; exact rfl; (first | (apply Res.tmp; exact rfl) | (apply Res.cell; exact rfl; (repeat (first | exact Pick.here | apply Pick.there)); exact rfl) | (apply Res.cellAN; exact rfl; (repeat (first | exact Pick.here | apply Pick.there)); exact rfl; exact rfl) | (apply Res.cellA; exact rfl; (repeat (first | exact Pick.here | apply Pick.there)); exact rfl; exact rfl)); (first | (apply Res.tmp; exact rfl) | (apply Res.cell; exact rfl; (repeat (first | exact Pick.here | apply Pick.there)); exact rfl) | (apply Res.cellAN; exact rfl; (repeat (first | exact Pick.here | apply Pick.there)); exact rfl; exact rfl) | (apply Res.cellA; exact rfl; (repeat (first | exact Pick.here | apply Pick.there)); exact rfl; exact rfl))))
      rw [bytesHP_map]
      refine ⟨bytesHP u (D.cur j) :: diskHP d D.tick :: F, fun w s => ?_, .inl ⟨rfl, u, rfl, rfl⟩⟩
      rw [hcur]
      have s1 := Sat.weak (l' := opn2 d D.tick (.slice (some ⟨b, 0, none⟩) D.data.length c) cm pm R (bytesHP u (D.sector j) :: F)) (by repeat (first | exact Weak.refl | (apply Weak.cons; (first | exact Pick.here | exact Pick.there Pick.here | exact Pick.there (Pick.there Pick.here) | exact Pick.there (Pick.there (Pick.there Pick.here)) | exact Pick.there (Pick.there (Pick.there (Pick.there Pick.here))) | exact Pick.there (Pick.there (Pick.there (Pick.there (Pick.there Pick.here)))) | exact Pick.there (Pick.there (Pick.there (Pick.there (Pick.there (Pick.there Pick.here))))) | exact Pick.there (Pick.there (Pick.there (Pick.there (Pick.there (Pick.there (Pick.there Pick.here)))))))) | apply Weak.drop)) w s
      exact Sat.weak (l' := bytesHP u (D.sector j) :: diskHP d D.tick :: F) (by repeat (first | exact Weak.refl | (apply Weak.cons; (first | exact Pick.here | exact Pick.there Pick.here | exact Pick.there (Pick.there Pick.here) | exact Pick.there (Pick.there (Pick.there Pick.here)) | exact Pick.there (Pick.there (Pick.there (Pick.there Pick.here))) | exact Pick.there (Pick.there (Pick.there (Pick.there (Pick.there Pick.here)))) | exact Pick.there (Pick.there (Pick.there (Pick.there (Pick.there (Pick.there Pick.here))))) | exact Pick.there (Pick.there (Pick.there (Pick.there (Pick.there (Pick.there (Pick.there Pick.here)))))))) | apply Weak.drop)) w (Sat.close hR s1)
    | some u =>
      rw [q] at hlk hlc2
      simp only [Option.map_some] at hlk hlc2
      refine JO.rowR (lookI_mem q) (Pick.there Pick.here) fun hrd => ?_
      (apply JO.ru; exact rfl; exact rfl; exact rfl; (apply Ru.lookupO; exact rfl; exact rfl; exact Pick.here; exact hlk))
      repeat' (first | (apply JO.ru; exact rfl; exact rfl; exact rfl; (first | (apply Ru.move; exact rfl) | (apply Ru.assign; exact rfl) | (apply Ru.extractN; exact rfl; exact rfl))) | refine JC.seq ?_ | refine JC.region ?_ | refine JO.nil ?_ | refine JE.thenN ?_ | refine JC.condT rfl ?_)
      have hcur : D.cur j = u.2 := by unfold DiskN.cur; rw [hlc2]; rfl
      have hsl := hD.cur hj
      rw [hcur] at hsl
      (apply JO.do; exact rfl; exact rfl; exact rfl; (apply Do.call; exact rfl; exact slices_Clone _ (u.2.map byte) (byteOne _) (by rw [List.length_map]; omega) hrd); rintro v _ ⟨rfl, _⟩)
      repeat' (first | (apply JO.ru; exact rfl; exact rfl; exact rfl; ((apply Ru.assign; exact rfl))) | refine JO.nil ?_ | refine JE.thenN ?_ | refine JE.thenR ?_ | refine JC.ret ?_ | (apply JE.done2; exact rfl; (first | (apply Res.tmp; exact rfl) | (apply Res.cell; exact rfl; (repeat (first | exact Pick.here | apply Pick.there)); exact rfl) | (apply Res.cellAN; exact rfl; (repeat (first | exact Pick.here | apply Pick.there)); exact rfl; exact rfl) | (apply Res.cellA; exact rfl; (repeat (first | exact Pick.here | apply Pick.there)); exact rfl; exact rfl)); (first | (apply Res.tmp; exact rfl) | (apply Res.cell; exact rfl; (repeat (first | exact Pick.here | apply Pick.there)); exact rfl) | (apply Res.cellAN; exact rfl; (repeat (first | exact Pick.here | apply Pick.there)); exact rfl; exact rfl) | (apply Res.cellA; exact rfl; (repeat (first | exact Pick.here | apply Pick.there)); exact rfl; exact rfl))))
      rw [bytesHP_map]
      refine ⟨bytesHP v (D.cur j) :: diskHP d D.tick :: F, fun w s => ?_, .inl ⟨rfl, v, rfl, rfl⟩⟩
      rw [hcur]
      have s1 := Sat.weak (l' := opn2 d D.tick (.slice (some ⟨b, 0, none⟩) D.data.length c) cm pm R (bytesHP v u.2 :: F)) (by repeat (first | exact Weak.refl | (apply Weak.cons; (first | exact Pick.here | exact Pick.there Pick.here | exact Pick.there (Pick.there Pick.here) | exact Pick.there (Pick.there (Pick.there Pick.here)) | exact Pick.there (Pick.there (Pick.there (Pick.there Pick.here))) | exact Pick.there (Pick.there (Pick.there (Pick.there (Pick.there Pick.here)))) | exact Pick.there (Pick.there (Pick.there (Pick.there (Pick.there (Pick.there Pick.here))))) | exact Pick.there (Pick.there (Pick.there (Pick.there (Pick.there (Pick.there (Pick.there Pick.here)))))))) | apply Weak.drop)) w s
      exact Sat.weak (l' := bytesHP v u.2 :: diskHP d D.tick :: F) (by repeat (first | exact Weak.refl | (apply Weak.cons; (first | exact Pick.here | exact Pick.there Pick.here | exact Pick.there (Pick.there Pick.here) | exact Pick.there (Pick.there (Pick.there Pick.here)) | exact Pick.there (Pick.there (Pick.there (Pick.there Pick.here))) | exact Pick.there (Pick.there (Pick.there (Pick.there (Pick.there Pick.here)))) | exact Pick.there (Pick.there (Pick.there (Pick.there (Pick.there (Pick.there Pick.here))))) | exact Pick.there (Pick.there (Pick.there (Pick.there (Pick.there (Pick.there (Pick.there Pick.here)))))))) | apply Weak.drop)) w (Sat.close hR s1)
end Go.Sep
