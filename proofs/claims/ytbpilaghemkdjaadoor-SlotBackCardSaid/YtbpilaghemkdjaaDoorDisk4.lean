/- The disk: a sector written. -/
import Derived.Test.YtbpilaghemkdjaaDoorDisk3
namespace Go.Sep
open Go Go.Proofs
attribute [local irreducible] JO JC JE JA JQ JB JI Mid Inv Weak ownS Ru Do Fn Sat Pick Take arr pt star ex Holds bodyPost Post Exit.then Exit.inBlock Res
variable {σ : Sig} {F : List HP}
attribute [local irreducible] diskHP cacheHP planHP rowHP
set_option maxHeartbeats 2000000 in
theorem disk_Write (d : Nat) (D : DiskN) (i : Int) (v : Value) (bs : List UInt8) (hD : D.WF) (ho : D.ops ≤ 1000000000000) (hw : D.writes ≤ 1000000000000) (hbl : bs.length ≤ 100000000) {l : List HP} (hb : RdS σ l v (bs.map byte)) :
    Fn Tryd.prog σ 46 #[.pointer (some ⟨d, 0, none⟩), int i, v] (diskHP d D :: l)
      (fun r l' => (D.writeE i bs.length = 0 ∧ r = int 0 ∧ l' = diskHP d (D.put i bs) :: l) ∨ (D.writeE i bs.length ≠ 0 ∧ r = int (D.writeE i bs.length) ∧ l' = diskHP d D.tick :: l)) := by
  refine Fn.disk fun lv cm pm => Fn.bytes (Pick.there Pick.here) fun p c hlv hlc hp => ?_
  subst hlv
  have hsm := hD.small
  have hz := hD.hz
  have hz2 := hD.hz2
  have hcn := hD.cnt
  have ht : D.tick.size = D.size := rfl
  have ht2 : D.tick.writes = D.writes := rfl
  have hcnt : (D.data.length : Int) / (D.size : Int) = D.count := by rw [← Int.natCast_ediv]; rfl
  have hb0 := hb
  obtain ⟨pv, cv, rfl, hcv, hrv⟩ := hb
  have hl : (bs.map byte).length = bs.length := by simp
  rw [hl] at hb0 ⊢
  refine Fn.of Tryd.func46 rfl Tryd.ntmps46 rfl ?_
  by_cases hf : D.failing = true
  · have hE : D.writeE i bs.length = 3 := by unfold DiskN.writeE; rw [if_pos hf]
    rw [hE]
    repeat' (first | (first | (apply JO.ru; exact rfl; exact rfl; exact rfl; (first | (apply Ru.move; exact rfl) | (apply Ru.assign; exact rfl))) | refine JC.seq ?_ | refine JC.region ?_ | refine JO.nil ?_ | refine JE.thenN ?_ | refine JE.thenR ?_ | refine JE.blockR ?_ | refine JC.block ?_ | refine JC.ret ?_ | refine JC.condT rfl ?_ | (apply JE.done1; exact rfl; (first | (apply Res.tmp; exact rfl) | (apply Res.cell; exact rfl; (repeat (first | exact Pick.here | apply Pick.there)); exact rfl) | (apply Res.cellAN; exact rfl; (repeat (first | exact Pick.here | apply Pick.there)); exact rfl; exact rfl) | (apply Res.cellA; exact rfl; (repeat (first | exact Pick.here | apply Pick.there)); exact rfl; exact rfl)))) | ((apply JO.do; exact rfl; exact rfl; exact rfl; (apply Do.call; exact rfl; exact disk_fails d D _ cm pm ho); rintro _ _ ⟨rfl, rfl⟩); rw [hf]))
    exact ⟨_, fun w s => Sat.disk.2 ⟨_, cm, pm, s⟩, .inr ⟨by decide, rfl, rfl⟩⟩
  have hf' : D.failing = false := by simpa using hf
  by_cases h1 : i < 0
  · have hE : D.writeE i bs.length = 2 := by unfold DiskN.writeE; rw [if_neg hf, if_pos h1]
    rw [hE]
    repeat' (first | (first | (apply JO.ru; exact rfl; exact rfl; exact rfl; (first | (apply Ru.move; exact rfl) | (apply Ru.assign; exact rfl) | (apply Ru.lss; exact rfl; exact rfl; (first | exact decT (by omega) | exact decF (by omega))))) | refine JC.seq ?_ | refine JC.region ?_ | refine JO.nil ?_ | refine JE.thenN ?_ | refine JE.thenR ?_ | refine JE.blockR ?_ | refine JC.block ?_ | refine JC.ret ?_ | refine JC.condT rfl ?_ | refine JC.condF rfl ?_ | (apply JE.done1; exact rfl; (first | (apply Res.tmp; exact rfl) | (apply Res.cell; exact rfl; (repeat (first | exact Pick.here | apply Pick.there)); exact rfl) | (apply Res.cellAN; exact rfl; (repeat (first | exact Pick.here | apply Pick.there)); exact rfl; exact rfl) | (apply Res.cellA; exact rfl; (repeat (first | exact Pick.here | apply Pick.there)); exact rfl; exact rfl)))) | ((apply JO.do; exact rfl; exact rfl; exact rfl; (apply Do.call; exact rfl; exact disk_fails d D _ cm pm ho); rintro _ _ ⟨rfl, rfl⟩); rw [hf']))
    all_goals exact ⟨_, fun w s => Sat.disk.2 ⟨_, cm, pm, s⟩, .inr ⟨by decide, rfl, rfl⟩⟩
  by_cases h2 : (D.count : Int) ≤ i
  · have hE : D.writeE i bs.length = 4 := by unfold DiskN.writeE; rw [if_neg hf, if_neg h1, if_pos h2]
    rw [hE]
    repeat' (first | (first | (apply JO.ru; exact rfl; exact rfl; exact rfl; (first | (apply Ru.move; exact rfl) | (apply Ru.assign; exact rfl) | (apply Ru.lss; exact rfl; exact rfl; (first | exact decT (by omega) | exact decF (by omega))) | (apply Ru.geq; exact rfl; exact rfl; (first | exact decT (by omega) | exact decF (by omega))))) | refine JC.seq ?_ | refine JC.region ?_ | refine JO.nil ?_ | refine JE.thenN ?_ | refine JE.thenR ?_ | refine JE.blockR ?_ | refine JC.block ?_ | refine JC.ret ?_ | refine JC.condT rfl ?_ | refine JC.condF rfl ?_ | (apply JE.done1; exact rfl; (first | (apply Res.tmp; exact rfl) | (apply Res.cell; exact rfl; (repeat (first | exact Pick.here | apply Pick.there)); exact rfl) | (apply Res.cellAN; exact rfl; (repeat (first | exact Pick.here | apply Pick.there)); exact rfl; exact rfl) | (apply Res.cellA; exact rfl; (repeat (first | exact Pick.here | apply Pick.there)); exact rfl; exact rfl)))) | ((apply JO.do; exact rfl; exact rfl; exact rfl; (apply Do.call; exact rfl; exact disk_fails d D _ cm pm ho); rintro _ _ ⟨rfl, rfl⟩); rw [hf']) | (apply JO.do; exact rfl; exact rfl; exact rfl; (apply Do.call; exact rfl; exact disk_Sectors d D.size p D.data.length c _ _ _ _ hz (by omega) Pick.here); rintro _ _ ⟨rfl, hq⟩; obtain rfl := hq.symm))
    all_goals exact ⟨_, fun w s => Sat.disk.2 ⟨_, cm, pm, s⟩, .inr ⟨by decide, rfl, rfl⟩⟩
  by_cases h3 : bs.length ≠ D.size
  · have hE : D.writeE i bs.length = 1 := by unfold DiskN.writeE; rw [if_neg hf, if_neg h1, if_neg h2, if_pos h3]
    rw [hE]
    repeat' (first | (first | (apply JO.ru; exact rfl; exact rfl; exact rfl; (first | (apply Ru.move; exact rfl) | (apply Ru.loadN; exact rfl; (repeat (first | exact Pick.here | apply Pick.there)); exact rfl) | (apply Ru.fieldAddr; exact rfl) | (apply Ru.nilP; exact rfl) | (apply Ru.assign; exact rfl) | (apply Ru.lenS; exact rfl) | (apply Ru.lss; exact rfl; exact rfl; (first | exact decT (by omega) | exact decF (by omega))) | (apply Ru.geq; exact rfl; exact rfl; (first | exact decT (by omega) | exact decF (by omega))) | (apply Ru.neq; exact rfl; exact rfl; (first | exact ndecF (by omega) | exact ndecT (by omega))))) | refine JC.seq ?_ | refine JC.region ?_ | refine JO.nil ?_ | refine JE.thenN ?_ | refine JE.thenR ?_ | refine JE.blockR ?_ | refine JC.block ?_ | refine JC.ret ?_ | refine JC.condT rfl ?_ | refine JC.condF rfl ?_ | (apply JE.done1; exact rfl; (first | (apply Res.tmp; exact rfl) | (apply Res.cell; exact rfl; (repeat (first | exact Pick.here | apply Pick.there)); exact rfl) | (apply Res.cellAN; exact rfl; (repeat (first | exact Pick.here | apply Pick.there)); exact rfl; exact rfl) | (apply Res.cellA; exact rfl; (repeat (first | exact Pick.here | apply Pick.there)); exact rfl; exact rfl)))) | ((apply JO.do; exact rfl; exact rfl; exact rfl; (apply Do.call; exact rfl; exact disk_fails d D _ cm pm ho); rintro _ _ ⟨rfl, rfl⟩); rw [hf']) | (apply JO.do; exact rfl; exact rfl; exact rfl; (apply Do.call; exact rfl; exact disk_Sectors d D.size p D.data.length c _ _ _ _ hz (by omega) Pick.here); rintro _ _ ⟨rfl, hq⟩; obtain rfl := hq.symm))
    all_goals exact ⟨_, fun w s => Sat.disk.2 ⟨_, cm, pm, s⟩, .inr ⟨by decide, rfl, rfl⟩⟩
  have h3' : bs.length = D.size := by omega
  have hE : D.writeE i bs.length = 0 := by unfold DiskN.writeE; rw [if_neg hf, if_neg h1, if_neg h2, if_neg h3]
  rw [hE]
  repeat' (first | (first | (apply JO.ru; exact rfl; exact rfl; exact rfl; (first | (apply Ru.move; exact rfl) | (apply Ru.loadN; exact rfl; (repeat (first | exact Pick.here | apply Pick.there)); exact rfl) | (apply Ru.fieldAddr; exact rfl) | (apply Ru.nilP; exact rfl) | (apply Ru.assign; exact rfl) | (apply Ru.lenS; exact rfl) | (apply Ru.lss; exact rfl; exact rfl; (first | exact decT (by omega) | exact decF (by omega))) | (apply Ru.geq; exact rfl; exact rfl; (first | exact decT (by omega) | exact decF (by omega))) | (apply Ru.neq; exact rfl; exact rfl; (first | exact ndecF (by omega) | exact ndecT (by omega))))) | refine JC.seq ?_ | refine JC.region ?_ | refine JO.nil ?_ | refine JE.thenN ?_ | refine JE.blockN ?_ | refine JC.block ?_ | refine JC.skip ?_ | refine JC.condF rfl ?_) | ((apply JO.do; exact rfl; exact rfl; exact rfl; (apply Do.call; exact rfl; exact disk_fails d D _ cm pm ho); rintro _ _ ⟨rfl, rfl⟩); rw [hf']) | (apply JO.do; exact rfl; exact rfl; exact rfl; (apply Do.call; exact rfl; exact disk_Sectors d D.size p D.data.length c _ _ _ _ hz (by omega) Pick.here); rintro _ _ ⟨rfl, hq⟩; obtain rfl := hq.symm))
  refine JC.cache (Pick.there (Pick.there Pick.here)) fun R hR => ?_
  refine JC.regionB (arr d 79 (diskCells D.tick (.slice p D.data.length c) cm pm) :: bytesHP (.slice p D.data.length c) D.tick.data :: planHP pm D.tick.planned :: l) mixed ?_
  repeat' ((apply JB.ru; exact rfl; exact rfl; exact rfl; exact rfl; (first | (apply Ru.move; exact rfl) | (apply Ru.loadN; exact rfl; (repeat (first | exact Pick.here | apply Pick.there)); exact rfl) | (apply Ru.fieldAddr; exact rfl) | (apply Ru.nilP; exact rfl)); decide +kernel; decide +kernel; (first | exact fun _ h => h | exact fun _ h => Sat.drop h | exact fun _ h => Sat.drop (Sat.drop h) | exact fun _ h => Sat.drop (Sat.drop (Sat.drop h)) | exact fun _ h => Sat.drop (Sat.drop (Sat.drop (Sat.drop h)))); (simp only [Nat.reduceAdd, Nat.reducePow, Nat.reduceMul, Nat.zero_or, Nat.or_zero, Nat.reduceXor, Nat.reduceOr]; try exact rfl)))
  refine JB.one 6 (by decide +kernel) ?_
  (apply JI.do; exact rfl; exact rfl; exact rfl; exact rfl; (apply Do.call; exact rfl; exact slices_Clone _ (bs.map byte) (byteOne _) (by rw [hl]; omega) hb0.cons.cons.cons.cons.cons); (simp only [Nat.reduceAdd, Nat.reducePow, Nat.reduceMul, Nat.zero_or, Nat.or_zero, Nat.reduceXor, Nat.reduceOr]; try exact rfl); rintro u _ ⟨rfl, _⟩; refine ⟨fun _ s => s.drop.drop.drop, ?_⟩)
  rw [bytesHP_map]
  refine JB.one 7 (by decide +kernel) ?_
  (apply JI.do0; exact rfl; exact rfl; exact rfl; (apply Do.mapUpdateI; exact rfl; exact rfl; exact rfl; exact Pick.there Pick.here; omega); (simp only [Nat.reduceAdd, Nat.reducePow, Nat.reduceMul, Nat.zero_or, Nat.or_zero, Nat.reduceXor, Nat.reduceOr]; try exact rfl); rintro _ _ ⟨rfl, rfl⟩; refine ⟨fun _ s => s.drop.drop.drop, ?_⟩)
  repeat' ((apply JB.nil; exact rfl))
  repeat' (first | (apply JO.ru; exact rfl; exact rfl; exact rfl; (first | (apply Ru.move; exact rfl) | (apply Ru.loadN; exact rfl; (repeat (first | exact Pick.here | apply Pick.there)); exact rfl) | (apply Ru.fieldAddr; exact rfl) | (apply Ru.nilP; exact rfl) | (apply Ru.assign; exact rfl) | (apply Ru.add; exact rfl; exact rfl; (first | exact wrapI (by omega) (by omega) | exact rfl)))) | refine JC.seq ?_ | refine JC.region ?_ | refine JO.nil ?_ | refine JE.thenN ?_ | refine JC.ret ?_ | (apply JO.do0; exact rfl; exact rfl; (first | (apply Do.storeN; exact rfl; exact rfl; exact rfl; (repeat (first | exact Pick.here | apply Pick.there)); exact rfl; exact rfl) | (apply Do.store; exact rfl; exact rfl; exact rfl; (repeat (first | exact Pick.here | apply Pick.there)); exact rfl)); rintro _ _ ⟨rfl, rfl⟩) | (apply JE.done1; exact rfl; (first | (apply Res.tmp; exact rfl) | (apply Res.cell; exact rfl; (repeat (first | exact Pick.here | apply Pick.there)); exact rfl) | (apply Res.cellAN; exact rfl; (repeat (first | exact Pick.here | apply Pick.there)); exact rfl; exact rfl) | (apply Res.cellA; exact rfl; (repeat (first | exact Pick.here | apply Pick.there)); exact rfl; exact rfl))))
  have em : updI (R.map fun (p : Int × Value × List UInt8) => (p.1, p.2.1)) i u = (updI R i (u, bs)).map fun p => (p.1, p.2.1) := updI_map (·.1) R i (u, bs)
  have ec : (D.put i bs).cached = (updI R i (u, bs)).map fun p => (p.1, p.2.2) := by
    show updI D.cached i bs = _
    have e : D.cached = R.map fun p => (p.1, p.2.2) := hR
    rw [e]; exact updI_map (·.2) R i (u, bs)
  rw [em]
  refine ⟨diskHP d (D.put i bs) :: l, fun w s => ?_, .inl ⟨rfl, rfl, rfl⟩⟩
  have s1 := Sat.weak (l' := bytesHP u bs :: star (R.map rowHP) :: arr d 79 (diskCells (D.put i bs) (.slice p D.data.length c) cm pm) :: mapI cm ((updI R i (u, bs)).map fun p => (p.1, p.2.1)) :: bytesHP (.slice p D.data.length c) D.data :: planHP pm D.planned :: l) (by repeat (first | exact Weak.refl | (apply Weak.cons; (first | exact Pick.here | exact Pick.there Pick.here | exact Pick.there (Pick.there Pick.here) | exact Pick.there (Pick.there (Pick.there Pick.here)) | exact Pick.there (Pick.there (Pick.there (Pick.there Pick.here))) | exact Pick.there (Pick.there (Pick.there (Pick.there (Pick.there Pick.here)))) | exact Pick.there (Pick.there (Pick.there (Pick.there (Pick.there (Pick.there Pick.here))))) | exact Pick.there (Pick.there (Pick.there (Pick.there (Pick.there (Pick.there (Pick.there Pick.here)))))))) | apply Weak.drop)) w s
  exact Sat.close ec (Sat.weak (l' := opn2 d (D.put i bs) (.slice p D.data.length c) cm pm (updI R i (u, bs)) l) (by repeat (first | exact Weak.refl | (apply Weak.cons; (first | exact Pick.here | exact Pick.there Pick.here | exact Pick.there (Pick.there Pick.here) | exact Pick.there (Pick.there (Pick.there Pick.here)) | exact Pick.there (Pick.there (Pick.there (Pick.there Pick.here))) | exact Pick.there (Pick.there (Pick.there (Pick.there (Pick.there Pick.here)))) | exact Pick.there (Pick.there (Pick.there (Pick.there (Pick.there (Pick.there Pick.here))))) | exact Pick.there (Pick.there (Pick.there (Pick.there (Pick.there (Pick.there (Pick.there Pick.here)))))))) | apply Weak.drop)) w (Sat.updRows s1))

theorem disk_Fail (d : Nat) (D : DiskN) (k : Int) (hk : -9223372036854775808 ≤ k ∧ k ≤ 9223372036854775807) :
    Fn Tryd.prog σ 17 #[.pointer (some ⟨d, 0, none⟩), int k] (diskHP d D :: F) (fun v l' => v = .tuple #[] ∧ l' = diskHP d (D.plan k) :: F) := by
  refine Fn.disk fun lv cm pm => ?_
  refine Fn.of Tryd.func17 rfl Tryd.ntmps17 rfl ?_
  repeat' (first | (apply JO.ru; exact rfl; exact rfl; exact rfl; (first | (apply Ru.move; exact rfl) | (apply Ru.loadN; exact rfl; (repeat (first | exact Pick.here | apply Pick.there)); exact rfl) | (apply Ru.fieldAddr; exact rfl) | (apply Ru.nilP; exact rfl) | (apply Ru.buildN; exact rfl; exact rfl))) | refine JC.region ?_)
  (apply JO.do0; exact rfl; exact rfl; (apply Do.planUpdate; exact rfl; exact rfl; exact rfl; exact Pick.there (Pick.there (Pick.there Pick.here)); exact hk); rintro _ _ ⟨rfl, rfl⟩)
  repeat' (refine JO.nil ?_)
  refine JE.done0N rfl ?_
  refine ⟨diskHP d (D.plan k) :: F, fun w s => Sat.disk.2 ⟨lv, cm, pm, Sat.weak (l' := opn d (D.plan k) lv cm pm F) (by repeat (first | exact Weak.refl | (apply Weak.cons; (first | exact Pick.here | exact Pick.there Pick.here | exact Pick.there (Pick.there Pick.here) | exact Pick.there (Pick.there (Pick.there Pick.here)) | exact Pick.there (Pick.there (Pick.there (Pick.there Pick.here))) | exact Pick.there (Pick.there (Pick.there (Pick.there (Pick.there Pick.here)))) | exact Pick.there (Pick.there (Pick.there (Pick.there (Pick.there (Pick.there Pick.here))))) | exact Pick.there (Pick.there (Pick.there (Pick.there (Pick.there (Pick.there (Pick.there Pick.here)))))))) | apply Weak.drop)) w s⟩, rfl, rfl⟩
end Go.Sep
