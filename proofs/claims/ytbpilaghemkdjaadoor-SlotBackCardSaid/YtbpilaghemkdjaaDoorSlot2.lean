/- slot: a slot's first sector. -/
import Derived.Test.YtbpilaghemkdjaaDoorSlot1
import Derived.Test.YtbpilaghemkdjaaDoorImg1
namespace Go.Sep
open Go Go.Proofs
attribute [local irreducible] JO JC JE JA JQ JB JI Mid Inv Weak ownS Ru Do Fn Sat Pick Take arr pt star ex Holds bodyPost Post Exit.then Exit.inBlock Res
variable {σ : Sig} {F : List HP}
attribute [local irreducible] diskHP cacheHP planHP rowHP
set_option maxHeartbeats 2000000 in
theorem place_first (d : Nat) (D : DiskN) (db fb : Nat) (first many : Int) (v : Value) (bs : List UInt8) (hD : D.WF) (ho : D.ops ≤ 1000000000000) (hw : D.writes ≤ 1000000000000) (hbl : bs.length ≤ D.size) (hi : 0 ≤ first ∧ first ≤ 1000000000) {l : List HP} (hb : RdS σ l v (bs.map byte)) :
    Fn Tryd.prog σ 33 #[placeV many D.size db fb, v] (slotL d D db fb first l)
      (fun r l' => (D.writeE first D.size = 0 ∧ r = int 0 ∧ l' = slotL d (D.put first (padB bs D.size)) db fb first l) ∨ (D.writeE first D.size ≠ 0 ∧ r = int (D.writeE first D.size) ∧ l' = slotL d D.tick db fb first l)) := by
  have hz2 := hD.hz2
  have hb0 := hb
  obtain ⟨pv, cv, rfl, hcv, hrv⟩ := hb
  have hl : (bs.map byte).length = bs.length := by simp
  rw [hl] at hb0 ⊢
  have hpl := padB_length hbl
  refine Fn.of Tryd.func33 rfl Tryd.ntmps33 rfl ?_
  repeat' (first | (apply JO.ru; exact rfl; exact rfl; exact rfl; (first | (apply Ru.loadN; exact rfl; (repeat (first | exact Pick.here | apply Pick.there)); exact rfl) | (apply Ru.fieldAddr; exact rfl) | (apply Ru.assign; exact rfl))) | refine JC.seq ?_ | refine JC.region ?_ | refine JO.nil ?_ | refine JE.thenN ?_ | (apply JO.do; exact rfl; exact rfl; exact rfl; (first | (apply Do.boxN; exact rfl; exact rfl) | (apply Do.box; exact rfl)); rintro _ _ ⟨_, rfl, rfl⟩))
  (apply JO.do; exact rfl; exact rfl; exact rfl; (apply Do.makeSlice (k := D.size) (c := D.size); exact rfl; exact rfl; exact Nat.le_refl _; (show D.size * 1 ≤ _; omega); omega); rintro _ _ ⟨x, rfl, rfl⟩)
  repeat' (first | (apply JO.ru; exact rfl; exact rfl; exact rfl; (first | (apply Ru.move; exact rfl) | (apply Ru.assign; exact rfl))) | refine JC.seq ?_ | refine JC.region ?_ | refine JO.nil ?_ | refine JE.thenN ?_)
  (apply JO.do; exact rfl; exact rfl; exact rfl; (apply Do.copy; exact rfl; exact rfl; exact Pick.here; exact hb0.cons.cons.cons.cons.cons; (rw [List.length_replicate]; omega); exact byteOne _); rintro _ _ ⟨rfl, rfl⟩)
  have hcp : splice (List.replicate D.size (Value.int .u8 0)) 0 ((bs.map byte).take (min bs.length D.size)) = (padB bs D.size).map byte := by
    rw [Nat.min_eq_left hbl, List.take_of_length_le (by rw [hl]; omega), splice_pad _ _ hbl]
  rw [hcp]
  repeat' (first | (apply JO.ru; exact rfl; exact rfl; exact rfl; (first | (apply Ru.move; exact rfl) | (apply Ru.loadN; exact rfl; (repeat (first | exact Pick.here | apply Pick.there)); exact rfl) | (apply Ru.fieldAddr; exact rfl))) | refine JC.seq ?_ | refine JC.region ?_ | refine JO.nil ?_ | refine JE.thenN ?_)
  rename_i pb
  refine JO.heap (Sat.weak (l' := slotL d D db fb first (arr x 5 ((padB bs D.size).map byte) :: arr pb 58 [int many, int D.size, rdV db fb, wrV db fb] :: l)) (by repeat (first | exact Weak.refl | (apply Weak.cons; (first | exact Pick.here | exact Pick.there Pick.here | exact Pick.there (Pick.there Pick.here) | exact Pick.there (Pick.there (Pick.there Pick.here)) | exact Pick.there (Pick.there (Pick.there (Pick.there Pick.here))) | exact Pick.there (Pick.there (Pick.there (Pick.there (Pick.there Pick.here)))) | exact Pick.there (Pick.there (Pick.there (Pick.there (Pick.there (Pick.there Pick.here))))) | exact Pick.there (Pick.there (Pick.there (Pick.there (Pick.there (Pick.there (Pick.there Pick.here)))))))) | apply Weak.drop))) ?_
  have hwr := slot_wr (σ := σ) d D db fb first 0 (.slice (some ⟨x, 0, none⟩) D.size D.size) (padB bs D.size) hD ho hw (by omega) (by omega) (l := arr x 5 ((padB bs D.size).map byte) :: arr pb 58 [int many, int D.size, rdV db fb, wrV db fb] :: l) (RdS.arr0 (spare := []) (by rw [List.append_nil]; exact Pick.here) (by rw [List.length_map, hpl]) (Nat.le_refl _))
  rw [Int.add_zero, hpl] at hwr
  (apply JO.do; exact rfl; exact rfl; exact rfl; (apply Do.callV (f := 45); exact rfl; exact rfl; exact hwr); rintro _ _ (⟨hE, rfl, rfl⟩ | ⟨hE, rfl, rfl⟩))
  · repeat' (first | (apply JO.ru; exact rfl; exact rfl; exact rfl; ((apply Ru.assign; exact rfl))) | refine JO.nil ?_ | refine JE.thenN ?_ | refine JC.ret ?_ | (apply JE.done1; exact rfl; (first | (apply Res.tmp; exact rfl) | (apply Res.cell; exact rfl; (repeat (first | exact Pick.here | apply Pick.there)); exact rfl) | (apply Res.cellAN; exact rfl; (repeat (first | exact Pick.here | apply Pick.there)); exact rfl; exact rfl) | (apply Res.cellA; exact rfl; (repeat (first | exact Pick.here | apply Pick.there)); exact rfl; exact rfl))))
    exact ⟨slotL d (D.put first (padB bs D.size)) db fb first l, Sat.weak (by repeat (first | exact Weak.refl | (apply Weak.cons; (first | exact Pick.here | exact Pick.there Pick.here | exact Pick.there (Pick.there Pick.here) | exact Pick.there (Pick.there (Pick.there Pick.here)) | exact Pick.there (Pick.there (Pick.there (Pick.there Pick.here))) | exact Pick.there (Pick.there (Pick.there (Pick.there (Pick.there Pick.here)))) | exact Pick.there (Pick.there (Pick.there (Pick.there (Pick.there (Pick.there Pick.here))))) | exact Pick.there (Pick.there (Pick.there (Pick.there (Pick.there (Pick.there (Pick.there Pick.here)))))))) | apply Weak.drop)), .inl ⟨hE, rfl, rfl⟩⟩
  · repeat' (first | (apply JO.ru; exact rfl; exact rfl; exact rfl; ((apply Ru.assign; exact rfl))) | refine JO.nil ?_ | refine JE.thenN ?_ | refine JC.ret ?_ | (apply JE.done1; exact rfl; (first | (apply Res.tmp; exact rfl) | (apply Res.cell; exact rfl; (repeat (first | exact Pick.here | apply Pick.there)); exact rfl) | (apply Res.cellAN; exact rfl; (repeat (first | exact Pick.here | apply Pick.there)); exact rfl; exact rfl) | (apply Res.cellA; exact rfl; (repeat (first | exact Pick.here | apply Pick.there)); exact rfl; exact rfl))))
    exact ⟨slotL d D.tick db fb first l, Sat.weak (by repeat (first | exact Weak.refl | (apply Weak.cons; (first | exact Pick.here | exact Pick.there Pick.here | exact Pick.there (Pick.there Pick.here) | exact Pick.there (Pick.there (Pick.there Pick.here)) | exact Pick.there (Pick.there (Pick.there (Pick.there Pick.here))) | exact Pick.there (Pick.there (Pick.there (Pick.there (Pick.there Pick.here)))) | exact Pick.there (Pick.there (Pick.there (Pick.there (Pick.there (Pick.there Pick.here))))) | exact Pick.there (Pick.there (Pick.there (Pick.there (Pick.there (Pick.there (Pick.there Pick.here)))))))) | apply Weak.drop)), .inr ⟨hE, rfl, rfl⟩⟩
end Go.Sep
