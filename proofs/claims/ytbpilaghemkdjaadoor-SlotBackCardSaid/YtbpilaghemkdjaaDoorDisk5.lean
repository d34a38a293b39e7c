/- The disk: what isn't synced yet. -/
import Derived.Test.YtbpilaghemkdjaaDoorKeys2
namespace Go.Sep
open Go Go.Proofs
attribute [local irreducible] JO JC JE JA JQ JB JI Mid Inv Weak ownS Ru Do Fn Sat Pick Take arr pt star ex Holds bodyPost Post Exit.then Exit.inBlock Res
variable {σ : Sig} {F : List HP}
attribute [local irreducible] diskHP cacheHP planHP rowHP
theorem maps_Keys (cm : Nat) : Fn Tryd.prog σ 59 #[.map (some cm)] F (fun v l => ∃ a, v = .func (.func 67) #[] #[.pointer (some ⟨a, 0, none⟩)] ∧ l = arr a 76 [.map (some cm)] :: F) := by
  refine Fn.of Tryd.func59 rfl Tryd.ntmps59 rfl ?_
  repeat' (first | (apply JO.ru; exact rfl; exact rfl; exact rfl; (first | (apply Ru.assign; exact rfl) | (apply Ru.makeFunc; exact rfl; exact rfl))) | refine JC.seq ?_ | refine JC.region ?_ | refine JO.nil ?_ | refine JE.thenN ?_ | refine JC.ret ?_ | (apply JO.do; exact rfl; exact rfl; exact rfl; (first | (apply Do.boxN; exact rfl; exact rfl) | (apply Do.box; exact rfl)); rintro _ _ ⟨_, rfl, rfl⟩) | (apply JE.done1; exact rfl; (first | (apply Res.tmp; exact rfl) | (apply Res.cell; exact rfl; (repeat (first | exact Pick.here | apply Pick.there)); exact rfl) | (apply Res.cellAN; exact rfl; (repeat (first | exact Pick.here | apply Pick.there)); exact rfl; exact rfl) | (apply Res.cellA; exact rfl; (repeat (first | exact Pick.here | apply Pick.there)); exact rfl; exact rfl))))
  refine finS ?_; exact ⟨_, rfl, rfl⟩

def DiskN.keys (D : DiskN) : List Int := (D.cached.map (·.1)).mergeSort (fun x y => decide (x ≤ y))
theorem DiskN.keys_length (D : DiskN) : D.keys.length = D.cached.length := by simp [DiskN.keys]
set_option maxHeartbeats 1000000 in
theorem disk_Unsynced (d : Nat) (D : DiskN) (hD : D.WF) (hw : D.writes ≤ 1000000) :
    Fn Tryd.prog σ 35 #[.pointer (some ⟨d, 0, none⟩)] (diskHP d D :: F) (fun v l => l = ownS v 3 1 D.keys.length (D.keys.map int) :: diskHP d D :: F) := by
  have hfew := hD.few
  refine Fn.disk fun lv cm pm => ?_
  refine Fn.of Tryd.func35 rfl Tryd.ntmps35 rfl ?_
  repeat' (first | (apply JO.ru; exact rfl; exact rfl; exact rfl; (first | (apply Ru.move; exact rfl) | (apply Ru.loadN; exact rfl; (repeat (first | exact Pick.here | apply Pick.there)); exact rfl) | (apply Ru.fieldAddr; exact rfl) | (apply Ru.nilP; exact rfl) | (apply Ru.assign; exact rfl))) | refine JC.seq ?_ | refine JC.region ?_ | refine JO.nil ?_ | refine JE.thenN ?_)
  (apply JO.do; exact rfl; exact rfl; exact rfl; (apply Do.call; exact rfl; exact maps_Keys cm); rintro _ _ ⟨a, rfl, rfl⟩)
  refine JO.cache (Pick.there (Pick.there (Pick.there Pick.here))) fun R hR => ?_
  have hRl : R.length = D.cached.length := by rw [hR]; simp
  (apply JO.do; exact rfl; exact rfl; exact rfl; (apply Do.call; exact rfl; exact slices_Sorted a cm _ (by rw [List.length_map]; omega) Pick.here (Pick.there (Pick.there Pick.here))); rintro v _ ⟨ss, hss, rfl⟩)
  have e : (R.map fun (p : Int × Value × List UInt8) => (p.1, p.2.1)).map (·.1) = D.cached.map (·.1) := by rw [hR, List.map_map, List.map_map]; rfl
  rw [e] at hss
  have hk : ss.mergeSort (fun x y => decide (x ≤ y)) = D.keys := Go.mergeSort_of_perm_i hss
  have hkl : ss.length = D.keys.length := by rw [← hk]; simp
  rw [hk, hkl]
  repeat' (first | (apply JO.ru; exact rfl; exact rfl; exact rfl; ((apply Ru.assign; exact rfl))) | refine JO.nil ?_ | refine JE.thenN ?_ | refine JC.ret ?_ | (apply JE.done1; exact rfl; (first | (apply Res.tmp; exact rfl) | (apply Res.cell; exact rfl; (repeat (first | exact Pick.here | apply Pick.there)); exact rfl) | (apply Res.cellAN; exact rfl; (repeat (first | exact Pick.here | apply Pick.there)); exact rfl; exact rfl) | (apply Res.cellA; exact rfl; (repeat (first | exact Pick.here | apply Pick.there)); exact rfl; exact rfl))))
  refine ⟨ownS v 3 1 D.keys.length (D.keys.map int) :: diskHP d D :: F, fun w s => ?_, rfl⟩
  have s1 := Sat.weak (l' := opn2 d D lv cm pm R (ownS v 3 1 D.keys.length (D.keys.map int) :: F)) (by repeat (first | exact Weak.refl | (apply Weak.cons; (first | exact Pick.here | exact Pick.there Pick.here | exact Pick.there (Pick.there Pick.here) | exact Pick.there (Pick.there (Pick.there Pick.here)) | exact Pick.there (Pick.there (Pick.there (Pick.there Pick.here))) | exact Pick.there (Pick.there (Pick.there (Pick.there (Pick.there Pick.here)))) | exact Pick.there (Pick.there (Pick.there (Pick.there (Pick.there (Pick.there Pick.here))))) | exact Pick.there (Pick.there (Pick.there (Pick.there (Pick.there (Pick.there (Pick.there Pick.here)))))))) | apply Weak.drop)) w s
  exact Sat.weak (l' := ownS v 3 1 D.keys.length (D.keys.map int) :: diskHP d D :: F) (by repeat (first | exact Weak.refl | (apply Weak.cons; (first | exact Pick.here | exact Pick.there Pick.here | exact Pick.there (Pick.there Pick.here) | exact Pick.there (Pick.there (Pick.there Pick.here)) | exact Pick.there (Pick.there (Pick.there (Pick.there Pick.here))) | exact Pick.there (Pick.there (Pick.there (Pick.there (Pick.there Pick.here)))) | exact Pick.there (Pick.there (Pick.there (Pick.there (Pick.there (Pick.there Pick.here))))) | exact Pick.there (Pick.there (Pick.there (Pick.there (Pick.there (Pick.there (Pick.there Pick.here)))))))) | apply Weak.drop)) w (Sat.close hR s1)
end Go.Sep
