/- The disk: opened, new. -/
import Derived.Test.YtbpilaghemkdjaaDoorDisk1
namespace Go.Sep
open Go Go.Proofs
attribute [local irreducible] JO JC JE JA JQ JB JI Mid Inv Weak ownS Ru Do Fn Sat Pick Take arr pt star ex Holds bodyPost Post Exit.then Exit.inBlock Res
variable {σ : Sig} {F : List HP}
attribute [local irreducible] diskHP cacheHP planHP rowHP
set_option maxHeartbeats 1000000 in
theorem disk_Open (z : Nat) (v : Value) (bs : List UInt8) (h1 : 1 ≤ z) (h2 : z ≤ 4096) (hm : bs.length % z = 0) (hq : bs.length / z ≤ 4096) (hlen : bs.length ≤ 100000000) {l : List HP} (hb : RdS σ l v (bs.map byte)) :
    Fn Tryd.prog σ 37 #[int z, v] l (fun r l' => ∃ d, r = .tuple #[.pointer (some ⟨d, 0, none⟩), int 0] ∧ l' = diskHP d ⟨z, bs, [], [], 0, 0⟩ :: l) := by
  have hb0 := hb
  obtain ⟨p, cap, rfl, hcap, hr⟩ := hb
  have hl : (bs.map byte).length = bs.length := by simp
  rw [hl] at hb0 ⊢
  have hm' : (bs.length : Int) % (z : Int) = 0 := by rw [← Int.natCast_emod]; omega
  have hq' : (bs.length : Int) / (z : Int) ≤ 4096 := by rw [← Int.natCast_ediv]; omega
  refine Fn.of Tryd.func37 rfl Tryd.ntmps37 rfl ?_
  repeat' (first | (apply JO.ru; exact rfl; exact rfl; exact rfl; (first | (apply Ru.move; exact rfl) | (apply Ru.assign; exact rfl) | (apply Ru.lenS; exact rfl) | (apply Ru.lss; exact rfl; exact rfl; (first | exact decT (by omega) | exact decF (by omega))) | (apply Ru.gtr; exact rfl; exact rfl; (first | exact decT (by omega) | exact decF (by omega))) | (apply Ru.neq; exact rfl; exact rfl; (first | exact ndecF (by omega) | exact ndecT (by omega))) | (apply Ru.pickF; exact rfl; exact rfl) | (apply Ru.quoN; exact rfl; exact rfl; omega; omega; omega) | (apply Ru.remN; exact rfl; exact rfl; omega; omega))) | refine JC.seq ?_ | refine JC.region ?_ | refine JO.nil ?_ | refine JE.thenN ?_ | refine JC.skip ?_ | refine JC.condF rfl ?_ | refine JO.guardT rfl rfl rfl rfl ?_)
  (apply JO.do; exact rfl; exact rfl; exact rfl; (apply Do.call; exact rfl; exact slices_Clone _ (bs.map byte) (by intro q hq; obtain ⟨x, _, rfl⟩ := List.mem_map.1 hq; rfl) (by omega) hb0); rintro u _ ⟨hl', _⟩; obtain rfl := hl'.symm)
  rw [hl]
  refine JO.ownR Pick.here fun _ _ hu => ?_
  rcases hu with ⟨rfl, _⟩ | ⟨b, c, rfl, _⟩
  all_goals
    (apply JO.do; exact rfl; exact rfl; exact rfl; apply Do.makeMap; rintro _ _ ⟨cm, rfl, rfl⟩)
    refine JO.heap (fun _ s => Sat.cache0 s) ?_
    (apply JO.do; exact rfl; exact rfl; exact rfl; apply Do.makeMap; rintro _ _ ⟨pm, rfl, rfl⟩)
    refine JO.heap (fun _ s => Sat.plan0 s) ?_
    repeat' (first | (apply JO.ru; exact rfl; exact rfl; exact rfl; (first | (apply Ru.assign; exact rfl) | (apply Ru.buildN; exact rfl; exact rfl))) | refine JO.nil ?_ | refine JE.thenN ?_ | refine JC.ret ?_ | (apply JO.do; exact rfl; exact rfl; exact rfl; (first | (apply Do.boxN; exact rfl; exact rfl) | (apply Do.box; exact rfl)); rintro _ _ ⟨_, rfl, rfl⟩) | (apply JE.done2; exact rfl; (first | (apply Res.tmp; exact rfl) | (apply Res.cell; exact rfl; (repeat (first | exact Pick.here | apply Pick.there)); exact rfl) | (apply Res.cellAN; exact rfl; (repeat (first | exact Pick.here | apply Pick.there)); exact rfl; exact rfl) | (apply Res.cellA; exact rfl; (repeat (first | exact Pick.here | apply Pick.there)); exact rfl; exact rfl)); (first | (apply Res.tmp; exact rfl) | (apply Res.cell; exact rfl; (repeat (first | exact Pick.here | apply Pick.there)); exact rfl) | (apply Res.cellAN; exact rfl; (repeat (first | exact Pick.here | apply Pick.there)); exact rfl; exact rfl) | (apply Res.cellA; exact rfl; (repeat (first | exact Pick.here | apply Pick.there)); exact rfl; exact rfl))))
    rename_i d
    exact ⟨diskHP d ⟨z, bs, [], [], 0, 0⟩ :: l, fun w s => Sat.disk.2 ⟨_, cm, pm, Sat.weak (l' := opn d ⟨z, bs, [], [], 0, 0⟩ _ cm pm l) (by repeat (first | exact Weak.refl | (apply Weak.cons; (first | exact Pick.here | exact Pick.there Pick.here | exact Pick.there (Pick.there Pick.here) | exact Pick.there (Pick.there (Pick.there Pick.here)) | exact Pick.there (Pick.there (Pick.there (Pick.there Pick.here))) | exact Pick.there (Pick.there (Pick.there (Pick.there (Pick.there Pick.here)))) | exact Pick.there (Pick.there (Pick.there (Pick.there (Pick.there (Pick.there Pick.here))))) | exact Pick.there (Pick.there (Pick.there (Pick.there (Pick.there (Pick.there (Pick.there Pick.here)))))))) | apply Weak.drop)) w s⟩, d, rfl, rfl⟩
/-- k sectors of z zeroes. -/
def freshN (k z : Nat) : DiskN := ⟨z, List.replicate (k * z) 0, [], [], 0, 0⟩
set_option maxHeartbeats 1000000 in
theorem disk_New (k z : Nat) (h0 : k ≤ 4096) (h1 : 1 ≤ z) (h2 : z ≤ 4096) :
    Fn Tryd.prog σ 20 #[int k, int z] F (fun r l' => ∃ d, r = .tuple #[.pointer (some ⟨d, 0, none⟩), int 0] ∧ l' = diskHP d (freshN k z) :: F) := by
  have hmax : k * z ≤ 16777216 := Nat.mul_le_mul h0 h2
  have hmaxI : (k : Int) * (z : Int) ≤ 16777216 := by rw [← Int.natCast_mul]; omega
  have hminI : 0 ≤ (k : Int) * (z : Int) := by rw [← Int.natCast_mul]; omega
  have hz : List.replicate (k * z) (Value.int .u8 0) = (List.replicate (k * z) (0 : UInt8)).map byte := by simp
  have hd : (k * z) / z = k := Nat.mul_div_cancel _ h1
  refine Fn.of Tryd.func20 rfl Tryd.ntmps20 rfl ?_
  repeat' (first | (apply JO.ru; exact rfl; exact rfl; exact rfl; (first | (apply Ru.move; exact rfl) | (apply Ru.assign; exact rfl) | (apply Ru.lss; exact rfl; exact rfl; (first | exact decT (by omega) | exact decF (by omega))) | (apply Ru.gtr; exact rfl; exact rfl; (first | exact decT (by omega) | exact decF (by omega))) | (apply Ru.mul; exact rfl; exact rfl; (first | exact wrapI (by omega) (by omega) | exact rfl)) | (apply Ru.pickF; exact rfl; exact rfl))) | refine JC.seq ?_ | refine JC.region ?_ | refine JO.nil ?_ | refine JE.thenN ?_ | refine JC.skip ?_ | refine JC.condF rfl ?_ | refine JO.guardT rfl rfl rfl rfl ?_)
  (apply JO.do; exact rfl; exact rfl; exact rfl; (apply Do.makeSlice (k := k * z) (c := k * z); (rw [Int.natCast_mul]; exact rfl); (rw [Int.natCast_mul]; exact rfl); exact Nat.le_refl _; (show k * z * 1 ≤ _; omega); omega); rintro _ _ ⟨a, rfl, rfl⟩)
  rw [hz]
  (apply JO.do; exact rfl; exact rfl; exact rfl; (apply Do.call; exact rfl; exact disk_Open z _ (List.replicate (k * z) 0) h1 h2 (by rw [List.length_replicate]; exact Nat.mul_mod_left _ _) (by rw [List.length_replicate, hd]; exact h0) (by rw [List.length_replicate]; omega) (RdS.arr0 (spare := []) (by rw [List.append_nil]; exact Pick.here) (by simp) (Nat.le_refl _))); rintro _ _ ⟨d, rfl, rfl⟩)
  repeat' (first | (apply JO.ru; exact rfl; exact rfl; exact rfl; (first | (apply Ru.assign; exact rfl) | (apply Ru.extractN; exact rfl; exact rfl))) | refine JO.nil ?_ | refine JE.thenN ?_ | refine JC.ret ?_ | (apply JE.done2; exact rfl; (first | (apply Res.tmp; exact rfl) | (apply Res.cell; exact rfl; (repeat (first | exact Pick.here | apply Pick.there)); exact rfl) | (apply Res.cellAN; exact rfl; (repeat (first | exact Pick.here | apply Pick.there)); exact rfl; exact rfl) | (apply Res.cellA; exact rfl; (repeat (first | exact Pick.here | apply Pick.there)); exact rfl; exact rfl)); (first | (apply Res.tmp; exact rfl) | (apply Res.cell; exact rfl; (repeat (first | exact Pick.here | apply Pick.there)); exact rfl) | (apply Res.cellAN; exact rfl; (repeat (first | exact Pick.here | apply Pick.there)); exact rfl; exact rfl) | (apply Res.cellA; exact rfl; (repeat (first | exact Pick.here | apply Pick.there)); exact rfl; exact rfl))))
  refine ⟨diskHP d (freshN k z) :: F, Sat.weak (by repeat (first | exact Weak.refl | (apply Weak.cons; (first | exact Pick.here | exact Pick.there Pick.here | exact Pick.there (Pick.there Pick.here) | exact Pick.there (Pick.there (Pick.there Pick.here)) | exact Pick.there (Pick.there (Pick.there (Pick.there Pick.here))) | exact Pick.there (Pick.there (Pick.there (Pick.there (Pick.there Pick.here)))) | exact Pick.there (Pick.there (Pick.there (Pick.there (Pick.there (Pick.there Pick.here))))) | exact Pick.there (Pick.there (Pick.there (Pick.there (Pick.there (Pick.there (Pick.there Pick.here)))))))) | apply Weak.drop)), d, rfl, rfl⟩
end Go.Sep
