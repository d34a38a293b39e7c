/- slot: each call, where what it answers is known. -/
import Derived.Test.YtbpilaghemkdjaaDoorSlot8
namespace Go.Sep
open Go Go.Proofs
attribute [local irreducible] JO JC JE JA JQ JB JI Mid Inv Weak ownS Ru Do Fn Sat Pick Take arr pt star ex Holds bodyPost Post Exit.then Exit.inBlock Res
variable {σ : Sig} {F : List HP}
attribute [local irreducible] diskHP cacheHP planHP rowHP
theorem slot_ReadE {d : Nat} {D D' : DiskN} {which e f s er st why sq : Int} {img : List UInt8} (h : readR D which e f s = (er, D', ⟨st, why, sq, img⟩)) (hD : D.WF) (ho : D.ops ≤ 100000000000) [hg : InG F] :
    Fn Tryd.prog σ 11 #[.pointer (some ⟨d, 0, none⟩), int which, geoV e f s] (diskHP d D :: F)
      (fun v l' => ∃ u, v = .tuple #[.agg #[int st, int why, u64 sq, u], int er] ∧ l' = bytesHP u img :: diskHP d D' :: F) := by
  have := slot_Read (σ := σ) (F := F) d D which e f s hD ho
  rw [h] at this; exact this
theorem slot_WipeE {d : Nat} {D D' : DiskN} {which e f s er : Int} (h : wipeR D which e f s = (er, D')) (hD : D.WF) (ho : D.ops ≤ 1000000000000) (hw : D.writes ≤ 1000000000000) [hg : InG F] :
    Fn Tryd.prog σ 14 #[.pointer (some ⟨d, 0, none⟩), int which, geoV e f s] (diskHP d D :: F) (fun v l' => v = int er ∧ l' = diskHP d D' :: F) := by
  have := slot_WipeR (σ := σ) (F := F) d D which e f s hD ho hw
  rw [h] at this; exact this
theorem slot_SealE {d : Nat} {D D' : DiskN} {which e f s q er : Int} {v : Value} {bs : List UInt8} (h : sealR D which e f s q bs = (er, D')) (hq0 : 0 ≤ q) (hbl : bs.length ≤ 100000000) (hD : D.WF) (ho : D.ops ≤ 1000000000000) (hw : D.writes ≤ 1000000000000) {l : List HP} [hg : InG l] (hb : RdS σ l v (bs.map byte)) :
    Fn Tryd.prog σ 12 #[.pointer (some ⟨d, 0, none⟩), int which, geoV e f s, u64 q, v] (diskHP d D :: l) (fun r l' => r = int er ∧ l' = diskHP d D' :: l) := by
  have := slot_SealR (σ := σ) d D which e f s q v bs hq0 hbl hD ho hw hb
  rw [h] at this; exact this
theorem slot_DataE {d : Nat} {D D' : DiskN} {which e f s er : Int} {v : Value} {bs : List UInt8} (h : dataR D which e f s bs = (er, D')) (hbl : bs.length ≤ 100000000) (hD : D.WF) (ho : D.ops ≤ 100000000000) (hw : D.writes ≤ 100000000000) {l : List HP} [hg : InG l] (hb : RdS σ l v (bs.map byte)) :
    Fn Tryd.prog σ 10 #[.pointer (some ⟨d, 0, none⟩), int which, geoV e f s, v] (diskHP d D :: l) (fun r l' => r = int er ∧ l' = diskHP d D' :: l) := by
  have := slot_Data (σ := σ) d D which e f s v bs hbl hD ho hw hb
  rw [h] at this; exact this
end Go.Sep
