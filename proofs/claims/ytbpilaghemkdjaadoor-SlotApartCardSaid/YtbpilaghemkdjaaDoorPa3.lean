/- Part 3: The disk: a sector written; slot: where a slot lies; its two closures; image: cut; slot: a slot's first sector; bytes.Join with nothing between; image: glued; image: glued; slot: a slot's other sectors, read; slot: wiped; head: bytes as numbers; head: laid and read; head: what any bytes are; What is one's own, behind three others; slot: sealed; slot: what its calls answer, as functions of the disk; The shelf's contracts on a map's keys, sorted, at this dump; A map's keys, sorted, as the heap logic has it; The disk: what isn't synced yet; The disk: synced; What lies on a disk, sector by sector: no program in sight. -/
import Derived.Test.YtbpilaghemkdjaaDoorPa2
import Derived.Shelf.SlIterI.Nil
import Derived.Shelf.SortM.Plain
import Derived.Shelf.SortM.SortNone
import Derived.Ground.GgzProg
import Derived.Ground.SlgmProg
set_option linter.all false
/- The disk: a sector written. -/
namespace Go.Sep
open Go Go.Proofs
attribute [local irreducible] JO JC JE JA JQ JB JI Mid Inv Weak ownS Ru Do Fn Sat Pick Take arr pt star ex Holds bodyPost Post Exit.then Exit.inBlock Res
variable {σ : Sig} {F : List HP}
attribute [local irreducible] diskHP cacheHP planHP rowHP
set_option maxHeartbeats 2000000 in
theorem disk_Write (d : Nat) (D : DiskN) (i : Int) (v : Value) (bs : List UInt8) (hD : D.WF) (ho : D.ops ≤ 1000000000000) (hw : D.writes ≤ 1000000000000) (hbl : bs.length ≤ 100000000) {l : List HP} (hb : RdS σ l v (bs.map byte)) :
    Fn Tryd.prog σ 46 #[.pointer (some ⟨d, 0, none⟩), int i, v] (diskHP d D :: l)
      (fun r l' => (D.writeE i bs.length = 0 ∧ r = int 0 ∧ l' = diskHP d (D.put i bs) :: l) ∨ (D.writeE i bs.length ≠ 0 ∧ r = int (D.writeE i bs.length) ∧ l' = diskHP d D.tick :: l)) := by
  refine Fn.disk fun lv cm pm => Fn.bytes (Pick.there Pick.here) fun p c hlv hlc hp => ?_
  subst hlv
  have hsm := hD.small
  have hz := hD.hz
  have hz2 := hD.hz2
  have hcn := hD.cnt
  have ht : D.tick.size = D.size := rfl
  have ht2 : D.tick.writes = D.writes := rfl
  have hcnt : (D.data.length : Int) / (D.size : Int) = D.count := by rw [← Int.natCast_ediv]; rfl
  have hb0 := hb
  obtain ⟨pv, cv, rfl, hcv, hrv⟩ := hb
  have hl : (bs.map byte).length = bs.length := by simp
  rw [hl] at hb0 ⊢
  refine Fn.of Tryd.func46 rfl Tryd.ntmps46 rfl ?_
  by_cases hf : D.failing = true
  · have hE : D.writeE i bs.length = 3 := by unfold DiskN.writeE; rw [if_pos hf]
    rw [hE]
    repeat' (first | (first | (apply JO.ru; exact rfl; exact rfl; exact rfl; (first | (apply Ru.move; exact rfl) | (apply Ru.assign; exact rfl))) | refine JC.seq ?_ | refine JC.region ?_ | refine JO.nil ?_ | refine JE.thenN ?_ | refine JE.thenR ?_ | refine JE.blockR ?_ | refine JC.block ?_ | refine JC.ret ?_ | refine JC.condT rfl ?_ | (apply JE.done1; exact rfl; (first | (apply Res.tmp; exact rfl) | (apply Res.cell; exact rfl; (repeat (first | exact Pick.here | apply Pick.there)); exact rfl) | (apply Res.cellAN; exact rfl; (repeat (first | exact Pick.here | apply Pick.there)); exact rfl; exact rfl) | (apply Res.cellA; exact rfl; (repeat (first | exact Pick.here | apply Pick.there)); exact rfl; exact rfl)))) | ((apply JO.do; exact rfl; exact rfl; exact rfl; (apply Do.call; exact rfl; exact disk_fails d D _ cm pm ho); rintro _ _ ⟨rfl, rfl⟩); rw [hf]))
    exact ⟨_, fun w s => Sat.disk.2 ⟨_, cm, pm, s⟩, .inr ⟨by decide, rfl, rfl⟩⟩
  have hf' : D.failing = false := by simpa using hf
  by_cases h1 : i < 0
  · have hE : D.writeE i bs.length = 2 := by unfold DiskN.writeE; rw [if_neg hf, if_pos h1]
    rw [hE]
    repeat' (first | (first | (apply JO.ru; exact rfl; exact rfl; exact rfl; (first | (apply Ru.move; exact rfl) | (apply Ru.assign; exact rfl) | (apply Ru.lss; exact rfl; exact rfl; (first | exact decT (by omega) | exact decF (by omega))))) | refine JC.seq ?_ | refine JC.region ?_ | refine JO.nil ?_ | refine JE.thenN ?_ | refine JE.thenR ?_ | refine JE.blockR ?_ | refine JC.block ?_ | refine JC.ret ?_ | refine JC.condT rfl ?_ | refine JC.condF rfl ?_ | (apply JE.done1; exact rfl; (first | (apply Res.tmp; exact rfl) | (apply Res.cell; exact rfl; (repeat (first | exact Pick.here | apply Pick.there)); exact rfl) | (apply Res.cellAN; exact rfl; (repeat (first | exact Pick.here | apply Pick.there)); exact rfl; exact rfl) | (apply Res.cellA; exact rfl; (repeat (first | exact Pick.here | apply Pick.there)); exact rfl; exact rfl)))) | ((apply JO.do; exact rfl; exact rfl; exact rfl; (apply Do.call; exact rfl; exact disk_fails d D _ cm pm ho); rintro _ _ ⟨rfl, rfl⟩); rw [hf']))
    all_goals exact ⟨_, fun w s => Sat.disk.2 ⟨_, cm, pm, s⟩, .inr ⟨by decide, rfl, rfl⟩⟩
  by_cases h2 : (D.count : Int) ≤ i
  · have hE : D.writeE i bs.length = 4 := by unfold DiskN.writeE; rw [if_neg hf, if_neg h1, if_pos h2]
    rw [hE]
    repeat' (first | (first | (apply JO.ru; exact rfl; exact rfl; exact rfl; (first | (apply Ru.move; exact rfl) | (apply Ru.assign; exact rfl) | (apply Ru.lss; exact rfl; exact rfl; (first | exact decT (by omega) | exact decF (by omega))) | (apply Ru.geq; exact rfl; exact rfl; (first | exact decT (by omega) | exact decF (by omega))))) | refine JC.seq ?_ | refine JC.region ?_ | refine JO.nil ?_ | refine JE.thenN ?_ | refine JE.thenR ?_ | refine JE.blockR ?_ | refine JC.block ?_ | refine JC.ret ?_ | refine JC.condT rfl ?_ | refine JC.condF rfl ?_ | (apply JE.done1; exact rfl; (first | (apply Res.tmp; exact rfl) | (apply Res.cell; exact rfl; (repeat (first | exact Pick.here | apply Pick.there)); exact rfl) | (apply Res.cellAN; exact rfl; (repeat (first | exact Pick.here | apply Pick.there)); exact rfl; exact rfl) | (apply Res.cellA; exact rfl; (repeat (first | exact Pick.here | apply Pick.there)); exact rfl; exact rfl)))) | ((apply JO.do; exact rfl; exact rfl; exact rfl; (apply Do.call; exact rfl; exact disk_fails d D _ cm pm ho); rintro _ _ ⟨rfl, rfl⟩); rw [hf']) | (apply JO.do; exact rfl; exact rfl; exact rfl; (apply Do.call; exact rfl; exact disk_Sectors d D.size p D.data.length c _ _ _ _ hz (by omega) Pick.here); rintro _ _ ⟨rfl, hq⟩; obtain rfl := hq.symm))
    all_goals exact ⟨_, fun w s => Sat.disk.2 ⟨_, cm, pm, s⟩, .inr ⟨by decide, rfl, rfl⟩⟩
  by_cases h3 : bs.length ≠ D.size
  · have hE : D.writeE i bs.length = 1 := by unfold DiskN.writeE; rw [if_neg hf, if_neg h1, if_neg h2, if_pos h3]
    rw [hE]
    repeat' (first | (first | (apply JO.ru; exact rfl; exact rfl; exact rfl; (first | (apply Ru.move; exact rfl) | (apply Ru.loadN; exact rfl; (repeat (first | exact Pick.here | apply Pick.there)); exact rfl) | (apply Ru.fieldAddr; exact rfl) | (apply Ru.nilP; exact rfl) | (apply Ru.assign; exact rfl) | (apply Ru.lenS; exact rfl) | (apply Ru.lss; exact rfl; exact rfl; (first | exact decT (by omega) | exact decF (by omega))) | (apply Ru.geq; exact rfl; exact rfl; (first | exact decT (by omega) | exact decF (by omega))) | (apply Ru.neq; exact rfl; exact rfl; (first | exact ndecF (by omega) | exact ndecT (by omega))))) | refine JC.seq ?_ | refine JC.region ?_ | refine JO.nil ?_ | refine JE.thenN ?_ | refine JE.thenR ?_ | refine JE.blockR ?_ | refine JC.block ?_ | refine JC.ret ?_ | refine JC.condT rfl ?_ | refine JC.condF rfl ?_ | (apply JE.done1; exact rfl; (first | (apply Res.tmp; exact rfl) | (apply Res.cell; exact rfl; (repeat (first | exact Pick.here | apply Pick.there)); exact rfl) | (apply Res.cellAN; exact rfl; (repeat (first | exact Pick.here | apply Pick.there)); exact rfl; exact rfl) | (apply Res.cellA; exact rfl; (repeat (first | exact Pick.here | apply Pick.there)); exact rfl; exact rfl)))) | ((apply JO.do; exact rfl; exact rfl; exact rfl; (apply Do.call; exact rfl; exact disk_fails d D _ cm pm ho); rintro _ _ ⟨rfl, rfl⟩); rw [hf']) | (apply JO.do; exact rfl; exact rfl; exact rfl; (apply Do.call; exact rfl; exact disk_Sectors d D.size p D.data.length c _ _ _ _ hz (by omega) Pick.here); rintro _ _ ⟨rfl, hq⟩; obtain rfl := hq.symm))
    all_goals exact ⟨_, fun w s => Sat.disk.2 ⟨_, cm, pm, s⟩, .inr ⟨by decide, rfl, rfl⟩⟩
  have h3' : bs.length = D.size := by omega
  have hE : D.writeE i bs.length = 0 := by unfold DiskN.writeE; rw [if_neg hf, if_neg h1, if_neg h2, if_neg h3]
  rw [hE]
  repeat' (first | (first | (apply JO.ru; exact rfl; exact rfl; exact rfl; (first | (apply Ru.move; exact rfl) | (apply Ru.loadN; exact rfl; (repeat (first | exact Pick.here | apply Pick.there)); exact rfl) | (apply Ru.fieldAddr; exact rfl) | (apply Ru.nilP; exact rfl) | (apply Ru.assign; exact rfl) | (apply Ru.lenS; exact rfl) | (apply Ru.lss; exact rfl; exact rfl; (first | exact decT (by omega) | exact decF (by omega))) | (apply Ru.geq; exact rfl; exact rfl; (first | exact decT (by omega) | exact decF (by omega))) | (apply Ru.neq; exact rfl; exact rfl; (first | exact ndecF (by omega) | exact ndecT (by omega))))) | refine JC.seq ?_ | refine JC.region ?_ | refine JO.nil ?_ | refine JE.thenN ?_ | refine JE.blockN ?_ | refine JC.block ?_ | refine JC.skip ?_ | refine JC.condF rfl ?_) | ((apply JO.do; exact rfl; exact rfl; exact rfl; (apply Do.call; exact rfl; exact disk_fails d D _ cm pm ho); rintro _ _ ⟨rfl, rfl⟩); rw [hf']) | (apply JO.do; exact rfl; exact rfl; exact rfl; (apply Do.call; exact rfl; exact disk_Sectors d D.size p D.data.length c _ _ _ _ hz (by omega) Pick.here); rintro _ _ ⟨rfl, hq⟩; obtain rfl := hq.symm))
  refine JC.cache (Pick.there (Pick.there Pick.here)) fun R hR => ?_
  refine JC.regionB (arr d 79 (diskCells D.tick (.slice p D.data.length c) cm pm) :: bytesHP (.slice p D.data.length c) D.tick.data :: planHP pm D.tick.planned :: l) mixed ?_
  repeat' ((apply JB.ru; exact rfl; exact rfl; exact rfl; exact rfl; (first | (apply Ru.move; exact rfl) | (apply Ru.loadN; exact rfl; (repeat (first | exact Pick.here | apply Pick.there)); exact rfl) | (apply Ru.fieldAddr; exact rfl) | (apply Ru.nilP; exact rfl)); decide +kernel; decide +kernel; (first | exact fun _ h => h | exact fun _ h => Sat.drop h | exact fun _ h => Sat.drop (Sat.drop h) | exact fun _ h => Sat.drop (Sat.drop (Sat.drop h)) | exact fun _ h => Sat.drop (Sat.drop (Sat.drop (Sat.drop h)))); (simp only [Nat.reduceAdd, Nat.reducePow, Nat.reduceMul, Nat.zero_or, Nat.or_zero, Nat.reduceXor, Nat.reduceOr]; try exact rfl)))
  refine JB.one 6 (by decide +kernel) ?_
  (apply JI.do; exact rfl; exact rfl; exact rfl; exact rfl; (apply Do.call; exact rfl; exact slices_Clone _ (bs.map byte) (byteOne _) (by rw [hl]; omega) hb0.cons.cons.cons.cons.cons); (simp only [Nat.reduceAdd, Nat.reducePow, Nat.reduceMul, Nat.zero_or, Nat.or_zero, Nat.reduceXor, Nat.reduceOr]; try exact rfl); rintro u _ ⟨rfl, _⟩; refine ⟨fun _ s => s.drop.drop.drop, ?_⟩)
  rw [bytesHP_map]
  refine JB.one 7 (by decide +kernel) ?_
  (apply JI.do0; exact rfl; exact rfl; exact rfl; (apply Do.mapUpdateI; exact rfl; exact rfl; exact rfl; exact Pick.there Pick.here; omega); (simp only [Nat.reduceAdd, Nat.reducePow, Nat.reduceMul, Nat.zero_or, Nat.or_zero, Nat.reduceXor, Nat.reduceOr]; try exact rfl); rintro _ _ ⟨rfl, rfl⟩; refine ⟨fun _ s => s.drop.drop.drop, ?_⟩)
  repeat' ((apply JB.nil; exact rfl))
  repeat' (first | (apply JO.ru; exact rfl; exact rfl; exact rfl; (first | (apply Ru.move; exact rfl) | (apply Ru.loadN; exact rfl; (repeat (first | exact Pick.here | apply Pick.there)); exact rfl) | (apply Ru.fieldAddr; exact rfl) | (apply Ru.nilP; exact rfl) | (apply Ru.assign; exact rfl) | (apply Ru.add; exact rfl; exact rfl; (first | exact wrapI (by omega) (by omega) | exact rfl)))) | refine JC.seq ?_ | refine JC.region ?_ | refine JO.nil ?_ | refine JE.thenN ?_ | refine JC.ret ?_ | (apply JO.do0; exact rfl; exact rfl; (first | (apply Do.storeN; exact rfl; exact rfl; exact rfl; (repeat (first | exact Pick.here | apply Pick.there)); exact rfl; exact rfl) | (apply Do.store; exact rfl; exact rfl; exact rfl; (repeat (first | exact Pick.here | apply Pick.there)); exact rfl)); rintro _ _ ⟨rfl, rfl⟩) | (apply JE.done1; exact rfl; (first | (apply Res.tmp; exact rfl) | (apply Res.cell; exact rfl; (repeat (first | exact Pick.here | apply Pick.there)); exact rfl) | (apply Res.cellAN; exact rfl; (repeat (first | exact Pick.here | apply Pick.there)); exact rfl; exact rfl) | (apply Res.cellA; exact rfl; (repeat (first | exact Pick.here | apply Pick.there)); exact rfl; exact rfl))))
  have em : updI (R.map fun (p : Int × Value × List UInt8) => (p.1, p.2.1)) i u = (updI R i (u, bs)).map fun p => (p.1, p.2.1) := updI_map (·.1) R i (u, bs)
  have ec : (D.put i bs).cached = (updI R i (u, bs)).map fun p => (p.1, p.2.2) := by
    show updI D.cached i bs = _
    have e : D.cached = R.map fun p => (p.1, p.2.2) := hR
    rw [e]; exact updI_map (·.2) R i (u, bs)
  rw [em]
  refine ⟨diskHP d (D.put i bs) :: l, fun w s => ?_, .inl ⟨rfl, rfl, rfl⟩⟩
  have s1 := Sat.weak (l' := bytesHP u bs :: star (R.map rowHP) :: arr d 79 (diskCells (D.put i bs) (.slice p D.data.length c) cm pm) :: mapI cm ((updI R i (u, bs)).map fun p => (p.1, p.2.1)) :: bytesHP (.slice p D.data.length c) D.data :: planHP pm D.planned :: l) (by repeat (first | exact Weak.refl | (apply Weak.cons; (first | exact Pick.here | exact Pick.there Pick.here | exact Pick.there (Pick.there Pick.here) | exact Pick.there (Pick.there (Pick.there Pick.here)) | exact Pick.there (Pick.there (Pick.there (Pick.there Pick.here))) | exact Pick.there (Pick.there (Pick.there (Pick.there (Pick.there Pick.here)))) | exact Pick.there (Pick.there (Pick.there (Pick.there (Pick.there (Pick.there Pick.here))))) | exact Pick.there (Pick.there (Pick.there (Pick.there (Pick.there (Pick.there (Pick.there Pick.here)))))))) | apply Weak.drop)) w s
  exact Sat.close ec (Sat.weak (l' := opn2 d (D.put i bs) (.slice p D.data.length c) cm pm (updI R i (u, bs)) l) (by repeat (first | exact Weak.refl | (apply Weak.cons; (first | exact Pick.here | exact Pick.there Pick.here | exact Pick.there (Pick.there Pick.here) | exact Pick.there (Pick.there (Pick.there Pick.here)) | exact Pick.there (Pick.there (Pick.there (Pick.there Pick.here))) | exact Pick.there (Pick.there (Pick.there (Pick.there (Pick.there Pick.here)))) | exact Pick.there (Pick.there (Pick.there (Pick.there (Pick.there (Pick.there Pick.here))))) | exact Pick.there (Pick.there (Pick.there (Pick.there (Pick.there (Pick.there (Pick.there Pick.here)))))))) | apply Weak.drop)) w (Sat.updRows s1))

theorem disk_Fail (d : Nat) (D : DiskN) (k : Int) (hk : -9223372036854775808 ≤ k ∧ k ≤ 9223372036854775807) :
    Fn Tryd.prog σ 17 #[.pointer (some ⟨d, 0, none⟩), int k] (diskHP d D :: F) (fun v l' => v = .tuple #[] ∧ l' = diskHP d (D.plan k) :: F) := by
  refine Fn.disk fun lv cm pm => ?_
  refine Fn.of Tryd.func17 rfl Tryd.ntmps17 rfl ?_
  repeat' (first | (apply JO.ru; exact rfl; exact rfl; exact rfl; (first | (apply Ru.move; exact rfl) | (apply Ru.loadN; exact rfl; (repeat (first | exact Pick.here | apply Pick.there)); exact rfl) | (apply Ru.fieldAddr; exact rfl) | (apply Ru.nilP; exact rfl) | (apply Ru.buildN; exact rfl; exact rfl))) | refine JC.region ?_)
  (apply JO.do0; exact rfl; exact rfl; (apply Do.planUpdate; exact rfl; exact rfl; exact rfl; exact Pick.there (Pick.there (Pick.there Pick.here)); exact hk); rintro _ _ ⟨rfl, rfl⟩)
  repeat' (refine JO.nil ?_)
  refine JE.done0N rfl ?_
  refine ⟨diskHP d (D.plan k) :: F, fun w s => Sat.disk.2 ⟨lv, cm, pm, Sat.weak (l' := opn d (D.plan k) lv cm pm F) (by repeat (first | exact Weak.refl | (apply Weak.cons; (first | exact Pick.here | exact Pick.there Pick.here | exact Pick.there (Pick.there Pick.here) | exact Pick.there (Pick.there (Pick.there Pick.here)) | exact Pick.there (Pick.there (Pick.there (Pick.there Pick.here))) | exact Pick.there (Pick.there (Pick.there (Pick.there (Pick.there Pick.here)))) | exact Pick.there (Pick.there (Pick.there (Pick.there (Pick.there (Pick.there Pick.here))))) | exact Pick.there (Pick.there (Pick.there (Pick.there (Pick.there (Pick.there (Pick.there Pick.here)))))))) | apply Weak.drop)) w s⟩, rfl, rfl⟩
end Go.Sep
/- slot: where a slot lies; its two closures. -/
namespace Go.Sep
open Go Go.Proofs
attribute [local irreducible] JO JC JE JA JQ JB JI Mid Inv Weak ownS Ru Do Fn Sat Pick Take arr pt star ex Holds bodyPost Post Exit.then Exit.inBlock Res
variable {σ : Sig} {F : List HP}
attribute [local irreducible] diskHP cacheHP planHP rowHP
theorem disk_SizeC (d : Nat) (D : DiskN) {l r : List HP} (hp : Pick (diskHP d D) l r) : Fn Tryd.prog σ 41 #[.pointer (some ⟨d, 0, none⟩)] l (fun v l' => v = int D.size ∧ l' = l) :=
  Fn.diskQ hp fun _ _ _ _ _ => disk_Size d D.size _ _ _ _ _ Pick.here
theorem disk_OpsC (d : Nat) (D : DiskN) {l r : List HP} (hp : Pick (diskHP d D) l r) : Fn Tryd.prog σ 18 #[.pointer (some ⟨d, 0, none⟩)] l (fun v l' => v = int D.ops ∧ l' = l) :=
  Fn.diskQ hp fun _ _ _ _ _ => disk_Ops d D.ops _ _ _ _ _ Pick.here
theorem disk_SectorsC (d : Nat) (D : DiskN) (hD : D.WF) {l r : List HP} (hp : Pick (diskHP d D) l r) : Fn Tryd.prog σ 42 #[.pointer (some ⟨d, 0, none⟩)] l (fun v l' => v = int D.count ∧ l' = l) :=
  Fn.diskQ hp fun p c _ _ _ => disk_Sectors d D.size p D.data.length c _ _ _ _ hD.hz (by have := hD.small; omega) Pick.here

/-- A slot's place: the disk, and what the two closures hold. -/
abbrev slotL (d : Nat) (D : DiskN) (db fb : Nat) (first : Int) (F : List HP) : List HP := diskHP d D :: arr db 29 [.pointer (some ⟨d, 0, none⟩)] :: arr fb 3 [int first] :: F
abbrev rdV (db fb : Nat) : Value := .func (.func 43) #[] #[.pointer (some ⟨db, 0, none⟩), .pointer (some ⟨fb, 0, none⟩)]
abbrev wrV (db fb : Nat) : Value := .func (.func 45) #[] #[.pointer (some ⟨db, 0, none⟩), .pointer (some ⟨fb, 0, none⟩)]
abbrev placeV (many size : Int) (db fb : Nat) : Value := .agg #[int many, int size, rdV db fb, wrV db fb]
def atE (D : DiskN) (which e f s : Int) : Int :=
  if rightG e f s = false then 9 else if which < 0 ∨ 2 ≤ which ∨ D.size < 32 then 1 else if (D.count : Int) < 2 * spanG D.size e f s then 4 else 0
set_option maxHeartbeats 4000000 in
theorem slot_at (d : Nat) (D : DiskN) (which e f s : Int) (hD : D.WF) [hg : InG F] :
    Fn Tryd.prog σ 26 #[.pointer (some ⟨d, 0, none⟩), int which, geoV e f s] (diskHP d D :: F)
      (fun v l' => (atE D which e f s = 0 ∧ ∃ db fb, v = .tuple #[placeV (spanG D.size e f s - 1) D.size db fb, int 0] ∧ l' = slotL d D db fb (which * spanG D.size e f s) F) ∨
        (atE D which e f s ≠ 0 ∧ v = .tuple #[.agg #[int 0, int 0, .nilFunc, .nilFunc], int (atE D which e f s)] ∧ l' = diskHP d D :: F)) := by
  have hz2 := hD.hz2
  have hcn := hD.cnt
  have hsp := spanG_bd D.size e f s
  refine Fn.of Tryd.func26 rfl Tryd.ntmps26 rfl ?_
  by_cases h1 : rightG e f s = true
  case neg =>
    have h1' : rightG e f s = false := by simpa using h1
    have hE : atE D which e f s = 9 := by unfold atE; rw [if_pos h1']
    rw [hE]
    repeat' (first | (first | (apply JO.ru; exact rfl; exact rfl; exact rfl; (first | (apply Ru.assign; exact rfl) | (apply Ru.not; exact rfl) | (apply Ru.loadAN; exact rfl; (repeat (first | exact Pick.here | apply Pick.there)); exact rfl; exact rfl) | (apply Ru.buildN; exact rfl; exact rfl))) | refine JC.seq ?_ | refine JC.region ?_ | refine JO.nil ?_ | refine JE.thenN ?_ | refine JE.thenR ?_ | refine JE.blockR ?_ | refine JC.block ?_ | refine JC.ret ?_ | refine JC.condT rfl ?_ | (apply JO.do; exact rfl; exact rfl; exact rfl; (first | (apply Do.allocN; exact rfl) | apply Do.alloc); rintro _ _ ⟨_, rfl, rfl⟩) | (apply JO.do; exact rfl; exact rfl; exact rfl; (first | (apply Do.boxN; exact rfl; exact rfl) | (apply Do.box; exact rfl)); rintro _ _ ⟨_, rfl, rfl⟩) | (apply JO.do0; exact rfl; exact rfl; (first | (apply Do.storeAN; exact rfl; exact rfl; (repeat (first | exact Pick.here | apply Pick.there)); exact rfl; exact rfl; exact rfl; exact rfl) | (apply Do.storeA; exact rfl; exact rfl; (repeat (first | exact Pick.here | apply Pick.there)); exact rfl; exact rfl; exact rfl)); rintro _ _ ⟨rfl, rfl⟩) | (apply JE.done2; exact rfl; (first | (apply Res.tmp; exact rfl) | (apply Res.cell; exact rfl; (repeat (first | exact Pick.here | apply Pick.there)); exact rfl) | (apply Res.cellAN; exact rfl; (repeat (first | exact Pick.here | apply Pick.there)); exact rfl; exact rfl) | (apply Res.cellA; exact rfl; (repeat (first | exact Pick.here | apply Pick.there)); exact rfl; exact rfl)); (first | (apply Res.tmp; exact rfl) | (apply Res.cell; exact rfl; (repeat (first | exact Pick.here | apply Pick.there)); exact rfl) | (apply Res.cellAN; exact rfl; (repeat (first | exact Pick.here | apply Pick.there)); exact rfl; exact rfl) | (apply Res.cellA; exact rfl; (repeat (first | exact Pick.here | apply Pick.there)); exact rfl; exact rfl)))) | ((first | (apply JO.do; exact rfl; exact rfl; exact rfl; (apply Do.call; exact rfl; exact geo_Right _ _ _); rintro _ _ ⟨rfl, hq⟩; obtain rfl := hq.symm) | (apply JQ.call; exact rfl; exact rfl; exact rfl; exact geo_Right _ _ _; (rintro _ _ ⟨rfl, rfl⟩; exact ⟨rfl, rfl⟩))); rw [h1']))
    refine finW (l' := diskHP d D :: F) ?_ (by repeat (first | exact Weak.refl | (apply Weak.cons; (first | exact Pick.here | exact Pick.there Pick.here | exact Pick.there (Pick.there Pick.here) | exact Pick.there (Pick.there (Pick.there Pick.here)) | exact Pick.there (Pick.there (Pick.there (Pick.there Pick.here))) | exact Pick.there (Pick.there (Pick.there (Pick.there (Pick.there Pick.here)))) | exact Pick.there (Pick.there (Pick.there (Pick.there (Pick.there (Pick.there Pick.here))))) | exact Pick.there (Pick.there (Pick.there (Pick.there (Pick.there (Pick.there (Pick.there Pick.here)))))))) | apply Weak.drop))
    exact .inr ⟨by decide, rfl, rfl⟩
  by_cases h2 : which < 0 ∨ 2 ≤ which ∨ D.size < 32
  · have hE : atE D which e f s = 1 := by unfold atE; rw [if_neg (by simp [h1]), if_pos h2]
    rw [hE]
    repeat' (first | (first | (apply JO.ru; exact rfl; exact rfl; exact rfl; (first | (apply Ru.move; exact rfl) | (apply Ru.loadN; exact rfl; (repeat (first | exact Pick.here | apply Pick.there)); exact rfl) | (apply Ru.assign; exact rfl) | (apply Ru.lss; exact rfl; exact rfl; (first | exact decT (by omega) | exact decF (by omega))) | (apply Ru.pickT; exact rfl; exact rfl) | (apply Ru.pickF; exact rfl; exact rfl) | (apply Ru.not; exact rfl) | (apply Ru.loadAN; exact rfl; (repeat (first | exact Pick.here | apply Pick.there)); exact rfl; exact rfl) | (apply Ru.buildN; exact rfl; exact rfl))) | refine JC.seq ?_ | refine JC.region ?_ | refine JO.nil ?_ | refine JE.thenN ?_ | refine JE.thenR ?_ | refine JE.blockR ?_ | refine JC.block ?_ | refine JC.ret ?_ | refine JC.condT rfl ?_ | refine JC.condF rfl ?_ | (apply JO.split; exact rfl; exact rfl; exact rfl; (first | (apply Ru.lss; exact rfl; exact rfl; exact rfl) | (apply Ru.geq; exact rfl; exact rfl; exact rfl)); all_goals intro _) | refine JO.guardF rfl rfl rfl rfl rfl rfl rfl ?_ | refine JO.guardT rfl rfl rfl rfl ?_ | (apply JO.do; exact rfl; exact rfl; exact rfl; (first | (apply Do.allocN; exact rfl) | apply Do.alloc); rintro _ _ ⟨_, rfl, rfl⟩) | (apply JO.do; exact rfl; exact rfl; exact rfl; (first | (apply Do.boxN; exact rfl; exact rfl) | (apply Do.box; exact rfl)); rintro _ _ ⟨_, rfl, rfl⟩) | (apply JO.do0; exact rfl; exact rfl; (first | (apply Do.storeAN; exact rfl; exact rfl; (repeat (first | exact Pick.here | apply Pick.there)); exact rfl; exact rfl; exact rfl; exact rfl) | (apply Do.storeA; exact rfl; exact rfl; (repeat (first | exact Pick.here | apply Pick.there)); exact rfl; exact rfl; exact rfl)); rintro _ _ ⟨rfl, rfl⟩) | (apply JE.done2; exact rfl; (first | (apply Res.tmp; exact rfl) | (apply Res.cell; exact rfl; (repeat (first | exact Pick.here | apply Pick.there)); exact rfl) | (apply Res.cellAN; exact rfl; (repeat (first | exact Pick.here | apply Pick.there)); exact rfl; exact rfl) | (apply Res.cellA; exact rfl; (repeat (first | exact Pick.here | apply Pick.there)); exact rfl; exact rfl)); (first | (apply Res.tmp; exact rfl) | (apply Res.cell; exact rfl; (repeat (first | exact Pick.here | apply Pick.there)); exact rfl) | (apply Res.cellAN; exact rfl; (repeat (first | exact Pick.here | apply Pick.there)); exact rfl; exact rfl) | (apply Res.cellA; exact rfl; (repeat (first | exact Pick.here | apply Pick.there)); exact rfl; exact rfl)))) | ((first | (apply JO.do; exact rfl; exact rfl; exact rfl; (apply Do.call; exact rfl; exact geo_Right _ _ _); rintro _ _ ⟨rfl, hq⟩; obtain rfl := hq.symm) | (apply JQ.call; exact rfl; exact rfl; exact rfl; exact geo_Right _ _ _; (rintro _ _ ⟨rfl, rfl⟩; exact ⟨rfl, rfl⟩))); rw [h1]) | (first | (apply JO.do; exact rfl; exact rfl; exact rfl; (apply Do.call; exact rfl; exact disk_SizeC d D (by repeat (first | exact Pick.here | apply Pick.there))); rintro _ _ ⟨rfl, hq⟩; obtain rfl := hq.symm) | (apply JQ.call; exact rfl; exact rfl; exact rfl; exact disk_SizeC d D (by repeat (first | exact Pick.here | apply Pick.there)); (rintro _ _ ⟨rfl, rfl⟩; exact ⟨rfl, rfl⟩))))
    all_goals refine finW (l' := diskHP d D :: F) ?_ (by repeat (first | exact Weak.refl | (apply Weak.cons; (first | exact Pick.here | exact Pick.there Pick.here | exact Pick.there (Pick.there Pick.here) | exact Pick.there (Pick.there (Pick.there Pick.here)) | exact Pick.there (Pick.there (Pick.there (Pick.there Pick.here))) | exact Pick.there (Pick.there (Pick.there (Pick.there (Pick.there Pick.here)))) | exact Pick.there (Pick.there (Pick.there (Pick.there (Pick.there (Pick.there Pick.here))))) | exact Pick.there (Pick.there (Pick.there (Pick.there (Pick.there (Pick.there (Pick.there Pick.here)))))))) | apply Weak.drop))
    all_goals exact .inr ⟨by decide, rfl, rfl⟩
  by_cases h3 : (D.count : Int) < 2 * spanG D.size e f s
  · have hE : atE D which e f s = 4 := by unfold atE; rw [if_neg (by simp [h1]), if_neg h2, if_pos h3]
    rw [hE]
    repeat' (first | (first | (apply JO.ru; exact rfl; exact rfl; exact rfl; (first | (apply Ru.move; exact rfl) | (apply Ru.loadN; exact rfl; (repeat (first | exact Pick.here | apply Pick.there)); exact rfl) | (apply Ru.assign; exact rfl) | (apply Ru.lss; exact rfl; exact rfl; (first | exact decT (by omega) | exact decF (by omega))) | (apply Ru.geq; exact rfl; exact rfl; (first | exact decT (by omega) | exact decF (by omega))) | (apply Ru.pickF; exact rfl; exact rfl) | (apply Ru.not; exact rfl) | (apply Ru.loadAN; exact rfl; (repeat (first | exact Pick.here | apply Pick.there)); exact rfl; exact rfl) | (apply Ru.buildN; exact rfl; exact rfl))) | refine JC.seq ?_ | refine JC.region ?_ | refine JO.nil ?_ | refine JE.thenN ?_ | refine JE.thenR ?_ | refine JE.blockR ?_ | refine JC.block ?_ | refine JC.ret ?_ | refine JC.condT rfl ?_ | refine JC.condF rfl ?_ | (apply JQ.ru; exact rfl; exact rfl; exact rfl; (first | (apply Ru.loadN; exact rfl; (repeat (first | exact Pick.here | apply Pick.there)); exact rfl) | (apply Ru.assign; exact rfl) | (apply Ru.lss; exact rfl; exact rfl; (first | exact decT (by omega) | exact decF (by omega))) | (apply Ru.loadAN; exact rfl; (repeat (first | exact Pick.here | apply Pick.there)); exact rfl; exact rfl))) | refine JO.guardT rfl rfl rfl rfl ?_ | refine JQ.nil ?_ | (apply JO.do; exact rfl; exact rfl; exact rfl; (first | (apply Do.allocN; exact rfl) | apply Do.alloc); rintro _ _ ⟨_, rfl, rfl⟩) | (apply JO.do; exact rfl; exact rfl; exact rfl; (first | (apply Do.boxN; exact rfl; exact rfl) | (apply Do.box; exact rfl)); rintro _ _ ⟨_, rfl, rfl⟩) | (apply JO.do0; exact rfl; exact rfl; (first | (apply Do.storeAN; exact rfl; exact rfl; (repeat (first | exact Pick.here | apply Pick.there)); exact rfl; exact rfl; exact rfl; exact rfl) | (apply Do.storeA; exact rfl; exact rfl; (repeat (first | exact Pick.here | apply Pick.there)); exact rfl; exact rfl; exact rfl)); rintro _ _ ⟨rfl, rfl⟩) | refine JC.regionQ mixed (by decide +kernel) ?_ | (apply JE.done2; exact rfl; (first | (apply Res.tmp; exact rfl) | (apply Res.cell; exact rfl; (repeat (first | exact Pick.here | apply Pick.there)); exact rfl) | (apply Res.cellAN; exact rfl; (repeat (first | exact Pick.here | apply Pick.there)); exact rfl; exact rfl) | (apply Res.cellA; exact rfl; (repeat (first | exact Pick.here | apply Pick.there)); exact rfl; exact rfl)); (first | (apply Res.tmp; exact rfl) | (apply Res.cell; exact rfl; (repeat (first | exact Pick.here | apply Pick.there)); exact rfl) | (apply Res.cellAN; exact rfl; (repeat (first | exact Pick.here | apply Pick.there)); exact rfl; exact rfl) | (apply Res.cellA; exact rfl; (repeat (first | exact Pick.here | apply Pick.there)); exact rfl; exact rfl)))) | ((first | (apply JO.do; exact rfl; exact rfl; exact rfl; (apply Do.call; exact rfl; exact geo_Right _ _ _); rintro _ _ ⟨rfl, hq⟩; obtain rfl := hq.symm) | (apply JQ.call; exact rfl; exact rfl; exact rfl; exact geo_Right _ _ _; (rintro _ _ ⟨rfl, rfl⟩; exact ⟨rfl, rfl⟩))); rw [h1]) | (first | (apply JO.do; exact rfl; exact rfl; exact rfl; (apply Do.call; exact rfl; exact disk_SizeC d D (by repeat (first | exact Pick.here | apply Pick.there))); rintro _ _ ⟨rfl, hq⟩; obtain rfl := hq.symm) | (apply JQ.call; exact rfl; exact rfl; exact rfl; exact disk_SizeC d D (by repeat (first | exact Pick.here | apply Pick.there)); (rintro _ _ ⟨rfl, rfl⟩; exact ⟨rfl, rfl⟩))) | (first | (apply JO.do; exact rfl; exact rfl; exact rfl; (apply Do.call; exact rfl; exact disk_SectorsC d D hD (by repeat (first | exact Pick.here | apply Pick.there))); rintro _ _ ⟨rfl, hq⟩; obtain rfl := hq.symm) | (apply JQ.call; exact rfl; exact rfl; exact rfl; exact disk_SectorsC d D hD (by repeat (first | exact Pick.here | apply Pick.there)); (rintro _ _ ⟨rfl, rfl⟩; exact ⟨rfl, rfl⟩))) | (first | (apply JO.do; exact rfl; exact rfl; exact rfl; (apply Do.call; exact rfl; exact slot_Room _ _ _ _); rintro _ _ ⟨rfl, hq⟩; obtain rfl := hq.symm) | (apply JQ.call; exact rfl; exact rfl; exact rfl; exact slot_Room _ _ _ _; (rintro _ _ ⟨rfl, rfl⟩; exact ⟨rfl, rfl⟩))))
    all_goals refine finW (l' := diskHP d D :: F) ?_ (by repeat (first | exact Weak.refl | (apply Weak.cons; (first | exact Pick.here | exact Pick.there Pick.here | exact Pick.there (Pick.there Pick.here) | exact Pick.there (Pick.there (Pick.there Pick.here)) | exact Pick.there (Pick.there (Pick.there (Pick.there Pick.here))) | exact Pick.there (Pick.there (Pick.there (Pick.there (Pick.there Pick.here)))) | exact Pick.there (Pick.there (Pick.there (Pick.there (Pick.there (Pick.there Pick.here))))) | exact Pick.there (Pick.there (Pick.there (Pick.there (Pick.there (Pick.there (Pick.there Pick.here)))))))) | apply Weak.drop))
    all_goals exact .inr ⟨by decide, rfl, rfl⟩
  · have hE : atE D which e f s = 0 := by unfold atE; rw [if_neg (by simp [h1]), if_neg h2, if_neg h3]
    rw [hE]
    have hw : which = 0 ∨ which = 1 := by omega
    rcases hw with rfl | rfl
    all_goals
      repeat' (first | (first | (apply JO.ru; exact rfl; exact rfl; exact rfl; (first | (apply Ru.move; exact rfl) | (apply Ru.loadN; exact rfl; (repeat (first | exact Pick.here | apply Pick.there)); exact rfl) | (apply Ru.assign; exact rfl) | (apply Ru.lss; exact rfl; exact rfl; (first | exact decT (by omega) | exact decF (by omega))) | (apply Ru.geq; exact rfl; exact rfl; (first | exact decT (by omega) | exact decF (by omega))) | (apply Ru.sub; exact rfl; exact rfl; (first | exact wrapI (by omega) (by omega) | exact rfl)) | (apply Ru.mul; exact rfl; exact rfl; (first | exact wrapI (by omega) (by omega) | exact rfl)) | (apply Ru.pickF; exact rfl; exact rfl) | (apply Ru.not; exact rfl) | (apply Ru.loadAN; exact rfl; (repeat (first | exact Pick.here | apply Pick.there)); exact rfl; exact rfl) | (apply Ru.buildN; exact rfl; exact rfl) | (apply Ru.makeFunc; exact rfl; exact rfl))) | refine JC.seq ?_ | refine JC.region ?_ | refine JO.nil ?_ | refine JE.thenN ?_ | refine JE.blockN ?_ | refine JC.block ?_ | refine JC.ret ?_ | refine JC.skip ?_ | refine JC.condF rfl ?_ | (apply JQ.ru; exact rfl; exact rfl; exact rfl; (first | (apply Ru.loadN; exact rfl; (repeat (first | exact Pick.here | apply Pick.there)); exact rfl) | (apply Ru.assign; exact rfl) | (apply Ru.lss; exact rfl; exact rfl; (first | exact decT (by omega) | exact decF (by omega))) | (apply Ru.loadAN; exact rfl; (repeat (first | exact Pick.here | apply Pick.there)); exact rfl; exact rfl))) | refine JO.guardT rfl rfl rfl rfl ?_ | refine JQ.nil ?_ | (apply JO.do; exact rfl; exact rfl; exact rfl; (first | (apply Do.allocN; exact rfl) | apply Do.alloc); rintro _ _ ⟨_, rfl, rfl⟩) | (apply JO.do; exact rfl; exact rfl; exact rfl; (first | (apply Do.boxN; exact rfl; exact rfl) | (apply Do.box; exact rfl)); rintro _ _ ⟨_, rfl, rfl⟩) | (apply JO.do0; exact rfl; exact rfl; (first | (apply Do.storeN; exact rfl; exact rfl; exact rfl; (repeat (first | exact Pick.here | apply Pick.there)); exact rfl; exact rfl) | (apply Do.store; exact rfl; exact rfl; exact rfl; (repeat (first | exact Pick.here | apply Pick.there)); exact rfl)); rintro _ _ ⟨rfl, rfl⟩) | (apply JO.do0; exact rfl; exact rfl; (first | (apply Do.storeAN; exact rfl; exact rfl; (repeat (first | exact Pick.here | apply Pick.there)); exact rfl; exact rfl; exact rfl; exact rfl) | (apply Do.storeA; exact rfl; exact rfl; (repeat (first | exact Pick.here | apply Pick.there)); exact rfl; exact rfl; exact rfl)); rintro _ _ ⟨rfl, rfl⟩) | refine JC.regionQ mixed (by decide +kernel) ?_ | (apply JE.done2; exact rfl; (first | (apply Res.tmp; exact rfl) | (apply Res.cell; exact rfl; (repeat (first | exact Pick.here | apply Pick.there)); exact rfl) | (apply Res.cellAN; exact rfl; (repeat (first | exact Pick.here | apply Pick.there)); exact rfl; exact rfl) | (apply Res.cellA; exact rfl; (repeat (first | exact Pick.here | apply Pick.there)); exact rfl; exact rfl)); (first | (apply Res.tmp; exact rfl) | (apply Res.cell; exact rfl; (repeat (first | exact Pick.here | apply Pick.there)); exact rfl) | (apply Res.cellAN; exact rfl; (repeat (first | exact Pick.here | apply Pick.there)); exact rfl; exact rfl) | (apply Res.cellA; exact rfl; (repeat (first | exact Pick.here | apply Pick.there)); exact rfl; exact rfl)))) | ((first | (apply JO.do; exact rfl; exact rfl; exact rfl; (apply Do.call; exact rfl; exact geo_Right _ _ _); rintro _ _ ⟨rfl, hq⟩; obtain rfl := hq.symm) | (apply JQ.call; exact rfl; exact rfl; exact rfl; exact geo_Right _ _ _; (rintro _ _ ⟨rfl, rfl⟩; exact ⟨rfl, rfl⟩))); rw [h1]) | (first | (apply JO.do; exact rfl; exact rfl; exact rfl; (apply Do.call; exact rfl; exact disk_SizeC d D (by repeat (first | exact Pick.here | apply Pick.there))); rintro _ _ ⟨rfl, hq⟩; obtain rfl := hq.symm) | (apply JQ.call; exact rfl; exact rfl; exact rfl; exact disk_SizeC d D (by repeat (first | exact Pick.here | apply Pick.there)); (rintro _ _ ⟨rfl, rfl⟩; exact ⟨rfl, rfl⟩))) | (first | (apply JO.do; exact rfl; exact rfl; exact rfl; (apply Do.call; exact rfl; exact disk_SectorsC d D hD (by repeat (first | exact Pick.here | apply Pick.there))); rintro _ _ ⟨rfl, hq⟩; obtain rfl := hq.symm) | (apply JQ.call; exact rfl; exact rfl; exact rfl; exact disk_SectorsC d D hD (by repeat (first | exact Pick.here | apply Pick.there)); (rintro _ _ ⟨rfl, rfl⟩; exact ⟨rfl, rfl⟩))) | (first | (apply JO.do; exact rfl; exact rfl; exact rfl; (apply Do.call; exact rfl; exact slot_Room _ _ _ _); rintro _ _ ⟨rfl, hq⟩; obtain rfl := hq.symm) | (apply JQ.call; exact rfl; exact rfl; exact rfl; exact slot_Room _ _ _ _; (rintro _ _ ⟨rfl, rfl⟩; exact ⟨rfl, rfl⟩))) | (first | (apply JO.do; exact rfl; exact rfl; exact rfl; (apply Do.call; exact rfl; exact slot_Span _ _ _ _); rintro _ _ ⟨rfl, hq⟩; obtain rfl := hq.symm) | (apply JQ.call; exact rfl; exact rfl; exact rfl; exact slot_Span _ _ _ _; (rintro _ _ ⟨rfl, rfl⟩; exact ⟨rfl, rfl⟩))))
      refine ⟨_, ?_, .inl ⟨rfl, _, _, rfl, rfl⟩⟩
      exact Sat.weak (by repeat (first | exact Weak.refl | (apply Weak.cons; (first | exact Pick.here | exact Pick.there Pick.here | exact Pick.there (Pick.there Pick.here) | exact Pick.there (Pick.there (Pick.there Pick.here)) | exact Pick.there (Pick.there (Pick.there (Pick.there Pick.here))) | exact Pick.there (Pick.there (Pick.there (Pick.there (Pick.there Pick.here)))) | exact Pick.there (Pick.there (Pick.there (Pick.there (Pick.there (Pick.there Pick.here))))) | exact Pick.there (Pick.there (Pick.there (Pick.there (Pick.there (Pick.there (Pick.there Pick.here)))))))) | apply Weak.drop))
set_option maxHeartbeats 1000000 in
theorem slot_rd (d : Nat) (D : DiskN) (db fb : Nat) (first i : Int) (hD : D.WF) (ho : D.ops ≤ 1000000000000) (hi : 0 ≤ first + i ∧ first + i ≤ 1000000000) :
    Fn Tryd.prog σ 43 #[int i, .pointer (some ⟨db, 0, none⟩), .pointer (some ⟨fb, 0, none⟩)] (slotL d D db fb first F)
      (fun v l' => (D.readE (first + i) = 0 ∧ ∃ u, v = .tuple #[u, int 0] ∧ l' = bytesHP u (D.cur (first + i).toNat) :: slotL d D.tick db fb first F) ∨ (D.readE (first + i) ≠ 0 ∧ v = .tuple #[.slice none 0 0, int (D.readE (first + i))] ∧ l' = slotL d D.tick db fb first F)) := by
  refine Fn.of Tryd.func43 rfl Tryd.ntmps43 rfl ?_
  repeat' (first | (apply JO.ru; exact rfl; exact rfl; exact rfl; (first | (apply Ru.move; exact rfl) | (apply Ru.loadN; exact rfl; (repeat (first | exact Pick.here | apply Pick.there)); exact rfl) | (apply Ru.assign; exact rfl) | (apply Ru.add; exact rfl; exact rfl; (first | exact wrapI (by omega) (by omega) | exact rfl)))) | refine JC.seq ?_ | refine JC.region ?_ | refine JO.nil ?_ | refine JE.thenN ?_)
  (apply JO.do; exact rfl; exact rfl; exact rfl; (apply Do.call; exact rfl; exact disk_Read d D (first + i) hD ho); rintro _ _ (⟨hE, u, rfl, rfl⟩ | ⟨hE, rfl, rfl⟩))
  · repeat' (first | (apply JO.ru; exact rfl; exact rfl; exact rfl; (first | (apply Ru.assign; exact rfl) | (apply Ru.extractN; exact rfl; exact rfl))) | refine JO.nil ?_ | refine JE.thenN ?_ | refine JC.ret ?_ | (apply JE.done2; exact rfl; (first | (apply Res.tmp; exact rfl) | (apply Res.cell; exact rfl; (repeat (first | exact Pick.here | apply Pick.there)); exact rfl) | (apply Res.cellAN; exact rfl; (repeat (first | exact Pick.here | apply Pick.there)); exact rfl; exact rfl) | (apply Res.cellA; exact rfl; (repeat (first | exact Pick.here | apply Pick.there)); exact rfl; exact rfl)); (first | (apply Res.tmp; exact rfl) | (apply Res.cell; exact rfl; (repeat (first | exact Pick.here | apply Pick.there)); exact rfl) | (apply Res.cellAN; exact rfl; (repeat (first | exact Pick.here | apply Pick.there)); exact rfl; exact rfl) | (apply Res.cellA; exact rfl; (repeat (first | exact Pick.here | apply Pick.there)); exact rfl; exact rfl))))
    refine finS ?_; exact .inl ⟨hE, u, rfl, rfl⟩
  · repeat' (first | (apply JO.ru; exact rfl; exact rfl; exact rfl; (first | (apply Ru.assign; exact rfl) | (apply Ru.extractN; exact rfl; exact rfl))) | refine JO.nil ?_ | refine JE.thenN ?_ | refine JC.ret ?_ | (apply JE.done2; exact rfl; (first | (apply Res.tmp; exact rfl) | (apply Res.cell; exact rfl; (repeat (first | exact Pick.here | apply Pick.there)); exact rfl) | (apply Res.cellAN; exact rfl; (repeat (first | exact Pick.here | apply Pick.there)); exact rfl; exact rfl) | (apply Res.cellA; exact rfl; (repeat (first | exact Pick.here | apply Pick.there)); exact rfl; exact rfl)); (first | (apply Res.tmp; exact rfl) | (apply Res.cell; exact rfl; (repeat (first | exact Pick.here | apply Pick.there)); exact rfl) | (apply Res.cellAN; exact rfl; (repeat (first | exact Pick.here | apply Pick.there)); exact rfl; exact rfl) | (apply Res.cellA; exact rfl; (repeat (first | exact Pick.here | apply Pick.there)); exact rfl; exact rfl))))
    refine finS ?_; exact .inr ⟨hE, rfl, rfl⟩
set_option maxHeartbeats 1000000 in
theorem slot_wr (d : Nat) (D : DiskN) (db fb : Nat) (first i : Int) (v : Value) (bs : List UInt8) (hD : D.WF) (ho : D.ops ≤ 1000000000000) (hw : D.writes ≤ 1000000000000) (hbl : bs.length ≤ 100000000) (hi : 0 ≤ first + i ∧ first + i ≤ 1000000000) {l : List HP} (hb : RdS σ l v (bs.map byte)) :
    Fn Tryd.prog σ 45 #[int i, v, .pointer (some ⟨db, 0, none⟩), .pointer (some ⟨fb, 0, none⟩)] (slotL d D db fb first l)
      (fun r l' => (D.writeE (first + i) bs.length = 0 ∧ r = int 0 ∧ l' = slotL d (D.put (first + i) bs) db fb first l) ∨ (D.writeE (first + i) bs.length ≠ 0 ∧ r = int (D.writeE (first + i) bs.length) ∧ l' = slotL d D.tick db fb first l)) := by
  refine Fn.of Tryd.func45 rfl Tryd.ntmps45 rfl ?_
  repeat' (first | (apply JO.ru; exact rfl; exact rfl; exact rfl; (first | (apply Ru.move; exact rfl) | (apply Ru.loadN; exact rfl; (repeat (first | exact Pick.here | apply Pick.there)); exact rfl) | (apply Ru.assign; exact rfl) | (apply Ru.add; exact rfl; exact rfl; (first | exact wrapI (by omega) (by omega) | exact rfl)))) | refine JC.seq ?_ | refine JC.region ?_ | refine JO.nil ?_ | refine JE.thenN ?_)
  (apply JO.do; exact rfl; exact rfl; exact rfl; (apply Do.call; exact rfl; exact disk_Write d D (first + i) v bs hD ho hw hbl hb.cons.cons); rintro _ _ (⟨hE, rfl, rfl⟩ | ⟨hE, rfl, rfl⟩))
  · repeat' (first | (apply JO.ru; exact rfl; exact rfl; exact rfl; ((apply Ru.assign; exact rfl))) | refine JO.nil ?_ | refine JE.thenN ?_ | refine JC.ret ?_ | (apply JE.done1; exact rfl; (first | (apply Res.tmp; exact rfl) | (apply Res.cell; exact rfl; (repeat (first | exact Pick.here | apply Pick.there)); exact rfl) | (apply Res.cellAN; exact rfl; (repeat (first | exact Pick.here | apply Pick.there)); exact rfl; exact rfl) | (apply Res.cellA; exact rfl; (repeat (first | exact Pick.here | apply Pick.there)); exact rfl; exact rfl))))
    refine finS ?_; exact .inl ⟨hE, rfl, rfl⟩
  · repeat' (first | (apply JO.ru; exact rfl; exact rfl; exact rfl; ((apply Ru.assign; exact rfl))) | refine JO.nil ?_ | refine JE.thenN ?_ | refine JC.ret ?_ | (apply JE.done1; exact rfl; (first | (apply Res.tmp; exact rfl) | (apply Res.cell; exact rfl; (repeat (first | exact Pick.here | apply Pick.there)); exact rfl) | (apply Res.cellAN; exact rfl; (repeat (first | exact Pick.here | apply Pick.there)); exact rfl; exact rfl) | (apply Res.cellA; exact rfl; (repeat (first | exact Pick.here | apply Pick.there)); exact rfl; exact rfl))))
    refine finS ?_; exact .inr ⟨hE, rfl, rfl⟩
end Go.Sep
/- image: cut. -/
namespace Go.Sep
open Go Go.Proofs
attribute [local irreducible] JO JC JE JA JQ JB JI Mid Inv Weak ownS Ru Do Fn Sat Pick Take arr pt star ex Holds bodyPost Post Exit.then Exit.inBlock Res
variable {σ : Sig} {F : List HP}
theorem splice_at : ∀ (ys xs : List Value) (o : Nat), o + ys.length ≤ xs.length → splice xs o ys = xs.take o ++ ys ++ xs.drop (o + ys.length)
  | [], xs, o, _ => by simp [splice]
  | y :: ys, xs, o, h => by
    simp only [List.length_cons] at h
    rw [splice, splice_at ys (xs.set o y) (o + 1) (by rw [List.length_set]; omega)]
    have h1 : (xs.set o y).take (o + 1) = xs.take o ++ [y] := by
      rw [List.take_succ_eq_append_getElem (by rw [List.length_set]; omega), List.getElem_set_self, List.take_set_of_le (Nat.le_refl _)]
    have h2 : (xs.set o y).drop (o + 1 + ys.length) = xs.drop (o + (ys.length + 1)) := by
      rw [List.drop_set_of_lt (by omega)]
      congr 1; omega
    rw [h1, h2, List.length_cons]
    simp

/-- bs, and zeroes behind it, m bytes in all. -/
def padB (bs : List UInt8) (m : Nat) : List UInt8 := bs ++ List.replicate (m - bs.length) 0
theorem padB_length {bs : List UInt8} {m : Nat} (h : bs.length ≤ m) : (padB bs m).length = m := by simp [padB]; omega
theorem splice_pad (bs : List UInt8) (m : Nat) (h : bs.length ≤ m) : splice (List.replicate m (Value.int .u8 0)) 0 (bs.map byte) = (padB bs m).map byte := by
  rw [splice_at _ _ _ (by simp; omega)]
  simp [padB]
def cutRows (a z n : Nat) : List Value := (List.range n).map fun i => .slice (some ⟨a, i * z, none⟩) z z
theorem cutRows_succ (a z n : Nat) : cutRows a z (n + 1) = cutRows a z n ++ [.slice (some ⟨a, n * z, none⟩) z z] := by
  simp [cutRows, List.range_succ]

set_option maxHeartbeats 2000000 in
theorem image_Cut (v : Value) (bs : List UInt8) (z : Nat) (hz : 1 ≤ z ∧ z ≤ 4096) (hlen : bs.length ≤ 100000000) {l : List HP} (hb : RdS σ l v (bs.map byte)) :
    Fn Tryd.prog σ 28 #[v, int z] l (fun r l' => ∃ u a, r = .tuple #[u, int 0] ∧ l' = ownS u 24 1 (secs bs.length z).toNat (cutRows a z (secs bs.length z).toNat) :: arr a 5 ((padB bs ((secs bs.length z).toNat * z)).map byte) :: l) := by
  have hb0 := hb
  obtain ⟨p, cap, rfl, hcap, hr⟩ := hb
  have hl : (bs.map byte).length = bs.length := by simp
  rw [hl] at hb0 hcap ⊢
  have hs := secs_bd (m := bs.length) (s := z) (by omega)
  obtain ⟨n, hn⟩ := Int.eq_ofNat_of_zero_le hs.1
  have hn' : n ≤ bs.length := by omega
  have hpos : bs.length ≤ n * z := by
    unfold secs at hn
    split at hn
    · have : bs.length = 0 := by omega
      omega
    · have h1 := Int.emod_add_mul_ediv ((bs.length : Int) - 1) z
      have h2 := Int.emod_lt_of_pos ((bs.length : Int) - 1) (by omega : (0 : Int) < z)
      have h3 : ((n * z : Nat) : Int) = z * (((bs.length : Int) - 1) / z) + z := by
        rw [Int.natCast_mul, ← hn, Int.add_mul, Int.mul_comm]; omega
      omega
  have hmax : n * z ≤ 409600000000 := by
    have := Nat.mul_le_mul hn' hz.2
    omega
  have hok : sizeOk z = true := by simp [sizeOk]; omega
  rw [hn]
  simp only [Int.toNat_natCast]
  refine Fn.of Tryd.func28 rfl Tryd.ntmps28 rfl ?_
  have hmaxI : (n : Int) * (z : Int) ≤ 409600000000 := by rw [← Int.natCast_mul]; omega
  have hminI : 0 ≤ (n : Int) * (z : Int) := by rw [← Int.natCast_mul]; omega
  repeat' (first | (first | (apply JO.ru; exact rfl; exact rfl; exact rfl; (first | (apply Ru.move; exact rfl) | (apply Ru.assign; exact rfl) | (apply Ru.lenS; exact rfl) | (apply Ru.mul; exact rfl; exact rfl; (first | exact wrapI (by omega) (by omega) | exact rfl)) | (apply Ru.not; exact rfl))) | refine JC.seq ?_ | refine JC.region ?_ | refine JO.nil ?_ | refine JE.thenN ?_ | refine JC.skip ?_ | refine JC.condF rfl ?_) | ((first | (apply JO.do; exact rfl; exact rfl; exact rfl; (apply Do.call; exact rfl; exact image_right _); rintro _ _ ⟨rfl, hq⟩; obtain rfl := hq.symm) | (apply JQ.call; exact rfl; exact rfl; exact rfl; exact image_right _; (rintro _ _ ⟨rfl, rfl⟩; exact ⟨rfl, rfl⟩))); rw [hok]) | ((first | (apply JO.do; exact rfl; exact rfl; exact rfl; (apply Do.call; exact rfl; exact image_Sectors _ _ (by omega)); rintro _ _ ⟨rfl, hq⟩; obtain rfl := hq.symm) | (apply JQ.call; exact rfl; exact rfl; exact rfl; exact image_Sectors _ _ (by omega); (rintro _ _ ⟨rfl, rfl⟩; exact ⟨rfl, rfl⟩))); rw [hn]))
  (apply JO.do; exact rfl; exact rfl; exact rfl; (apply Do.makeSlice (k := n * z) (c := n * z); (rw [Int.natCast_mul]; exact rfl); (rw [Int.natCast_mul]; exact rfl); exact Nat.le_refl _; (show n * z * 1 ≤ _; omega); omega); rintro _ _ ⟨a, rfl, rfl⟩)
  repeat' (first | (apply JO.ru; exact rfl; exact rfl; exact rfl; (first | (apply Ru.move; exact rfl) | (apply Ru.assign; exact rfl))) | refine JC.seq ?_ | refine JC.region ?_ | refine JO.nil ?_ | refine JE.thenN ?_)
  (apply JO.do; exact rfl; exact rfl; exact rfl; (apply Do.copy; exact rfl; exact rfl; exact Pick.here; exact hb0.cons; (rw [List.length_replicate]; omega); (intro q hq; obtain ⟨x, _, rfl⟩ := List.mem_map.1 hq; rfl)); rintro _ _ ⟨rfl, rfl⟩)
  have hcp : splice (List.replicate (n * z) (Value.int .u8 0)) 0 ((bs.map byte).take (min bs.length (n * z))) = (padB bs (n * z)).map byte := by
    rw [Nat.min_eq_left hpos, List.take_of_length_le (by rw [hl]; omega), splice_pad _ _ hpos]
  rw [hcp]
  repeat' (first | (apply JO.ru; exact rfl; exact rfl; exact rfl; (first | (apply Ru.move; exact rfl) | (apply Ru.assign; exact rfl))) | refine JC.seq ?_ | refine JC.region ?_ | refine JO.nil ?_ | refine JE.thenN ?_ | refine JC.block ?_)
  refine JC.loop (fun q : Nat × Value => [(1, int z), (7, .slice (some ⟨a, 0, none⟩) (n * z) (n * z)), (8, q.2), (24, int n), (25, int q.1)])
    (fun q => ownS q.2 24 1 q.1 (cutRows a z q.1) :: arr a 5 ((padB bs (n * z)).map byte) :: l) (fun q => q.1 ≤ n) (fun q => n - q.1) (0, .slice none 0 0) (Nat.zero_le _) ⟨rfl, rfl, rfl, rfl, rfl, trivial⟩ (fun _ s => Sat.ownS_nil s) ?_
  rintro ⟨i, u⟩ hi
  dsimp only at hi ⊢
  repeat' (first | (apply JO.ru; exact rfl; exact rfl; exact rfl; (first | (apply Ru.move; exact rfl) | (apply Ru.assign; exact rfl) | (apply Ru.add; exact rfl; exact rfl; (first | exact wrapI (by omega) (by omega) | exact rfl)) | (apply Ru.mul; exact rfl; exact rfl; (first | exact wrapI (by omega) (by omega) | exact rfl)))) | refine JC.seq ?_ | refine JC.region ?_ | refine JO.nil ?_ | refine JE.thenN ?_ | refine JE.thenE ?_ | refine JE.blockE ?_ | refine JC.block ?_ | refine JC.ret ?_ | refine JC.skip ?_ | refine JC.exit ?_ | refine JC.condT rfl ?_ | refine JC.condF rfl ?_ | (apply JO.split; exact rfl; exact rfl; exact rfl; ((apply Ru.lss; exact rfl; exact rfl; exact rfl)); all_goals intro _) | (apply JE.done2; exact rfl; (first | (apply Res.tmp; exact rfl) | (apply Res.cell; exact rfl; (repeat (first | exact Pick.here | apply Pick.there)); exact rfl) | (apply Res.cellAN; exact rfl; (repeat (first | exact Pick.here | apply Pick.there)); exact rfl; exact rfl) | (apply Res.cellA; exact rfl; (repeat (first | exact Pick.here | apply Pick.there)); exact rfl; exact rfl)); (first | (apply Res.tmp; exact rfl) | (apply Res.cell; exact rfl; (repeat (first | exact Pick.here | apply Pick.there)); exact rfl) | (apply Res.cellAN; exact rfl; (repeat (first | exact Pick.here | apply Pick.there)); exact rfl; exact rfl) | (apply Res.cellA; exact rfl; (repeat (first | exact Pick.here | apply Pick.there)); exact rfl; exact rfl))))
  · rename_i hlt
    have g1 : (((i + 1) * z : Nat) : Int) ≤ ((n * z : Nat) : Int) := Int.ofNat_le.2 (Nat.mul_le_mul_right _ (by omega))
    have g2 : ((i : Int) + 1) * (z : Int) = (((i + 1) * z : Nat) : Int) := by rw [Int.natCast_mul]; rfl
    have g3 : (((i + 1) * z : Nat) : Int) = (i : Int) * (z : Int) + z := by rw [Int.natCast_mul, Int.natCast_add, Int.add_mul]; omega
    have g4 : ((n * z : Nat) : Int) = (n : Int) * (z : Int) := Int.natCast_mul _ _
    have g5 : 0 ≤ (i : Int) * (z : Int) := by rw [← Int.natCast_mul]; omega
    have w1 : IntKind.i64.wrap (((i : Int) + 1) * (z : Int)) = ((i : Int) + 1) * (z : Int) := wrapI (by omega) (by omega)
    have w2 : IntKind.i64.wrap ((i : Int) * (z : Int)) = (i : Int) * (z : Int) := wrapI (by omega) (by omega)
    rw [w1, w2]
    repeat' (first | (apply JO.ru; exact rfl; exact rfl; exact rfl; ((apply Ru.sliceS; exact rfl; exact rfl; exact rfl; exact rfl; (first | exact fun _ => rfl | exact fun h => nomatch h); omega; omega; omega))) | (apply JO.do; exact rfl; exact rfl; exact rfl; (first | (apply Do.buildSliceN; exact rfl; exact rfl; exact rfl; exact rfl) | (apply Do.buildSlice; exact rfl; exact rfl; exact rfl; exact rfl)); rintro _ _ ⟨_, rfl, rfl⟩))
    have k1 : ((i : Int) * (z : Int)).toNat = i * z := by rw [← Int.natCast_mul]; rfl
    have k2 : (((i : Int) + 1) * (z : Int) - (i : Int) * (z : Int)).toNat = z := by omega
    have k3 : 0 + i * z * 1 = i * z := by omega
    rw [k1, k2, k3]
    (apply JO.do; exact rfl; exact rfl; exact rfl; (apply Do.append1 (ys := [.slice (some ⟨a, i * z, none⟩) z z]); exact rfl; exact rfl; exact Pick.there Pick.here; exact RdS.arr (vs := [.slice (some ⟨a, i * z, none⟩) z z]) Pick.here 0 1 1 (Nat.le_refl _) (Nat.le_refl _); (intro q hq; rw [List.mem_singleton.1 hq]; rfl); (show (i + 1) * 24 ≤ _; omega)); rintro u' _ ⟨rfl, _⟩)
    repeat' (first | (apply JO.ru; exact rfl; exact rfl; exact rfl; (first | (apply Ru.move; exact rfl) | (apply Ru.assign; exact rfl) | (apply Ru.add; exact rfl; exact rfl; (first | exact wrapI (by omega) (by omega) | exact rfl)))) | refine JC.region ?_ | refine JO.nil ?_ | refine JE.thenN ?_ | refine JE.blockN ?_)
    refine JE.round (i + 1, u') (by show i + 1 ≤ n; omega) (by show n - (i + 1) < n - i; omega) ⟨rfl, rfl, rfl, rfl, rfl, trivial⟩ ?_
    intro w s
    have := Sat.weak (l' := ownS u' 24 1 (i + 1) _ :: arr a 5 ((padB bs (n * z)).map byte) :: l) (by repeat (first | exact Weak.refl | (apply Weak.cons; (first | exact Pick.here | exact Pick.there Pick.here | exact Pick.there (Pick.there Pick.here) | exact Pick.there (Pick.there (Pick.there Pick.here)) | exact Pick.there (Pick.there (Pick.there (Pick.there Pick.here))) | exact Pick.there (Pick.there (Pick.there (Pick.there (Pick.there Pick.here)))) | exact Pick.there (Pick.there (Pick.there (Pick.there (Pick.there (Pick.there Pick.here))))) | exact Pick.there (Pick.there (Pick.there (Pick.there (Pick.there (Pick.there (Pick.there Pick.here)))))))) | apply Weak.drop)) w s
    dsimp only
    rw [cutRows_succ]
    exact this
  · obtain rfl : i = n := by omega
    exact finS ⟨u, a, rfl, rfl⟩
end Go.Sep
/- slot: a slot's first sector. -/
namespace Go.Sep
open Go Go.Proofs
attribute [local irreducible] JO JC JE JA JQ JB JI Mid Inv Weak ownS Ru Do Fn Sat Pick Take arr pt star ex Holds bodyPost Post Exit.then Exit.inBlock Res
variable {σ : Sig} {F : List HP}
attribute [local irreducible] diskHP cacheHP planHP rowHP
set_option maxHeartbeats 2000000 in
theorem place_first (d : Nat) (D : DiskN) (db fb : Nat) (first many : Int) (v : Value) (bs : List UInt8) (hD : D.WF) (ho : D.ops ≤ 1000000000000) (hw : D.writes ≤ 1000000000000) (hbl : bs.length ≤ D.size) (hi : 0 ≤ first ∧ first ≤ 1000000000) {l : List HP} (hb : RdS σ l v (bs.map byte)) :
    Fn Tryd.prog σ 33 #[placeV many D.size db fb, v] (slotL d D db fb first l)
      (fun r l' => (D.writeE first D.size = 0 ∧ r = int 0 ∧ l' = slotL d (D.put first (padB bs D.size)) db fb first l) ∨ (D.writeE first D.size ≠ 0 ∧ r = int (D.writeE first D.size) ∧ l' = slotL d D.tick db fb first l)) := by
  have hz2 := hD.hz2
  have hb0 := hb
  obtain ⟨pv, cv, rfl, hcv, hrv⟩ := hb
  have hl : (bs.map byte).length = bs.length := by simp
  rw [hl] at hb0 ⊢
  have hpl := padB_length hbl
  refine Fn.of Tryd.func33 rfl Tryd.ntmps33 rfl ?_
  repeat' (first | (apply JO.ru; exact rfl; exact rfl; exact rfl; (first | (apply Ru.loadN; exact rfl; (repeat (first | exact Pick.here | apply Pick.there)); exact rfl) | (apply Ru.fieldAddr; exact rfl) | (apply Ru.assign; exact rfl))) | refine JC.seq ?_ | refine JC.region ?_ | refine JO.nil ?_ | refine JE.thenN ?_ | (apply JO.do; exact rfl; exact rfl; exact rfl; (first | (apply Do.boxN; exact rfl; exact rfl) | (apply Do.box; exact rfl)); rintro _ _ ⟨_, rfl, rfl⟩))
  (apply JO.do; exact rfl; exact rfl; exact rfl; (apply Do.makeSlice (k := D.size) (c := D.size); exact rfl; exact rfl; exact Nat.le_refl _; (show D.size * 1 ≤ _; omega); omega); rintro _ _ ⟨x, rfl, rfl⟩)
  repeat' (first | (apply JO.ru; exact rfl; exact rfl; exact rfl; (first | (apply Ru.move; exact rfl) | (apply Ru.assign; exact rfl))) | refine JC.seq ?_ | refine JC.region ?_ | refine JO.nil ?_ | refine JE.thenN ?_)
  (apply JO.do; exact rfl; exact rfl; exact rfl; (apply Do.copy; exact rfl; exact rfl; exact Pick.here; exact hb0.cons.cons.cons.cons.cons; (rw [List.length_replicate]; omega); exact byteOne _); rintro _ _ ⟨rfl, rfl⟩)
  have hcp : splice (List.replicate D.size (Value.int .u8 0)) 0 ((bs.map byte).take (min bs.length D.size)) = (padB bs D.size).map byte := by
    rw [Nat.min_eq_left hbl, List.take_of_length_le (by rw [hl]; omega), splice_pad _ _ hbl]
  rw [hcp]
  repeat' (first | (apply JO.ru; exact rfl; exact rfl; exact rfl; (first | (apply Ru.move; exact rfl) | (apply Ru.loadN; exact rfl; (repeat (first | exact Pick.here | apply Pick.there)); exact rfl) | (apply Ru.fieldAddr; exact rfl))) | refine JC.seq ?_ | refine JC.region ?_ | refine JO.nil ?_ | refine JE.thenN ?_)
  rename_i pb
  refine JO.heap (Sat.weak (l' := slotL d D db fb first (arr x 5 ((padB bs D.size).map byte) :: arr pb 58 [int many, int D.size, rdV db fb, wrV db fb] :: l)) (by repeat (first | exact Weak.refl | (apply Weak.cons; (first | exact Pick.here | exact Pick.there Pick.here | exact Pick.there (Pick.there Pick.here) | exact Pick.there (Pick.there (Pick.there Pick.here)) | exact Pick.there (Pick.there (Pick.there (Pick.there Pick.here))) | exact Pick.there (Pick.there (Pick.there (Pick.there (Pick.there Pick.here)))) | exact Pick.there (Pick.there (Pick.there (Pick.there (Pick.there (Pick.there Pick.here))))) | exact Pick.there (Pick.there (Pick.there (Pick.there (Pick.there (Pick.there (Pick.there Pick.here)))))))) | apply Weak.drop))) ?_
  have hwr := slot_wr (σ := σ) d D db fb first 0 (.slice (some ⟨x, 0, none⟩) D.size D.size) (padB bs D.size) hD ho hw (by omega) (by omega) (l := arr x 5 ((padB bs D.size).map byte) :: arr pb 58 [int many, int D.size, rdV db fb, wrV db fb] :: l) (RdS.arr0 (spare := []) (by rw [List.append_nil]; exact Pick.here) (by rw [List.length_map, hpl]) (Nat.le_refl _))
  rw [Int.add_zero, hpl] at hwr
  (apply JO.do; exact rfl; exact rfl; exact rfl; (apply Do.callV (f := 45); exact rfl; exact rfl; exact hwr); rintro _ _ (⟨hE, rfl, rfl⟩ | ⟨hE, rfl, rfl⟩))
  · repeat' (first | (apply JO.ru; exact rfl; exact rfl; exact rfl; ((apply Ru.assign; exact rfl))) | refine JO.nil ?_ | refine JE.thenN ?_ | refine JC.ret ?_ | (apply JE.done1; exact rfl; (first | (apply Res.tmp; exact rfl) | (apply Res.cell; exact rfl; (repeat (first | exact Pick.here | apply Pick.there)); exact rfl) | (apply Res.cellAN; exact rfl; (repeat (first | exact Pick.here | apply Pick.there)); exact rfl; exact rfl) | (apply Res.cellA; exact rfl; (repeat (first | exact Pick.here | apply Pick.there)); exact rfl; exact rfl))))
    exact ⟨slotL d (D.put first (padB bs D.size)) db fb first l, Sat.weak (by repeat (first | exact Weak.refl | (apply Weak.cons; (first | exact Pick.here | exact Pick.there Pick.here | exact Pick.there (Pick.there Pick.here) | exact Pick.there (Pick.there (Pick.there Pick.here)) | exact Pick.there (Pick.there (Pick.there (Pick.there Pick.here))) | exact Pick.there (Pick.there (Pick.there (Pick.there (Pick.there Pick.here)))) | exact Pick.there (Pick.there (Pick.there (Pick.there (Pick.there (Pick.there Pick.here))))) | exact Pick.there (Pick.there (Pick.there (Pick.there (Pick.there (Pick.there (Pick.there Pick.here)))))))) | apply Weak.drop)), .inl ⟨hE, rfl, rfl⟩⟩
  · repeat' (first | (apply JO.ru; exact rfl; exact rfl; exact rfl; ((apply Ru.assign; exact rfl))) | refine JO.nil ?_ | refine JE.thenN ?_ | refine JC.ret ?_ | (apply JE.done1; exact rfl; (first | (apply Res.tmp; exact rfl) | (apply Res.cell; exact rfl; (repeat (first | exact Pick.here | apply Pick.there)); exact rfl) | (apply Res.cellAN; exact rfl; (repeat (first | exact Pick.here | apply Pick.there)); exact rfl; exact rfl) | (apply Res.cellA; exact rfl; (repeat (first | exact Pick.here | apply Pick.there)); exact rfl; exact rfl))))
    exact ⟨slotL d D.tick db fb first l, Sat.weak (by repeat (first | exact Weak.refl | (apply Weak.cons; (first | exact Pick.here | exact Pick.there Pick.here | exact Pick.there (Pick.there Pick.here) | exact Pick.there (Pick.there (Pick.there Pick.here)) | exact Pick.there (Pick.there (Pick.there (Pick.there Pick.here))) | exact Pick.there (Pick.there (Pick.there (Pick.there (Pick.there Pick.here)))) | exact Pick.there (Pick.there (Pick.there (Pick.there (Pick.there (Pick.there Pick.here))))) | exact Pick.there (Pick.there (Pick.there (Pick.there (Pick.there (Pick.there (Pick.there Pick.here)))))))) | apply Weak.drop)), .inr ⟨hE, rfl, rfl⟩⟩
end Go.Sep
/- bytes.Join with nothing between; image: glued. -/
namespace Go.Sep
open Go Go.Proofs
attribute [local irreducible] JO JC JE JA JQ JB JI Mid Inv Weak ownS Ru Do Fn Sat Pick Take arr pt star ex Holds bodyPost Post Exit.then Exit.inBlock Res
variable {σ : Sig} {F : List HP}
def tot (bss : List (List UInt8)) (i : Nat) : Nat := (bss.take i).flatten.length
theorem tot_succ {bss : List (List UInt8)} {i : Nat} {bs : List UInt8} (h : bss[i]? = some bs) : tot bss (i + 1) = tot bss i + bs.length := by
  simp [tot, List.take_add_one, h]
theorem tot_all {bss : List (List UInt8)} {i : Nat} (h : bss.length ≤ i) : tot bss i = bss.flatten.length := by
  rw [tot, List.take_of_length_le h]
theorem tot_mono (bss : List (List UInt8)) (i : Nat) : tot bss i ≤ bss.flatten.length := by
  have : bss.flatten.length = tot bss i + (bss.drop i).flatten.length := by
    rw [tot, ← List.length_append, ← List.flatten_append, List.take_append_drop]
  omega
theorem take_flatten {bss : List (List UInt8)} {i : Nat} {bs : List UInt8} (h : bss[i]? = some bs) : (bss.take (i + 1)).flatten = (bss.take i).flatten ++ bs := by
  simp [List.take_add_one, h]

/-- The rows read as these bytes, one for one. -/
def RowsAre (σ : Sig) (l : List HP) (rows : List Value) (bss : List (List UInt8)) : Prop :=
  rows.length = bss.length ∧ ∀ (i : Nat) (bs : List UInt8), bss[i]? = some bs → ∃ u, rows[i]? = some u ∧ RdS σ l u (bs.map byte)
theorem rd_row {l : List HP} {rows : List Value} {b o : Nat} (hc : ∀ w, Sat σ w l → ∀ i u, rows[i]? = some u → w.cell? ⟨b, o + i, none⟩ = some u) {i : Nat} {u : Value} (hu : rows[i]? = some u) (a : Addr) (ha : a = ⟨b, o + i, none⟩) :
    ∀ w, Sat σ w l → w.cell? a = some u := fun w s => ha ▸ hc w s i u hu
/-- What has been copied so far, and what lay behind it. -/
def joined (bss : List (List UInt8)) (cs : List Value) (i : Nat) : List Value := (bss.take i).flatten.map byte ++ cs.drop (tot bss i)
theorem joined_length {bss : List (List UInt8)} {cs : List Value} {i : Nat} (h : bss.flatten.length ≤ cs.length) : (joined bss cs i).length = cs.length := by
  have := tot_mono bss i
  simp only [joined, List.length_append, List.length_map, List.length_drop]
  unfold tot at *; omega
theorem joined_splice {bss : List (List UInt8)} {cs : List Value} {i : Nat} {bs : List UInt8} (h : bss[i]? = some bs) (hl : bss.flatten.length ≤ cs.length) : splice (joined bss cs i) (tot bss i) (bs.map byte) = joined bss cs (i + 1) := by
  have h1 := tot_succ h
  have h2 := tot_mono bss (i + 1)
  rw [splice_at _ _ _ (by rw [joined_length hl, List.length_map]; omega)]
  simp only [joined, take_flatten h, List.map_append, List.length_map]
  have e : tot bss i = ((bss.take i).flatten.map byte).length := by rw [List.length_map]; rfl
  rw [List.take_append_of_le_length (by rw [← e]; exact Nat.le_refl _), List.take_of_length_le (by rw [← e]; exact Nat.le_refl _)]
  rw [List.drop_append, List.drop_eq_nil_of_le (by rw [← e]; omega), List.nil_append, List.drop_drop, ← e, h1]
  congr 2
  omega

set_option maxHeartbeats 4000000 in
theorem bytes_Join (v : Value) (rows : List Value) (bss : List (List UInt8)) (hlen : bss.flatten.length ≤ 1000000000) (hk : bss.length ≤ 1000000000) (hne : ∀ bs ∈ bss, 1 ≤ bs.length) {l : List HP} (hr : RdS σ l v rows) (he : RowsAre σ l rows bss) :
    Fn Tryd.prog σ 63 #[v, .slice none 0 0] l (fun u l' => l' = ownS u 5 1 bss.flatten.length (bss.flatten.map byte) :: l ∧ (u = .slice none 0 0 → False)) := by
  obtain ⟨hn, he⟩ := he
  obtain ⟨p, cap, rfl, hcap, hr⟩ := hr
  rw [hn] at hcap ⊢
  obtain ⟨k, hkk⟩ : ∃ k, bss.length = k := ⟨_, rfl⟩
  rw [hkk] at hn hcap hk ⊢
  by_cases c0 : k = 0
  · have hb : bss = [] := List.eq_nil_of_length_eq_zero (by omega)
    subst hb
    refine Fn.of Tryd.func63 rfl Tryd.ntmps63 rfl ?_
    repeat' (first | (apply JO.ru; exact rfl; exact rfl; exact rfl; (first | (apply Ru.move; exact rfl) | (apply Ru.assign; exact rfl) | (apply Ru.lenS; exact rfl) | (apply Ru.eql; exact rfl; exact rfl; (first | exact decT (by omega) | exact decF (by omega))))) | refine JC.seq ?_ | refine JC.region ?_ | refine JO.nil ?_ | refine JE.thenN ?_ | refine JC.condT rfl ?_)
    (apply JO.do; exact rfl; exact rfl; exact rfl; apply Do.buildSlice0; rintro _ _ ⟨b, rfl, rfl⟩)
    refine JO.heap (fun _ s => Sat.ownS_arr (xs := []) (spare := []) (k := 0) (cap := 0) (z := 1) (Nat.le_refl _) rfl (Nat.le_refl _) s) ?_
    repeat' (first | (apply JO.ru; exact rfl; exact rfl; exact rfl; ((apply Ru.assign; exact rfl))) | refine JO.nil ?_ | refine JE.thenN ?_ | refine JE.thenR ?_ | refine JC.ret ?_ | (apply JE.done1; exact rfl; (first | (apply Res.tmp; exact rfl) | (apply Res.cell; exact rfl; (repeat (first | exact Pick.here | apply Pick.there)); exact rfl) | (apply Res.cellAN; exact rfl; (repeat (first | exact Pick.here | apply Pick.there)); exact rfl; exact rfl) | (apply Res.cellA; exact rfl; (repeat (first | exact Pick.here | apply Pick.there)); exact rfl; exact rfl))))
    refine finS ?_; exact ⟨rfl, fun h => by cases h⟩
  rcases hr with h | ⟨b, o, rfl, hc⟩
  · rw [h] at hn; simp at hn; omega
  obtain ⟨bs0, h0⟩ : ∃ bs, bss[0]? = some bs := ⟨_, List.getElem?_eq_getElem (by omega)⟩
  obtain ⟨u0, hu0, hrd0⟩ := he 0 bs0 h0
  have hne0 := hne bs0 (List.mem_of_getElem? h0)
  by_cases c1 : k = 1
  · have hb : bss.flatten = bs0 := by
      match bss, hkk, h0 with
      | [x], _, h0 => simp at h0; simp [h0]
      | [], hkk, _ => simp at hkk; omega
      | _ :: _ :: _, hkk, _ => simp at hkk; omega
    rw [hb] at hlen ⊢
    refine Fn.of Tryd.func63 rfl Tryd.ntmps63 rfl ?_
    repeat' (first | (apply JO.ru; exact rfl; exact rfl; exact rfl; (first | (apply Ru.move; exact rfl) | (apply Ru.assign; exact rfl) | (apply Ru.lenS; exact rfl) | (apply Ru.eql; exact rfl; exact rfl; (first | exact decT (by omega) | exact decF (by omega))) | (apply Ru.indexAddr; exact rfl; exact rfl; omega; omega))) | refine JC.seq ?_ | refine JC.region ?_ | refine JO.nil ?_ | refine JE.thenN ?_ | refine JC.skip ?_ | refine JC.condT rfl ?_ | refine JC.condF rfl ?_)
    (apply JO.ru; exact rfl; exact rfl; exact rfl; (apply Ru.loadC; exact rfl; exact rd_row hc hu0 _ rfl))
    refine JO.heap (fun _ s => Sat.ownS_nil (E := 5) (z := 1) s) ?_
    (apply JO.do; exact rfl; exact rfl; exact rfl; (apply Do.append1 (ys := bs0.map byte); exact rfl; exact rfl; exact Pick.here; exact hrd0.cons; (intro q hq; obtain ⟨x, _, rfl⟩ := List.mem_map.1 hq; rfl); (show (0 + (bs0.map byte).length) * 1 ≤ _; rw [List.length_map]; omega)); rintro u' _ ⟨rfl, hnil⟩)
    repeat' (first | (apply JO.ru; exact rfl; exact rfl; exact rfl; ((apply Ru.assign; exact rfl))) | refine JO.nil ?_ | refine JE.thenN ?_ | refine JE.thenR ?_ | refine JC.ret ?_ | (apply JE.done1; exact rfl; (first | (apply Res.tmp; exact rfl) | (apply Res.cell; exact rfl; (repeat (first | exact Pick.here | apply Pick.there)); exact rfl) | (apply Res.cellAN; exact rfl; (repeat (first | exact Pick.here | apply Pick.there)); exact rfl; exact rfl) | (apply Res.cellA; exact rfl; (repeat (first | exact Pick.here | apply Pick.there)); exact rfl; exact rfl))))
    refine finS ?_
    refine ⟨by rw [List.length_map, Nat.zero_add, List.nil_append], fun h => ?_⟩
    have := (hnil h).2
    rw [List.length_map] at this; omega
  · have h2 : 2 ≤ k := by omega
    refine Fn.of Tryd.func63 rfl Tryd.ntmps63 rfl ?_
    repeat' (first | (apply JO.ru; exact rfl; exact rfl; exact rfl; (first | (apply Ru.move; exact rfl) | (apply Ru.assign; exact rfl) | (apply Ru.lenS; exact rfl) | (apply Ru.gtr; exact rfl; exact rfl; (first | exact decT (by omega) | exact decF (by omega))) | (apply Ru.eql; exact rfl; exact rfl; (first | exact decT (by omega) | exact decF (by omega))))) | refine JC.seq ?_ | refine JC.region ?_ | refine JO.nil ?_ | refine JE.thenN ?_ | refine JC.block ?_ | refine JC.skip ?_ | refine JC.condF rfl ?_)
    refine JC.loop (fun i : Nat => [(0, .slice (some ⟨b, o, none⟩) k cap), (1, .slice none 0 0), (5, int (tot bss i)), (42, .slice (some ⟨b, o, none⟩) k cap), (43, int k), (44, int i)]) (fun _ => l) (fun i => i ≤ k) (fun i => k - i) 0 (Nat.zero_le _) ⟨rfl, rfl, rfl, rfl, rfl, rfl, trivial⟩ (fun _ h => h) ?_
    intro i hi
    repeat' (first | (apply JO.ru; exact rfl; exact rfl; exact rfl; (first | (apply Ru.move; exact rfl) | (apply Ru.indexAddr; exact rfl; exact rfl; omega; omega))) | refine JC.seq ?_ | refine JC.region ?_ | refine JO.nil ?_ | refine JE.thenN ?_ | refine JE.thenE ?_ | refine JE.blockE ?_ | refine JC.block ?_ | refine JC.skip ?_ | refine JC.exit ?_ | refine JC.condT rfl ?_ | refine JC.condF rfl ?_ | (apply JO.split; exact rfl; exact rfl; exact rfl; ((apply Ru.lss; exact rfl; exact rfl; exact rfl)); all_goals intro _))
    · rename_i hlt
      obtain ⟨bs, hbs⟩ : ∃ bs, bss[i]? = some bs := ⟨_, List.getElem?_eq_getElem (by omega)⟩
      obtain ⟨u, hu, hrd⟩ := he i bs hbs
      obtain ⟨pu, cu, rfl, hcu, hru⟩ := hrd
      have t1 := tot_succ hbs
      have t2 := tot_mono bss (i + 1)
      have hl : (bs.map byte).length = bs.length := by simp
      repeat' (fail)
      (apply JO.ru; exact rfl; exact rfl; exact rfl; (apply Ru.loadC; exact rfl; exact rd_row hc hu _ (by simp)))
      repeat' (first | (apply JO.ru; exact rfl; exact rfl; exact rfl; (first | (apply Ru.move; exact rfl) | (apply Ru.assign; exact rfl) | (apply Ru.lenS; exact rfl) | (apply Ru.gtr; exact rfl; exact rfl; (first | exact decT (by omega) | exact decF (by omega))) | (apply Ru.add; exact rfl; exact rfl; (first | exact wrapI (by omega) (by omega) | exact rfl)) | (apply Ru.sub; exact rfl; exact rfl; (first | exact wrapI (by omega) (by omega) | exact rfl)))) | refine JC.seq ?_ | refine JC.region ?_ | refine JO.nil ?_ | refine JE.thenN ?_ | refine JE.blockN ?_ | refine JC.skip ?_ | refine JC.condF rfl ?_)
      refine JE.round (i + 1) (by omega) (by omega) ⟨rfl, rfl, ?_, rfl, rfl, rfl, trivial⟩ (fun _ h => h)
      show some (int _) = some (int _)
      rw [t1, hl]; rfl
    · obtain rfl : i = k := by omega
      rw [tot_all (Nat.le_of_eq hkk)]
      obtain ⟨T, hT⟩ : ∃ T, bss.flatten.length = T := ⟨_, rfl⟩
      rw [hT] at hlen ⊢
      repeat' (fail)
      (apply JO.do; exact rfl; exact rfl; exact rfl; (apply Do.makeNoZero; exact rfl; omega); rintro _ _ ⟨b2, cs, rfl, hcs, rfl⟩)
      repeat' (first | (apply JO.ru; exact rfl; exact rfl; exact rfl; (first | (apply Ru.move; exact rfl) | (apply Ru.assign; exact rfl) | (apply Ru.indexAddr; exact rfl; exact rfl; omega; omega) | (apply Ru.sliceS; exact rfl; exact rfl; exact rfl; exact rfl; (first | exact fun _ => rfl | exact fun h => nomatch h); omega; omega; omega))) | refine JC.seq ?_ | refine JC.region ?_ | refine JO.nil ?_ | refine JE.thenN ?_)
      have t0 : tot bss 1 = tot bss 0 + bs0.length := tot_succ h0
      have t1 := tot_mono bss 1
      have tz : tot bss 0 = 0 := rfl
      have hl0 : (bs0.map byte).length = bs0.length := by simp
      obtain ⟨p0, c0, rfl, hcu0, hru0⟩ := hrd0
      have hrd0 : RdS σ l (.slice p0 (bs0.map byte).length c0) (bs0.map byte) := ⟨p0, c0, rfl, hcu0, hru0⟩
      rw [hl0] at hrd0 hu0
      (apply JO.ru; exact rfl; exact rfl; exact rfl; (apply Ru.loadC; exact rfl; exact fun w s => rd_row hc hu0 _ (by simp) w (Sat.drop s)))
      have k1 : 0 + Int.toNat ((0 : Nat) : Int) * 1 = 0 := rfl
      have k2 : ((T : Int) - ((0 : Nat) : Int)).toNat = T := by omega
      rw [k1, k2]
      (apply JO.do; exact rfl; exact rfl; exact rfl; (apply Do.copy; exact rfl; exact rfl; exact Pick.here; exact hrd0.cons; omega; (intro q hq; obtain ⟨x, _, rfl⟩ := List.mem_map.1 hq; rfl)); rintro _ _ ⟨rfl, rfl⟩)
      have k3 : splice cs 0 ((bs0.map byte).take (min bs0.length T)) = joined bss cs 1 := by
        have := joined_splice (cs := cs) h0 (by omega)
        rw [List.take_of_length_le (by rw [hl0]; omega)]
        rw [← this, tz]
        simp [joined, tot]
      have k4 : ((min bs0.length T : Nat) : Int) = (tot bss 1 : Nat) := by omega
      rw [k3, k4]
      repeat' (first | (apply JO.ru; exact rfl; exact rfl; exact rfl; (first | (apply Ru.move; exact rfl) | (apply Ru.assign; exact rfl) | (apply Ru.lenS; exact rfl) | (apply Ru.sliceS; exact rfl; exact rfl; exact rfl; exact rfl; (first | exact fun _ => rfl | exact fun h => nomatch h); omega; omega; omega))) | refine JC.seq ?_ | refine JC.region ?_ | refine JO.nil ?_ | refine JE.thenN ?_ | refine JC.block ?_)
      refine JC.loop (fun j : Nat => [(1, .slice none 0 0), (8, .slice (some ⟨b2, 0, none⟩) T T), (9, int (tot bss (j + 1))), (70, .slice (some ⟨b, o + Int.toNat 1 * 1, none⟩) ((i : Int) - 1).toNat ((cap : Int) - 1).toNat), (71, int ((i : Int) - 1).toNat), (72, int j)])
        (fun j => arr b2 5 (joined bss cs (j + 1)) :: l) (fun j => j + 1 ≤ i) (fun j => i - j) 0 (by omega) ⟨rfl, rfl, rfl, rfl, rfl, rfl, trivial⟩ (fun _ h => h) ?_
      intro j hj
      repeat' (first | (apply JO.ru; exact rfl; exact rfl; exact rfl; (first | (apply Ru.move; exact rfl) | (apply Ru.assign; exact rfl) | (apply Ru.indexAddr; exact rfl; exact rfl; omega; omega))) | refine JC.seq ?_ | refine JC.region ?_ | refine JO.nil ?_ | refine JE.thenN ?_ | refine JE.thenE ?_ | refine JE.blockE ?_ | refine JC.block ?_ | refine JC.ret ?_ | refine JC.skip ?_ | refine JC.exit ?_ | refine JC.condT rfl ?_ | refine JC.condF rfl ?_ | (apply JO.split; exact rfl; exact rfl; exact rfl; ((apply Ru.lss; exact rfl; exact rfl; exact rfl)); all_goals intro _) | (apply JE.done1; exact rfl; (first | (apply Res.tmp; exact rfl) | (apply Res.cell; exact rfl; (repeat (first | exact Pick.here | apply Pick.there)); exact rfl) | (apply Res.cellAN; exact rfl; (repeat (first | exact Pick.here | apply Pick.there)); exact rfl; exact rfl) | (apply Res.cellA; exact rfl; (repeat (first | exact Pick.here | apply Pick.there)); exact rfl; exact rfl))))
      · rename_i hlt
        obtain ⟨bs, hbs⟩ : ∃ bs, bss[j + 1]? = some bs := ⟨_, List.getElem?_eq_getElem (by omega)⟩
        obtain ⟨u, hu, hrd⟩ := he (j + 1) bs hbs
        have t3 := tot_succ hbs
        have t4 := tot_mono bss (j + 1 + 1)
        have t5 := hne bs (List.mem_of_getElem? hbs)
        have hl : (bs.map byte).length = bs.length := by simp
        have hjl := joined_length (cs := cs) (i := j + 1) (bss := bss) (by omega)
        obtain ⟨pu, cu, rfl, hcu, hru⟩ := hrd
        have hrd : RdS σ l (.slice pu (bs.map byte).length cu) (bs.map byte) := ⟨pu, cu, rfl, hcu, hru⟩
        rw [hl] at hrd hu
        (apply JO.ru; exact rfl; exact rfl; exact rfl; (apply Ru.loadC; exact rfl; exact fun w s => rd_row hc hu _ (by simp [Nat.add_assoc, Nat.add_comm]) w (Sat.drop s)))
        repeat' (first | (apply JO.ru; exact rfl; exact rfl; exact rfl; (first | (apply Ru.move; exact rfl) | (apply Ru.assign; exact rfl) | (apply Ru.sliceS; exact rfl; exact rfl; exact rfl; exact rfl; (first | exact fun _ => rfl | exact fun h => nomatch h); omega; omega; omega))) | refine JC.seq ?_ | refine JC.region ?_ | refine JO.nil ?_ | refine JE.thenN ?_)
        (apply JO.do; exact rfl; exact rfl; exact rfl; (apply Do.copy (ys := []); exact rfl; exact rfl; exact Pick.here; exact RdS.nil; (rw [hjl]; omega); (intro q hq; cases hq)); rintro _ _ ⟨rfl, rfl⟩)
        rw [List.take_nil, splice]
        repeat' (first | (apply JO.ru; exact rfl; exact rfl; exact rfl; (first | (apply Ru.move; exact rfl) | (apply Ru.assign; exact rfl) | (apply Ru.add; exact rfl; exact rfl; (first | exact wrapI (by omega) (by omega) | exact rfl)) | (apply Ru.sliceS; exact rfl; exact rfl; exact rfl; exact rfl; (first | exact fun _ => rfl | exact fun h => nomatch h); omega; omega; omega))) | refine JC.region ?_ | refine JO.nil ?_ | refine JE.thenN ?_)
        (apply JO.do; exact rfl; exact rfl; exact rfl; (apply Do.copy; exact rfl; exact rfl; exact Pick.here; exact hrd.cons; (rw [hjl]; omega); (intro q hq; obtain ⟨x, _, rfl⟩ := List.mem_map.1 hq; rfl)); rintro _ _ ⟨rfl, rfl⟩)
        have m1 : (tot bss (j + 1) : Int) + ((min 0 ((T : Int) - tot bss (j + 1)).toNat : Nat) : Int) = (tot bss (j + 1) : Nat) := by omega
        rw [m1]
        have m2 : 0 + (tot bss (j + 1) : Int).toNat * 1 = tot bss (j + 1) := by omega
        have m3 : min bs.length ((T : Int) - tot bss (j + 1)).toNat = bs.length := by omega
        rw [m2, m3, List.take_of_length_le (by rw [hl]; exact Nat.le_refl _), joined_splice hbs (by omega)]
        repeat' (first | (apply JO.ru; exact rfl; exact rfl; exact rfl; (first | (apply Ru.move; exact rfl) | (apply Ru.assign; exact rfl) | (apply Ru.add; exact rfl; exact rfl; (first | exact wrapI (by omega) (by omega) | exact rfl)))) | refine JC.region ?_ | refine JO.nil ?_ | refine JE.thenN ?_ | refine JE.blockN ?_)
        refine JE.round (j + 1) (by omega) (by omega) ⟨rfl, rfl, ?_, rfl, rfl, rfl, trivial⟩ (fun _ h => h)
        show some (int _) = some (int _)
        rw [t3]; rfl
      · obtain rfl : i = j + 1 := by omega
        have m4 : joined bss cs (j + 1) = bss.flatten.map byte ++ cs.drop T := by
          rw [joined, List.take_of_length_le (by omega), tot_all (by omega), hT]
        rw [m4]
        refine ⟨_, fun w s => Sat.ownS_arr (xs := bss.flatten.map byte) (spare := cs.drop T) (k := T) (cap := T) (z := 1) (Nat.le_refl _) (by rw [List.length_map]; omega) (by rw [List.length_append, List.length_map]; omega) s, rfl, fun h => by cases h⟩
end Go.Sep
/- image: glued. -/
namespace Go.Sep
open Go Go.Proofs
attribute [local irreducible] JO JC JE JA JQ JB JI Mid Inv Weak ownS Ru Do Fn Sat Pick Take arr pt star ex Holds bodyPost Post Exit.then Exit.inBlock Res
variable {σ : Sig} {F : List HP}
set_option maxHeartbeats 2000000 in
theorem image_Glue (v : Value) (rows : List Value) (bss : List (List UInt8)) (many : Int) (hlen : bss.flatten.length ≤ 1000000000) (hk : bss.length ≤ 1000000000) (hne : ∀ bs ∈ bss, 1 ≤ bs.length) {l : List HP} (hr : RdS σ l v rows) (he : RowsAre σ l rows bss) :
    Fn Tryd.prog σ 54 #[v, int many] l (fun r l' => (0 ≤ many ∧ many ≤ bss.flatten.length ∧ ∃ u, r = .tuple #[u, int 0] ∧ l' = ownS u 5 1 many.toNat ((bss.flatten.take many.toNat).map byte) :: l) ∨ (¬ (0 ≤ many ∧ many ≤ bss.flatten.length) ∧ r = .tuple #[.slice none 0 0, int 1] ∧ l' = l)) := by
  refine Fn.of Tryd.func54 rfl Tryd.ntmps54 rfl ?_
  repeat' (first | (apply JO.ru; exact rfl; exact rfl; exact rfl; (first | (apply Ru.move; exact rfl) | (apply Ru.assign; exact rfl))) | refine JC.seq ?_ | refine JC.region ?_ | refine JO.nil ?_ | refine JE.thenN ?_)
  (apply JO.do; exact rfl; exact rfl; exact rfl; (apply Do.call; exact rfl; exact bytes_Join v rows bss hlen hk hne hr he); rintro u _ ⟨rfl, hnil⟩)
  refine JO.own (fun h _ _ => (hnil h).elim) ?_
  rintro b cap spare rfl hcap hxs hsp
  repeat' (first | (apply JO.ru; exact rfl; exact rfl; exact rfl; (first | (apply Ru.move; exact rfl) | (apply Ru.assign; exact rfl) | (apply Ru.lenS; exact rfl) | (apply Ru.pickT; exact rfl; exact rfl) | (apply Ru.pickF; exact rfl; exact rfl) | (apply Ru.sliceS; exact rfl; exact rfl; exact rfl; exact rfl; (first | exact fun _ => rfl | exact fun h => nomatch h); omega; omega; omega))) | refine JC.seq ?_ | refine JC.region ?_ | refine JO.nil ?_ | refine JE.thenN ?_ | refine JE.thenR ?_ | refine JC.ret ?_ | refine JC.skip ?_ | refine JC.condT rfl ?_ | refine JC.condF rfl ?_ | (apply JO.split; exact rfl; exact rfl; exact rfl; (first | (apply Ru.lss; exact rfl; exact rfl; exact rfl) | (apply Ru.gtr; exact rfl; exact rfl; exact rfl)); all_goals intro _) | refine JO.guardF rfl rfl rfl rfl rfl rfl rfl ?_ | refine JO.guardT rfl rfl rfl rfl ?_ | (apply JE.done2; exact rfl; (first | (apply Res.tmp; exact rfl) | (apply Res.cell; exact rfl; (repeat (first | exact Pick.here | apply Pick.there)); exact rfl) | (apply Res.cellAN; exact rfl; (repeat (first | exact Pick.here | apply Pick.there)); exact rfl; exact rfl) | (apply Res.cellA; exact rfl; (repeat (first | exact Pick.here | apply Pick.there)); exact rfl; exact rfl)); (first | (apply Res.tmp; exact rfl) | (apply Res.cell; exact rfl; (repeat (first | exact Pick.here | apply Pick.there)); exact rfl) | (apply Res.cellAN; exact rfl; (repeat (first | exact Pick.here | apply Pick.there)); exact rfl; exact rfl) | (apply Res.cellA; exact rfl; (repeat (first | exact Pick.here | apply Pick.there)); exact rfl; exact rfl))))
  · refine finD (finS ?_); exact .inr ⟨by omega, rfl, rfl⟩
  · refine finD (finS ?_); exact .inr ⟨by omega, rfl, rfl⟩
  · rename_i h1 h2
    have k1 : 0 + Int.toNat ((0 : Nat) : Int) * 1 = 0 := rfl
    have k2 : (many - ((0 : Nat) : Int)).toNat = many.toNat := by omega
    have k3 : ((cap : Int) - ((0 : Nat) : Int)).toNat = cap := by omega
    rw [k1, k2, k3]
    have k4 : bss.flatten.map byte ++ spare = (bss.flatten.take many.toNat).map byte ++ ((bss.flatten.drop many.toNat).map byte ++ spare) := by
      rw [← List.append_assoc, ← List.map_append, List.take_append_drop]
    rw [k4] at hsp ⊢
    have hl : ((bss.flatten.take many.toNat).map byte).length = many.toNat := by rw [List.length_map, List.length_take]; omega
    refine ⟨_, fun w s => Sat.ownS_arr (k := many.toNat) (cap := cap) (z := 1) (by omega) (by rw [hl]; omega) hsp s, ?_⟩
    exact .inl ⟨by omega, by omega, _, rfl, rfl⟩
end Go.Sep
/- slot: a slot's other sectors, read. -/
namespace Go.Sep
open Go Go.Proofs
attribute [local irreducible] JO JC JE JA JQ JB JI Mid Inv Weak ownS Ru Do Fn Sat Pick Take arr pt star ex Holds bodyPost Post Exit.then Exit.inBlock Res
variable {σ : Sig} {F : List HP}
attribute [local irreducible] diskHP cacheHP planHP rowHP
/-- The sectors behind a slot's first one. -/
def DiskN.rows (D : DiskN) (first : Int) (many : Nat) : List (Int × List UInt8) := (List.range many).map fun (j : Nat) => ((j : Int), D.cur (first + (1 + (j : Int))).toNat)
def DiskN.body (D : DiskN) (first : Int) (many : Nat) : List UInt8 := ((D.rows first many).map (·.2)).flatten
def bodyE (D : DiskN) (first : Int) (j : Nat) : Int := (D.ticks j).readE (first + (1 + (j : Int)))
theorem rows_succ (D : DiskN) (first : Int) (k : Nat) : D.rows first (k + 1) = D.rows first k ++ [((k : Int), D.cur (first + (1 + (k : Int))).toNat)] := by
  simp [DiskN.rows, List.range_succ]
theorem body_succ (D : DiskN) (first : Int) (k : Nat) : D.body first (k + 1) = D.body first k ++ D.cur (first + (1 + (k : Int))).toNat := by
  unfold DiskN.body; rw [rows_succ]; simp
theorem bodyE_range {D : DiskN} {first : Int} {j : Nat} (h : bodyE D first j = 0) (hf : 0 ≤ first) : (first + (1 + (j : Int))).toNat < D.count := by
  unfold bodyE DiskN.readE at h
  split at h
  · cases h
  · split at h
    · cases h
    · rename_i h2
      have : ((D.ticks j).count : Int) = D.count := rfl
      omega
theorem body_len {D : DiskN} {first : Int} (hD : D.WF) (hf : 0 ≤ first) : ∀ (k : Nat), (∀ j, j < k → bodyE D first j = 0) → (D.body first k).length = k * D.size
  | 0, _ => by simp [DiskN.body, DiskN.rows]
  | k + 1, h => by
    have ih := body_len hD hf k fun j hj => h j (by omega)
    have := hD.cur (bodyE_range (h k (by omega)) hf)
    rw [body_succ, List.length_append, ih, this, Nat.succ_mul]
set_option maxHeartbeats 4000000 in
theorem place_whole (d : Nat) (D : DiskN) (db fb : Nat) (first len : Int) (many : Nat) (hD : D.WF) (ho : D.ops + many ≤ 1000000000000) (hm : many ≤ 4096) (hi : 0 ≤ first ∧ first ≤ 1000000) :
    Fn Tryd.prog σ 30 #[placeV many D.size db fb, int len] (slotL d D db fb first F)
      (fun v l' => (∃ k, k < many ∧ (∀ j, j < k → bodyE D first j = 0) ∧ bodyE D first k ≠ 0 ∧ v = .tuple #[.slice none 0 0, int (bodyE D first k)] ∧ l' = slotL d (D.ticks (k + 1)) db fb first F) ∨
        ((∀ j, j < many → bodyE D first j = 0) ∧
          ((0 ≤ len ∧ len ≤ (D.body first many).length ∧ ∃ u, v = .tuple #[u, int 0] ∧ l' = ownS u 5 1 len.toNat (((D.body first many).take len.toNat).map byte) :: slotL d (D.ticks many) db fb first F) ∨
           (¬ (0 ≤ len ∧ len ≤ (D.body first many).length) ∧ v = .tuple #[.slice none 0 0, int 1] ∧ l' = slotL d (D.ticks many) db fb first F)))) := by
  refine Fn.of Tryd.func30 rfl Tryd.ntmps30 rfl ?_
  repeat' (first | (apply JO.ru; exact rfl; exact rfl; exact rfl; (first | (apply Ru.move; exact rfl) | (apply Ru.loadN; exact rfl; (repeat (first | exact Pick.here | apply Pick.there)); exact rfl) | (apply Ru.fieldAddr; exact rfl) | (apply Ru.assign; exact rfl))) | refine JC.seq ?_ | refine JC.region ?_ | refine JO.nil ?_ | refine JE.thenN ?_ | refine JC.block ?_ | (apply JO.do; exact rfl; exact rfl; exact rfl; (first | (apply Do.boxN; exact rfl; exact rfl) | (apply Do.box; exact rfl)); rintro _ _ ⟨_, rfl, rfl⟩))
  rename_i pb
  refine JC.loop (fun x : Nat × List (Int × Value × List UInt8) × Value => [(1, int len), (2, .pointer (some ⟨pb, 0, none⟩)), (6, x.2.2), (11, int many), (12, int x.1)])
    (fun x => ownS x.2.2 24 1 x.1 (x.2.1.map (·.2.1)) :: star (x.2.1.map rowHP) :: arr pb 58 [int many, int D.size, rdV db fb, wrV db fb] :: slotL d (D.ticks x.1) db fb first F)
    (fun x => x.1 ≤ many ∧ x.2.1.map (fun p => (p.1, p.2.2)) = D.rows first x.1 ∧ ∀ j, j < x.1 → bodyE D first j = 0) (fun x => many - x.1) (0, [], .slice none 0 0) ⟨Nat.zero_le _, rfl, fun j h => absurd h (Nat.not_lt_zero _)⟩ ⟨rfl, rfl, rfl, rfl, rfl, trivial⟩ ?_ ?_
  · intro w s
    have s1 : Sat σ w (star (([] : List (Int × Value × List UInt8)).map rowHP) :: arr pb 58 [int many, int D.size, rdV db fb, wrV db fb] :: slotL d D db fb first F) :=
      Sat.star0 s
    exact Sat.ownS_nil s1
  rintro ⟨k, R, v⟩ ⟨hk, hR, hok⟩
  dsimp only at hk hR hok ⊢
  repeat' (first | (apply JO.ru; exact rfl; exact rfl; exact rfl; (first | (apply Ru.move; exact rfl) | (apply Ru.loadN; exact rfl; (repeat (first | exact Pick.here | apply Pick.there)); exact rfl) | (apply Ru.fieldAddr; exact rfl) | (apply Ru.assign; exact rfl) | (apply Ru.add; exact rfl; exact rfl; (first | exact wrapI (by omega) (by omega) | exact rfl)))) | refine JC.seq ?_ | refine JC.region ?_ | refine JO.nil ?_ | refine JE.thenN ?_ | refine JE.thenE ?_ | refine JE.blockE ?_ | refine JC.block ?_ | refine JC.skip ?_ | refine JC.exit ?_ | refine JC.condT rfl ?_ | refine JC.condF rfl ?_ | (apply JO.split; exact rfl; exact rfl; exact rfl; ((apply Ru.lss; exact rfl; exact rfl; exact rfl)); all_goals intro _))
  · rename_i hlt
    have hrd := slot_rd (σ := σ) d (D.ticks k) db fb first (1 + (k : Int)) (hD.ticks k) (by show D.ops + k ≤ _; omega) (by omega) (F := ownS v 24 1 k (R.map (·.2.1)) :: star (R.map rowHP) :: arr pb 58 [int many, int D.size, rdV db fb, wrV db fb] :: F)
    repeat' (fail)
    refine JO.heap (Sat.weak (l' := slotL d (D.ticks k) db fb first (ownS v 24 1 k (R.map (·.2.1)) :: star (R.map rowHP) :: arr pb 58 [int many, int D.size, rdV db fb, wrV db fb] :: F)) (by repeat (first | exact Weak.refl | (apply Weak.cons; (first | exact Pick.here | exact Pick.there Pick.here | exact Pick.there (Pick.there Pick.here) | exact Pick.there (Pick.there (Pick.there Pick.here)) | exact Pick.there (Pick.there (Pick.there (Pick.there Pick.here))) | exact Pick.there (Pick.there (Pick.there (Pick.there (Pick.there Pick.here)))) | exact Pick.there (Pick.there (Pick.there (Pick.there (Pick.there (Pick.there Pick.here))))) | exact Pick.there (Pick.there (Pick.there (Pick.there (Pick.there (Pick.there (Pick.there Pick.here)))))))) | apply Weak.drop))) ?_
    (apply JO.do; exact rfl; exact rfl; exact rfl; (apply Do.callV (f := 43); exact rfl; exact rfl; exact hrd); rintro _ _ (⟨hE, u, rfl, rfl⟩ | ⟨hE, rfl, rfl⟩))
    · have hb0 : bodyE D first k = 0 := hE
      refine JO.ownR Pick.here fun _ _ hsh => ?_
      rcases hsh with ⟨rfl, _⟩ | ⟨bu, cu, rfl, _⟩
      · repeat' (first | (apply JO.ru; exact rfl; exact rfl; exact rfl; (first | (apply Ru.move; exact rfl) | (apply Ru.assign; exact rfl) | (apply Ru.neq; exact rfl; exact rfl; (first | exact ndecF (by omega) | exact ndecT (by omega))) | (apply Ru.extractN; exact rfl; exact rfl))) | refine JC.seq ?_ | refine JC.region ?_ | refine JO.nil ?_ | refine JE.thenN ?_ | refine JC.skip ?_ | refine JC.condF rfl ?_ | (apply JO.do; exact rfl; exact rfl; exact rfl; (first | (apply Do.buildSliceN; exact rfl; exact rfl; exact rfl; exact rfl) | (apply Do.buildSlice; exact rfl; exact rfl; exact rfl; exact rfl)); rintro _ _ ⟨_, rfl, rfl⟩))
        (apply JO.do; exact rfl; exact rfl; exact rfl; (apply Do.append1 (ys := [.slice none 0 0]); exact rfl; exact rfl; exact Pick.there (Pick.there (Pick.there (Pick.there (Pick.there Pick.here)))); exact RdS.arr (vs := [.slice none 0 0]) Pick.here 0 1 1 (Nat.le_refl _) (Nat.le_refl _); (intro q hq; rw [List.mem_singleton.1 hq]; rfl); (show (k + 1) * 24 ≤ _; omega)); rintro v' _ ⟨rfl, _⟩)
        repeat' (first | (apply JO.ru; exact rfl; exact rfl; exact rfl; (first | (apply Ru.move; exact rfl) | (apply Ru.assign; exact rfl) | (apply Ru.add; exact rfl; exact rfl; (first | exact wrapI (by omega) (by omega) | exact rfl)))) | refine JC.region ?_ | refine JO.nil ?_ | refine JE.thenN ?_ | refine JE.blockN ?_)
        refine JE.round (k + 1, R ++ [((k : Int), .slice none 0 0, D.cur (first + (1 + (k : Int))).toNat)], v') ⟨by show k + 1 ≤ many; omega, ?_, ?_⟩ (by show many - (k + 1) < many - k; omega) ⟨rfl, rfl, rfl, rfl, rfl, trivial⟩ ?_
        · show (R ++ _).map _ = D.rows first (k + 1)
          rw [List.map_append, hR, rows_succ]; rfl
        · intro j hj
          by_cases hjk : j = k
          · subst hjk; exact hb0
          · exact hok j (by have : j < k + 1 := hj; omega)
        · intro w s
          have s0 := Sat.weak (l' := bytesHP (.slice none 0 0) (D.cur (first + (1 + (k : Int))).toNat) :: star (R.map rowHP) :: ownS v' 24 1 (k + 1) (R.map (·.2.1) ++ [.slice none 0 0]) :: arr pb 58 [int many, int D.size, rdV db fb, wrV db fb] :: slotL d (D.ticks (k + 1)) db fb first F) (by repeat (first | exact Weak.refl | (apply Weak.cons; (first | exact Pick.here | exact Pick.there Pick.here | exact Pick.there (Pick.there Pick.here) | exact Pick.there (Pick.there (Pick.there Pick.here)) | exact Pick.there (Pick.there (Pick.there (Pick.there Pick.here))) | exact Pick.there (Pick.there (Pick.there (Pick.there (Pick.there Pick.here)))) | exact Pick.there (Pick.there (Pick.there (Pick.there (Pick.there (Pick.there Pick.here))))) | exact Pick.there (Pick.there (Pick.there (Pick.there (Pick.there (Pick.there (Pick.there Pick.here)))))))) | apply Weak.drop)) w s
          have s1 := Sat.rowPush (p := ((k : Int), .slice none 0 0, D.cur (first + (1 + (k : Int))).toNat)) s0
          dsimp only
          rw [List.map_append (f := fun p : Int × Value × List UInt8 => p.2.1)]
          exact Sat.weak (by repeat (first | exact Weak.refl | (apply Weak.cons; (first | exact Pick.here | exact Pick.there Pick.here | exact Pick.there (Pick.there Pick.here) | exact Pick.there (Pick.there (Pick.there Pick.here)) | exact Pick.there (Pick.there (Pick.there (Pick.there Pick.here))) | exact Pick.there (Pick.there (Pick.there (Pick.there (Pick.there Pick.here)))) | exact Pick.there (Pick.there (Pick.there (Pick.there (Pick.there (Pick.there Pick.here))))) | exact Pick.there (Pick.there (Pick.there (Pick.there (Pick.there (Pick.there (Pick.there Pick.here)))))))) | apply Weak.drop)) w s1
      · repeat' (first | (apply JO.ru; exact rfl; exact rfl; exact rfl; (first | (apply Ru.move; exact rfl) | (apply Ru.assign; exact rfl) | (apply Ru.neq; exact rfl; exact rfl; (first | exact ndecF (by omega) | exact ndecT (by omega))) | (apply Ru.extractN; exact rfl; exact rfl))) | refine JC.seq ?_ | refine JC.region ?_ | refine JO.nil ?_ | refine JE.thenN ?_ | refine JC.skip ?_ | refine JC.condF rfl ?_ | (apply JO.do; exact rfl; exact rfl; exact rfl; (first | (apply Do.buildSliceN; exact rfl; exact rfl; exact rfl; exact rfl) | (apply Do.buildSlice; exact rfl; exact rfl; exact rfl; exact rfl)); rintro _ _ ⟨_, rfl, rfl⟩))
        (apply JO.do; exact rfl; exact rfl; exact rfl; (apply Do.append1 (ys := [.slice (some ⟨bu, 0, none⟩) (D.cur (first + (1 + (k : Int))).toNat).length cu]); exact rfl; exact rfl; exact Pick.there (Pick.there (Pick.there (Pick.there (Pick.there Pick.here)))); exact RdS.arr (vs := [.slice (some ⟨bu, 0, none⟩) (D.cur (first + (1 + (k : Int))).toNat).length cu]) Pick.here 0 1 1 (Nat.le_refl _) (Nat.le_refl _); (intro q hq; rw [List.mem_singleton.1 hq]; rfl); (show (k + 1) * 24 ≤ _; omega)); rintro v' _ ⟨rfl, _⟩)
        repeat' (first | (apply JO.ru; exact rfl; exact rfl; exact rfl; (first | (apply Ru.move; exact rfl) | (apply Ru.assign; exact rfl) | (apply Ru.add; exact rfl; exact rfl; (first | exact wrapI (by omega) (by omega) | exact rfl)))) | refine JC.region ?_ | refine JO.nil ?_ | refine JE.thenN ?_ | refine JE.blockN ?_)
        refine JE.round (k + 1, R ++ [((k : Int), .slice (some ⟨bu, 0, none⟩) (D.cur (first + (1 + (k : Int))).toNat).length cu, D.cur (first + (1 + (k : Int))).toNat)], v') ⟨by show k + 1 ≤ many; omega, ?_, ?_⟩ (by show many - (k + 1) < many - k; omega) ⟨rfl, rfl, rfl, rfl, rfl, trivial⟩ ?_
        · show (R ++ _).map _ = D.rows first (k + 1)
          rw [List.map_append, hR, rows_succ]; rfl
        · intro j hj
          by_cases hjk : j = k
          · subst hjk; exact hb0
          · exact hok j (by have : j < k + 1 := hj; omega)
        · intro w s
          have s0 := Sat.weak (l' := bytesHP (.slice (some ⟨bu, 0, none⟩) (D.cur (first + (1 + (k : Int))).toNat).length cu) (D.cur (first + (1 + (k : Int))).toNat) :: star (R.map rowHP) :: ownS v' 24 1 (k + 1) (R.map (·.2.1) ++ [.slice (some ⟨bu, 0, none⟩) (D.cur (first + (1 + (k : Int))).toNat).length cu]) :: arr pb 58 [int many, int D.size, rdV db fb, wrV db fb] :: slotL d (D.ticks (k + 1)) db fb first F) (by repeat (first | exact Weak.refl | (apply Weak.cons; (first | exact Pick.here | exact Pick.there Pick.here | exact Pick.there (Pick.there Pick.here) | exact Pick.there (Pick.there (Pick.there Pick.here)) | exact Pick.there (Pick.there (Pick.there (Pick.there Pick.here))) | exact Pick.there (Pick.there (Pick.there (Pick.there (Pick.there Pick.here)))) | exact Pick.there (Pick.there (Pick.there (Pick.there (Pick.there (Pick.there Pick.here))))) | exact Pick.there (Pick.there (Pick.there (Pick.there (Pick.there (Pick.there (Pick.there Pick.here)))))))) | apply Weak.drop)) w s
          have s1 := Sat.rowPush (p := ((k : Int), .slice (some ⟨bu, 0, none⟩) (D.cur (first + (1 + (k : Int))).toNat).length cu, D.cur (first + (1 + (k : Int))).toNat)) s0
          dsimp only
          rw [List.map_append (f := fun p : Int × Value × List UInt8 => p.2.1)]
          exact Sat.weak (by repeat (first | exact Weak.refl | (apply Weak.cons; (first | exact Pick.here | exact Pick.there Pick.here | exact Pick.there (Pick.there Pick.here) | exact Pick.there (Pick.there (Pick.there Pick.here)) | exact Pick.there (Pick.there (Pick.there (Pick.there Pick.here))) | exact Pick.there (Pick.there (Pick.there (Pick.there (Pick.there Pick.here)))) | exact Pick.there (Pick.there (Pick.there (Pick.there (Pick.there (Pick.there Pick.here))))) | exact Pick.there (Pick.there (Pick.there (Pick.there (Pick.there (Pick.there (Pick.there Pick.here)))))))) | apply Weak.drop)) w s1
    · repeat' (first | (apply JO.ru; exact rfl; exact rfl; exact rfl; (first | (apply Ru.move; exact rfl) | (apply Ru.assign; exact rfl) | (apply Ru.neq; exact rfl; exact rfl; (first | exact ndecF (by omega) | exact ndecT (by omega))) | (apply Ru.extractN; exact rfl; exact rfl))) | refine JC.seq ?_ | refine JC.region ?_ | refine JO.nil ?_ | refine JE.thenN ?_ | refine JE.thenR ?_ | refine JE.blockR ?_ | refine JC.ret ?_ | refine JC.condT rfl ?_ | (apply JE.done2; exact rfl; (first | (apply Res.tmp; exact rfl) | (apply Res.cell; exact rfl; (repeat (first | exact Pick.here | apply Pick.there)); exact rfl) | (apply Res.cellAN; exact rfl; (repeat (first | exact Pick.here | apply Pick.there)); exact rfl; exact rfl) | (apply Res.cellA; exact rfl; (repeat (first | exact Pick.here | apply Pick.there)); exact rfl; exact rfl)); (first | (apply Res.tmp; exact rfl) | (apply Res.cell; exact rfl; (repeat (first | exact Pick.here | apply Pick.there)); exact rfl) | (apply Res.cellAN; exact rfl; (repeat (first | exact Pick.here | apply Pick.there)); exact rfl; exact rfl) | (apply Res.cellA; exact rfl; (repeat (first | exact Pick.here | apply Pick.there)); exact rfl; exact rfl))))
      refine ⟨slotL d (D.ticks (k + 1)) db fb first F, Sat.weak (by repeat (first | exact Weak.refl | (apply Weak.cons; (first | exact Pick.here | exact Pick.there Pick.here | exact Pick.there (Pick.there Pick.here) | exact Pick.there (Pick.there (Pick.there Pick.here)) | exact Pick.there (Pick.there (Pick.there (Pick.there Pick.here))) | exact Pick.there (Pick.there (Pick.there (Pick.there (Pick.there Pick.here)))) | exact Pick.there (Pick.there (Pick.there (Pick.there (Pick.there (Pick.there Pick.here))))) | exact Pick.there (Pick.there (Pick.there (Pick.there (Pick.there (Pick.there (Pick.there Pick.here)))))))) | apply Weak.drop)), .inl ⟨k, by omega, hok, hE, rfl, rfl⟩⟩
  · obtain rfl : k = many := by omega
    have hbl := body_len hD hi.1 k hok
    have hbl2 : k * D.size ≤ 16777216 := Nat.mul_le_mul hm hD.hz2
    have hR2 : (D.rows first k).map (·.2) = R.map (·.2.2) := by rw [← hR, List.map_map]; rfl
    have hfl : (R.map (·.2.2)).flatten = D.body first k := by unfold DiskN.body; rw [hR2]
    have hRl : R.length = k := by
      have := congrArg List.length hR
      simpa [DiskN.rows] using this
    refine JO.rowsR (Pick.there Pick.here) fun hrows => ?_
    refine JO.ownR Pick.here fun hrd _ _ => ?_
    have hgl := image_Glue v (R.map (·.2.1)) (R.map (·.2.2)) len (by rw [hfl]; omega) (by rw [List.length_map]; omega) (by
      intro bs hbs
      rw [← hR2] at hbs
      obtain ⟨p, hp, rfl⟩ := List.mem_map.1 hbs
      obtain ⟨j, hj, rfl⟩ := List.mem_map.1 hp
      have := hD.cur (bodyE_range (hok j (List.mem_range.1 hj)) hi.1)
      have := hD.hz
      dsimp only; omega) hrd ⟨by simp, fun j bs hbs => by
        rw [List.getElem?_map] at hbs
        obtain ⟨p, hp, rfl⟩ := Option.map_eq_some_iff.1 hbs
        exact ⟨p.2.1, by rw [List.getElem?_map, hp]; rfl, hrows p (List.mem_of_getElem? hp)⟩⟩
    rw [hfl] at hgl
    (apply JO.do; exact rfl; exact rfl; exact rfl; (apply Do.call; exact rfl; exact hgl); rintro _ _ (⟨g1, g2, u, rfl, rfl⟩ | ⟨g1, rfl, rfl⟩))
    · repeat' (first | (apply JO.ru; exact rfl; exact rfl; exact rfl; (first | (apply Ru.assign; exact rfl) | (apply Ru.extractN; exact rfl; exact rfl))) | refine JO.nil ?_ | refine JE.thenN ?_ | refine JC.ret ?_ | (apply JE.done2; exact rfl; (first | (apply Res.tmp; exact rfl) | (apply Res.cell; exact rfl; (repeat (first | exact Pick.here | apply Pick.there)); exact rfl) | (apply Res.cellAN; exact rfl; (repeat (first | exact Pick.here | apply Pick.there)); exact rfl; exact rfl) | (apply Res.cellA; exact rfl; (repeat (first | exact Pick.here | apply Pick.there)); exact rfl; exact rfl)); (first | (apply Res.tmp; exact rfl) | (apply Res.cell; exact rfl; (repeat (first | exact Pick.here | apply Pick.there)); exact rfl) | (apply Res.cellAN; exact rfl; (repeat (first | exact Pick.here | apply Pick.there)); exact rfl; exact rfl) | (apply Res.cellA; exact rfl; (repeat (first | exact Pick.here | apply Pick.there)); exact rfl; exact rfl))))
      exact ⟨ownS u 5 1 len.toNat (((D.body first k).take len.toNat).map byte) :: slotL d (D.ticks k) db fb first F, Sat.weak (by repeat (first | exact Weak.refl | (apply Weak.cons; (first | exact Pick.here | exact Pick.there Pick.here | exact Pick.there (Pick.there Pick.here) | exact Pick.there (Pick.there (Pick.there Pick.here)) | exact Pick.there (Pick.there (Pick.there (Pick.there Pick.here))) | exact Pick.there (Pick.there (Pick.there (Pick.there (Pick.there Pick.here)))) | exact Pick.there (Pick.there (Pick.there (Pick.there (Pick.there (Pick.there Pick.here))))) | exact Pick.there (Pick.there (Pick.there (Pick.there (Pick.there (Pick.there (Pick.there Pick.here)))))))) | apply Weak.drop)), .inr ⟨hok, .inl ⟨g1, g2, u, rfl, rfl⟩⟩⟩
    · repeat' (first | (apply JO.ru; exact rfl; exact rfl; exact rfl; (first | (apply Ru.assign; exact rfl) | (apply Ru.extractN; exact rfl; exact rfl))) | refine JO.nil ?_ | refine JE.thenN ?_ | refine JC.ret ?_ | (apply JE.done2; exact rfl; (first | (apply Res.tmp; exact rfl) | (apply Res.cell; exact rfl; (repeat (first | exact Pick.here | apply Pick.there)); exact rfl) | (apply Res.cellAN; exact rfl; (repeat (first | exact Pick.here | apply Pick.there)); exact rfl; exact rfl) | (apply Res.cellA; exact rfl; (repeat (first | exact Pick.here | apply Pick.there)); exact rfl; exact rfl)); (first | (apply Res.tmp; exact rfl) | (apply Res.cell; exact rfl; (repeat (first | exact Pick.here | apply Pick.there)); exact rfl) | (apply Res.cellAN; exact rfl; (repeat (first | exact Pick.here | apply Pick.there)); exact rfl; exact rfl) | (apply Res.cellA; exact rfl; (repeat (first | exact Pick.here | apply Pick.there)); exact rfl; exact rfl))))
      exact ⟨slotL d (D.ticks k) db fb first F, Sat.weak (by repeat (first | exact Weak.refl | (apply Weak.cons; (first | exact Pick.here | exact Pick.there Pick.here | exact Pick.there (Pick.there Pick.here) | exact Pick.there (Pick.there (Pick.there Pick.here)) | exact Pick.there (Pick.there (Pick.there (Pick.there Pick.here))) | exact Pick.there (Pick.there (Pick.there (Pick.there (Pick.there Pick.here)))) | exact Pick.there (Pick.there (Pick.there (Pick.there (Pick.there (Pick.there Pick.here))))) | exact Pick.there (Pick.there (Pick.there (Pick.there (Pick.there (Pick.there (Pick.there Pick.here)))))))) | apply Weak.drop)), .inr ⟨hok, .inr ⟨g1, rfl, rfl⟩⟩⟩
end Go.Sep
/- slot: wiped. -/
namespace Go.Sep
open Go Go.Proofs
attribute [local irreducible] JO JC JE JA JQ JB JI Mid Inv Weak ownS Ru Do Fn Sat Pick Take arr pt star ex Holds bodyPost Post Exit.then Exit.inBlock Res
variable {σ : Sig} {F : List HP}
attribute [local irreducible] diskHP cacheHP planHP rowHP
theorem atE_first {D : DiskN} {which e f s : Int} (h : atE D which e f s = 0) : 0 ≤ which * spanG D.size e f s ∧ which * spanG D.size e f s ≤ 1000000 := by
  have hsp := spanG_bd D.size e f s
  unfold atE at h
  split at h
  · cases h
  · split at h
    · cases h
    · have hw : which = 0 ∨ which = 1 := by omega
      rcases hw with rfl | rfl <;> omega
set_option maxHeartbeats 2000000 in
theorem slot_Wipe (d : Nat) (D : DiskN) (which e f s : Int) (hD : D.WF) (ho : D.ops ≤ 1000000000000) (hw : D.writes ≤ 1000000000000) [hg : InG F] :
    Fn Tryd.prog σ 14 #[.pointer (some ⟨d, 0, none⟩), int which, geoV e f s] (diskHP d D :: F)
      (fun v l' => (atE D which e f s ≠ 0 ∧ v = int (atE D which e f s) ∧ l' = diskHP d D :: F) ∨ (atE D which e f s = 0 ∧
        ((D.writeE (which * spanG D.size e f s) D.size = 0 ∧ v = int 0 ∧ l' = diskHP d (D.put (which * spanG D.size e f s) (padB [] D.size)) :: F) ∨
         (D.writeE (which * spanG D.size e f s) D.size ≠ 0 ∧ v = int (D.writeE (which * spanG D.size e f s) D.size) ∧ l' = diskHP d D.tick :: F)))) := by
  have hsp := spanG_bd D.size e f s
  refine Fn.of Tryd.func14 rfl Tryd.ntmps14 rfl ?_
  repeat' (first | (apply JO.ru; exact rfl; exact rfl; exact rfl; (first | (apply Ru.move; exact rfl) | (apply Ru.assign; exact rfl) | (apply Ru.loadAN; exact rfl; (repeat (first | exact Pick.here | apply Pick.there)); exact rfl; exact rfl))) | refine JC.seq ?_ | refine JC.region ?_ | refine JO.nil ?_ | refine JE.thenN ?_ | (apply JO.do; exact rfl; exact rfl; exact rfl; (first | (apply Do.boxN; exact rfl; exact rfl) | (apply Do.box; exact rfl)); rintro _ _ ⟨_, rfl, rfl⟩))
  rename_i gb
  refine JO.heap (Sat.weak (l' := diskHP d D :: arr gb 23 [int e, int f, int s] :: F) (by repeat (first | exact Weak.refl | (apply Weak.cons; (first | exact Pick.here | exact Pick.there Pick.here | exact Pick.there (Pick.there Pick.here) | exact Pick.there (Pick.there (Pick.there Pick.here)) | exact Pick.there (Pick.there (Pick.there (Pick.there Pick.here))) | exact Pick.there (Pick.there (Pick.there (Pick.there (Pick.there Pick.here)))) | exact Pick.there (Pick.there (Pick.there (Pick.there (Pick.there (Pick.there Pick.here))))) | exact Pick.there (Pick.there (Pick.there (Pick.there (Pick.there (Pick.there (Pick.there Pick.here)))))))) | apply Weak.drop))) ?_
  (apply JO.do; exact rfl; exact rfl; exact rfl; (apply Do.call; exact rfl; exact slot_at d D which e f s hD); rintro _ _ (⟨hE, db, fb, rfl, rfl⟩ | ⟨hE, rfl, rfl⟩))
  · repeat' (first | (apply JO.ru; exact rfl; exact rfl; exact rfl; (first | (apply Ru.move; exact rfl) | (apply Ru.assign; exact rfl) | (apply Ru.neq; exact rfl; exact rfl; (first | exact ndecF (by omega) | exact ndecT (by omega))) | (apply Ru.extractN; exact rfl; exact rfl) | (apply Ru.loadAN; exact rfl; (repeat (first | exact Pick.here | apply Pick.there)); exact rfl; exact rfl))) | refine JC.seq ?_ | refine JC.region ?_ | refine JO.nil ?_ | refine JE.thenN ?_ | refine JC.skip ?_ | refine JC.condF rfl ?_ | (apply JO.do; exact rfl; exact rfl; exact rfl; (first | (apply Do.allocN; exact rfl) | apply Do.alloc); rintro _ _ ⟨_, rfl, rfl⟩) | (apply JO.do0; exact rfl; exact rfl; (first | (apply Do.storeAN; exact rfl; exact rfl; (repeat (first | exact Pick.here | apply Pick.there)); exact rfl; exact rfl; exact rfl; exact rfl) | (apply Do.storeA; exact rfl; exact rfl; (repeat (first | exact Pick.here | apply Pick.there)); exact rfl; exact rfl; exact rfl)); rintro _ _ ⟨rfl, rfl⟩))
    have hfi := atE_first hE
    rename_i pb
    refine JO.heap (Sat.weak (l' := slotL d D db fb (which * spanG D.size e f s) (arr pb 58 [int (spanG D.size e f s - 1), int D.size, rdV db fb, wrV db fb] :: F)) (by repeat (first | exact Weak.refl | (apply Weak.cons; (first | exact Pick.here | exact Pick.there Pick.here | exact Pick.there (Pick.there Pick.here) | exact Pick.there (Pick.there (Pick.there Pick.here)) | exact Pick.there (Pick.there (Pick.there (Pick.there Pick.here))) | exact Pick.there (Pick.there (Pick.there (Pick.there (Pick.there Pick.here)))) | exact Pick.there (Pick.there (Pick.there (Pick.there (Pick.there (Pick.there Pick.here))))) | exact Pick.there (Pick.there (Pick.there (Pick.there (Pick.there (Pick.there (Pick.there Pick.here)))))))) | apply Weak.drop))) ?_
    (apply JO.do; exact rfl; exact rfl; exact rfl; (apply Do.call; exact rfl; exact place_first d D db fb (which * spanG D.size e f s) (spanG D.size e f s - 1) (.slice none 0 0) [] hD ho hw (Nat.zero_le _) ⟨hfi.1, by omega⟩ RdS.nil); rintro _ _ (⟨hW, rfl, rfl⟩ | ⟨hW, rfl, rfl⟩))
    · repeat' (first | (apply JO.ru; exact rfl; exact rfl; exact rfl; ((apply Ru.assign; exact rfl))) | refine JO.nil ?_ | refine JE.thenN ?_ | refine JC.ret ?_ | (apply JE.done1; exact rfl; (first | (apply Res.tmp; exact rfl) | (apply Res.cell; exact rfl; (repeat (first | exact Pick.here | apply Pick.there)); exact rfl) | (apply Res.cellAN; exact rfl; (repeat (first | exact Pick.here | apply Pick.there)); exact rfl; exact rfl) | (apply Res.cellA; exact rfl; (repeat (first | exact Pick.here | apply Pick.there)); exact rfl; exact rfl))))
      exact ⟨diskHP d (D.put (which * spanG D.size e f s) (padB [] D.size)) :: F, Sat.weak (by repeat (first | exact Weak.refl | (apply Weak.cons; (first | exact Pick.here | exact Pick.there Pick.here | exact Pick.there (Pick.there Pick.here) | exact Pick.there (Pick.there (Pick.there Pick.here)) | exact Pick.there (Pick.there (Pick.there (Pick.there Pick.here))) | exact Pick.there (Pick.there (Pick.there (Pick.there (Pick.there Pick.here)))) | exact Pick.there (Pick.there (Pick.there (Pick.there (Pick.there (Pick.there Pick.here))))) | exact Pick.there (Pick.there (Pick.there (Pick.there (Pick.there (Pick.there (Pick.there Pick.here)))))))) | apply Weak.drop)), .inr ⟨hE, .inl ⟨hW, rfl, rfl⟩⟩⟩
    · repeat' (first | (apply JO.ru; exact rfl; exact rfl; exact rfl; ((apply Ru.assign; exact rfl))) | refine JO.nil ?_ | refine JE.thenN ?_ | refine JC.ret ?_ | (apply JE.done1; exact rfl; (first | (apply Res.tmp; exact rfl) | (apply Res.cell; exact rfl; (repeat (first | exact Pick.here | apply Pick.there)); exact rfl) | (apply Res.cellAN; exact rfl; (repeat (first | exact Pick.here | apply Pick.there)); exact rfl; exact rfl) | (apply Res.cellA; exact rfl; (repeat (first | exact Pick.here | apply Pick.there)); exact rfl; exact rfl))))
      exact ⟨diskHP d D.tick :: F, Sat.weak (by repeat (first | exact Weak.refl | (apply Weak.cons; (first | exact Pick.here | exact Pick.there Pick.here | exact Pick.there (Pick.there Pick.here) | exact Pick.there (Pick.there (Pick.there Pick.here)) | exact Pick.there (Pick.there (Pick.there (Pick.there Pick.here))) | exact Pick.there (Pick.there (Pick.there (Pick.there (Pick.there Pick.here)))) | exact Pick.there (Pick.there (Pick.there (Pick.there (Pick.there (Pick.there Pick.here))))) | exact Pick.there (Pick.there (Pick.there (Pick.there (Pick.there (Pick.there (Pick.there Pick.here)))))))) | apply Weak.drop)), .inr ⟨hE, .inr ⟨hW, rfl, rfl⟩⟩⟩
  · repeat' (first | (apply JO.ru; exact rfl; exact rfl; exact rfl; (first | (apply Ru.move; exact rfl) | (apply Ru.assign; exact rfl) | (apply Ru.neq; exact rfl; exact rfl; (first | exact ndecF (by omega) | exact ndecT (by omega))) | (apply Ru.extractN; exact rfl; exact rfl))) | refine JC.seq ?_ | refine JC.region ?_ | refine JO.nil ?_ | refine JE.thenN ?_ | refine JE.thenR ?_ | refine JC.ret ?_ | refine JC.condT rfl ?_ | (apply JO.do; exact rfl; exact rfl; exact rfl; (first | (apply Do.allocN; exact rfl) | apply Do.alloc); rintro _ _ ⟨_, rfl, rfl⟩) | (apply JO.do0; exact rfl; exact rfl; (first | (apply Do.storeAN; exact rfl; exact rfl; (repeat (first | exact Pick.here | apply Pick.there)); exact rfl; exact rfl; exact rfl; exact rfl) | (apply Do.storeA; exact rfl; exact rfl; (repeat (first | exact Pick.here | apply Pick.there)); exact rfl; exact rfl; exact rfl)); rintro _ _ ⟨rfl, rfl⟩) | (apply JE.done1; exact rfl; (first | (apply Res.tmp; exact rfl) | (apply Res.cell; exact rfl; (repeat (first | exact Pick.here | apply Pick.there)); exact rfl) | (apply Res.cellAN; exact rfl; (repeat (first | exact Pick.here | apply Pick.there)); exact rfl; exact rfl) | (apply Res.cellA; exact rfl; (repeat (first | exact Pick.here | apply Pick.there)); exact rfl; exact rfl))))
    exact ⟨diskHP d D :: F, Sat.weak (by repeat (first | exact Weak.refl | (apply Weak.cons; (first | exact Pick.here | exact Pick.there Pick.here | exact Pick.there (Pick.there Pick.here) | exact Pick.there (Pick.there (Pick.there Pick.here)) | exact Pick.there (Pick.there (Pick.there (Pick.there Pick.here))) | exact Pick.there (Pick.there (Pick.there (Pick.there (Pick.there Pick.here)))) | exact Pick.there (Pick.there (Pick.there (Pick.there (Pick.there (Pick.there Pick.here))))) | exact Pick.there (Pick.there (Pick.there (Pick.there (Pick.there (Pick.there (Pick.there Pick.here)))))))) | apply Weak.drop)), .inl ⟨hE, rfl, rfl⟩⟩
end Go.Sep
/- head: bytes as numbers. -/
namespace Go.Sep
open Go Go.Proofs
attribute [local irreducible] JO JC JE JA JQ JB JI Mid Inv Weak ownS Ru Do Fn Sat Pick Take arr pt star ex Holds bodyPost Post Exit.then Exit.inBlock Res
variable {σ : Sig} {F : List HP}
def leNum : List UInt8 → Int
  | [] => 0
  | x :: r => x.toNat + 256 * leNum r
theorem leNum_bd : ∀ bs : List UInt8, 0 ≤ leNum bs ∧ leNum bs < 256 ^ bs.length
  | [] => ⟨Int.le_refl _, by decide⟩
  | x :: r => by
    have h := leNum_bd r
    have hx : x.toNat < 256 := UInt8.toNat_lt x
    simp only [leNum, List.length_cons, Int.pow_succ]
    omega
theorem leNum_leBytes : ∀ (m : Nat) (n : Int), 0 ≤ n → leNum (leBytes m n) = n % 256 ^ m
  | 0, n, _ => by simp [leNum, leBytes]
  | m + 1, n, h => by
    have e : ((UInt8.ofNat (n % 256).toNat).toNat : Int) = n % 256 := by
      simp only [UInt8.toNat_ofNat']
      omega
    rw [leBytes, leNum, leNum_leBytes m (n / 256) (by omega), e, Int.pow_succ]
    have h2 : (0 : Int) < 256 ^ m := Int.pow_pos (by decide)
    have h3 : n / 256 / 256 ^ m = n / (256 ^ m * 256) := by rw [Int.ediv_ediv_of_nonneg (by omega), Int.mul_comm]
    have h4 := Int.emod_def n (256 ^ m * 256)
    have h5 := Int.emod_def (n / 256) (256 ^ m)
    rw [h4, h5, h3, Int.mul_assoc, Int.mul_sub, ← Int.mul_assoc 256, Int.mul_comm 256 (256 ^ m), Int.mul_assoc]
    omega
theorem or_key (w m x : Nat) (hx : x < 256) (hw : m * 256 + x < 2 ^ w) : (BitVec.ofNat w (m * 256) ||| BitVec.ofNat w x).toNat = m * 256 + x := by
  rw [BitVec.toNat_or, BitVec.toNat_ofNat, BitVec.toNat_ofNat, Nat.mod_eq_of_lt (Nat.lt_of_le_of_lt (Nat.le_add_right _ _) hw), Nat.mod_eq_of_lt (Nat.lt_of_le_of_lt (Nat.le_add_left _ _) hw)]
  have := Nat.shiftLeft_add_eq_or_of_lt (a := m) (b := x) (i := 8) hx
  rw [Nat.shiftLeft_eq] at this
  exact this.symm
theorem bits_or32 (m x : Int) (h0 : 0 ≤ m) (hx : 0 ≤ x ∧ x < 256) (hb : m * 256 + x < 4294967296) :
    Go.bits .or .u32 (IntKind.u32.wrap (m * 2 ^ min (8 : Int).toNat IntKind.u32.bits)) (IntKind.u32.wrap x) = m * 256 + x := by
  obtain ⟨m, rfl⟩ := Int.eq_ofNat_of_zero_le h0
  obtain ⟨x, rfl⟩ := Int.eq_ofNat_of_zero_le hx.1
  have hk := or_key 32 m x (by omega) (by omega)
  show Go.bits .or .u32 (IntKind.u32.wrap (m * 256)) (IntKind.u32.wrap x) = _
  rw [wrapU32 (by omega) (by omega), wrapU32 (by omega) (by omega)]
  have h1 : ((m : Int) * 256) = ((m * 256 : Nat) : Int) := by omega
  show IntKind.u32.wrap (((BitVec.ofInt 32 ((m : Int) * 256)) ||| (BitVec.ofInt 32 (x : Int))).toNat : Int) = _
  rw [h1, BitVec.ofInt_natCast, BitVec.ofInt_natCast, hk, wrapU32 (by omega) (by omega), Int.natCast_add]
theorem bits_or64 (m x : Int) (h0 : 0 ≤ m) (hx : 0 ≤ x ∧ x < 256) (hb : m * 256 + x < 18446744073709551616) :
    Go.bits .or .u64 (IntKind.u64.wrap (m * 2 ^ min (8 : Int).toNat IntKind.u64.bits)) (IntKind.u64.wrap x) = m * 256 + x := by
  obtain ⟨m, rfl⟩ := Int.eq_ofNat_of_zero_le h0
  obtain ⟨x, rfl⟩ := Int.eq_ofNat_of_zero_le hx.1
  have hk := or_key 64 m x (by omega) (by omega)
  show Go.bits .or .u64 (IntKind.u64.wrap (m * 256)) (IntKind.u64.wrap x) = _
  rw [wrapU64 (by omega) (by omega), wrapU64 (by omega) (by omega)]
  have h1 : ((m : Int) * 256) = ((m * 256 : Nat) : Int) := by omega
  show IntKind.u64.wrap (((BitVec.ofInt 64 ((m : Int) * 256)) ||| (BitVec.ofInt 64 (x : Int))).toNat : Int) = _
  rw [h1, BitVec.ofInt_natCast, BitVec.ofInt_natCast, hk, wrapU64 (by omega) (by omega), Int.natCast_add]

theorem leNum_drop {bs : List UInt8} {j : Nat} (h : j < bs.length) : leNum (bs.drop j) = (bs[j].toNat : Int) + 256 * leNum (bs.drop (j + 1)) := by
  rw [List.drop_eq_getElem_cons h]; rfl
theorem pow256_le {i j : Nat} (h : i ≤ j) : (256 : Int) ^ i ≤ 256 ^ j := by
  induction j with
  | zero => obtain rfl : i = 0 := by omega
            exact Int.le_refl _
  | succ j ih =>
    rcases Nat.lt_or_ge j i with q | q
    · obtain rfl : i = j + 1 := by omega
      exact Int.le_refl _
    · have := ih q
      have h2 : (0 : Int) < 256 ^ j := Int.pow_pos (by decide)
      rw [Int.pow_succ]; omega
theorem leNum_drop_bd (bs : List UInt8) (j m : Nat) (h : bs.length ≤ m) : 0 ≤ leNum (bs.drop j) ∧ leNum (bs.drop j) < 256 ^ m := by
  have h1 := leNum_bd (bs.drop j)
  have h2 : (256 : Int) ^ (bs.drop j).length ≤ 256 ^ m := by
    exact pow256_le (by rw [List.length_drop]; omega)
  omega

set_option maxHeartbeats 1000000 in
theorem head_take32 (v : Value) (bs : List UInt8) (hlen : bs.length ≤ 4) {l : List HP} (hb : RdS σ l v (bs.map byte)) : Fn Tryd.prog σ 51 #[v] l (fun v l' => v = u32 (leNum bs) ∧ l' = l) := by
  obtain ⟨p, cap, rfl, hcap, hr⟩ := hb
  have hl : (bs.map byte).length = bs.length := by simp
  refine Fn.of Tryd.func51 rfl Tryd.ntmps51 rfl ?_
  repeat' (first | (apply JO.ru; exact rfl; exact rfl; exact rfl; (first | (apply Ru.move; exact rfl) | (apply Ru.assign; exact rfl) | (apply Ru.lenS; exact rfl) | (apply Ru.sub; exact rfl; exact rfl; (first | exact wrapI (by omega) (by omega) | exact rfl)))) | refine JC.seq ?_ | refine JC.region ?_ | refine JO.nil ?_ | refine JE.thenN ?_ | refine JC.block ?_)
  refine JC.loop (fun j : Nat => [(0, .slice p (bs.map byte).length cap), (3, u32 (leNum (bs.drop j))), (4, int ((j : Int) - 1))]) (fun _ => l) (fun j => j ≤ bs.length) (fun j => j) bs.length (Nat.le_refl _) ⟨rfl, by rw [List.drop_length]; rfl, by rw [← hl]; rfl, trivial⟩ (fun _ h => h) ?_
  intro j hj
  repeat' (first | (apply JO.ru; exact rfl; exact rfl; exact rfl; (first | (apply Ru.move; exact rfl) | (apply Ru.assign; exact rfl) | (apply Ru.shl; exact rfl; exact rfl; decide; exact rfl))) | refine JC.seq ?_ | refine JC.region ?_ | refine JO.nil ?_ | refine JE.thenN ?_ | refine JE.thenE ?_ | refine JE.blockE ?_ | refine JC.block ?_ | refine JC.ret ?_ | refine JC.skip ?_ | refine JC.exit ?_ | refine JC.condT rfl ?_ | refine JC.condF rfl ?_ | (apply JO.split; exact rfl; exact rfl; exact rfl; ((apply Ru.geq; exact rfl; exact rfl; exact rfl)); all_goals intro _) | (apply JE.done1; exact rfl; (first | (apply Res.tmp; exact rfl) | (apply Res.cell; exact rfl; (repeat (first | exact Pick.here | apply Pick.there)); exact rfl) | (apply Res.cellAN; exact rfl; (repeat (first | exact Pick.here | apply Pick.there)); exact rfl; exact rfl) | (apply Res.cellA; exact rfl; (repeat (first | exact Pick.here | apply Pick.there)); exact rfl; exact rfl))))
  · rename_i hlt
    obtain ⟨j, rfl⟩ : ∃ i, j = i + 1 := ⟨j - 1, by omega⟩
    have hlt' : j < bs.length := by omega
    rcases hr with h0 | ⟨b, o, rfl, hc⟩
    · rw [h0] at hl; simp at hl; omega
    repeat' ((apply JO.ru; exact rfl; exact rfl; exact rfl; ((apply Ru.indexAddr; exact rfl; exact rfl; omega; omega))))
    (apply JO.ru; exact rfl; exact rfl; exact rfl; (apply Ru.loadC; exact rfl; exact rd_cell hc hlt' (by omega)))
    repeat' (first | (apply JO.ru; exact rfl; exact rfl; exact rfl; (first | (apply Ru.move; exact rfl) | (apply Ru.assign; exact rfl) | (apply Ru.sub; exact rfl; exact rfl; (first | exact wrapI (by omega) (by omega) | exact rfl)) | (apply Ru.or; exact rfl; exact rfl) | (apply Ru.conv; exact rfl; exact rfl))) | refine JC.region ?_ | refine JO.nil ?_ | refine JE.thenN ?_ | refine JE.blockN ?_)
    refine JE.round j (by omega) (by omega) ⟨rfl, ?_, ?_, trivial⟩ (fun _ h => h)
    · have b1 := leNum_drop_bd bs (j + 1) 4 hlen
      have b2 := leNum_drop_bd bs j 4 hlen
      have b3 := leNum_drop hlt'
      have b4 : bs[j].toNat < 256 := UInt8.toNat_lt _
      show some _ = some (u32 _)
      rw [bits_or32 _ _ b1.1 (by omega) (by omega), b3]
      congr 2
      omega
    · show some (int _) = some (int _); congr 2; omega
  · obtain rfl : j = 0 := by omega
    refine finS ?_; exact ⟨by rw [List.drop_zero], rfl⟩
set_option maxHeartbeats 1000000 in
theorem head_take64 (v : Value) (bs : List UInt8) (hlen : bs.length ≤ 8) {l : List HP} (hb : RdS σ l v (bs.map byte)) : Fn Tryd.prog σ 52 #[v] l (fun v l' => v = u64 (leNum bs) ∧ l' = l) := by
  obtain ⟨p, cap, rfl, hcap, hr⟩ := hb
  have hl : (bs.map byte).length = bs.length := by simp
  refine Fn.of Tryd.func52 rfl Tryd.ntmps52 rfl ?_
  repeat' (first | (apply JO.ru; exact rfl; exact rfl; exact rfl; (first | (apply Ru.move; exact rfl) | (apply Ru.assign; exact rfl) | (apply Ru.lenS; exact rfl) | (apply Ru.sub; exact rfl; exact rfl; (first | exact wrapI (by omega) (by omega) | exact rfl)))) | refine JC.seq ?_ | refine JC.region ?_ | refine JO.nil ?_ | refine JE.thenN ?_ | refine JC.block ?_)
  refine JC.loop (fun j : Nat => [(0, .slice p (bs.map byte).length cap), (3, u64 (leNum (bs.drop j))), (4, int ((j : Int) - 1))]) (fun _ => l) (fun j => j ≤ bs.length) (fun j => j) bs.length (Nat.le_refl _) ⟨rfl, by rw [List.drop_length]; rfl, by rw [← hl]; rfl, trivial⟩ (fun _ h => h) ?_
  intro j hj
  repeat' (first | (apply JO.ru; exact rfl; exact rfl; exact rfl; (first | (apply Ru.move; exact rfl) | (apply Ru.assign; exact rfl) | (apply Ru.shl; exact rfl; exact rfl; decide; exact rfl))) | refine JC.seq ?_ | refine JC.region ?_ | refine JO.nil ?_ | refine JE.thenN ?_ | refine JE.thenE ?_ | refine JE.blockE ?_ | refine JC.block ?_ | refine JC.ret ?_ | refine JC.skip ?_ | refine JC.exit ?_ | refine JC.condT rfl ?_ | refine JC.condF rfl ?_ | (apply JO.split; exact rfl; exact rfl; exact rfl; ((apply Ru.geq; exact rfl; exact rfl; exact rfl)); all_goals intro _) | (apply JE.done1; exact rfl; (first | (apply Res.tmp; exact rfl) | (apply Res.cell; exact rfl; (repeat (first | exact Pick.here | apply Pick.there)); exact rfl) | (apply Res.cellAN; exact rfl; (repeat (first | exact Pick.here | apply Pick.there)); exact rfl; exact rfl) | (apply Res.cellA; exact rfl; (repeat (first | exact Pick.here | apply Pick.there)); exact rfl; exact rfl))))
  · rename_i hlt
    obtain ⟨j, rfl⟩ : ∃ i, j = i + 1 := ⟨j - 1, by omega⟩
    have hlt' : j < bs.length := by omega
    rcases hr with h0 | ⟨b, o, rfl, hc⟩
    · rw [h0] at hl; simp at hl; omega
    repeat' ((apply JO.ru; exact rfl; exact rfl; exact rfl; ((apply Ru.indexAddr; exact rfl; exact rfl; omega; omega))))
    (apply JO.ru; exact rfl; exact rfl; exact rfl; (apply Ru.loadC; exact rfl; exact rd_cell hc hlt' (by omega)))
    repeat' (first | (apply JO.ru; exact rfl; exact rfl; exact rfl; (first | (apply Ru.move; exact rfl) | (apply Ru.assign; exact rfl) | (apply Ru.sub; exact rfl; exact rfl; (first | exact wrapI (by omega) (by omega) | exact rfl)) | (apply Ru.or; exact rfl; exact rfl) | (apply Ru.conv; exact rfl; exact rfl))) | refine JC.region ?_ | refine JO.nil ?_ | refine JE.thenN ?_ | refine JE.blockN ?_)
    refine JE.round j (by omega) (by omega) ⟨rfl, ?_, ?_, trivial⟩ (fun _ h => h)
    · have b1 := leNum_drop_bd bs (j + 1) 8 hlen
      have b2 := leNum_drop_bd bs j 8 hlen
      have b3 := leNum_drop hlt'
      have b4 : bs[j].toNat < 256 := UInt8.toNat_lt _
      show some _ = some (u64 _)
      rw [bits_or64 _ _ b1.1 (by omega) (by omega), b3]
      congr 2
      omega
    · show some (int _) = some (int _); congr 2; omega
  · obtain rfl : j = 0 := by omega
    refine finS ?_; exact ⟨by rw [List.drop_zero], rfl⟩
end Go.Sep
/- head: laid and read. -/
namespace Go.Sep
open Go Go.Proofs
attribute [local irreducible] JO JC JE JA JQ JB JI Mid Inv Weak ownS Ru Do Fn Sat Pick Take arr pt star ex Holds bodyPost Post Exit.then Exit.inBlock Res
variable {σ : Sig} {F : List HP}
structure HeadN where
  (e f s len seq sum : Int)
def HeadN.val (h : HeadN) : Value := .agg #[int h.e, int h.f, int h.s, int h.len, u64 h.seq, u32 h.sum]
def HeadN.zero : HeadN := ⟨0, 0, 0, 0, 0, 0⟩
def HeadN.right (h : HeadN) : Bool := rightG h.e h.f h.s && decide (h.len = totG h.e h.f h.s)

set_option maxHeartbeats 1000000 in
theorem head_right (h : HeadN) [hg : InG F] : Fn Tryd.prog σ 53 #[h.val] F (fun v l => v = .bool h.right ∧ l = F) := by
  unfold HeadN.right
  obtain ⟨e, f, s, len, seq, sum⟩ := h
  dsimp only
  refine Fn.of Tryd.func53 rfl Tryd.ntmps53 rfl ?_
  by_cases h : rightG e f s = true
  · repeat' (first | (first | (apply JO.ru; exact rfl; exact rfl; exact rfl; ((apply Ru.assign; exact rfl))) | refine JC.seq ?_ | refine JC.region ?_ | refine JO.nil ?_ | refine JE.thenN ?_ | refine JC.ret ?_ | (apply JQ.ru; exact rfl; exact rfl; exact rfl; (first | (apply Ru.move; exact rfl) | (apply Ru.loadN; exact rfl; (repeat (first | exact Pick.here | apply Pick.there)); exact rfl) | (apply Ru.fieldAddr; exact rfl) | (apply Ru.assign; exact rfl) | (apply Ru.pickT; exact rfl; exact rfl) | (apply Ru.loadAN; exact rfl; (repeat (first | exact Pick.here | apply Pick.there)); exact rfl; exact rfl))) | (apply JQ.split; exact rfl; exact rfl; exact rfl; ((apply Ru.eql; exact rfl; exact rfl; exact rfl)); all_goals intro _) | refine JQ.nil ?_ | (apply JO.do; exact rfl; exact rfl; exact rfl; (first | (apply Do.boxN; exact rfl; exact rfl) | (apply Do.box; exact rfl)); rintro _ _ ⟨_, rfl, rfl⟩) | refine JC.regionQ mixed (by decide +kernel) ?_ | (apply JE.done1; exact rfl; (first | (apply Res.tmp; exact rfl) | (apply Res.cell; exact rfl; (repeat (first | exact Pick.here | apply Pick.there)); exact rfl) | (apply Res.cellAN; exact rfl; (repeat (first | exact Pick.here | apply Pick.there)); exact rfl; exact rfl) | (apply Res.cellA; exact rfl; (repeat (first | exact Pick.here | apply Pick.there)); exact rfl; exact rfl)))) | ((first | (apply JO.do; exact rfl; exact rfl; exact rfl; (apply Do.call; exact rfl; exact geo_Right _ _ _); rintro _ _ ⟨rfl, hq⟩; obtain rfl := hq.symm) | (apply JQ.call; exact rfl; exact rfl; exact rfl; exact geo_Right _ _ _; (rintro _ _ ⟨rfl, rfl⟩; exact ⟨rfl, rfl⟩))); rw [h]) | (first | (apply JO.do; exact rfl; exact rfl; exact rfl; (apply Do.call; exact rfl; exact geo_Total _ _ _); rintro _ _ ⟨rfl, hq⟩; obtain rfl := hq.symm) | (apply JQ.call; exact rfl; exact rfl; exact rfl; exact geo_Total _ _ _; (rintro _ _ ⟨rfl, rfl⟩; exact ⟨rfl, rfl⟩))))
    all_goals (refine finD (finS ?_); exact ⟨by simp; omega, rfl⟩)
  · simp only [Bool.not_eq_true] at h
    repeat' (first | (first | (apply JO.ru; exact rfl; exact rfl; exact rfl; ((apply Ru.assign; exact rfl))) | refine JC.seq ?_ | refine JC.region ?_ | refine JO.nil ?_ | refine JE.thenN ?_ | refine JC.ret ?_ | (apply JQ.ru; exact rfl; exact rfl; exact rfl; (first | (apply Ru.move; exact rfl) | (apply Ru.fieldAddr; exact rfl) | (apply Ru.assign; exact rfl) | (apply Ru.pickF; exact rfl; exact rfl) | (apply Ru.loadAN; exact rfl; (repeat (first | exact Pick.here | apply Pick.there)); exact rfl; exact rfl))) | refine JQ.skip rfl rfl rfl ?_ | refine JQ.nil ?_ | (apply JO.do; exact rfl; exact rfl; exact rfl; (first | (apply Do.boxN; exact rfl; exact rfl) | (apply Do.box; exact rfl)); rintro _ _ ⟨_, rfl, rfl⟩) | refine JC.regionQ mixed (by decide +kernel) ?_ | (apply JE.done1; exact rfl; (first | (apply Res.tmp; exact rfl) | (apply Res.cell; exact rfl; (repeat (first | exact Pick.here | apply Pick.there)); exact rfl) | (apply Res.cellAN; exact rfl; (repeat (first | exact Pick.here | apply Pick.there)); exact rfl; exact rfl) | (apply Res.cellA; exact rfl; (repeat (first | exact Pick.here | apply Pick.there)); exact rfl; exact rfl)))) | ((first | (apply JO.do; exact rfl; exact rfl; exact rfl; (apply Do.call; exact rfl; exact geo_Right _ _ _); rintro _ _ ⟨rfl, hq⟩; obtain rfl := hq.symm) | (apply JQ.call; exact rfl; exact rfl; exact rfl; exact geo_Right _ _ _; (rintro _ _ ⟨rfl, rfl⟩; exact ⟨rfl, rfl⟩))); rw [h]))
    all_goals (refine finD (finS ?_); exact ⟨by simp [*], rfl⟩)

theorem wrap32_bd (n : Int) : 0 ≤ IntKind.u32.wrap n ∧ IntKind.u32.wrap n < 4294967296 := by
  have e : IntKind.u32.wrap n = n % 4294967296 := rfl
  rw [e]; omega
theorem bits_bd32 (op : BinOp) (a b : Int) : 0 ≤ Go.bits op .u32 a b ∧ Go.bits op .u32 a b < 4294967296 := by
  unfold Go.bits; exact wrap32_bd _
theorem crcSum_bd (bs : List UInt8) : 0 ≤ crcSum bs ∧ crcSum bs < 4294967296 := by
  unfold crcSum crcMore comI; exact bits_bd32 _ _ _

def encBody (h : HeadN) : List UInt8 := [75, 69, 69, 80, 1, UInt8.ofNat (h.e % 256).toNat, UInt8.ofNat (h.f % 256).toNat, UInt8.ofNat (h.s % 256).toNat] ++ leBytes 4 (IntKind.u32.wrap h.len) ++ leBytes 8 h.seq ++ leBytes 4 h.sum
def enc (h : HeadN) : List UInt8 := encBody h ++ leBytes 4 (crcSum (encBody h))
set_option maxHeartbeats 2000000 in
theorem head_Encode (h : HeadN) (h64 : 0 ≤ h.seq) (h32 : 0 ≤ h.sum) [hg : InG F] : Fn Tryd.prog σ 32 #[h.val] F
    (fun v l => (h.right = true ∧ ∃ u, v = .tuple #[u, int 0] ∧ l = ownS u 5 1 28 ((enc h).map byte) :: F) ∨ (h.right = false ∧ v = .tuple #[.slice none 0 0, int 9] ∧ l = F)) := by
  obtain ⟨e, f, s, len, seq, sum⟩ := h
  dsimp only at *
  have hr := fun G [InG G] => head_right (F := G) (σ := σ) ⟨e, f, s, len, seq, sum⟩
  have hwr := wrap32_bd len
  refine Fn.of Tryd.func32 rfl Tryd.ntmps32 rfl ?_
  by_cases h : HeadN.right ⟨e, f, s, len, seq, sum⟩ = true
  · have hb : rightG e f s = true := by unfold HeadN.right at h; simp at h; exact h.1
    have hb' : 0 ≤ e ∧ e ≤ 10 ∧ 0 ≤ f ∧ f ≤ 64 ∧ 0 ≤ s ∧ s ≤ 128 := by simpa [rightG] using hb
    repeat' (first | (first | (apply JO.ru; exact rfl; exact rfl; exact rfl; (first | (apply Ru.fieldAddr; exact rfl) | (apply Ru.assign; exact rfl) | (apply Ru.not; exact rfl) | (apply Ru.loadAN; exact rfl; (repeat (first | exact Pick.here | apply Pick.there)); exact rfl; exact rfl))) | refine JC.seq ?_ | refine JC.region ?_ | refine JO.nil ?_ | refine JE.thenN ?_ | refine JC.skip ?_ | refine JC.condF rfl ?_ | (apply JO.do; exact rfl; exact rfl; exact rfl; (first | (apply Do.allocN; exact rfl) | apply Do.alloc); rintro _ _ ⟨_, rfl, rfl⟩) | (apply JO.do; exact rfl; exact rfl; exact rfl; (first | (apply Do.boxN; exact rfl; exact rfl) | (apply Do.box; exact rfl)); rintro _ _ ⟨_, rfl, rfl⟩) | (apply JO.do; exact rfl; exact rfl; exact rfl; (first | (apply Do.buildSliceN; exact rfl; exact rfl; exact rfl; exact rfl) | (apply Do.buildSlice; exact rfl; exact rfl; exact rfl; exact rfl)); rintro _ _ ⟨_, rfl, rfl⟩) | (apply JO.do0; exact rfl; exact rfl; (first | (apply Do.storeAN; exact rfl; exact rfl; (repeat (first | exact Pick.here | apply Pick.there)); exact rfl; exact rfl; exact rfl; exact rfl) | (apply Do.storeA; exact rfl; exact rfl; (repeat (first | exact Pick.here | apply Pick.there)); exact rfl; exact rfl; exact rfl)); rintro _ _ ⟨rfl, rfl⟩)) | ((first | (apply JO.do; exact rfl; exact rfl; exact rfl; (apply Do.call; exact rfl; exact hr _); rintro _ _ ⟨rfl, hq⟩; obtain rfl := hq.symm) | (apply JQ.call; exact rfl; exact rfl; exact rfl; exact hr _; (rintro _ _ ⟨rfl, rfl⟩; exact ⟨rfl, rfl⟩))); rw [h]))
    (apply JO.do; exact rfl; exact rfl; exact rfl; (apply Do.convSS; exact rfl; exact Pick.here); rintro _ _ ⟨rfl, rfl⟩)
    refine JO.heap (fun _ s => Sat.ownS_arr (xs := [u8 75, u8 69, u8 69, u8 80]) (spare := []) (k := 4) (cap := 4) (z := 1) (Nat.le_refl _) rfl (Nat.le_refl _) s) ?_
    repeat' (first | (apply JO.ru; exact rfl; exact rfl; exact rfl; (first | (apply Ru.loadN; exact rfl; (repeat (first | exact Pick.here | apply Pick.there)); exact rfl) | (apply Ru.fieldAddr; exact rfl) | (apply Ru.conv; exact rfl; exact rfl))) | (apply JO.do; exact rfl; exact rfl; exact rfl; (first | (apply Do.buildSliceN; exact rfl; exact rfl; exact rfl; exact rfl) | (apply Do.buildSlice; exact rfl; exact rfl; exact rfl; exact rfl)); rintro _ _ ⟨_, rfl, rfl⟩))
    repeat' (fail)
    (apply JO.do; exact rfl; exact rfl; exact rfl; (apply Do.append1 (ys := [u8 1, u8 (IntKind.u8.wrap e), u8 (IntKind.u8.wrap f), u8 (IntKind.u8.wrap s)]); exact rfl; exact rfl; exact Pick.there Pick.here; exact RdS.arr Pick.here 0 4 4 (Nat.le_refl _) (Nat.le_refl _); (intro q hq; simp only [List.mem_cons, List.not_mem_nil, or_false] at hq; rcases hq with rfl | rfl | rfl | rfl <;> rfl); (show (4 + 4) * 1 ≤ _; omega)); rintro u1 _ ⟨rfl, _⟩)
    have e1 : [u8 75, u8 69, u8 69, u8 80] ++ [u8 1, u8 (IntKind.u8.wrap e), u8 (IntKind.u8.wrap f), u8 (IntKind.u8.wrap s)] = ([75, 69, 69, 80, 1, UInt8.ofNat (e % 256).toNat, UInt8.ofNat (f % 256).toNat, UInt8.ofNat (s % 256).toNat] : List UInt8).map byte := by
      simp only [List.map_cons, List.map_nil, byte_wrap e hb'.1, byte_wrap f (by omega : 0 ≤ f), byte_wrap s (by omega : 0 ≤ s), u8]
      rfl
    rw [e1]
    repeat' (first | (apply JO.ru; exact rfl; exact rfl; exact rfl; (first | (apply Ru.move; exact rfl) | (apply Ru.loadN; exact rfl; (repeat (first | exact Pick.here | apply Pick.there)); exact rfl) | (apply Ru.fieldAddr; exact rfl) | (apply Ru.assign; exact rfl) | (apply Ru.conv; exact rfl; exact rfl))) | refine JC.seq ?_ | refine JC.region ?_ | refine JO.nil ?_ | refine JE.thenN ?_)
    (apply JO.do; exact rfl; exact rfl; exact rfl; (apply Do.call; exact rfl; exact head_lay32 u1 8 _ _ 4 hwr.1 (by omega) (by omega)); rintro u2 _ rfl)
    repeat' (first | (apply JO.ru; exact rfl; exact rfl; exact rfl; (first | (apply Ru.move; exact rfl) | (apply Ru.loadN; exact rfl; (repeat (first | exact Pick.here | apply Pick.there)); exact rfl) | (apply Ru.fieldAddr; exact rfl) | (apply Ru.assign; exact rfl))) | refine JC.seq ?_ | refine JC.region ?_ | refine JO.nil ?_ | refine JE.thenN ?_)
    (apply JO.do; exact rfl; exact rfl; exact rfl; (apply Do.call; exact rfl; exact head_lay64 u2 12 _ _ 8 h64 (by omega) (by omega)); rintro u3 _ rfl)
    repeat' (first | (apply JO.ru; exact rfl; exact rfl; exact rfl; (first | (apply Ru.move; exact rfl) | (apply Ru.loadN; exact rfl; (repeat (first | exact Pick.here | apply Pick.there)); exact rfl) | (apply Ru.fieldAddr; exact rfl) | (apply Ru.assign; exact rfl))) | refine JC.seq ?_ | refine JC.region ?_ | refine JO.nil ?_ | refine JE.thenN ?_)
    (apply JO.do; exact rfl; exact rfl; exact rfl; (apply Do.call; exact rfl; exact head_lay32 u3 20 _ _ 4 h32 (by omega) (by omega)); rintro u4 _ rfl)
    repeat' (first | (apply JO.ru; exact rfl; exact rfl; exact rfl; (first | (apply Ru.move; exact rfl) | (apply Ru.assign; exact rfl))) | refine JC.seq ?_ | refine JC.region ?_ | refine JO.nil ?_ | refine JE.thenN ?_)
    rw [← List.map_append, ← List.map_append, ← List.map_append]
    refine JO.ownR (xs := (encBody ⟨e, f, s, len, seq, sum⟩).map byte) Pick.here fun hrd _ _ => ?_
    have hc := crcSum_bd (encBody ⟨e, f, s, len, seq, sum⟩)
    have hle : (encBody ⟨e, f, s, len, seq, sum⟩).length = 24 := by simp [encBody, leBytes_length]
    (apply JO.do; exact rfl; exact rfl; exact rfl; (apply Do.call; exact rfl; exact crc_Sum u4 _ (by omega) hrd); rintro _ _ ⟨rfl, rfl⟩)
    (apply JO.do; exact rfl; exact rfl; exact rfl; (apply Do.call; exact rfl; exact head_lay32 u4 24 _ _ 4 hc.1 (by omega) (by omega)); rintro u5 _ rfl)
    repeat' (first | (apply JO.ru; exact rfl; exact rfl; exact rfl; ((apply Ru.assign; exact rfl))) | refine JO.nil ?_ | refine JE.thenN ?_ | refine JC.ret ?_ | (apply JE.done2; exact rfl; (first | (apply Res.tmp; exact rfl) | (apply Res.cell; exact rfl; (repeat (first | exact Pick.here | apply Pick.there)); exact rfl) | (apply Res.cellAN; exact rfl; (repeat (first | exact Pick.here | apply Pick.there)); exact rfl; exact rfl) | (apply Res.cellA; exact rfl; (repeat (first | exact Pick.here | apply Pick.there)); exact rfl; exact rfl)); (first | (apply Res.tmp; exact rfl) | (apply Res.cell; exact rfl; (repeat (first | exact Pick.here | apply Pick.there)); exact rfl) | (apply Res.cellAN; exact rfl; (repeat (first | exact Pick.here | apply Pick.there)); exact rfl; exact rfl) | (apply Res.cellA; exact rfl; (repeat (first | exact Pick.here | apply Pick.there)); exact rfl; exact rfl))))
    rw [← List.map_append]
    refine finW (l' := ownS u5 5 1 28 ((enc ⟨e, f, s, len, seq, sum⟩).map byte) :: F) ?_ (by repeat (first | exact Weak.refl | (apply Weak.cons; (first | exact Pick.here | exact Pick.there Pick.here | exact Pick.there (Pick.there Pick.here) | exact Pick.there (Pick.there (Pick.there Pick.here)) | exact Pick.there (Pick.there (Pick.there (Pick.there Pick.here))) | exact Pick.there (Pick.there (Pick.there (Pick.there (Pick.there Pick.here)))) | exact Pick.there (Pick.there (Pick.there (Pick.there (Pick.there (Pick.there Pick.here))))) | exact Pick.there (Pick.there (Pick.there (Pick.there (Pick.there (Pick.there (Pick.there Pick.here)))))))) | apply Weak.drop))
    exact .inl ⟨rfl, u5, rfl, rfl⟩
  · simp only [Bool.not_eq_true] at h
    repeat' (first | (first | (apply JO.ru; exact rfl; exact rfl; exact rfl; (first | (apply Ru.assign; exact rfl) | (apply Ru.not; exact rfl) | (apply Ru.loadAN; exact rfl; (repeat (first | exact Pick.here | apply Pick.there)); exact rfl; exact rfl))) | refine JC.seq ?_ | refine JC.region ?_ | refine JO.nil ?_ | refine JE.thenN ?_ | refine JE.thenR ?_ | refine JC.ret ?_ | refine JC.condT rfl ?_ | (apply JO.do; exact rfl; exact rfl; exact rfl; (first | (apply Do.boxN; exact rfl; exact rfl) | (apply Do.box; exact rfl)); rintro _ _ ⟨_, rfl, rfl⟩) | (apply JE.done2; exact rfl; (first | (apply Res.tmp; exact rfl) | (apply Res.cell; exact rfl; (repeat (first | exact Pick.here | apply Pick.there)); exact rfl) | (apply Res.cellAN; exact rfl; (repeat (first | exact Pick.here | apply Pick.there)); exact rfl; exact rfl) | (apply Res.cellA; exact rfl; (repeat (first | exact Pick.here | apply Pick.there)); exact rfl; exact rfl)); (first | (apply Res.tmp; exact rfl) | (apply Res.cell; exact rfl; (repeat (first | exact Pick.here | apply Pick.there)); exact rfl) | (apply Res.cellAN; exact rfl; (repeat (first | exact Pick.here | apply Pick.there)); exact rfl; exact rfl) | (apply Res.cellA; exact rfl; (repeat (first | exact Pick.here | apply Pick.there)); exact rfl; exact rfl)))) | ((first | (apply JO.do; exact rfl; exact rfl; exact rfl; (apply Do.call; exact rfl; exact hr _); rintro _ _ ⟨rfl, hq⟩; obtain rfl := hq.symm) | (apply JQ.call; exact rfl; exact rfl; exact rfl; exact hr _; (rintro _ _ ⟨rfl, rfl⟩; exact ⟨rfl, rfl⟩))); rw [h]))
    refine finD (finS ?_); exact .inr ⟨rfl, rfl, rfl⟩
end Go.Sep
/- head: what any bytes are. -/
namespace Go.Sep
open Go Go.Proofs
attribute [local irreducible] JO JC JE JA JQ JB JI Mid Inv Weak ownS Ru Do Fn Sat Pick Take arr pt star ex Holds bodyPost Post Exit.then Exit.inBlock Res
variable {σ : Sig} {F : List HP}
def decRaw (bs : List UInt8) : HeadN := ⟨(bs.getD 5 0).toNat, (bs.getD 6 0).toNat, (bs.getD 7 0).toNat, leNum ((bs.drop 8).take 4), leNum ((bs.drop 12).take 8), leNum ((bs.drop 20).take 4)⟩
def decE (bs : List UInt8) : Int :=
  if bs.length < 28 then 5
  else if bs.take 4 ≠ [75, 69, 69, 80] then 6
  else if (bs.getD 4 0).toNat ≠ 1 then 7
  else if crcSum (bs.take 24) ≠ leNum ((bs.drop 24).take 4) then 8
  else if (decRaw bs).right = true then 0 else 9
def decH (bs : List UInt8) : HeadN := if decE bs = 0 then decRaw bs else .zero

theorem rd_part {l : List HP} {b o len cap : Nat} {bs : List UInt8} (h : RdS σ l (.slice (some ⟨b, o, none⟩) len cap) (bs.map byte)) (i j m : Int) (h0 : 0 ≤ i) (hij : i ≤ j) (hj : j ≤ len) (hm : j ≤ m) :
    RdS σ l (.slice (some ⟨b, o + i.toNat * 1, none⟩) (j - i).toNat (m - i).toNat) (((bs.drop i.toNat).take (j - i).toNat).map byte) := by
  have := h.part i.toNat (j - i).toNat (m - i).toNat (by omega) (by omega)
  rwa [← List.map_drop, ← List.map_take] at this
theorem rd_cell' {l : List HP} {bs : List UInt8} {b o : Nat} (hc : ∀ w, Sat σ w l → ∀ i u, (bs.map byte)[i]? = some u → w.cell? ⟨b, o + i, none⟩ = some u) (i : Nat) (hi : i < bs.length) :
    ∀ w, Sat σ w l → w.cell? ⟨b, o + (i : Int).toNat * 1, none⟩ = some (byte (bs.getD i 0)) := by
  have := rd_cell (σ := σ) hc hi (k := (i : Int)) (by omega)
  rw [List.getD_eq_getElem?_getD, List.getElem?_eq_getElem hi]
  exact this

set_option maxHeartbeats 2000000 in
theorem head_Decode (v : Value) (bs : List UInt8) (hlen : bs.length ≤ 100000000) {l : List HP} (hb : RdS σ l v (bs.map byte)) [hg : InG l] : Fn Tryd.prog σ 29 #[v] l (fun v l' => v = .tuple #[(decH bs).val, int (decE bs)] ∧ l' = l) := by
  have hb0 := hb
  obtain ⟨p, cap, rfl, hcap, hr⟩ := hb
  have hl : (bs.map byte).length = bs.length := by simp
  unfold decH
  by_cases c1 : bs.length < 28
  · have e : decE bs = 5 := by unfold decE; rw [if_pos c1]
    rw [e]
    refine Fn.of Tryd.func29 rfl Tryd.ntmps29 rfl ?_
    repeat' (first | (apply JO.ru; exact rfl; exact rfl; exact rfl; (first | (apply Ru.move; exact rfl) | (apply Ru.assign; exact rfl) | (apply Ru.lenS; exact rfl) | (apply Ru.lss; exact rfl; exact rfl; (first | exact decT (by omega) | exact decF (by omega))) | (apply Ru.buildN; exact rfl; exact rfl))) | refine JC.seq ?_ | refine JC.region ?_ | refine JO.nil ?_ | refine JE.thenN ?_ | refine JE.thenR ?_ | refine JE.blockR ?_ | refine JC.block ?_ | refine JC.ret ?_ | refine JC.condT rfl ?_ | (apply JO.do; exact rfl; exact rfl; exact rfl; (first | (apply Do.allocN; exact rfl) | apply Do.alloc); rintro _ _ ⟨_, rfl, rfl⟩) | (apply JO.do0; exact rfl; exact rfl; (first | (apply Do.storeAN; exact rfl; exact rfl; (repeat (first | exact Pick.here | apply Pick.there)); exact rfl; exact rfl; exact rfl; exact rfl) | (apply Do.storeA; exact rfl; exact rfl; (repeat (first | exact Pick.here | apply Pick.there)); exact rfl; exact rfl; exact rfl)); rintro _ _ ⟨rfl, rfl⟩) | (apply JE.done2; exact rfl; (first | (apply Res.tmp; exact rfl) | (apply Res.cell; exact rfl; (repeat (first | exact Pick.here | apply Pick.there)); exact rfl) | (apply Res.cellAN; exact rfl; (repeat (first | exact Pick.here | apply Pick.there)); exact rfl; exact rfl) | (apply Res.cellA; exact rfl; (repeat (first | exact Pick.here | apply Pick.there)); exact rfl; exact rfl)); (first | (apply Res.tmp; exact rfl) | (apply Res.cell; exact rfl; (repeat (first | exact Pick.here | apply Pick.there)); exact rfl) | (apply Res.cellAN; exact rfl; (repeat (first | exact Pick.here | apply Pick.there)); exact rfl; exact rfl) | (apply Res.cellA; exact rfl; (repeat (first | exact Pick.here | apply Pick.there)); exact rfl; exact rfl))))
    refine finD (finS ?_); exact ⟨rfl, rfl⟩
  have hx : ∃ b o, p = some ⟨b, o, none⟩ ∧ ∀ w, Sat σ w l → ∀ i u, (bs.map byte)[i]? = some u → w.cell? ⟨b, o + i, none⟩ = some u := by
    rcases hr with h | h
    · rw [h] at hl; simp at hl; omega
    · exact h
  obtain ⟨b, o, rfl, hc⟩ := hx
  by_cases c2 : bs.take 4 = [75, 69, 69, 80]
  case neg =>
    have e : decE bs = 6 := by unfold decE; rw [if_neg c1, if_pos c2]
    rw [e]
    refine Fn.of Tryd.func29 rfl Tryd.ntmps29 rfl ?_
    repeat' (first | (apply JO.ru; exact rfl; exact rfl; exact rfl; (first | (apply Ru.move; exact rfl) | (apply Ru.assign; exact rfl) | (apply Ru.lenS; exact rfl) | (apply Ru.lss; exact rfl; exact rfl; (first | exact decT (by omega) | exact decF (by omega))) | (apply Ru.sliceS; exact rfl; exact rfl; exact rfl; exact rfl; (first | exact fun _ => rfl | exact fun h => nomatch h); omega; omega; omega))) | refine JC.seq ?_ | refine JC.region ?_ | refine JO.nil ?_ | refine JE.thenN ?_ | refine JC.block ?_ | refine JC.condF rfl ?_ | (apply JO.do; exact rfl; exact rfl; exact rfl; (first | (apply Do.allocN; exact rfl) | apply Do.alloc); rintro _ _ ⟨_, rfl, rfl⟩))
    (apply JO.ru; exact rfl; exact rfl; exact rfl; (apply Ru.bytesStr; exact rfl; exact (rd_part hb0 0 4 cap (by omega) (by omega) (by omega) (by omega)).cons))
    (apply JO.ru; exact rfl; exact rfl; exact rfl; (apply Ru.neqS (r := true); exact rfl; exact rfl; (rw [ByteArray.toList_eq, ByteArray.toList_eq]; simpa using c2)))
    repeat' (first | (apply JO.ru; exact rfl; exact rfl; exact rfl; (first | (apply Ru.assign; exact rfl) | (apply Ru.buildN; exact rfl; exact rfl))) | refine JC.seq ?_ | refine JC.region ?_ | refine JO.nil ?_ | refine JE.thenN ?_ | refine JE.thenR ?_ | refine JE.blockR ?_ | refine JC.ret ?_ | refine JC.condT rfl ?_ | (apply JO.do0; exact rfl; exact rfl; (first | (apply Do.storeAN; exact rfl; exact rfl; (repeat (first | exact Pick.here | apply Pick.there)); exact rfl; exact rfl; exact rfl; exact rfl) | (apply Do.storeA; exact rfl; exact rfl; (repeat (first | exact Pick.here | apply Pick.there)); exact rfl; exact rfl; exact rfl)); rintro _ _ ⟨rfl, rfl⟩) | (apply JE.done2; exact rfl; (first | (apply Res.tmp; exact rfl) | (apply Res.cell; exact rfl; (repeat (first | exact Pick.here | apply Pick.there)); exact rfl) | (apply Res.cellAN; exact rfl; (repeat (first | exact Pick.here | apply Pick.there)); exact rfl; exact rfl) | (apply Res.cellA; exact rfl; (repeat (first | exact Pick.here | apply Pick.there)); exact rfl; exact rfl)); (first | (apply Res.tmp; exact rfl) | (apply Res.cell; exact rfl; (repeat (first | exact Pick.here | apply Pick.there)); exact rfl) | (apply Res.cellAN; exact rfl; (repeat (first | exact Pick.here | apply Pick.there)); exact rfl; exact rfl) | (apply Res.cellA; exact rfl; (repeat (first | exact Pick.here | apply Pick.there)); exact rfl; exact rfl))))
    refine finD (finS ?_); exact ⟨rfl, rfl⟩
  by_cases c3 : (bs.getD 4 0).toNat = 1
  case neg =>
    have e : decE bs = 7 := by unfold decE; rw [if_neg c1, if_neg (by simpa using c2), if_pos c3]
    rw [e]
    refine Fn.of Tryd.func29 rfl Tryd.ntmps29 rfl ?_
    repeat' (first | (apply JO.ru; exact rfl; exact rfl; exact rfl; (first | (apply Ru.move; exact rfl) | (apply Ru.assign; exact rfl) | (apply Ru.lenS; exact rfl) | (apply Ru.lss; exact rfl; exact rfl; (first | exact decT (by omega) | exact decF (by omega))) | (apply Ru.sliceS; exact rfl; exact rfl; exact rfl; exact rfl; (first | exact fun _ => rfl | exact fun h => nomatch h); omega; omega; omega))) | refine JC.seq ?_ | refine JC.region ?_ | refine JO.nil ?_ | refine JE.thenN ?_ | refine JC.block ?_ | refine JC.condF rfl ?_ | (apply JO.do; exact rfl; exact rfl; exact rfl; (first | (apply Do.allocN; exact rfl) | apply Do.alloc); rintro _ _ ⟨_, rfl, rfl⟩))
    (apply JO.ru; exact rfl; exact rfl; exact rfl; (apply Ru.bytesStr; exact rfl; exact (rd_part hb0 0 4 cap (by omega) (by omega) (by omega) (by omega)).cons))
    (apply JO.ru; exact rfl; exact rfl; exact rfl; (apply Ru.neqS (r := false); exact rfl; exact rfl; (rw [ByteArray.toList_eq, ByteArray.toList_eq]; simpa using c2)))
    repeat' (first | (apply JO.ru; exact rfl; exact rfl; exact rfl; (first | (apply Ru.move; exact rfl) | (apply Ru.assign; exact rfl) | (apply Ru.indexAddr; exact rfl; exact rfl; omega; omega))) | refine JC.seq ?_ | refine JC.region ?_ | refine JO.nil ?_ | refine JE.thenN ?_ | refine JC.condF rfl ?_)
    (apply JO.ru; exact rfl; exact rfl; exact rfl; (apply Ru.loadC; exact rfl; exact fun w s => rd_cell' hc 4 (by omega) w (Sat.drop s)))
    repeat' (first | (apply JO.ru; exact rfl; exact rfl; exact rfl; (first | (apply Ru.assign; exact rfl) | (apply Ru.neq; exact rfl; exact rfl; (first | exact ndecF (by omega) | exact ndecT (by omega))) | (apply Ru.buildN; exact rfl; exact rfl))) | refine JC.seq ?_ | refine JC.region ?_ | refine JO.nil ?_ | refine JE.thenN ?_ | refine JE.thenR ?_ | refine JE.blockR ?_ | refine JC.ret ?_ | refine JC.condT rfl ?_ | (apply JO.do0; exact rfl; exact rfl; (first | (apply Do.storeAN; exact rfl; exact rfl; (repeat (first | exact Pick.here | apply Pick.there)); exact rfl; exact rfl; exact rfl; exact rfl) | (apply Do.storeA; exact rfl; exact rfl; (repeat (first | exact Pick.here | apply Pick.there)); exact rfl; exact rfl; exact rfl)); rintro _ _ ⟨rfl, rfl⟩) | (apply JE.done2; exact rfl; (first | (apply Res.tmp; exact rfl) | (apply Res.cell; exact rfl; (repeat (first | exact Pick.here | apply Pick.there)); exact rfl) | (apply Res.cellAN; exact rfl; (repeat (first | exact Pick.here | apply Pick.there)); exact rfl; exact rfl) | (apply Res.cellA; exact rfl; (repeat (first | exact Pick.here | apply Pick.there)); exact rfl; exact rfl)); (first | (apply Res.tmp; exact rfl) | (apply Res.cell; exact rfl; (repeat (first | exact Pick.here | apply Pick.there)); exact rfl) | (apply Res.cellAN; exact rfl; (repeat (first | exact Pick.here | apply Pick.there)); exact rfl; exact rfl) | (apply Res.cellA; exact rfl; (repeat (first | exact Pick.here | apply Pick.there)); exact rfl; exact rfl))))
    refine finD (finS ?_); exact ⟨rfl, rfl⟩
  by_cases c4 : crcSum (bs.take 24) = leNum ((bs.drop 24).take 4)
  case neg =>
    have e : decE bs = 8 := by unfold decE; rw [if_neg c1, if_neg (by simpa using c2), if_neg (by simpa using c3), if_pos c4]
    rw [e]
    refine Fn.of Tryd.func29 rfl Tryd.ntmps29 rfl ?_
    repeat' (first | (apply JO.ru; exact rfl; exact rfl; exact rfl; (first | (apply Ru.move; exact rfl) | (apply Ru.assign; exact rfl) | (apply Ru.lenS; exact rfl) | (apply Ru.lss; exact rfl; exact rfl; (first | exact decT (by omega) | exact decF (by omega))) | (apply Ru.sliceS; exact rfl; exact rfl; exact rfl; exact rfl; (first | exact fun _ => rfl | exact fun h => nomatch h); omega; omega; omega))) | refine JC.seq ?_ | refine JC.region ?_ | refine JO.nil ?_ | refine JE.thenN ?_ | refine JC.block ?_ | refine JC.condF rfl ?_ | (apply JO.do; exact rfl; exact rfl; exact rfl; (first | (apply Do.allocN; exact rfl) | apply Do.alloc); rintro _ _ ⟨_, rfl, rfl⟩))
    (apply JO.ru; exact rfl; exact rfl; exact rfl; (apply Ru.bytesStr; exact rfl; exact (rd_part hb0 0 4 cap (by omega) (by omega) (by omega) (by omega)).cons))
    (apply JO.ru; exact rfl; exact rfl; exact rfl; (apply Ru.neqS (r := false); exact rfl; exact rfl; (rw [ByteArray.toList_eq, ByteArray.toList_eq]; simpa using c2)))
    repeat' (first | (apply JO.ru; exact rfl; exact rfl; exact rfl; (first | (apply Ru.move; exact rfl) | (apply Ru.assign; exact rfl) | (apply Ru.indexAddr; exact rfl; exact rfl; omega; omega))) | refine JC.seq ?_ | refine JC.region ?_ | refine JO.nil ?_ | refine JE.thenN ?_ | refine JC.condF rfl ?_)
    (apply JO.ru; exact rfl; exact rfl; exact rfl; (apply Ru.loadC; exact rfl; exact fun w s => rd_cell' hc 4 (by omega) w (Sat.drop s)))
    repeat' (first | (apply JO.ru; exact rfl; exact rfl; exact rfl; (first | (apply Ru.assign; exact rfl) | (apply Ru.neq; exact rfl; exact rfl; (first | exact ndecF (by omega) | exact ndecT (by omega))))) | refine JC.seq ?_ | refine JO.nil ?_ | refine JE.thenN ?_ | refine JC.condF rfl ?_ | (apply JQ.ru; exact rfl; exact rfl; exact rfl; (first | (apply Ru.move; exact rfl) | (apply Ru.sliceS; exact rfl; exact rfl; exact rfl; exact rfl; (first | exact fun _ => rfl | exact fun h => nomatch h); omega; omega; omega))) | refine JC.regionQ mixed (by decide +kernel) ?_)
    (apply JQ.call; exact rfl; exact rfl; exact rfl; exact crc_Sum _ (bs.take 24) (by rw [List.length_take]; omega) (rd_part hb0 0 24 cap (by omega) (by omega) (by omega) (by omega)).cons; (rintro _ _ ⟨rfl, rfl⟩; exact ⟨rfl, rfl⟩))
    repeat' ((apply JQ.ru; exact rfl; exact rfl; exact rfl; (first | (apply Ru.move; exact rfl) | (apply Ru.sliceS; exact rfl; exact rfl; exact rfl; exact rfl; (first | exact fun _ => rfl | exact fun h => nomatch h); omega; omega; omega))))
    (apply JQ.call; exact rfl; exact rfl; exact rfl; exact head_take32 _ ((bs.drop 24).take 4) (by rw [List.length_take]; omega) (rd_part hb0 24 28 cap (by omega) (by omega) (by omega) (by omega)).cons; (rintro _ _ ⟨rfl, rfl⟩; exact ⟨rfl, rfl⟩))
    (apply JQ.ru; exact rfl; exact rfl; exact rfl; (apply Ru.neq; exact rfl; exact rfl; exact ndecT c4))
    repeat' (first | (apply JO.ru; exact rfl; exact rfl; exact rfl; (first | (apply Ru.assign; exact rfl) | (apply Ru.buildN; exact rfl; exact rfl))) | refine JC.seq ?_ | refine JC.region ?_ | refine JO.nil ?_ | refine JE.thenN ?_ | refine JE.thenR ?_ | refine JE.blockR ?_ | refine JC.ret ?_ | refine JC.condT rfl ?_ | (apply JQ.ru; exact rfl; exact rfl; exact rfl; ((apply Ru.assign; exact rfl))) | refine JQ.nil ?_ | (apply JO.do0; exact rfl; exact rfl; (first | (apply Do.storeAN; exact rfl; exact rfl; (repeat (first | exact Pick.here | apply Pick.there)); exact rfl; exact rfl; exact rfl; exact rfl) | (apply Do.storeA; exact rfl; exact rfl; (repeat (first | exact Pick.here | apply Pick.there)); exact rfl; exact rfl; exact rfl)); rintro _ _ ⟨rfl, rfl⟩) | (apply JE.done2; exact rfl; (first | (apply Res.tmp; exact rfl) | (apply Res.cell; exact rfl; (repeat (first | exact Pick.here | apply Pick.there)); exact rfl) | (apply Res.cellAN; exact rfl; (repeat (first | exact Pick.here | apply Pick.there)); exact rfl; exact rfl) | (apply Res.cellA; exact rfl; (repeat (first | exact Pick.here | apply Pick.there)); exact rfl; exact rfl)); (first | (apply Res.tmp; exact rfl) | (apply Res.cell; exact rfl; (repeat (first | exact Pick.here | apply Pick.there)); exact rfl) | (apply Res.cellAN; exact rfl; (repeat (first | exact Pick.here | apply Pick.there)); exact rfl; exact rfl) | (apply Res.cellA; exact rfl; (repeat (first | exact Pick.here | apply Pick.there)); exact rfl; exact rfl))))
    refine finD (finS ?_); exact ⟨rfl, rfl⟩
  refine Fn.of Tryd.func29 rfl Tryd.ntmps29 rfl ?_
  repeat' (first | (apply JO.ru; exact rfl; exact rfl; exact rfl; (first | (apply Ru.move; exact rfl) | (apply Ru.assign; exact rfl) | (apply Ru.lenS; exact rfl) | (apply Ru.lss; exact rfl; exact rfl; (first | exact decT (by omega) | exact decF (by omega))) | (apply Ru.sliceS; exact rfl; exact rfl; exact rfl; exact rfl; (first | exact fun _ => rfl | exact fun h => nomatch h); omega; omega; omega))) | refine JC.seq ?_ | refine JC.region ?_ | refine JO.nil ?_ | refine JE.thenN ?_ | refine JC.block ?_ | refine JC.condF rfl ?_ | (apply JO.do; exact rfl; exact rfl; exact rfl; (first | (apply Do.allocN; exact rfl) | apply Do.alloc); rintro _ _ ⟨_, rfl, rfl⟩))
  (apply JO.ru; exact rfl; exact rfl; exact rfl; (apply Ru.bytesStr; exact rfl; exact (rd_part hb0 0 4 cap (by omega) (by omega) (by omega) (by omega)).cons))
  (apply JO.ru; exact rfl; exact rfl; exact rfl; (apply Ru.neqS (r := false); exact rfl; exact rfl; (rw [ByteArray.toList_eq, ByteArray.toList_eq]; simpa using c2)))
  repeat' (first | (apply JO.ru; exact rfl; exact rfl; exact rfl; (first | (apply Ru.move; exact rfl) | (apply Ru.assign; exact rfl) | (apply Ru.indexAddr; exact rfl; exact rfl; omega; omega))) | refine JC.seq ?_ | refine JC.region ?_ | refine JO.nil ?_ | refine JE.thenN ?_ | refine JC.condF rfl ?_)
  (apply JO.ru; exact rfl; exact rfl; exact rfl; (apply Ru.loadC; exact rfl; exact fun w s => rd_cell' hc 4 (by omega) w (Sat.drop s)))
  repeat' (first | (apply JO.ru; exact rfl; exact rfl; exact rfl; (first | (apply Ru.assign; exact rfl) | (apply Ru.neq; exact rfl; exact rfl; (first | exact ndecF (by omega) | exact ndecT (by omega))))) | refine JC.seq ?_ | refine JO.nil ?_ | refine JE.thenN ?_ | refine JC.condF rfl ?_ | (apply JQ.ru; exact rfl; exact rfl; exact rfl; (first | (apply Ru.move; exact rfl) | (apply Ru.sliceS; exact rfl; exact rfl; exact rfl; exact rfl; (first | exact fun _ => rfl | exact fun h => nomatch h); omega; omega; omega))) | refine JC.regionQ mixed (by decide +kernel) ?_)
  (apply JQ.call; exact rfl; exact rfl; exact rfl; exact crc_Sum _ (bs.take 24) (by rw [List.length_take]; omega) (rd_part hb0 0 24 cap (by omega) (by omega) (by omega) (by omega)).cons; (rintro _ _ ⟨rfl, rfl⟩; exact ⟨rfl, rfl⟩))
  repeat' ((apply JQ.ru; exact rfl; exact rfl; exact rfl; (first | (apply Ru.move; exact rfl) | (apply Ru.sliceS; exact rfl; exact rfl; exact rfl; exact rfl; (first | exact fun _ => rfl | exact fun h => nomatch h); omega; omega; omega))))
  (apply JQ.call; exact rfl; exact rfl; exact rfl; exact head_take32 _ ((bs.drop 24).take 4) (by rw [List.length_take]; omega) (rd_part hb0 24 28 cap (by omega) (by omega) (by omega) (by omega)).cons; (rintro _ _ ⟨rfl, rfl⟩; exact ⟨rfl, rfl⟩))
  (apply JQ.ru; exact rfl; exact rfl; exact rfl; (apply Ru.neq; exact rfl; exact rfl; exact ndecF c4))
  repeat' (first | refine JC.seq ?_ | refine JE.thenN ?_ | refine JE.blockN ?_ | refine JC.skip ?_ | refine JC.condF rfl ?_ | (apply JQ.ru; exact rfl; exact rfl; exact rfl; ((apply Ru.assign; exact rfl))) | refine JQ.nil ?_)
  refine JC.mid (fun q : Nat × Nat => [(2, .pointer (some ⟨q.1, 0, none⟩)), (3, int 0), (4, .pointer (some ⟨q.2, 0, none⟩))]) (fun q => arr q.2 67 (decRaw bs).val.cells.toList :: arr q.1 67 HeadN.zero.val.cells.toList :: l) (fun _ => True) ?_ ?_
  · rintro ⟨q1, q2⟩ _
    dsimp only
    by_cases c5 : (decRaw bs).right = true
    · have e : decE bs = 0 := by unfold decE; rw [if_neg c1, if_neg (by simpa using c2), if_neg (by simpa using c3), if_neg (by simpa using c4), if_pos c5]
      rw [e]
      repeat' (first | (first | (apply JO.ru; exact rfl; exact rfl; exact rfl; (first | (apply Ru.assign; exact rfl) | (apply Ru.not; exact rfl) | (apply Ru.loadAN; exact rfl; (repeat (first | exact Pick.here | apply Pick.there)); exact rfl; exact rfl))) | refine JC.seq ?_ | refine JC.region ?_ | refine JO.nil ?_ | refine JE.thenN ?_ | refine JC.ret ?_ | refine JC.skip ?_ | refine JC.condF rfl ?_ | (apply JO.do0; exact rfl; exact rfl; (first | (apply Do.storeAN; exact rfl; exact rfl; (repeat (first | exact Pick.here | apply Pick.there)); exact rfl; exact rfl; exact rfl; exact rfl) | (apply Do.storeA; exact rfl; exact rfl; (repeat (first | exact Pick.here | apply Pick.there)); exact rfl; exact rfl; exact rfl)); rintro _ _ ⟨rfl, rfl⟩) | (apply JE.done2; exact rfl; (first | (apply Res.tmp; exact rfl) | (apply Res.cell; exact rfl; (repeat (first | exact Pick.here | apply Pick.there)); exact rfl) | (apply Res.cellAN; exact rfl; (repeat (first | exact Pick.here | apply Pick.there)); exact rfl; exact rfl) | (apply Res.cellA; exact rfl; (repeat (first | exact Pick.here | apply Pick.there)); exact rfl; exact rfl)); (first | (apply Res.tmp; exact rfl) | (apply Res.cell; exact rfl; (repeat (first | exact Pick.here | apply Pick.there)); exact rfl) | (apply Res.cellAN; exact rfl; (repeat (first | exact Pick.here | apply Pick.there)); exact rfl; exact rfl) | (apply Res.cellA; exact rfl; (repeat (first | exact Pick.here | apply Pick.there)); exact rfl; exact rfl)))) | ((first | (apply JO.do; exact rfl; exact rfl; exact rfl; (apply Do.call; exact rfl; exact head_right (decRaw bs)); rintro _ _ ⟨rfl, hq⟩; obtain rfl := hq.symm) | (apply JQ.call; exact rfl; exact rfl; exact rfl; exact head_right (decRaw bs); (rintro _ _ ⟨rfl, rfl⟩; exact ⟨rfl, rfl⟩))); rw [c5]))
      refine finD (finD (finS ?_)); exact ⟨rfl, rfl⟩
    · have e : decE bs = 9 := by unfold decE; rw [if_neg c1, if_neg (by simpa using c2), if_neg (by simpa using c3), if_neg (by simpa using c4), if_neg c5]
      rw [e]
      simp only [Bool.not_eq_true] at c5
      repeat' (first | (first | (apply JO.ru; exact rfl; exact rfl; exact rfl; (first | (apply Ru.assign; exact rfl) | (apply Ru.not; exact rfl) | (apply Ru.loadAN; exact rfl; (repeat (first | exact Pick.here | apply Pick.there)); exact rfl; exact rfl) | (apply Ru.buildN; exact rfl; exact rfl))) | refine JC.seq ?_ | refine JC.region ?_ | refine JO.nil ?_ | refine JE.thenN ?_ | refine JE.thenR ?_ | refine JC.ret ?_ | refine JC.condT rfl ?_ | (apply JO.do0; exact rfl; exact rfl; (first | (apply Do.storeAN; exact rfl; exact rfl; (repeat (first | exact Pick.here | apply Pick.there)); exact rfl; exact rfl; exact rfl; exact rfl) | (apply Do.storeA; exact rfl; exact rfl; (repeat (first | exact Pick.here | apply Pick.there)); exact rfl; exact rfl; exact rfl)); rintro _ _ ⟨rfl, rfl⟩) | (apply JE.done2; exact rfl; (first | (apply Res.tmp; exact rfl) | (apply Res.cell; exact rfl; (repeat (first | exact Pick.here | apply Pick.there)); exact rfl) | (apply Res.cellAN; exact rfl; (repeat (first | exact Pick.here | apply Pick.there)); exact rfl; exact rfl) | (apply Res.cellA; exact rfl; (repeat (first | exact Pick.here | apply Pick.there)); exact rfl; exact rfl)); (first | (apply Res.tmp; exact rfl) | (apply Res.cell; exact rfl; (repeat (first | exact Pick.here | apply Pick.there)); exact rfl) | (apply Res.cellAN; exact rfl; (repeat (first | exact Pick.here | apply Pick.there)); exact rfl; exact rfl) | (apply Res.cellA; exact rfl; (repeat (first | exact Pick.here | apply Pick.there)); exact rfl; exact rfl)))) | ((first | (apply JO.do; exact rfl; exact rfl; exact rfl; (apply Do.call; exact rfl; exact head_right (decRaw bs)); rintro _ _ ⟨rfl, hq⟩; obtain rfl := hq.symm) | (apply JQ.call; exact rfl; exact rfl; exact rfl; exact head_right (decRaw bs); (rintro _ _ ⟨rfl, rfl⟩; exact ⟨rfl, rfl⟩))); rw [c5]))
      refine finD (finD (finS ?_)); exact ⟨rfl, rfl⟩
  refine JC.regionB l mixed ?_
  repeat' (first | (apply JB.ru; exact rfl; exact rfl; exact rfl; exact rfl; (apply Ru.loadC; exact rfl; exact rd_cell' hc 5 (by omega)); decide +kernel; decide +kernel; (first | exact fun _ h => h | exact fun _ h => Sat.drop h | exact fun _ h => Sat.drop (Sat.drop h)); (simp only [Nat.reduceAdd, Nat.reducePow, Nat.reduceMul, Nat.zero_or, Nat.or_zero, Nat.reduceXor, Nat.reduceOr]; try exact rfl)) | (apply JB.ru; exact rfl; exact rfl; exact rfl; exact rfl; (apply Ru.loadC; exact rfl; exact rd_cell' hc 6 (by omega)); decide +kernel; decide +kernel; (first | exact fun _ h => h | exact fun _ h => Sat.drop h | exact fun _ h => Sat.drop (Sat.drop h)); (simp only [Nat.reduceAdd, Nat.reducePow, Nat.reduceMul, Nat.zero_or, Nat.or_zero, Nat.reduceXor, Nat.reduceOr]; try exact rfl)) | (apply JB.ru; exact rfl; exact rfl; exact rfl; exact rfl; (apply Ru.loadC; exact rfl; exact rd_cell' hc 7 (by omega)); decide +kernel; decide +kernel; (first | exact fun _ h => h | exact fun _ h => Sat.drop h | exact fun _ h => Sat.drop (Sat.drop h)); (simp only [Nat.reduceAdd, Nat.reducePow, Nat.reduceMul, Nat.zero_or, Nat.or_zero, Nat.reduceXor, Nat.reduceOr]; try exact rfl)) | (show JI _ _ _ _ _ _ _ _ _ 15 _ _; apply JI.do; exact rfl; exact rfl; exact rfl; exact rfl; (apply Do.call; exact rfl; exact head_take32 _ ((bs.drop 8).take 4) (by rw [List.length_take]; omega) (by first | exact (rd_part hb0 8 12 cap (by omega) (by omega) (by omega) (by omega)).cons | exact (rd_part hb0 8 12 cap (by omega) (by omega) (by omega) (by omega)).cons.cons)); (simp only [Nat.reduceAdd, Nat.reducePow, Nat.reduceMul, Nat.zero_or, Nat.or_zero, Nat.reduceXor, Nat.reduceOr]; try exact rfl); rintro _ _ ⟨rfl, rfl⟩; refine ⟨(by (first | exact fun _ h => h | exact fun _ h => Sat.drop h | exact fun _ h => Sat.drop (Sat.drop h))), ?_⟩) | (show JI _ _ _ _ _ _ _ _ _ 19 _ _; apply JI.do; exact rfl; exact rfl; exact rfl; exact rfl; (apply Do.call; exact rfl; exact head_take64 _ ((bs.drop 12).take 8) (by rw [List.length_take]; omega) (by first | exact (rd_part hb0 12 20 cap (by omega) (by omega) (by omega) (by omega)).cons | exact (rd_part hb0 12 20 cap (by omega) (by omega) (by omega) (by omega)).cons.cons)); (simp only [Nat.reduceAdd, Nat.reducePow, Nat.reduceMul, Nat.zero_or, Nat.or_zero, Nat.reduceXor, Nat.reduceOr]; try exact rfl); rintro _ _ ⟨rfl, rfl⟩; refine ⟨(by (first | exact fun _ h => h | exact fun _ h => Sat.drop h | exact fun _ h => Sat.drop (Sat.drop h))), ?_⟩) | (show JI _ _ _ _ _ _ _ _ _ 22 _ _; apply JI.do; exact rfl; exact rfl; exact rfl; exact rfl; (apply Do.call; exact rfl; exact head_take32 _ ((bs.drop 20).take 4) (by rw [List.length_take]; omega) (by first | exact (rd_part hb0 20 24 cap (by omega) (by omega) (by omega) (by omega)).cons | exact (rd_part hb0 20 24 cap (by omega) (by omega) (by omega) (by omega)).cons.cons)); (simp only [Nat.reduceAdd, Nat.reducePow, Nat.reduceMul, Nat.zero_or, Nat.or_zero, Nat.reduceXor, Nat.reduceOr]; try exact rfl); rintro _ _ ⟨rfl, rfl⟩; refine ⟨(by (first | exact fun _ h => h | exact fun _ h => Sat.drop h | exact fun _ h => Sat.drop (Sat.drop h))), ?_⟩) | (first | (apply JB.ru; exact rfl; exact rfl; exact rfl; exact rfl; (first | (apply Ru.move; exact rfl) | (apply Ru.indexAddr; exact rfl; exact rfl; omega; omega) | (apply Ru.buildN; exact rfl; exact rfl) | (apply Ru.conv; exact rfl; exact rfl) | (apply Ru.sliceS; exact rfl; exact rfl; exact rfl; exact rfl; (first | exact fun _ => rfl | exact fun h => nomatch h); omega; omega; omega)); decide +kernel; decide +kernel; (first | exact fun _ h => h | exact fun _ h => Sat.drop h | exact fun _ h => Sat.drop (Sat.drop h) | exact fun _ h => Sat.drop (Sat.drop (Sat.drop h)) | exact fun _ h => Sat.drop (Sat.drop (Sat.drop (Sat.drop h)))); (simp only [Nat.reduceAdd, Nat.reducePow, Nat.reduceMul, Nat.zero_or, Nat.or_zero, Nat.reduceXor, Nat.reduceOr]; try exact rfl)) | (apply JB.nil; exact rfl) | (apply JI.do; exact rfl; exact rfl; exact rfl; exact rfl; (first | (apply Do.allocN; exact rfl) | apply Do.alloc); (simp only [Nat.reduceAdd, Nat.reducePow, Nat.reduceMul, Nat.zero_or, Nat.or_zero, Nat.reduceXor, Nat.reduceOr]; try exact rfl); rintro _ _ ⟨_, rfl, rfl⟩; refine ⟨(by (first | exact fun _ h => h | exact fun _ h => Sat.drop h | exact fun _ h => Sat.drop (Sat.drop h) | exact fun _ h => Sat.drop (Sat.drop (Sat.drop h)) | exact fun _ h => Sat.drop (Sat.drop (Sat.drop (Sat.drop h))))), ?_⟩) | (apply JI.do0; exact rfl; exact rfl; exact rfl; (first | (apply Do.storeAN; exact rfl; exact rfl; (repeat (first | exact Pick.here | apply Pick.there)); exact rfl; exact rfl; exact rfl; exact rfl) | (apply Do.storeA; exact rfl; exact rfl; (repeat (first | exact Pick.here | apply Pick.there)); exact rfl; exact rfl; exact rfl)); (simp only [Nat.reduceAdd, Nat.reducePow, Nat.reduceMul, Nat.zero_or, Nat.or_zero, Nat.reduceXor, Nat.reduceOr]; try exact rfl); rintro _ _ ⟨rfl, rfl⟩; refine ⟨(by (first | exact fun _ h => h | exact fun _ h => Sat.drop h | exact fun _ h => Sat.drop (Sat.drop h) | exact fun _ h => Sat.drop (Sat.drop (Sat.drop h)) | exact fun _ h => Sat.drop (Sat.drop (Sat.drop (Sat.drop h))))), ?_⟩)) | (refine JB.two 15 24 (by decide +kernel) ?_ ?_) | (refine JB.two 19 24 (by decide +kernel) ?_ ?_) | (refine JB.two 22 24 (by decide +kernel) ?_ ?_) | (refine JB.one 15 (by decide +kernel) ?_) | (refine JB.one 19 (by decide +kernel) ?_) | (refine JB.one 22 (by decide +kernel) ?_) | (refine JB.one 24 (by decide +kernel) ?_) | (refine JB.one 25 (by decide +kernel) ?_))
  all_goals
    have w5 : IntKind.i64.wrap ((bs.getD 5 0).toNat : Int) = (bs.getD 5 0).toNat := by have := UInt8.toNat_lt (bs.getD 5 0); exact wrapI (by omega) (by omega)
    have w6 : IntKind.i64.wrap ((bs.getD 6 0).toNat : Int) = (bs.getD 6 0).toNat := by have := UInt8.toNat_lt (bs.getD 6 0); exact wrapI (by omega) (by omega)
    have w7 : IntKind.i64.wrap ((bs.getD 7 0).toNat : Int) = (bs.getD 7 0).toNat := by have := UInt8.toNat_lt (bs.getD 7 0); exact wrapI (by omega) (by omega)
    have w8 : IntKind.i64.wrap (leNum ((bs.drop 8).take 4)) = leNum ((bs.drop 8).take 4) := by
      have h1 := leNum_bd ((bs.drop 8).take 4)
      have h2 := pow256_le (i := ((bs.drop 8).take 4).length) (j := 4) (by rw [List.length_take]; omega)
      exact wrapI (by omega) (by omega)
    refine JE.mid (_, _) trivial ⟨rfl, rfl, rfl, trivial⟩ ?_
    rw [w5, w6, w7, w8]
    exact fun _ h => h
end Go.Sep
/- What is one's own, behind three others. -/
namespace Go.Sep
open Go
variable {σ : Sig}
theorem JO.tail3 {P : Program} {n : Nat} {ds : List Deferred} {ops : Array Oper} {Q : Exit → Act → World → Prop} {rest : List Oper} {env : Env} {p1 p2 p3 : HP} {r : List HP} {v : Value} {E k : Nat} {xs : List Value}
    (h : RdS σ (ownS v E 1 k xs :: r) v xs → JO P σ n ds ops Q rest env (p1 :: p2 :: p3 :: ownS v E 1 k xs :: r)) : JO P σ n ds ops Q rest env (p1 :: p2 :: p3 :: ownS v E 1 k xs :: r) :=
  fun a w ka kd s => h (Sat.ownR (Sat.drop (Sat.drop (Sat.drop s)))).1 a w ka kd s
theorem JO.tail4 {P : Program} {n : Nat} {ds : List Deferred} {ops : Array Oper} {Q : Exit → Act → World → Prop} {rest : List Oper} {env : Env} {p1 p2 p3 : HP} {l : List HP} {v : Value} {cs : List Value}
    (hv : RdS σ l v cs) (h : RdS σ l v cs → JO P σ n ds ops Q rest env (p1 :: p2 :: p3 :: l)) : JO P σ n ds ops Q rest env (p1 :: p2 :: p3 :: l) := h hv
theorem arr_cell {b E : Nat} {vs : List Value} {l r : List HP} (hp : Pick (arr b E vs) l r) : ∀ w, Sat σ w l → ∀ o, w.cell? ⟨b, o, none⟩ = vs[o]? := fun _ s o => (s.perm hp).cell o
end Go.Sep
/- slot: sealed. -/
namespace Go.Sep
open Go Go.Proofs
attribute [local irreducible] JO JC JE JA JQ JB JI Mid Inv Weak ownS Ru Do Fn Sat Pick Take arr pt star ex Holds bodyPost Post Exit.then Exit.inBlock Res
variable {σ : Sig} {F : List HP}
attribute [local irreducible] diskHP cacheHP planHP rowHP
def sealHead (bs : List UInt8) (e f s q : Int) : HeadN := ⟨e, f, s, bs.length, q, crcSum bs⟩
theorem atE_right {D : DiskN} {which e f s : Int} (h : atE D which e f s = 0) : rightG e f s = true := by
  unfold atE at h
  split at h
  · cases h
  · rename_i hr; simpa using hr
set_option maxHeartbeats 4000000 in
theorem slot_Seal (d : Nat) (D : DiskN) (which e f s q : Int) (v : Value) (bs : List UInt8) (hq0 : 0 ≤ q) (hbl : bs.length ≤ 100000000) (hD : D.WF) (ho : D.ops ≤ 1000000000000) (hw : D.writes ≤ 1000000000000) {l : List HP} [hg : InG l] (hb : RdS σ l v (bs.map byte)) :
    Fn Tryd.prog σ 12 #[.pointer (some ⟨d, 0, none⟩), int which, geoV e f s, u64 q, v] (diskHP d D :: l)
      (fun r l' => (atE D which e f s ≠ 0 ∧ r = int (atE D which e f s) ∧ l' = diskHP d D :: l) ∨ (atE D which e f s = 0 ∧ (bs.length : Int) ≠ totG e f s ∧ r = int 1 ∧ l' = diskHP d D :: l) ∨
        (atE D which e f s = 0 ∧ (bs.length : Int) = totG e f s ∧
        ((D.writeE (which * spanG D.size e f s) D.size = 0 ∧ r = int 0 ∧ l' = diskHP d (D.put (which * spanG D.size e f s) (padB (enc (sealHead bs e f s q)) D.size)) :: l) ∨
         (D.writeE (which * spanG D.size e f s) D.size ≠ 0 ∧ r = int (D.writeE (which * spanG D.size e f s) D.size) ∧ l' = diskHP d D.tick :: l)))) := by
  obtain ⟨pv, cv, rfl, hcv, hrv⟩ := id hb
  have hl : (bs.map byte).length = bs.length := by simp
  have hcs := crcSum_bd bs
  refine Fn.of Tryd.func12 rfl Tryd.ntmps12 rfl ?_
  repeat' (first | (apply JO.ru; exact rfl; exact rfl; exact rfl; (first | (apply Ru.move; exact rfl) | (apply Ru.assign; exact rfl) | (apply Ru.loadAN; exact rfl; (repeat (first | exact Pick.here | apply Pick.there)); exact rfl; exact rfl))) | refine JC.seq ?_ | refine JC.region ?_ | refine JO.nil ?_ | refine JE.thenN ?_ | (apply JO.do; exact rfl; exact rfl; exact rfl; (first | (apply Do.boxN; exact rfl; exact rfl) | (apply Do.box; exact rfl)); rintro _ _ ⟨_, rfl, rfl⟩))
  rename_i gb
  refine JO.heap (Sat.weak (l' := diskHP d D :: arr gb 23 [int e, int f, int s] :: l) (by repeat (first | exact Weak.refl | (apply Weak.cons; (first | exact Pick.here | exact Pick.there Pick.here | exact Pick.there (Pick.there Pick.here) | exact Pick.there (Pick.there (Pick.there Pick.here)) | exact Pick.there (Pick.there (Pick.there (Pick.there Pick.here))) | exact Pick.there (Pick.there (Pick.there (Pick.there (Pick.there Pick.here)))) | exact Pick.there (Pick.there (Pick.there (Pick.there (Pick.there (Pick.there Pick.here))))) | exact Pick.there (Pick.there (Pick.there (Pick.there (Pick.there (Pick.there (Pick.there Pick.here)))))))) | apply Weak.drop))) ?_
  (apply JO.do; exact rfl; exact rfl; exact rfl; (apply Do.call; exact rfl; exact slot_at d D which e f s hD); rintro _ _ (⟨hE, db, fb, rfl, rfl⟩ | ⟨hE, rfl, rfl⟩))
  · have hfi := atE_first hE
    have hri := atE_right hE
    repeat' (first | (first | (apply JO.ru; exact rfl; exact rfl; exact rfl; (first | (apply Ru.move; exact rfl) | (apply Ru.assign; exact rfl) | (apply Ru.lenS; exact rfl) | (apply Ru.neq; exact rfl; exact rfl; (first | exact ndecF (by omega) | exact ndecT (by omega))) | (apply Ru.extractN; exact rfl; exact rfl) | (apply Ru.loadAN; exact rfl; (repeat (first | exact Pick.here | apply Pick.there)); exact rfl; exact rfl))) | refine JC.seq ?_ | refine JC.region ?_ | refine JO.nil ?_ | refine JE.thenN ?_ | refine JE.thenR ?_ | refine JE.blockN ?_ | refine JE.blockR ?_ | refine JC.block ?_ | refine JC.ret ?_ | refine JC.skip ?_ | refine JC.condT rfl ?_ | refine JC.condF rfl ?_ | (apply JO.splitN; exact rfl; exact rfl; exact rfl; (apply Ru.neq; exact rfl; exact rfl; exact rfl); all_goals intro _) | (apply JO.do; exact rfl; exact rfl; exact rfl; (first | (apply Do.allocN; exact rfl) | apply Do.alloc); rintro _ _ ⟨_, rfl, rfl⟩) | (apply JO.do0; exact rfl; exact rfl; (first | (apply Do.storeAN; exact rfl; exact rfl; (repeat (first | exact Pick.here | apply Pick.there)); exact rfl; exact rfl; exact rfl; exact rfl) | (apply Do.storeA; exact rfl; exact rfl; (repeat (first | exact Pick.here | apply Pick.there)); exact rfl; exact rfl; exact rfl)); rintro _ _ ⟨rfl, rfl⟩) | (apply JE.done1; exact rfl; (first | (apply Res.tmp; exact rfl) | (apply Res.cell; exact rfl; (repeat (first | exact Pick.here | apply Pick.there)); exact rfl) | (apply Res.cellAN; exact rfl; (repeat (first | exact Pick.here | apply Pick.there)); exact rfl; exact rfl) | (apply Res.cellA; exact rfl; (repeat (first | exact Pick.here | apply Pick.there)); exact rfl; exact rfl)))) | (first | (apply JO.do; exact rfl; exact rfl; exact rfl; (apply Do.call; exact rfl; exact geo_Total _ _ _); rintro _ _ ⟨rfl, hq⟩; obtain rfl := hq.symm) | (apply JQ.call; exact rfl; exact rfl; exact rfl; exact geo_Total _ _ _; (rintro _ _ ⟨rfl, rfl⟩; exact ⟨rfl, rfl⟩))))
    · rename_i pb heq
      rw [hl] at heq
      have hright : (sealHead bs e f s q).right = true := by simp [HeadN.right, sealHead, hri, heq]
      refine JC.regionB (arr pb 58 [int (spanG D.size e f s - 1), int D.size, rdV db fb, wrV db fb] :: slotL d D db fb (which * spanG D.size e f s) (arr gb 23 [int e, int f, int s] :: l)) mixed ?_
      repeat' ((apply JB.ru; exact rfl; exact rfl; exact rfl; exact rfl; (first | (apply Ru.move; exact rfl) | (apply Ru.lenS; exact rfl) | (apply Ru.loadAN; exact rfl; (repeat (first | exact Pick.here | apply Pick.there)); exact rfl; exact rfl)); decide +kernel; decide +kernel; (first | exact fun _ h => h | exact fun _ h => Sat.drop h | exact fun _ h => Sat.drop (Sat.drop h) | exact fun _ h => Sat.drop (Sat.drop (Sat.drop h)) | exact fun _ h => Sat.drop (Sat.drop (Sat.drop (Sat.drop h)))); (simp only [Nat.reduceAdd, Nat.reducePow, Nat.reduceMul, Nat.zero_or, Nat.or_zero, Nat.reduceXor, Nat.reduceOr]; try exact rfl)))
      refine JB.one 5 (by decide +kernel) ?_
      (apply JI.do; exact rfl; exact rfl; exact rfl; exact rfl; (apply Do.call; exact rfl; exact crc_Sum _ bs (by omega) hb.cons.cons.cons.cons.cons); (simp only [Nat.reduceAdd, Nat.reducePow, Nat.reduceMul, Nat.zero_or, Nat.or_zero, Nat.reduceXor, Nat.reduceOr]; try exact rfl); rintro _ _ ⟨rfl, rfl⟩; refine ⟨fun _ s => s, ?_⟩)
      repeat' ((apply JB.ru; exact rfl; exact rfl; exact rfl; exact rfl; ((apply Ru.buildN; exact rfl; exact rfl)); decide +kernel; decide +kernel; (first | exact fun _ h => h | exact fun _ h => Sat.drop h | exact fun _ h => Sat.drop (Sat.drop h) | exact fun _ h => Sat.drop (Sat.drop (Sat.drop h)) | exact fun _ h => Sat.drop (Sat.drop (Sat.drop (Sat.drop h)))); (simp only [Nat.reduceAdd, Nat.reducePow, Nat.reduceMul, Nat.zero_or, Nat.or_zero, Nat.reduceXor, Nat.reduceOr]; try exact rfl)))
      refine JB.one 7 (by decide +kernel) ?_
      (apply JI.do; exact rfl; exact rfl; exact rfl; exact rfl; (apply Do.call; exact rfl; (rw [hl]; exact head_Encode (sealHead bs e f s q) hq0 hcs.1)); (simp only [Nat.reduceAdd, Nat.reducePow, Nat.reduceMul, Nat.zero_or, Nat.or_zero, Nat.reduceXor, Nat.reduceOr]; try exact rfl); rintro _ _ (⟨_, u, rfl, rfl⟩ | ⟨hf, _, _⟩))
      · refine ⟨fun _ s => s.drop, ?_⟩
        repeat' (first | (apply JB.ru; exact rfl; exact rfl; exact rfl; exact rfl; (first | (apply Ru.move; exact rfl) | (apply Ru.assign; exact rfl) | (apply Ru.extractN; exact rfl; exact rfl)); decide +kernel; decide +kernel; (first | exact fun _ h => h | exact fun _ h => Sat.drop h | exact fun _ h => Sat.drop (Sat.drop h) | exact fun _ h => Sat.drop (Sat.drop (Sat.drop h)) | exact fun _ h => Sat.drop (Sat.drop (Sat.drop (Sat.drop h)))); (simp only [Nat.reduceAdd, Nat.reducePow, Nat.reduceMul, Nat.zero_or, Nat.or_zero, Nat.reduceXor, Nat.reduceOr]; try exact rfl)) | (apply JB.nil; exact rfl))
        repeat' (first | (apply JO.ru; exact rfl; exact rfl; exact rfl; (first | (apply Ru.move; exact rfl) | (apply Ru.neq; exact rfl; exact rfl; (first | exact ndecF (by omega) | exact ndecT (by omega))) | (apply Ru.loadAN; exact rfl; (repeat (first | exact Pick.here | apply Pick.there)); exact rfl; exact rfl))) | refine JC.seq ?_ | refine JC.region ?_ | refine JO.nil ?_ | refine JE.thenN ?_ | refine JC.skip ?_ | refine JC.condF rfl ?_)
        have hel : (enc (sealHead bs e f s q)).length = 28 := rfl
        have hsz : 32 ≤ D.size := by
          unfold atE at hE
          rw [if_neg (by rw [hri]; simp)] at hE
          split at hE
          · cases hE
          · omega
        refine JO.heap (Sat.weak (l' := slotL d D db fb (which * spanG D.size e f s) (ownS u 5 1 28 ((enc (sealHead bs e f s q)).map byte) :: arr pb 58 [int (spanG D.size e f s - 1), int D.size, rdV db fb, wrV db fb] :: arr gb 23 [int e, int f, int s] :: l)) (by repeat (first | exact Weak.refl | (apply Weak.cons; (first | exact Pick.here | exact Pick.there Pick.here | exact Pick.there (Pick.there Pick.here) | exact Pick.there (Pick.there (Pick.there Pick.here)) | exact Pick.there (Pick.there (Pick.there (Pick.there Pick.here))) | exact Pick.there (Pick.there (Pick.there (Pick.there (Pick.there Pick.here)))) | exact Pick.there (Pick.there (Pick.there (Pick.there (Pick.there (Pick.there Pick.here))))) | exact Pick.there (Pick.there (Pick.there (Pick.there (Pick.there (Pick.there (Pick.there Pick.here)))))))) | apply Weak.drop))) ?_
        refine JO.tail3 fun hrd => ?_
        have hfst := place_first (σ := σ) d D db fb (which * spanG D.size e f s) (spanG D.size e f s - 1) u (enc (sealHead bs e f s q)) hD ho hw (by omega) ⟨hfi.1, by omega⟩ (l := ownS u 5 1 28 ((enc (sealHead bs e f s q)).map byte) :: arr pb 58 [int (spanG D.size e f s - 1), int D.size, rdV db fb, wrV db fb] :: arr gb 23 [int e, int f, int s] :: l) hrd
        repeat' (fail)
        (apply JO.do; exact rfl; exact rfl; exact rfl; (apply Do.call; exact rfl; exact hfst); rintro _ _ (⟨hW, rfl, rfl⟩ | ⟨hW, rfl, rfl⟩))
        · repeat' (first | (apply JO.ru; exact rfl; exact rfl; exact rfl; ((apply Ru.assign; exact rfl))) | refine JO.nil ?_ | refine JE.thenN ?_ | refine JC.ret ?_ | (apply JE.done1; exact rfl; (first | (apply Res.tmp; exact rfl) | (apply Res.cell; exact rfl; (repeat (first | exact Pick.here | apply Pick.there)); exact rfl) | (apply Res.cellAN; exact rfl; (repeat (first | exact Pick.here | apply Pick.there)); exact rfl; exact rfl) | (apply Res.cellA; exact rfl; (repeat (first | exact Pick.here | apply Pick.there)); exact rfl; exact rfl))))
          exact ⟨diskHP d (D.put (which * spanG D.size e f s) (padB (enc (sealHead bs e f s q)) D.size)) :: l, Sat.weak (by repeat (first | exact Weak.refl | (apply Weak.cons; (first | exact Pick.here | exact Pick.there Pick.here | exact Pick.there (Pick.there Pick.here) | exact Pick.there (Pick.there (Pick.there Pick.here)) | exact Pick.there (Pick.there (Pick.there (Pick.there Pick.here))) | exact Pick.there (Pick.there (Pick.there (Pick.there (Pick.there Pick.here)))) | exact Pick.there (Pick.there (Pick.there (Pick.there (Pick.there (Pick.there Pick.here))))) | exact Pick.there (Pick.there (Pick.there (Pick.there (Pick.there (Pick.there (Pick.there Pick.here)))))))) | apply Weak.drop)), .inr (.inr ⟨hE, heq, .inl ⟨hW, rfl, rfl⟩⟩)⟩
        · repeat' (first | (apply JO.ru; exact rfl; exact rfl; exact rfl; ((apply Ru.assign; exact rfl))) | refine JO.nil ?_ | refine JE.thenN ?_ | refine JC.ret ?_ | (apply JE.done1; exact rfl; (first | (apply Res.tmp; exact rfl) | (apply Res.cell; exact rfl; (repeat (first | exact Pick.here | apply Pick.there)); exact rfl) | (apply Res.cellAN; exact rfl; (repeat (first | exact Pick.here | apply Pick.there)); exact rfl; exact rfl) | (apply Res.cellA; exact rfl; (repeat (first | exact Pick.here | apply Pick.there)); exact rfl; exact rfl))))
          exact ⟨diskHP d D.tick :: l, Sat.weak (by repeat (first | exact Weak.refl | (apply Weak.cons; (first | exact Pick.here | exact Pick.there Pick.here | exact Pick.there (Pick.there Pick.here) | exact Pick.there (Pick.there (Pick.there Pick.here)) | exact Pick.there (Pick.there (Pick.there (Pick.there Pick.here))) | exact Pick.there (Pick.there (Pick.there (Pick.there (Pick.there Pick.here)))) | exact Pick.there (Pick.there (Pick.there (Pick.there (Pick.there (Pick.there Pick.here))))) | exact Pick.there (Pick.there (Pick.there (Pick.there (Pick.there (Pick.there (Pick.there Pick.here)))))))) | apply Weak.drop)), .inr (.inr ⟨hE, heq, .inr ⟨hW, rfl, rfl⟩⟩)⟩
      · rw [hright] at hf; cases hf
    · rename_i heq
      rw [hl] at heq
      exact ⟨diskHP d D :: l, Sat.weak (by repeat (first | exact Weak.refl | (apply Weak.cons; (first | exact Pick.here | exact Pick.there Pick.here | exact Pick.there (Pick.there Pick.here) | exact Pick.there (Pick.there (Pick.there Pick.here)) | exact Pick.there (Pick.there (Pick.there (Pick.there Pick.here))) | exact Pick.there (Pick.there (Pick.there (Pick.there (Pick.there Pick.here)))) | exact Pick.there (Pick.there (Pick.there (Pick.there (Pick.there (Pick.there Pick.here))))) | exact Pick.there (Pick.there (Pick.there (Pick.there (Pick.there (Pick.there (Pick.there Pick.here)))))))) | apply Weak.drop)), .inr (.inl ⟨hE, heq, rfl, rfl⟩)⟩
  · repeat' (first | (apply JO.ru; exact rfl; exact rfl; exact rfl; (first | (apply Ru.move; exact rfl) | (apply Ru.assign; exact rfl) | (apply Ru.neq; exact rfl; exact rfl; (first | exact ndecF (by omega) | exact ndecT (by omega))) | (apply Ru.extractN; exact rfl; exact rfl))) | refine JC.seq ?_ | refine JC.region ?_ | refine JO.nil ?_ | refine JE.thenN ?_ | refine JE.thenR ?_ | refine JE.blockR ?_ | refine JC.block ?_ | refine JC.ret ?_ | refine JC.condT rfl ?_ | (apply JO.do; exact rfl; exact rfl; exact rfl; (first | (apply Do.allocN; exact rfl) | apply Do.alloc); rintro _ _ ⟨_, rfl, rfl⟩) | (apply JO.do0; exact rfl; exact rfl; (first | (apply Do.storeAN; exact rfl; exact rfl; (repeat (first | exact Pick.here | apply Pick.there)); exact rfl; exact rfl; exact rfl; exact rfl) | (apply Do.storeA; exact rfl; exact rfl; (repeat (first | exact Pick.here | apply Pick.there)); exact rfl; exact rfl; exact rfl)); rintro _ _ ⟨rfl, rfl⟩) | (apply JE.done1; exact rfl; (first | (apply Res.tmp; exact rfl) | (apply Res.cell; exact rfl; (repeat (first | exact Pick.here | apply Pick.there)); exact rfl) | (apply Res.cellAN; exact rfl; (repeat (first | exact Pick.here | apply Pick.there)); exact rfl; exact rfl) | (apply Res.cellA; exact rfl; (repeat (first | exact Pick.here | apply Pick.there)); exact rfl; exact rfl))))
    exact ⟨diskHP d D :: l, Sat.weak (by repeat (first | exact Weak.refl | (apply Weak.cons; (first | exact Pick.here | exact Pick.there Pick.here | exact Pick.there (Pick.there Pick.here) | exact Pick.there (Pick.there (Pick.there Pick.here)) | exact Pick.there (Pick.there (Pick.there (Pick.there Pick.here))) | exact Pick.there (Pick.there (Pick.there (Pick.there (Pick.there Pick.here)))) | exact Pick.there (Pick.there (Pick.there (Pick.there (Pick.there (Pick.there Pick.here))))) | exact Pick.there (Pick.there (Pick.there (Pick.there (Pick.there (Pick.there (Pick.there Pick.here)))))))) | apply Weak.drop)), .inl ⟨hE, rfl, rfl⟩⟩
end Go.Sep
/- slot: what its calls answer, as functions of the disk. -/
namespace Go.Sep
open Go Go.Proofs

/-- A slot's first sector; how many follow it. -/
def firstOf (D : DiskN) (which e f s : Int) : Int := which * spanG D.size e f s
def manyOf (D : DiskN) (e f s : Int) : Nat := (spanG D.size e f s - 1).toNat
def wipeR (D : DiskN) (which e f s : Int) : Int × DiskN :=
  if atE D which e f s ≠ 0 then (atE D which e f s, D)
  else if D.writeE (firstOf D which e f s) D.size ≠ 0 then (D.writeE (firstOf D which e f s) D.size, D.tick)
  else (0, D.put (firstOf D which e f s) (padB [] D.size))
def sealR (D : DiskN) (which e f s q : Int) (bs : List UInt8) : Int × DiskN :=
  if atE D which e f s ≠ 0 then (atE D which e f s, D)
  else if (bs.length : Int) ≠ totG e f s then (1, D)
  else if D.writeE (firstOf D which e f s) D.size ≠ 0 then (D.writeE (firstOf D which e f s) D.size, D.tick)
  else (0, D.put (firstOf D which e f s) (padB (enc (sealHead bs e f s q)) D.size))
def dataGo (first : Int) : Nat → DiskN → List (List UInt8) → Int × DiskN
  | _, D, [] => (0, D)
  | i, D, x :: r => if D.writeE (first + (1 + (i : Int))) x.length ≠ 0 then (D.writeE (first + (1 + (i : Int))) x.length, D.tick) else dataGo first (i + 1) (D.put (first + (1 + (i : Int))) x) r
def pieces (bs : List UInt8) (z n : Nat) : List (List UInt8) := (List.range n).map fun i => ((padB bs (n * z)).drop (i * z)).take z
def dataR (D : DiskN) (which e f s : Int) (bs : List UInt8) : Int × DiskN :=
  if atE D which e f s ≠ 0 then (atE D which e f s, D)
  else if (bs.length : Int) ≠ totG e f s then (1, D)
  else dataGo (firstOf D which e f s) 0 D (pieces bs D.size (secs bs.length D.size).toNat)
structure SlotN where
  (state why seq : Int)
  image : List UInt8
def SlotN.zero : SlotN := ⟨0, 0, 0, []⟩
def badK (D : DiskN) (first : Int) (many : Nat) : Option Nat := (List.range many).find? fun k => !decide (bodyE D first k = 0)
theorem badK_none {D : DiskN} {first : Int} {many : Nat} (h : ∀ j, j < many → bodyE D first j = 0) : badK D first many = none := by
  unfold badK
  rw [List.find?_eq_none]
  intro k hk
  simp [h k (List.mem_range.1 hk)]
theorem badK_some {D : DiskN} {first : Int} {many k : Nat} (hk : k < many) (h : ∀ j, j < k → bodyE D first j = 0) (h2 : bodyE D first k ≠ 0) : badK D first many = some k := by
  unfold badK
  rw [List.find?_range_eq_some]
  refine ⟨by simpa using h2, List.mem_range.2 hk, fun j hj => by simpa using h j hj⟩
theorem badK_cases (D : DiskN) (first : Int) (many : Nat) : (badK D first many = none ∧ ∀ j, j < many → bodyE D first j = 0) ∨ ∃ k, badK D first many = some k ∧ k < many ∧ (∀ j, j < k → bodyE D first j = 0) ∧ bodyE D first k ≠ 0 := by
  cases q : badK D first many with
  | none =>
    left
    refine ⟨rfl, fun j hj => ?_⟩
    unfold badK at q
    rw [List.find?_eq_none] at q
    simpa using q j (List.mem_range.2 hj)
  | some k =>
    right
    unfold badK at q
    rw [List.find?_range_eq_some] at q
    obtain ⟨h1, h2, h3⟩ := q
    exact ⟨k, rfl, List.mem_range.1 h2, fun j hj => by simpa using h3 j hj, by simpa using h1⟩
/-- What a slot whose head is right comes to. -/
def bodyR (D : DiskN) (first : Int) (many : Nat) (h : HeadN) : Int × DiskN × SlotN :=
  match badK D first many with
  | some k => (bodyE D first k, D.ticks (k + 1), .zero)
  | none =>
    if 0 ≤ h.len ∧ h.len ≤ (D.body first many).length then
      if crcSum ((D.body first many).take h.len.toNat) = h.sum then (0, D.ticks many, ⟨2, 0, h.seq, (D.body first many).take h.len.toNat⟩)
      else (0, D.ticks many, ⟨0, 8, 0, []⟩)
    else (1, D.ticks many, .zero)
def readR (D : DiskN) (which e f s : Int) : Int × DiskN × SlotN :=
  if atE D which e f s ≠ 0 then (atE D which e f s, D, .zero)
  else if D.readE (firstOf D which e f s) ≠ 0 then (D.readE (firstOf D which e f s), D.tick, .zero)
  else if decE (D.cur (firstOf D which e f s).toNat) ≠ 0 then (0, D.tick, ⟨0, decE (D.cur (firstOf D which e f s).toNat), 0, []⟩)
  else if ((decH (D.cur (firstOf D which e f s).toNat)).e = e ∧ (decH (D.cur (firstOf D which e f s).toNat)).f = f ∧ (decH (D.cur (firstOf D which e f s).toNat)).s = s) then
    bodyR D.tick (firstOf D which e f s) (manyOf D e f s) (decH (D.cur (firstOf D which e f s).toNat))
  else (0, D.tick, ⟨1, 0, 0, []⟩)
end Go.Sep
/- The shelf's contracts on a map's keys, sorted, at this dump. -/
namespace Go.Proofs
open Go.RowKit Go.Maps Go.Sort Go.Shelf
def Tryd.keysA_ren : Go.Shelf.Ren := ⟨fun | 7 => 59 | 10 => 67 | n => n, fun | 23 => 76 | 26 => 3 | 3 => 24 | 28 => 97 | 0 => 0 | 27 => 96 | 33 => 87 | 4 => 4 | n => n, fun | n => n⟩
theorem Tryd.keysA : Go.Proofs.SlLaysZI.n7 Tryd.prog Tryd.keysA_ren := {
  mixed := by kernel_rfl
  f7 := ⟨Tryd.f59.name, by decide, Tryd.func59.trans (congrArg some (by kernel_rfl))⟩
  f10 := ⟨Tryd.f67.name, by decide, Tryd.func67.trans (congrArg some (by kernel_rfl))⟩
  t0 := Tryd.underlying0
  a0 := Tryd.isAgg0
  z0 := Tryd.sizeOf0
  v0 := Tryd.zeroValue0
  t4 := Tryd.underlying4
  a4 := Tryd.isAgg4
  z4 := Tryd.sizeOf4
  v4 := Tryd.zeroValue4
  t23 := Tryd.underlying76
  a23 := Tryd.isAgg76
  z23 := Tryd.sizeOf76
  v23 := Tryd.zeroValue76
  t26 := Tryd.underlying3
  a26 := Tryd.isAgg3
  z26 := Tryd.sizeOf3
  v26 := Tryd.zeroValue3
  t27 := Tryd.underlying96
  a27 := Tryd.isAgg96
  z27 := Tryd.sizeOf96
  v27 := Tryd.zeroValue96
  t28 := Tryd.underlying97
  a28 := Tryd.isAgg97
  z28 := Tryd.sizeOf97
  v28 := Tryd.zeroValue97
  t33 := Tryd.underlying87
  a33 := Tryd.isAgg87
  z33 := Tryd.sizeOf87
  v33 := Tryd.zeroValue87 }
def Tryd.sortedA_ren : Go.Shelf.Ren := ⟨fun | 6 => 58 | 8 => 65 | 9 => 66 | 11 => 70 | 13 => 72 | 12 => 71 | 23 => 82 | 24 => 83 | 14 => 73 | 15 => 74 | 16 => 75 | 17 => 76 | 18 => 77 | 19 => 78 | 20 => 79 | 21 => 80 | 22 => 81 | 25 => 84 | 26 => 85 | 27 => 86 | 28 => 87 | 29 => 88 | 30 => 89 | 31 => 90 | n => n, fun | 26 => 3 | 28 => 97 | 24 => 73 | 0 => 0 | 3 => 3 | 37 => 102 | 48 => 65 | 50 => 25 | 4 => 4 | 40 => 115 | 39 => 114 | 45 => 119 | 5 => 5 | 9 => 9 | 51 => 123 | 55 => 127 | 57 => 129 | 58 => 130 | 33 => 87 | n => n, fun | n => n⟩
theorem Tryd.sortedA : Go.Proofs.SlLaysZI.n6 Tryd.prog Tryd.sortedA_ren := {
  mixed := by kernel_rfl
  f6 := ⟨Tryd.f58.name, by decide, Tryd.func58.trans (congrArg some (by kernel_rfl))⟩
  f8 := ⟨Tryd.f65.name, by decide, Tryd.func65.trans (congrArg some (by kernel_rfl))⟩
  f11 := ⟨Tryd.f70.name, by decide, Tryd.func70.trans (congrArg some (by kernel_rfl))⟩
  t0 := Tryd.underlying0
  a0 := Tryd.isAgg0
  z0 := Tryd.sizeOf0
  v0 := Tryd.zeroValue0
  t24 := Tryd.underlying73
  a24 := Tryd.isAgg73
  z24 := Tryd.sizeOf73
  v24 := Tryd.zeroValue73
  t26 := Tryd.underlying3
  a26 := Tryd.isAgg3
  z26 := Tryd.sizeOf3
  v26 := Tryd.zeroValue3
  t28 := Tryd.underlying97
  a28 := Tryd.isAgg97
  z28 := Tryd.sizeOf97
  v28 := Tryd.zeroValue97
  i26 := by kernel_rfl }
def Tryd.sortA_ren : Go.Shelf.Ren := ⟨fun | 5 => 66 | 8 => 72 | 7 => 71 | 19 => 82 | 20 => 83 | 10 => 73 | 11 => 74 | 12 => 75 | 13 => 76 | 14 => 77 | 15 => 78 | 16 => 79 | 17 => 80 | 18 => 81 | 30 => 84 | 31 => 85 | 32 => 86 | 33 => 87 | 34 => 88 | 35 => 89 | 40 => 90 | n => n, fun | 23 => 73 | 25 => 3 | 3 => 3 | 32 => 102 | 22 => 73 | 0 => 0 | 44 => 65 | 46 => 25 | 4 => 4 | 36 => 115 | 35 => 114 | 41 => 119 | 5 => 5 | 9 => 9 | 53 => 123 | 57 => 127 | 63 => 129 | 64 => 130 | n => n, fun | n => n⟩
theorem Tryd.sortA : Go.Proofs.SlLaysM.n5 Tryd.prog Tryd.sortA_ren := {
  mixed := by kernel_rfl
  f5 := ⟨Tryd.f66.name, by decide, Tryd.func66.trans (congrArg some (by kernel_rfl))⟩
  f7 := ⟨Tryd.f71.name, by decide, Tryd.func71.trans (congrArg some (by kernel_rfl))⟩
  f8 := Tryd.func72.trans (congrArg some (by kernel_rfl))
  f10 := ⟨Tryd.f73.name, by decide, Tryd.func73.trans (congrArg some (by kernel_rfl))⟩
  f11 := ⟨Tryd.f74.name, by decide, Tryd.func74.trans (congrArg some (by kernel_rfl))⟩
  f12 := ⟨Tryd.f75.name, by decide, Tryd.func75.trans (congrArg some (by kernel_rfl))⟩
  f13 := ⟨Tryd.f76.name, by decide, Tryd.func76.trans (congrArg some (by kernel_rfl))⟩
  f14 := ⟨Tryd.f77.name, by decide, Tryd.func77.trans (congrArg some (by kernel_rfl))⟩
  f15 := ⟨Tryd.f78.name, by decide, Tryd.func78.trans (congrArg some (by kernel_rfl))⟩
  f16 := ⟨Tryd.f79.name, by decide, Tryd.func79.trans (congrArg some (by kernel_rfl))⟩
  f17 := ⟨Tryd.f80.name, by decide, Tryd.func80.trans (congrArg some (by kernel_rfl))⟩
  f18 := ⟨Tryd.f81.name, by decide, Tryd.func81.trans (congrArg some (by kernel_rfl))⟩
  f19 := Tryd.func82.trans (congrArg some (by kernel_rfl))
  f20 := Tryd.func83.trans (congrArg some (by kernel_rfl))
  f30 := ⟨Tryd.f84.name, by decide, Tryd.func84.trans (congrArg some (by kernel_rfl))⟩
  f31 := Tryd.func85.trans (congrArg some (by kernel_rfl))
  f32 := Tryd.func86.trans (congrArg some (by kernel_rfl))
  f33 := ⟨Tryd.f87.name, by decide, Tryd.func87.trans (congrArg some (by kernel_rfl))⟩
  f34 := ⟨Tryd.f88.name, by decide, Tryd.func88.trans (congrArg some (by kernel_rfl))⟩
  f35 := ⟨Tryd.f89.name, by decide, Tryd.func89.trans (congrArg some (by kernel_rfl))⟩
  f40 := ⟨Tryd.f90.name, by decide, Tryd.func90.trans (congrArg some (by kernel_rfl))⟩
  t0 := Tryd.underlying0
  a0 := Tryd.isAgg0
  z0 := Tryd.sizeOf0
  v0 := Tryd.zeroValue0
  t3 := Tryd.underlying3
  a3 := Tryd.isAgg3
  z3 := Tryd.sizeOf3
  v3 := Tryd.zeroValue3
  t4 := Tryd.underlying4
  a4 := Tryd.isAgg4
  z4 := Tryd.sizeOf4
  v4 := Tryd.zeroValue4
  t5 := Tryd.underlying5
  a5 := Tryd.isAgg5
  z5 := Tryd.sizeOf5
  v5 := Tryd.zeroValue5
  t9 := Tryd.underlying9
  a9 := Tryd.isAgg9
  z9 := Tryd.sizeOf9
  v9 := Tryd.zeroValue9
  t22 := Tryd.underlying73
  a22 := Tryd.isAgg73
  z22 := Tryd.sizeOf73
  v22 := Tryd.zeroValue73
  t23 := Tryd.underlying73
  a23 := Tryd.isAgg73
  z23 := Tryd.sizeOf73
  v23 := Tryd.zeroValue73
  t25 := Tryd.underlying3
  a25 := Tryd.isAgg3
  z25 := Tryd.sizeOf3
  v25 := Tryd.zeroValue3
  t32 := Tryd.underlying102
  a32 := Tryd.isAgg102
  z32 := Tryd.sizeOf102
  v32 := Tryd.zeroValue102
  t35 := Tryd.underlying114
  a35 := Tryd.isAgg114
  z35 := Tryd.sizeOf114
  v35 := Tryd.zeroValue114
  t36 := Tryd.underlying115
  a36 := Tryd.isAgg115
  z36 := Tryd.sizeOf115
  v36 := Tryd.zeroValue115
  t41 := Tryd.underlying119
  a41 := Tryd.isAgg119
  z41 := Tryd.sizeOf119
  v41 := Tryd.zeroValue119
  t44 := Tryd.underlying65
  a44 := Tryd.isAgg65
  z44 := Tryd.sizeOf65
  v44 := Tryd.zeroValue65
  t46 := Tryd.underlying25
  a46 := Tryd.isAgg25
  z46 := Tryd.sizeOf25
  v46 := Tryd.zeroValue25
  t53 := Tryd.underlying123
  a53 := Tryd.isAgg123
  z53 := Tryd.sizeOf123
  v53 := Tryd.zeroValue123
  t57 := Tryd.underlying127
  a57 := Tryd.isAgg127
  z57 := Tryd.sizeOf127
  v57 := Tryd.zeroValue127
  t63 := Tryd.underlying129
  a63 := Tryd.isAgg129
  z63 := Tryd.sizeOf129
  v63 := Tryd.zeroValue129
  t64 := Tryd.underlying130
  a64 := Tryd.isAgg130
  z64 := Tryd.sizeOf130
  v64 := Tryd.zeroValue130 }
theorem Tryd.sortsA (m : Nat) : AnyZI.SortsIn Tryd.prog Tryd.sortedA_ren Fence.wide m :=
  ⟨fun blk off cap ss W hH hblk hsz => callsIn_wide.2 (AnyM.slices_Sort_int Tryd.sortA blk off cap ss W hH hblk hsz),
   fun p cap W => callsIn_wide.2 (AnyM.slices_Sort_int_none Tryd.sortA p cap W)⟩
end Go.Proofs
/- A map's keys, sorted, as the heap logic has it. -/
namespace Go.Sep
open Go Go.Proofs Go.RowKit Go.Maps Go.Sort Go.Shelf Go.WideElems
variable {σ : Sig} {F : List HP}

theorem Sat.ofBelow {w w' : World} {l : List HP} (s : Sat σ w l) (hb : Below w.heap.size w w') : Sat σ w' l := by
  refine ⟨?_, Holds.mono (fun b o h => ?_) s.2⟩
  · rw [← s.1]; simp only [sigOf, hb.os, hb.tape, hb.output]
  · have hlt : b < w.heap.size := (Array.getElem?_eq_some_iff.1 h).1
    show w'.heap[b]? = some o
    rw [hb.block b hlt]; exact h
theorem Sat.ofBelowNew {w w' : World} {l : List HP} (s : Sat σ w l) (hb : Below w.heap.size w w') {g : Nat} {o : Obj} (hg : w.heap.size ≤ g) (ho : w'.heap[g]? = some o) : Sat σ w' (pt g o :: l) := by
  refine ⟨(s.ofBelow hb).1, fun x => if x = g then some o else none, heapOf w, fun x y q => ?_, fun x y q => ?_, fun x => ?_, ?_, s.2⟩
  · by_cases hx : x = g
    · subst hx; simp at q; subst q; exact ho
    · simp [hx] at q
  · have hlt : x < w.heap.size := (Array.getElem?_eq_some_iff.1 q).1
    show w'.heap[x]? = some y
    rw [hb.block x hlt]; exact q
  · by_cases hx : x = g
    · subst hx; right
      show w.heap[x]? = none
      exact Array.getElem?_eq_none hg
    · left; simp [hx]
  · simp [pt]
theorem Sat.ofOwnsRow {w w' : World} {l : List HP} {E n : Nat} {v : Value} {xs : List Value} (s : Sat σ w l) (hb : Below w.heap.size w w') (hr : w'.ownsRow w.heap.size E 1 v n xs) : Sat σ w' (Sep.ownS v E 1 n xs :: l) := by
  obtain ⟨hx, h⟩ := hr
  rcases h with ⟨rfl, rfl⟩ | ⟨g, cap, cur, rfl, hg, ho, hn, _, hc, ht⟩
  · obtain rfl : xs = [] := List.eq_nil_of_length_eq_zero (by simpa using hx)
    exact Sat.ownS_nil (s.ofBelow hb)
  · have s1 := s.ofBelowNew hb hg ho
    have e : cur.toList = xs ++ cur.toList.drop n := by
      rw [Nat.mul_one] at ht
      rw [← ht, List.take_append_drop]
    refine Sat.ownS_arr (xs := xs) (spare := cur.toList.drop n) (z := 1) hn hx (by rw [← e]; simp [hc]) ?_
    rw [← e]
    exact Sat.arr.2 ⟨0, 0, .inl rfl, s1⟩

def RB : Value → Option (DataW Nat × List MemPlace) := fun _ => some (.lit (.bool true), [])
def toI : Value → Int
  | .int _ n => n
  | _ => 0
theorem Sat.ownsMap {P : Program} {kt : TypeId} (hk : P.underlying kt = some (.int .i64)) {w : World} {b : Nat} {es : List (Int × Value)} {l : List HP} (s : Sat σ w (Sep.mapI b es :: l)) (hl : es.length ≤ 1000000) :
    ∃ D0 : DataW Nat, w.ownsMap P kt RB b es.length D0 ∧ (intKeys D0).Perm (es.map (·.1)) := by
  obtain ⟨a, ck, hm, s1⟩ := s.mapI
  have hb : w.heap[b]? = some (.map a ck) := s1.get
  have hlen : a.size = es.length := by
    have := congrArg List.length hm.ents
    simpa using this
  have hkey : ∀ x ∈ a.toList, keyOf P kt x.key = some (.int .i64 (toI x.key)) ∧ x.key = .int .i64 (toI x.key) := by
    intro x hx
    have h1 : (x.key, x.val) ∈ a.toList.map (fun e => (e.key, e.val)) := List.mem_map.2 ⟨x, hx, rfl⟩
    rw [hm.ents] at h1
    obtain ⟨p, hp1, hp2⟩ := List.mem_map.1 h1
    injection hp2 with hp2 _
    rw [← hp2]
    have hr := hm.rng p hp1
    exact ⟨keyOf_int_mk hk (by simp [Lit.wf, IntKind.min, IntKind.max, IntKind.bits, IntKind.signed]; omega), rfl⟩
  have hrd : ∀ x ∈ a.toList, Go.WideElems.rd P kt RB x = some (.int .i64 (toI x.key), .lit (.bool true)) := by
    intro x hx
    simp [Go.WideElems.rd, (hkey x hx).1, RB]
  refine ⟨.map ((a.toList.map (Go.WideElems.rg P kt RB)).foldr DataW.insert []), ⟨a, ck, hb, ⟨?_, hm.stamped, fun x hx => ⟨_, hrd x hx⟩⟩, by omega, rfl⟩, ?_⟩
  · rw [hlen]; unfold maxLen; omega
  · refine (List.Perm.map _ (Go.WideShapes.sorted_perm _)).trans ?_
    rw [List.map_map]
    have e1 : a.toList.map ((fun p : Lit × DataW Nat => intOf p.1) ∘ Go.WideElems.rg P kt RB) = a.toList.map fun x => toI x.key := by
      apply List.map_congr_left
      intro x hx
      simp only [Function.comp, Go.WideElems.rg_of (hrd x hx)]
      rfl
    have e2 : (a.toList.map fun x => toI x.key) = (a.toList.map (fun e => (e.key, e.val))).map fun q => toI q.1 := by rw [List.map_map]; rfl
    have e3 : (es.map (fun p => (Value.int .i64 p.1, p.2))).map (fun q => toI q.1) = es.map (·.1) := by rw [List.map_map]; rfl
    have : a.toList.map ((fun p : Lit × DataW Nat => intOf p.1) ∘ Go.WideElems.rg P kt RB) = es.map (·.1) := by rw [e1, e2, hm.ents, e3]
    rw [← this]

set_option maxHeartbeats 1000000 in
theorem slices_Sorted (a cm : Nat) (es : List (Int × Value)) (hl : es.length ≤ 1000000) {l r r2 : List HP} (hp : Pick (mapI cm es) l r) (hq : Pick (arr a 76 [.map (some cm)]) l r2) :
    Fn Tryd.prog σ 58 #[.func (.func 67) #[] #[.pointer (some ⟨a, 0, none⟩)]] l
      (fun v l' => ∃ ss : List Int, ss.Perm (es.map (·.1)) ∧ l' = ownS v 3 1 ss.length ((ss.mergeSort (fun x y => decide (x ≤ y))).map (Value.int .i64)) :: l) := by
  intro w s
  obtain ⟨D0, hown, hperm⟩ := (s.perm hp).ownsMap (P := Tryd.prog) (kt := 3) Tryd.underlying3 hl
  have hsz := hown.size_le
  have hcell : w.cell? ⟨a, 0, none⟩ = some (.map (some cm)) := by rw [(s.perm hq).cell]; rfl
  have hlt : a < w.heap.size := by
    rcases Nat.lt_or_ge a w.heap.size with h | h
    · exact h
    · rw [World.cell?, Array.getElem?_eq_none h] at hcell; cases hcell
  refine (callsIn_wide (n := 6)).1 ?_
  have hseq : SeqGives Fence.wide 3 Tryd.prog 67 #[.pointer (some ⟨a, 0, none⟩)] encZ (fun ss => ss.Perm (intKeys D0)) (Maps.size D0) w :=
    AnyZI.keys_gives (ρ := Tryd.keysA_ren) { Tryd.keysA with } Fence.wide _ trivial rfl (by omega) a cm _ D0 _ hlt hcell hown
  have cS := AnyZI.sorted_in Tryd.sortedA Fence.wide 6 trivial trivial trivial trivial rfl (by omega) (Tryd.sortsA _) (enters_of Tryd.func66 (by kernel_rfl) rfl) 67 #[.pointer (some ⟨a, 0, none⟩)] trivial (enters_of Tryd.func67 (by kernel_rfl) rfl) _ _ (by unfold maxLen; omega) (by omega) w hseq
  refine CallsIn.mono cS ?_
  rintro e w' ⟨v, ss, rfl, hS, hrow, _, hbel⟩
  exact ⟨v, _, rfl, ⟨ss, hS.trans hperm, rfl⟩, s.ofOwnsRow hbel hrow⟩
end Go.Sep
/- The disk: what isn't synced yet. -/
namespace Go.Sep
open Go Go.Proofs
attribute [local irreducible] JO JC JE JA JQ JB JI Mid Inv Weak ownS Ru Do Fn Sat Pick Take arr pt star ex Holds bodyPost Post Exit.then Exit.inBlock Res
variable {σ : Sig} {F : List HP}
attribute [local irreducible] diskHP cacheHP planHP rowHP
theorem maps_Keys (cm : Nat) : Fn Tryd.prog σ 59 #[.map (some cm)] F (fun v l => ∃ a, v = .func (.func 67) #[] #[.pointer (some ⟨a, 0, none⟩)] ∧ l = arr a 76 [.map (some cm)] :: F) := by
  refine Fn.of Tryd.func59 rfl Tryd.ntmps59 rfl ?_
  repeat' (first | (apply JO.ru; exact rfl; exact rfl; exact rfl; (first | (apply Ru.assign; exact rfl) | (apply Ru.makeFunc; exact rfl; exact rfl))) | refine JC.seq ?_ | refine JC.region ?_ | refine JO.nil ?_ | refine JE.thenN ?_ | refine JC.ret ?_ | (apply JO.do; exact rfl; exact rfl; exact rfl; (first | (apply Do.boxN; exact rfl; exact rfl) | (apply Do.box; exact rfl)); rintro _ _ ⟨_, rfl, rfl⟩) | (apply JE.done1; exact rfl; (first | (apply Res.tmp; exact rfl) | (apply Res.cell; exact rfl; (repeat (first | exact Pick.here | apply Pick.there)); exact rfl) | (apply Res.cellAN; exact rfl; (repeat (first | exact Pick.here | apply Pick.there)); exact rfl; exact rfl) | (apply Res.cellA; exact rfl; (repeat (first | exact Pick.here | apply Pick.there)); exact rfl; exact rfl))))
  refine finS ?_; exact ⟨_, rfl, rfl⟩

def DiskN.keys (D : DiskN) : List Int := (D.cached.map (·.1)).mergeSort (fun x y => decide (x ≤ y))
theorem DiskN.keys_length (D : DiskN) : D.keys.length = D.cached.length := by simp [DiskN.keys]
set_option maxHeartbeats 1000000 in
theorem disk_Unsynced (d : Nat) (D : DiskN) (hD : D.WF) (hw : D.writes ≤ 1000000) :
    Fn Tryd.prog σ 35 #[.pointer (some ⟨d, 0, none⟩)] (diskHP d D :: F) (fun v l => l = ownS v 3 1 D.keys.length (D.keys.map int) :: diskHP d D :: F) := by
  have hfew := hD.few
  refine Fn.disk fun lv cm pm => ?_
  refine Fn.of Tryd.func35 rfl Tryd.ntmps35 rfl ?_
  repeat' (first | (apply JO.ru; exact rfl; exact rfl; exact rfl; (first | (apply Ru.move; exact rfl) | (apply Ru.loadN; exact rfl; (repeat (first | exact Pick.here | apply Pick.there)); exact rfl) | (apply Ru.fieldAddr; exact rfl) | (apply Ru.nilP; exact rfl) | (apply Ru.assign; exact rfl))) | refine JC.seq ?_ | refine JC.region ?_ | refine JO.nil ?_ | refine JE.thenN ?_)
  (apply JO.do; exact rfl; exact rfl; exact rfl; (apply Do.call; exact rfl; exact maps_Keys cm); rintro _ _ ⟨a, rfl, rfl⟩)
  refine JO.cache (Pick.there (Pick.there (Pick.there Pick.here))) fun R hR => ?_
  have hRl : R.length = D.cached.length := by rw [hR]; simp
  (apply JO.do; exact rfl; exact rfl; exact rfl; (apply Do.call; exact rfl; exact slices_Sorted a cm _ (by rw [List.length_map]; omega) Pick.here (Pick.there (Pick.there Pick.here))); rintro v _ ⟨ss, hss, rfl⟩)
  have e : (R.map fun (p : Int × Value × List UInt8) => (p.1, p.2.1)).map (·.1) = D.cached.map (·.1) := by rw [hR, List.map_map, List.map_map]; rfl
  rw [e] at hss
  have hk : ss.mergeSort (fun x y => decide (x ≤ y)) = D.keys := Go.mergeSort_of_perm_i hss
  have hkl : ss.length = D.keys.length := by rw [← hk]; simp
  rw [hk, hkl]
  repeat' (first | (apply JO.ru; exact rfl; exact rfl; exact rfl; ((apply Ru.assign; exact rfl))) | refine JO.nil ?_ | refine JE.thenN ?_ | refine JC.ret ?_ | (apply JE.done1; exact rfl; (first | (apply Res.tmp; exact rfl) | (apply Res.cell; exact rfl; (repeat (first | exact Pick.here | apply Pick.there)); exact rfl) | (apply Res.cellAN; exact rfl; (repeat (first | exact Pick.here | apply Pick.there)); exact rfl; exact rfl) | (apply Res.cellA; exact rfl; (repeat (first | exact Pick.here | apply Pick.there)); exact rfl; exact rfl))))
  refine ⟨ownS v 3 1 D.keys.length (D.keys.map int) :: diskHP d D :: F, fun w s => ?_, rfl⟩
  have s1 := Sat.weak (l' := opn2 d D lv cm pm R (ownS v 3 1 D.keys.length (D.keys.map int) :: F)) (by repeat (first | exact Weak.refl | (apply Weak.cons; (first | exact Pick.here | exact Pick.there Pick.here | exact Pick.there (Pick.there Pick.here) | exact Pick.there (Pick.there (Pick.there Pick.here)) | exact Pick.there (Pick.there (Pick.there (Pick.there Pick.here))) | exact Pick.there (Pick.there (Pick.there (Pick.there (Pick.there Pick.here)))) | exact Pick.there (Pick.there (Pick.there (Pick.there (Pick.there (Pick.there Pick.here))))) | exact Pick.there (Pick.there (Pick.there (Pick.there (Pick.there (Pick.there (Pick.there Pick.here)))))))) | apply Weak.drop)) w s
  exact Sat.weak (l' := ownS v 3 1 D.keys.length (D.keys.map int) :: diskHP d D :: F) (by repeat (first | exact Weak.refl | (apply Weak.cons; (first | exact Pick.here | exact Pick.there Pick.here | exact Pick.there (Pick.there Pick.here) | exact Pick.there (Pick.there (Pick.there Pick.here)) | exact Pick.there (Pick.there (Pick.there (Pick.there Pick.here))) | exact Pick.there (Pick.there (Pick.there (Pick.there (Pick.there Pick.here)))) | exact Pick.there (Pick.there (Pick.there (Pick.there (Pick.there (Pick.there Pick.here))))) | exact Pick.there (Pick.there (Pick.there (Pick.there (Pick.there (Pick.there (Pick.there Pick.here)))))))) | apply Weak.drop)) w (Sat.close hR s1)
end Go.Sep
/- The disk: synced. -/
namespace Go.Sep
open Go Go.Proofs
attribute [local irreducible] JO JC JE JA JQ JB JI Mid Inv Weak ownS Ru Do Fn Sat Pick Take arr pt star ex Holds bodyPost Post Exit.then Exit.inBlock Res
variable {σ : Sig} {F : List HP}
attribute [local irreducible] diskHP cacheHP planHP rowHP
theorem disk_failsC (d : Nat) (D : DiskN) (ho : D.ops ≤ 1000000000000) : Fn Tryd.prog σ 34 #[.pointer (some ⟨d, 0, none⟩)] (diskHP d D :: F) (fun v l => v = .bool D.failing ∧ l = diskHP d D.tick :: F) :=
  Fn.diskD fun lv cm pm => disk_fails d D lv cm pm ho
def settled (D : DiskN) (j : Nat) : DiskN := (D.keys.take j).foldl DiskN.settle D
theorem settled_succ {D : DiskN} {j : Nat} {k : Int} (h : D.keys[j]? = some k) : settled D (j + 1) = (settled D j).settle k := by
  simp [settled, List.take_add_one, h]
theorem settled_wf {D : DiskN} (h : D.WF) (j : Nat) : (settled D j).WF ∧ (settled D j).size = D.size ∧ (settled D j).count = D.count := by
  have key : ∀ (l : List Int) (D : DiskN), D.WF → (l.foldl DiskN.settle D).WF ∧ (l.foldl DiskN.settle D).size = D.size ∧ (l.foldl DiskN.settle D).count = D.count := by
    intro l
    induction l with
    | nil => intro D h; exact ⟨h, rfl, rfl⟩
    | cons k l ih =>
      intro D h
      obtain ⟨a1, a2, a3, _⟩ := h.settle k
      obtain ⟨b1, b2, b3⟩ := ih _ a1
      exact ⟨b1, b2.trans a2, b3.trans a3⟩
  exact key _ D h
theorem keys_range {D : DiskN} (h : D.WF) {j : Nat} {k : Int} (hk : D.keys[j]? = some k) : 0 ≤ k ∧ k < D.count := by
  have h1 : k ∈ D.keys := List.mem_of_getElem? hk
  have h2 : k ∈ D.cached.map (·.1) := (List.mergeSort_perm _ _).mem_iff.1 h1
  obtain ⟨p, hp, rfl⟩ := List.mem_map.1 h2
  have := h.cach p hp
  exact ⟨this.1, this.2.1⟩

set_option maxHeartbeats 4000000 in
theorem disk_Sync (d : Nat) (D : DiskN) (hD : D.WF) (ho : D.ops ≤ 1000000000000) (hw : D.writes ≤ 1000000) :
    Fn Tryd.prog σ 13 #[.pointer (some ⟨d, 0, none⟩)] (diskHP d D :: F)
      (fun v l => (D.failing = true ∧ v = int 3 ∧ l = diskHP d D.tick :: F) ∨ (D.failing = false ∧ v = int 0 ∧ l = diskHP d (settled D.tick D.tick.keys.length) :: F)) := by
  refine Fn.of Tryd.func13 rfl Tryd.ntmps13 rfl ?_
  by_cases hf : D.failing = true
  · rw [hf]
    repeat' (first | (first | (apply JO.ru; exact rfl; exact rfl; exact rfl; (first | (apply Ru.move; exact rfl) | (apply Ru.assign; exact rfl))) | refine JC.seq ?_ | refine JC.region ?_ | refine JO.nil ?_ | refine JE.thenN ?_ | refine JE.thenR ?_ | refine JC.ret ?_ | refine JC.condT rfl ?_ | (apply JE.done1; exact rfl; (first | (apply Res.tmp; exact rfl) | (apply Res.cell; exact rfl; (repeat (first | exact Pick.here | apply Pick.there)); exact rfl) | (apply Res.cellAN; exact rfl; (repeat (first | exact Pick.here | apply Pick.there)); exact rfl; exact rfl) | (apply Res.cellA; exact rfl; (repeat (first | exact Pick.here | apply Pick.there)); exact rfl; exact rfl)))) | ((apply JO.do; exact rfl; exact rfl; exact rfl; (apply Do.call; exact rfl; exact disk_failsC d D ho); rintro _ _ ⟨rfl, rfl⟩); rw [hf]))
    refine finS ?_; exact .inl ⟨rfl, rfl, rfl⟩
  have hf' : D.failing = false := by simpa using hf
  have hwf := hD.tick
  have hfew : D.tick.cached.length ≤ 1000000 := Nat.le_trans hD.few hw
  have hkl := D.tick.keys_length
  rw [hf']
  repeat' (first | (first | (apply JO.ru; exact rfl; exact rfl; exact rfl; (first | (apply Ru.move; exact rfl) | (apply Ru.assign; exact rfl))) | refine JC.seq ?_ | refine JC.region ?_ | refine JO.nil ?_ | refine JE.thenN ?_ | refine JC.skip ?_ | refine JC.condF rfl ?_) | ((apply JO.do; exact rfl; exact rfl; exact rfl; (apply Do.call; exact rfl; exact disk_failsC d D ho); rintro _ _ ⟨rfl, rfl⟩); rw [hf']) | (apply JO.do; exact rfl; exact rfl; exact rfl; (apply Do.call; exact rfl; exact disk_Unsynced d D.tick hwf hw); rintro v _ rfl))
  refine JO.ownR Pick.here fun _ _ hsh => ?_
  obtain ⟨p, c, rfl, hp⟩ : ∃ p c, v = .slice p D.tick.keys.length c ∧ (p = none ∧ D.tick.keys.length = 0 ∨ ∃ b, p = some ⟨b, 0, none⟩) := by
    rcases hsh with ⟨rfl, h⟩ | ⟨b, c, rfl, _⟩
    · exact ⟨none, 0, by rw [h], .inl ⟨rfl, h⟩⟩
    · exact ⟨_, c, rfl, .inr ⟨b, rfl⟩⟩
  repeat' (first | (apply JO.ru; exact rfl; exact rfl; exact rfl; (first | (apply Ru.move; exact rfl) | (apply Ru.lenS; exact rfl))) | refine JO.nil ?_ | refine JE.thenN ?_ | refine JC.block ?_)
  refine JC.loop (fun j : Nat => [(0, .pointer (some ⟨d, 0, none⟩)), (8, .slice p D.tick.keys.length c), (9, int D.tick.keys.length), (10, int j)]) (fun j => ownS (.slice p D.tick.keys.length c) 3 1 D.tick.keys.length (D.tick.keys.map int) :: diskHP d (settled D.tick j) :: F) (fun j => j ≤ D.tick.keys.length) (fun j => D.tick.keys.length - j) 0 (Nat.zero_le _) ⟨rfl, rfl, rfl, rfl, trivial⟩ (fun _ h => h) ?_
  intro j hj
  repeat' (first | (apply JO.ru; exact rfl; exact rfl; exact rfl; ((apply Ru.assign; exact rfl))) | refine JC.seq ?_ | refine JC.region ?_ | refine JO.nil ?_ | refine JE.thenN ?_ | refine JE.thenE ?_ | refine JE.blockE ?_ | refine JC.block ?_ | refine JC.ret ?_ | refine JC.skip ?_ | refine JC.exit ?_ | refine JC.condT rfl ?_ | refine JC.condF rfl ?_ | (apply JO.split; exact rfl; exact rfl; exact rfl; ((apply Ru.lss; exact rfl; exact rfl; exact rfl)); all_goals intro _) | (apply JE.done1; exact rfl; (first | (apply Res.tmp; exact rfl) | (apply Res.cell; exact rfl; (repeat (first | exact Pick.here | apply Pick.there)); exact rfl) | (apply Res.cellAN; exact rfl; (repeat (first | exact Pick.here | apply Pick.there)); exact rfl; exact rfl) | (apply Res.cellA; exact rfl; (repeat (first | exact Pick.here | apply Pick.there)); exact rfl; exact rfl))))
  · rename_i hlt
    obtain ⟨k, hk⟩ : ∃ k, D.tick.keys[j]? = some k := ⟨_, List.getElem?_eq_getElem (by omega)⟩
    obtain ⟨hr0, hr1⟩ := keys_range hwf hk
    obtain ⟨i, rfl⟩ := Int.eq_ofNat_of_zero_le hr0
    obtain ⟨b0, rfl⟩ : ∃ b, p = some ⟨b, 0, none⟩ := by
      rcases hp with ⟨_, h⟩ | h
      · omega
      · exact h
    refine JO.ownR Pick.here fun hrd _ _ => ?_
    obtain ⟨p', cap', e, _, hr2⟩ := hrd
    injection e with e1 e2 e3
    subst e1
    rcases hr2 with h | ⟨b', o', e4, hc⟩
    · have := congrArg List.length h
      rw [List.length_map, List.length_nil] at this
      omega
    cases e4
    repeat' ((apply JO.ru; exact rfl; exact rfl; exact rfl; ((apply Ru.indexAddr; exact rfl; exact rfl; omega; omega))))
    (apply JO.ru; exact rfl; exact rfl; exact rfl; (apply Ru.loadC; exact rfl; exact rd_row (i := j) (u := int i) hc (by rw [List.getElem?_map, hk]; rfl) _ (by simp)))
    repeat' (first | (apply JO.ru; exact rfl; exact rfl; exact rfl; ((apply Ru.assign; exact rfl))) | refine JC.seq ?_ | refine JO.nil ?_ | refine JE.thenN ?_)
    have hss := settled_succ hk
    obtain ⟨hEw, hEs, hEc⟩ := settled_wf hwf j
    obtain ⟨E, hE⟩ : ∃ E, settled D.tick j = E := ⟨_, rfl⟩
    rw [hE] at hss hEw hEs hEc ⊢
    have hi : i < E.count := by omega
    have hroom := hEw.room hi
    have hsm := hEw.small
    have g0 : (i + 1) * E.size = i * E.size + E.size := Nat.succ_mul i E.size
    have hz := hEw.hz
    refine JC.disk (Pick.there Pick.here) fun lv cm pm => ?_
    refine JC.cache (Pick.there (Pick.there Pick.here)) fun R hR => ?_
    refine JC.heap (Sat.weak (l' := bytesHP lv E.data :: mapI cm (R.map fun p => (p.1, p.2.1)) :: star (R.map rowHP) :: arr d 79 (diskCells E lv cm pm) :: planHP pm E.planned :: ownS (.slice (some ⟨b0, 0, none⟩) D.tick.keys.length c) 3 1 D.tick.keys.length (D.tick.keys.map int) :: F) (by repeat (first | exact Weak.refl | (apply Weak.cons; (first | exact Pick.here | exact Pick.there Pick.here | exact Pick.there (Pick.there Pick.here) | exact Pick.there (Pick.there (Pick.there Pick.here)) | exact Pick.there (Pick.there (Pick.there (Pick.there Pick.here))) | exact Pick.there (Pick.there (Pick.there (Pick.there (Pick.there Pick.here)))) | exact Pick.there (Pick.there (Pick.there (Pick.there (Pick.there (Pick.there Pick.here))))) | exact Pick.there (Pick.there (Pick.there (Pick.there (Pick.there (Pick.there (Pick.there Pick.here)))))))) | apply Weak.drop))) ?_
    refine JC.own (fun _ h _ => (by omega)) ?_
    rintro b cap spare rfl hcap hxs hsp
    have hlk : lookI (R.map fun (p : Int × Value × List UInt8) => (p.1, p.2.1)) (i : Int) = (lookI R (i : Int)).map (·.1) := lookI_map (·.1) R i
    have hlc2 : lookI E.cached (i : Int) = (lookI R (i : Int)).map (·.2) := hR ▸ lookI_map (·.2) R i
    cases q : lookI R (i : Int) with
    | none =>
      rw [q] at hlk hlc2
      simp only [Option.map_none] at hlk hlc2
      refine JC.regionB (mapI cm (R.map fun p => (p.1, p.2.1)) :: star (R.map rowHP) :: arr d 79 (diskCells E (.slice (some ⟨b, 0, none⟩) E.data.length cap) cm pm) :: planHP pm E.planned :: ownS (.slice (some ⟨b0, 0, none⟩) D.tick.keys.length c) 3 1 D.tick.keys.length (D.tick.keys.map int) :: F) mixed ?_
      repeat' (first | ((apply JB.ru; exact rfl; exact rfl; exact rfl; exact rfl; (first | (apply Ru.move; exact rfl) | (apply Ru.loadN; exact rfl; (repeat (first | exact Pick.here | apply Pick.there)); exact rfl) | (apply Ru.fieldAddr; exact rfl) | (apply Ru.nilP; exact rfl)); decide +kernel; decide +kernel; (first | exact fun _ h => h | exact fun _ h => Sat.drop h | exact fun _ h => Sat.drop (Sat.drop h) | exact fun _ h => Sat.drop (Sat.drop (Sat.drop h)) | exact fun _ h => Sat.drop (Sat.drop (Sat.drop (Sat.drop h)))); (simp only [Nat.reduceAdd, Nat.reducePow, Nat.reduceMul, Nat.zero_or, Nat.or_zero, Nat.reduceXor, Nat.reduceOr]; try exact rfl))) | (apply JB.ru; exact rfl; exact rfl; exact rfl; exact rfl; (apply Ru.lookupO0; exact rfl; exact rfl; exact Pick.here; exact hlk); decide +kernel; decide +kernel; exact fun _ h => Sat.drop h; (simp only [Nat.reduceAdd, Nat.reducePow, Nat.reduceMul, Nat.zero_or, Nat.or_zero, Nat.reduceXor, Nat.reduceOr]; try exact rfl)))
      refine JB.one 2 (by decide +kernel) ?_
      (apply JI.do; exact rfl; exact rfl; exact rfl; exact rfl; (apply Do.call; exact rfl; exact disk_at d E.size i b E.data.length cap _ _ _ _ hz (by omega) hcap hroom (Pick.there (Pick.there (Pick.there Pick.here)))); (simp only [Nat.reduceAdd, Nat.reducePow, Nat.reduceMul, Nat.zero_or, Nat.or_zero, Nat.reduceXor, Nat.reduceOr]; try exact rfl); rintro _ _ ⟨rfl, hq⟩; obtain rfl := hq.symm; refine ⟨fun _ s => s.drop, ?_⟩)
      refine JB.one 9 (by decide +kernel) ?_
      (apply JI.do; exact rfl; exact rfl; exact rfl; exact rfl; (apply Do.copy (ys := []); exact rfl; exact rfl; exact Pick.here; exact RdS.nil; (rw [List.length_append, List.length_map]; omega); (intro q hq; cases hq)); (simp only [Nat.reduceAdd, Nat.reducePow, Nat.reduceMul, Nat.zero_or, Nat.or_zero, Nat.reduceXor, Nat.reduceOr]; try exact rfl); rintro _ _ ⟨rfl, rfl⟩; refine ⟨fun _ s => s.drop, ?_⟩)
      rw [List.take_nil, splice]
      repeat' ((apply JB.nil; exact rfl))
      repeat' (first | (apply JO.ru; exact rfl; exact rfl; exact rfl; (first | (apply Ru.move; exact rfl) | (apply Ru.loadN; exact rfl; (repeat (first | exact Pick.here | apply Pick.there)); exact rfl) | (apply Ru.fieldAddr; exact rfl) | (apply Ru.nilP; exact rfl))) | refine JC.region ?_ | refine JE.thenN ?_)
      (apply JO.do0; exact rfl; exact rfl; (apply Do.deleteI; exact rfl; exact rfl; exact Pick.there Pick.here); rintro _ _ ⟨rfl, rfl⟩)
      repeat' (first | (apply JO.ru; exact rfl; exact rfl; exact rfl; (first | (apply Ru.move; exact rfl) | (apply Ru.add; exact rfl; exact rfl; (first | exact wrapI (by omega) (by omega) | exact rfl)))) | refine JC.region ?_ | refine JO.nil ?_ | refine JE.thenN ?_ | refine JE.blockN ?_)
      refine JE.round (j + 1) (by omega) (by omega) ⟨rfl, rfl, rfl, rfl, trivial⟩ ?_
      have hset : E.settle (i : Int) = E := by unfold DiskN.settle; rw [hlc2]
      have hidx : idxI (R.map fun (p : Int × Value × List UInt8) => (p.1, p.2.1)) (i : Int) = none := by
        unfold lookI at hlk
        simpa using hlk
      intro w s
      rw [hss, hset]
      rw [del_none hidx] at s
      have s1 := Sat.ownS_arr (k := E.data.length) (cap := cap) (z := 1) hcap hxs hsp (s.perm (.swap _ _ _))
      have s4 := Sat.weak (l' := opn2 d E (.slice (some ⟨b, 0, none⟩) E.data.length cap) cm pm R (ownS (.slice (some ⟨b0, 0, none⟩) D.tick.keys.length c) 3 1 D.tick.keys.length (D.tick.keys.map int) :: F)) (by repeat (first | exact Weak.refl | (apply Weak.cons; (first | exact Pick.here | exact Pick.there Pick.here | exact Pick.there (Pick.there Pick.here) | exact Pick.there (Pick.there (Pick.there Pick.here)) | exact Pick.there (Pick.there (Pick.there (Pick.there Pick.here))) | exact Pick.there (Pick.there (Pick.there (Pick.there (Pick.there Pick.here)))) | exact Pick.there (Pick.there (Pick.there (Pick.there (Pick.there (Pick.there Pick.here))))) | exact Pick.there (Pick.there (Pick.there (Pick.there (Pick.there (Pick.there (Pick.there Pick.here)))))))) | apply Weak.drop)) w s1
      exact Sat.weak (by repeat (first | exact Weak.refl | (apply Weak.cons; (first | exact Pick.here | exact Pick.there Pick.here | exact Pick.there (Pick.there Pick.here) | exact Pick.there (Pick.there (Pick.there Pick.here)) | exact Pick.there (Pick.there (Pick.there (Pick.there Pick.here))) | exact Pick.there (Pick.there (Pick.there (Pick.there (Pick.there Pick.here)))) | exact Pick.there (Pick.there (Pick.there (Pick.there (Pick.there (Pick.there Pick.here))))) | exact Pick.there (Pick.there (Pick.there (Pick.there (Pick.there (Pick.there (Pick.there Pick.here)))))))) | apply Weak.drop)) w (Sat.close hR s4)
    | some u =>
      rw [q] at hlk hlc2
      simp only [Option.map_some] at hlk hlc2
      refine JC.rowR (lookI_mem q) (Pick.there (Pick.there Pick.here)) fun hrow => ?_
      refine JC.regionB (mapI cm (R.map fun p => (p.1, p.2.1)) :: star (R.map rowHP) :: arr d 79 (diskCells E (.slice (some ⟨b, 0, none⟩) E.data.length cap) cm pm) :: planHP pm E.planned :: ownS (.slice (some ⟨b0, 0, none⟩) D.tick.keys.length c) 3 1 D.tick.keys.length (D.tick.keys.map int) :: F) mixed ?_
      repeat' (first | ((apply JB.ru; exact rfl; exact rfl; exact rfl; exact rfl; (first | (apply Ru.move; exact rfl) | (apply Ru.loadN; exact rfl; (repeat (first | exact Pick.here | apply Pick.there)); exact rfl) | (apply Ru.fieldAddr; exact rfl) | (apply Ru.nilP; exact rfl)); decide +kernel; decide +kernel; (first | exact fun _ h => h | exact fun _ h => Sat.drop h | exact fun _ h => Sat.drop (Sat.drop h) | exact fun _ h => Sat.drop (Sat.drop (Sat.drop h)) | exact fun _ h => Sat.drop (Sat.drop (Sat.drop (Sat.drop h)))); (simp only [Nat.reduceAdd, Nat.reducePow, Nat.reduceMul, Nat.zero_or, Nat.or_zero, Nat.reduceXor, Nat.reduceOr]; try exact rfl))) | (apply JB.ru; exact rfl; exact rfl; exact rfl; exact rfl; (apply Ru.lookupO0; exact rfl; exact rfl; exact Pick.here; exact hlk); decide +kernel; decide +kernel; exact fun _ h => Sat.drop h; (simp only [Nat.reduceAdd, Nat.reducePow, Nat.reduceMul, Nat.zero_or, Nat.or_zero, Nat.reduceXor, Nat.reduceOr]; try exact rfl)))
      have hul : u.2.length = E.size := (hEw.cach _ (lookI_mem hlc2)).2.2
      have hul' : (u.2.map byte).length = u.2.length := by simp
      refine JB.one 2 (by decide +kernel) ?_
      (apply JI.do; exact rfl; exact rfl; exact rfl; exact rfl; (apply Do.call; exact rfl; exact disk_at d E.size i b E.data.length cap _ _ _ _ hz (by omega) hcap hroom (Pick.there (Pick.there (Pick.there Pick.here)))); (simp only [Nat.reduceAdd, Nat.reducePow, Nat.reduceMul, Nat.zero_or, Nat.or_zero, Nat.reduceXor, Nat.reduceOr]; try exact rfl); rintro _ _ ⟨rfl, hq⟩; obtain rfl := hq.symm; refine ⟨fun _ s => s.drop, ?_⟩)
      refine JB.one 9 (by decide +kernel) ?_
      obtain ⟨ku, pu, cu, hu1⟩ : ∃ k p c, u.1 = .slice p k c ∧ k = u.2.length := by
        obtain ⟨pp, cc, h1, _, _⟩ := hrow
        exact ⟨_, pp, cc, h1, hul'⟩
      obtain ⟨hu1, rfl⟩ := hu1
      dsimp only at hrow
      rw [hu1] at hrow ⊢
      (apply JI.do; exact rfl; exact rfl; exact rfl; exact rfl; (apply Do.copy (ys := u.2.map byte); exact rfl; exact rfl; exact Pick.here; exact hrow; (rw [List.length_append, List.length_map]; omega); exact byteOne _); (simp only [Nat.reduceAdd, Nat.reducePow, Nat.reduceMul, Nat.zero_or, Nat.or_zero, Nat.reduceXor, Nat.reduceOr]; try exact rfl); rintro _ _ ⟨rfl, rfl⟩; refine ⟨fun _ s => s.drop, ?_⟩)
      have hcp : splice (E.data.map byte ++ spare) (i * E.size) ((u.2.map byte).take (min u.2.length E.size)) = (setSec E.data E.size i u.2).map byte ++ spare := by
        rw [List.take_of_length_le (by rw [hul']; omega), splice_at _ _ _ (by simp only [List.length_append, List.length_map]; omega)]
        have e1 : i * E.size ≤ (E.data.map byte).length := by rw [List.length_map]; omega
        rw [List.take_append_of_le_length e1, List.drop_append_of_le_length (by simp only [List.length_map]; omega)]
        simp [setSec]
      rw [hcp]
      repeat' ((apply JB.nil; exact rfl))
      repeat' (first | (apply JO.ru; exact rfl; exact rfl; exact rfl; (first | (apply Ru.move; exact rfl) | (apply Ru.loadN; exact rfl; (repeat (first | exact Pick.here | apply Pick.there)); exact rfl) | (apply Ru.fieldAddr; exact rfl) | (apply Ru.nilP; exact rfl))) | refine JC.region ?_ | refine JE.thenN ?_)
      (apply JO.do0; exact rfl; exact rfl; (apply Do.deleteI; exact rfl; exact rfl; exact Pick.there Pick.here); rintro _ _ ⟨rfl, rfl⟩)
      repeat' (first | (apply JO.ru; exact rfl; exact rfl; exact rfl; (first | (apply Ru.move; exact rfl) | (apply Ru.add; exact rfl; exact rfl; (first | exact wrapI (by omega) (by omega) | exact rfl)))) | refine JC.region ?_ | refine JO.nil ?_ | refine JE.thenN ?_ | refine JE.blockN ?_)
      refine JE.round (j + 1) (by omega) (by omega) ⟨rfl, rfl, rfl, rfl, trivial⟩ ?_
      have hset : E.settle (i : Int) = { E with data := setSec E.data E.size i u.2, cached := delI E.cached i } := by unfold DiskN.settle; rw [hlc2]; rfl
      have hsl := setSec_length (data := E.data) (size := E.size) (i := i) (bs := u.2) (by omega)
      have em : delI (R.map fun (p : Int × Value × List UInt8) => (p.1, p.2.1)) (i : Int) = (delI R (i : Int)).map fun p => (p.1, p.2.1) := delI_map (·.1) R i
      have ec : delI E.cached (i : Int) = (delI R (i : Int)).map fun p => (p.1, p.2.2) := by rw [hR]; exact delI_map (·.2) R i
      intro w s
      rw [hss, hset]
      rw [em] at s
      have s0 := Sat.weak (l' := arr b 5 ((setSec E.data E.size i u.2).map byte ++ spare) :: star (R.map rowHP) :: mapI cm ((delI R (i : Int)).map fun p => (p.1, p.2.1)) :: arr d 79 (diskCells E (.slice (some ⟨b, 0, none⟩) E.data.length cap) cm pm) :: planHP pm E.planned :: ownS (.slice (some ⟨b0, 0, none⟩) D.tick.keys.length c) 3 1 D.tick.keys.length (D.tick.keys.map int) :: F) (by repeat (first | exact Weak.refl | (apply Weak.cons; (first | exact Pick.here | exact Pick.there Pick.here | exact Pick.there (Pick.there Pick.here) | exact Pick.there (Pick.there (Pick.there Pick.here)) | exact Pick.there (Pick.there (Pick.there (Pick.there Pick.here))) | exact Pick.there (Pick.there (Pick.there (Pick.there (Pick.there Pick.here)))) | exact Pick.there (Pick.there (Pick.there (Pick.there (Pick.there (Pick.there Pick.here))))) | exact Pick.there (Pick.there (Pick.there (Pick.there (Pick.there (Pick.there (Pick.there Pick.here)))))))) | apply Weak.drop)) w s
      have s1 := Sat.ownS_arr (k := (setSec E.data E.size i u.2).length) (cap := cap) (z := 1) (by omega) (by rw [List.length_map]; omega) (by rw [List.length_append, List.length_map, hsl, ← List.length_map (f := byte), ← List.length_append]; exact hsp) s0
      rw [hsl] at s1
      have s2 := Sat.weak (l' := star (R.map rowHP) :: ownS (.slice (some ⟨b, 0, none⟩) E.data.length cap) 5 1 E.data.length ((setSec E.data E.size i u.2).map byte) :: mapI cm ((delI R (i : Int)).map fun p => (p.1, p.2.1)) :: arr d 79 (diskCells E (.slice (some ⟨b, 0, none⟩) E.data.length cap) cm pm) :: planHP pm E.planned :: ownS (.slice (some ⟨b0, 0, none⟩) D.tick.keys.length c) 3 1 D.tick.keys.length (D.tick.keys.map int) :: F) (by repeat (first | exact Weak.refl | (apply Weak.cons; (first | exact Pick.here | exact Pick.there Pick.here | exact Pick.there (Pick.there Pick.here) | exact Pick.there (Pick.there (Pick.there Pick.here)) | exact Pick.there (Pick.there (Pick.there (Pick.there Pick.here))) | exact Pick.there (Pick.there (Pick.there (Pick.there (Pick.there Pick.here)))) | exact Pick.there (Pick.there (Pick.there (Pick.there (Pick.there (Pick.there Pick.here))))) | exact Pick.there (Pick.there (Pick.there (Pick.there (Pick.there (Pick.there (Pick.there Pick.here)))))))) | apply Weak.drop)) w s1
      have s3 := Sat.delRows (k := (i : Int)) s2
      have e9 : ownS (.slice (some ⟨b, 0, none⟩) E.data.length cap) 5 1 E.data.length ((setSec E.data E.size i u.2).map byte) = bytesHP (.slice (some ⟨b, 0, none⟩) E.data.length cap) (setSec E.data E.size i u.2) := by rw [← hsl]
      rw [e9] at s3
      have s4 := Sat.weak (l' := opn2 d { E with data := setSec E.data E.size i u.2, cached := delI E.cached i } (.slice (some ⟨b, 0, none⟩) E.data.length cap) cm pm (delI R (i : Int)) (ownS (.slice (some ⟨b0, 0, none⟩) D.tick.keys.length c) 3 1 D.tick.keys.length (D.tick.keys.map int) :: F)) (by repeat (first | exact Weak.refl | (apply Weak.cons; (first | exact Pick.here | exact Pick.there Pick.here | exact Pick.there (Pick.there Pick.here) | exact Pick.there (Pick.there (Pick.there Pick.here)) | exact Pick.there (Pick.there (Pick.there (Pick.there Pick.here))) | exact Pick.there (Pick.there (Pick.there (Pick.there (Pick.there Pick.here)))) | exact Pick.there (Pick.there (Pick.there (Pick.there (Pick.there (Pick.there Pick.here))))) | exact Pick.there (Pick.there (Pick.there (Pick.there (Pick.there (Pick.there (Pick.there Pick.here)))))))) | apply Weak.drop)) w s3
      exact Sat.weak (by repeat (first | exact Weak.refl | (apply Weak.cons; (first | exact Pick.here | exact Pick.there Pick.here | exact Pick.there (Pick.there Pick.here) | exact Pick.there (Pick.there (Pick.there Pick.here)) | exact Pick.there (Pick.there (Pick.there (Pick.there Pick.here))) | exact Pick.there (Pick.there (Pick.there (Pick.there (Pick.there Pick.here)))) | exact Pick.there (Pick.there (Pick.there (Pick.there (Pick.there (Pick.there Pick.here))))) | exact Pick.there (Pick.there (Pick.there (Pick.there (Pick.there (Pick.there (Pick.there Pick.here)))))))) | apply Weak.drop)) w (Sat.close ec s4)
  · obtain rfl : j = D.tick.keys.length := by omega
    refine ⟨_, Sat.weak (by repeat (first | exact Weak.refl | (apply Weak.cons; (first | exact Pick.here | exact Pick.there Pick.here | exact Pick.there (Pick.there Pick.here) | exact Pick.there (Pick.there (Pick.there Pick.here)) | exact Pick.there (Pick.there (Pick.there (Pick.there Pick.here))) | exact Pick.there (Pick.there (Pick.there (Pick.there (Pick.there Pick.here)))) | exact Pick.there (Pick.there (Pick.there (Pick.there (Pick.there (Pick.there Pick.here))))) | exact Pick.there (Pick.there (Pick.there (Pick.there (Pick.there (Pick.there (Pick.there Pick.here)))))))) | apply Weak.drop)), .inr ⟨rfl, rfl, rfl⟩⟩
end Go.Sep
/- What lies on a disk, sector by sector: no program in sight. -/
namespace Go.Sep
open Go Go.Proofs

theorem lookI_updI {α : Type} : ∀ (R : List (Int × α)) (k j : Int) (v : α), lookI (updI R k v) j = if j = k then some v else lookI R j
  | [], k, j, v => by
    simp only [updI, lookI_cons]
  | (k', v') :: R, k, j, v => by
    simp only [updI]
    by_cases h : k = k'
    · subst h
      rw [if_pos rfl, lookI_cons, lookI_cons]
      by_cases hj : j = k
      · subst hj; simp
      · simp [hj]
    · rw [if_neg h, lookI_cons, lookI_cons, lookI_updI R k j v]
      by_cases hj : j = k'
      · subst hj
        have : ¬ j = k := fun e => h e.symm
        simp [this]
      · simp [hj]
theorem lookI_none_of {α : Type} {R : List (Int × α)} {k : Int} (h : k ∉ R.map (·.1)) : lookI R k = none := by
  cases q : lookI R k with
  | none => rfl
  | some v => exact absurd (List.mem_map.2 ⟨_, lookI_mem q, rfl⟩) h
theorem lookI_some_of {α : Type} : ∀ {R : List (Int × α)} {k : Int}, k ∈ R.map (·.1) → ∃ v, lookI R k = some v
  | (k', v') :: R, k, h => by
    rw [lookI_cons]
    by_cases e : k = k'
    · exact ⟨v', by rw [if_pos e]⟩
    · rw [if_neg e]
      rw [List.map_cons, List.mem_cons] at h
      rcases h with h | h
      · exact absurd h e
      · exact lookI_some_of h
  | [], k, h => by simp at h
theorem lookI_delI {α : Type} : ∀ (R : List (Int × α)) (k j : Int), (R.map (·.1)).Nodup → lookI (delI R k) j = if j = k then none else lookI R j
  | [], k, j, _ => by
    simp only [delI]
    split <;> rfl
  | (k', v') :: R, k, j, hn => by
    rw [List.map_cons, List.nodup_cons] at hn
    simp only [delI]
    by_cases h : k = k'
    · subst h
      rw [if_pos rfl, lookI_cons]
      by_cases hj : j = k
      · subst hj; rw [if_pos rfl]; exact lookI_none_of hn.1
      · simp [hj]
    · rw [if_neg h, lookI_cons, lookI_cons, lookI_delI R k j hn.2]
      by_cases hj : j = k'
      · subst hj
        have : ¬ j = k := fun e => h e.symm
        simp [this]
      · simp [hj]
theorem delI_keys {α : Type} : ∀ (R : List (Int × α)) (k : Int), (R.map (·.1)).Nodup → (delI R k).map (·.1) = (R.map (·.1)).filter (fun j => !decide (j = k))
  | [], k, _ => rfl
  | (k', v') :: R, k, hn => by
    rw [List.map_cons, List.nodup_cons] at hn
    simp only [delI]
    by_cases h : k = k'
    · subst h
      rw [if_pos rfl, List.map_cons, List.filter_cons_of_neg (by simp), List.filter_eq_self.2]
      intro a ha
      have : a ≠ k := fun e => hn.1 (e ▸ ha)
      simpa using this
    · rw [if_neg h, List.map_cons, List.map_cons, List.filter_cons_of_pos (by simpa using fun e : k' = k => h e.symm), delI_keys R k hn.2]

/-! ### Sectors -/
theorem sec_set {data : List UInt8} {size i j : Nat} {bs : List UInt8} (hb : bs.length = size) (hi : (i + 1) * size ≤ data.length) (hj : (j + 1) * size ≤ data.length) :
    ((setSec data size i bs).drop (j * size)).take size = if j = i then bs else (data.drop (j * size)).take size := by
  rw [Nat.succ_mul] at hi hj
  unfold setSec
  have hl : (data.take (i * size)).length = i * size := by rw [List.length_take]; omega
  by_cases h : j = i
  · subst h
    rw [if_pos rfl, List.append_assoc, List.drop_append_of_le_length (by omega), List.drop_eq_nil_of_le (by omega), List.nil_append, List.take_append_of_le_length (by omega), List.take_of_length_le (by omega)]
  · rw [if_neg h]
    by_cases hlt : j < i
    · have h2 : (j + 1) * size ≤ i * size := Nat.mul_le_mul_right _ hlt
      rw [Nat.succ_mul] at h2
      rw [List.append_assoc, List.drop_append_of_le_length (by omega), List.take_append_of_le_length (by rw [List.length_drop]; omega), List.drop_take, List.take_take]
      congr 1
      omega
    · have h2 : (i + 1) * size ≤ j * size := Nat.mul_le_mul_right _ (by omega)
      rw [Nat.succ_mul] at h2
      rw [List.drop_append, List.drop_eq_nil_of_le (by rw [List.length_append, hl, hb]; omega), List.nil_append, List.drop_drop, List.length_append, hl, hb]
      congr 2
      omega
variable {D : DiskN}
theorem cur_put (i : Nat) (bs : List UInt8) (j : Nat) : (D.put (i : Int) bs).cur j = if j = i then bs else D.cur j := by
  unfold DiskN.cur DiskN.put
  rw [lookI_updI]
  by_cases h : j = i
  · subst h; simp
  · have : ¬ ((j : Int) = (i : Int)) := by omega
    rw [if_neg this, if_neg h]; rfl
theorem cur_ticks (k j : Nat) : (D.ticks k).cur j = D.cur j := rfl
theorem cur_tick (j : Nat) : D.tick.cur j = D.cur j := rfl
theorem room_of (h : D.WF) {j : Nat} (hj : j < D.count) : (j + 1) * D.size ≤ D.data.length := h.room hj
theorem cur_settle (h : D.WF) (k : Int) {j : Nat} (hj : j < D.count) : (D.settle k).cur j = D.cur j := by
  unfold DiskN.settle
  cases q : lookI D.cached k with
  | none => rfl
  | some bs =>
    obtain ⟨h1, h2, h3⟩ := h.cach _ (lookI_mem q)
    dsimp only at h1 h2 h3 ⊢
    obtain ⟨i, rfl⟩ := Int.eq_ofNat_of_zero_le h1
    have hi : i < D.count := by omega
    unfold DiskN.cur DiskN.sector
    dsimp only
    rw [lookI_delI _ _ _ h.nodup, Int.toNat_natCast, sec_set h3 (h.room hi) (h.room hj)]
    by_cases e : j = i
    · subst e; rw [if_pos rfl, if_pos rfl, q]; rfl
    · have : ¬ ((j : Int) = (i : Int)) := by omega
      rw [if_neg this, if_neg e]
theorem look_settle (h : D.WF) (k j : Int) : lookI (D.settle k).cached j = if j = k then none else lookI D.cached j := by
  unfold DiskN.settle
  cases q : lookI D.cached k with
  | none =>
    by_cases e : j = k
    · subst e; rw [if_pos rfl]; exact q
    · rw [if_neg e]
  | some bs => exact lookI_delI _ _ _ h.nodup
theorem settled_cur (h : D.WF) (n : Nat) {j : Nat} (hj : j < D.count) : (settled D n).cur j = D.cur j := by
  induction n with
  | zero => rfl
  | succ n ih =>
    cases q : D.keys[n]? with
    | none =>
      rw [List.getElem?_eq_none_iff] at q
      have e : settled D (n + 1) = settled D n := by
        unfold settled
        rw [List.take_of_length_le (by omega), List.take_of_length_le (by omega)]
      rw [e, ih]
    | some k =>
      obtain ⟨a1, a2, a3⟩ := settled_wf h n
      rw [settled_succ q, cur_settle a1 k (by rw [a3]; exact hj), ih]
theorem settled_look (h : D.WF) (n : Nat) (j : Int) : lookI (settled D n).cached j = if j ∈ D.keys.take n then none else lookI D.cached j := by
  induction n with
  | zero => simp [settled]
  | succ n ih =>
    cases q : D.keys[n]? with
    | none =>
      rw [List.getElem?_eq_none_iff] at q
      have e : settled D (n + 1) = settled D n := by
        unfold settled
        rw [List.take_of_length_le (by omega), List.take_of_length_le (by omega)]
      rw [e, ih, List.take_of_length_le (by omega), List.take_of_length_le (by omega)]
    | some k =>
      obtain ⟨a1, a2, a3⟩ := settled_wf h n
      rw [settled_succ q, look_settle a1, ih, List.take_add_one, q]
      by_cases e : j = k
      · subst e; simp
      · simp [e]
theorem mem_keys {j : Int} : j ∈ D.keys ↔ j ∈ D.cached.map (·.1) := (List.mergeSort_perm _ _).mem_iff
/-- The disk as it is when all that is cached has come to last. -/
def DiskN.sync (D : DiskN) : DiskN := settled D D.keys.length
theorem look_none {α : Type} {R : List (Int × α)} (h : ∀ j, lookI R j = none) : R = [] := by
  cases R with
  | nil => rfl
  | cons p R => have := h p.1; rw [lookI_cons, if_pos rfl] at this; cases this
theorem sync_cached (h : D.WF) : D.sync.cached = [] := by
  refine look_none fun j => ?_
  unfold DiskN.sync
  rw [settled_look h, List.take_of_length_le (Nat.le_refl _)]
  split
  · rfl
  · rename_i hj
    rw [mem_keys] at hj
    exact lookI_none_of hj
theorem sync_cur (h : D.WF) {j : Nat} (hj : j < D.count) : D.sync.cur j = D.cur j := settled_cur h _ hj
theorem sync_wf (h : D.WF) : D.sync.WF ∧ D.sync.size = D.size ∧ D.sync.count = D.count := settled_wf h _
theorem settled_rest (h : D.WF) (n : Nat) : (settled D n).ops = D.ops ∧ (settled D n).writes = D.writes ∧ (settled D n).planned = D.planned := by
  have key : ∀ (l : List Int) (D : DiskN), D.WF → (l.foldl DiskN.settle D).ops = D.ops ∧ (l.foldl DiskN.settle D).writes = D.writes ∧ (l.foldl DiskN.settle D).planned = D.planned := by
    intro l
    induction l with
    | nil => intro D h; exact ⟨rfl, rfl, rfl⟩
    | cons k l ih =>
      intro D h
      obtain ⟨a1, a2, a3, a4, a5, a6⟩ := h.settle k
      obtain ⟨b1, b2, b3⟩ := ih _ a1
      exact ⟨b1.trans a4, b2.trans a5, b3.trans a6⟩
  exact key _ D h
theorem sync_sector (h : D.WF) {j : Nat} (hj : j < D.count) : D.sync.sector j = D.cur j := by
  have := sync_cur h hj
  unfold DiskN.cur at this
  rw [sync_cached h] at this
  exact this
end Go.Sep
