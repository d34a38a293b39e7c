/- slot: wiped, sealed, laid: what each answers as a function of the disk. -/
import Derived.Test.YtbpilaghemkdjaaDoorSlot6
import Derived.Test.YtbpilaghemkdjaaDoorPlain2
namespace Go.Sep
open Go Go.Proofs
attribute [local irreducible] JO JC JE JA JQ JB JI Mid Inv Weak ownS Ru Do Fn Sat Pick Take arr pt star ex Holds bodyPost Post Exit.then Exit.inBlock Res
variable {σ : Sig} {F : List HP}
attribute [local irreducible] diskHP cacheHP planHP rowHP
theorem slot_WipeR (d : Nat) (D : DiskN) (which e f s : Int) (hD : D.WF) (ho : D.ops ≤ 1000000000000) (hw : D.writes ≤ 1000000000000) [hg : InG F] :
    Fn Tryd.prog σ 14 #[.pointer (some ⟨d, 0, none⟩), int which, geoV e f s] (diskHP d D :: F) (fun v l' => v = int (wipeR D which e f s).1 ∧ l' = diskHP d (wipeR D which e f s).2 :: F) := by
  refine (slot_Wipe d D which e f s hD ho hw).mono ?_
  rintro v l' (⟨h1, rfl, rfl⟩ | ⟨h1, (⟨h2, rfl, rfl⟩ | ⟨h2, rfl, rfl⟩)⟩) <;> unfold wipeR firstOf <;> simp [*]
theorem slot_SealR (d : Nat) (D : DiskN) (which e f s q : Int) (v : Value) (bs : List UInt8) (hq0 : 0 ≤ q) (hbl : bs.length ≤ 100000000) (hD : D.WF) (ho : D.ops ≤ 1000000000000) (hw : D.writes ≤ 1000000000000) {l : List HP} [hg : InG l] (hb : RdS σ l v (bs.map byte)) :
    Fn Tryd.prog σ 12 #[.pointer (some ⟨d, 0, none⟩), int which, geoV e f s, u64 q, v] (diskHP d D :: l) (fun r l' => r = int (sealR D which e f s q bs).1 ∧ l' = diskHP d (sealR D which e f s q bs).2 :: l) := by
  refine (slot_Seal d D which e f s q v bs hq0 hbl hD ho hw hb).mono ?_
  rintro v l' (⟨h1, rfl, rfl⟩ | ⟨h1, h3, rfl, rfl⟩ | ⟨h1, h3, (⟨h2, rfl, rfl⟩ | ⟨h2, rfl, rfl⟩)⟩) <;> unfold sealR firstOf <;> simp [*]
theorem writeE_zero {D : DiskN} {i : Int} {n : Nat} (h : D.writeE i n = 0) : 0 ≤ i ∧ i < D.count ∧ n = D.size := by
  unfold DiskN.writeE at h
  split at h
  · cases h
  · split at h
    · cases h
    · split at h
      · cases h
      · split at h
        · cases h
        · omega
theorem piece_at {bs : List UInt8} {z n i : Nat} (h : i < n) : (pieces bs z n)[i]? = some (((padB bs (n * z)).drop (i * z)).take z) := by
  unfold pieces; rw [List.getElem?_map, List.getElem?_range h]; rfl
set_option maxHeartbeats 4000000 in
theorem slot_Data (d : Nat) (D : DiskN) (which e f s : Int) (v : Value) (bs : List UInt8) (hbl : bs.length ≤ 100000000) (hD : D.WF) (ho : D.ops ≤ 100000000000) (hw : D.writes ≤ 100000000000) {l : List HP} [hg : InG l] (hb : RdS σ l v (bs.map byte)) :
    Fn Tryd.prog σ 10 #[.pointer (some ⟨d, 0, none⟩), int which, geoV e f s, v] (diskHP d D :: l) (fun r l' => r = int (dataR D which e f s bs).1 ∧ l' = diskHP d (dataR D which e f s bs).2 :: l) := by
  obtain ⟨pv, cv, rfl, hcv, hrv⟩ := id hb
  have hl : (bs.map byte).length = bs.length := by simp
  have hz := hD.hz
  have hz2 := hD.hz2
  refine Fn.of Tryd.func10 rfl Tryd.ntmps10 rfl ?_
  repeat' (first | (apply JO.ru; exact rfl; exact rfl; exact rfl; (first | (apply Ru.move; exact rfl) | (apply Ru.assign; exact rfl) | (apply Ru.loadAN; exact rfl; (repeat (first | exact Pick.here | apply Pick.there)); exact rfl; exact rfl))) | refine JC.seq ?_ | refine JC.region ?_ | refine JO.nil ?_ | refine JE.thenN ?_ | (apply JO.do; exact rfl; exact rfl; exact rfl; (first | (apply Do.boxN; exact rfl; exact rfl) | (apply Do.box; exact rfl)); rintro _ _ ⟨_, rfl, rfl⟩))
  rename_i gb
  refine JO.heap (Sat.weak (l' := diskHP d D :: arr gb 23 [int e, int f, int s] :: l) (by repeat (first | exact Weak.refl | (apply Weak.cons; (first | exact Pick.here | exact Pick.there Pick.here | exact Pick.there (Pick.there Pick.here) | exact Pick.there (Pick.there (Pick.there Pick.here)) | exact Pick.there (Pick.there (Pick.there (Pick.there Pick.here))) | exact Pick.there (Pick.there (Pick.there (Pick.there (Pick.there Pick.here)))) | exact Pick.there (Pick.there (Pick.there (Pick.there (Pick.there (Pick.there Pick.here))))) | exact Pick.there (Pick.there (Pick.there (Pick.there (Pick.there (Pick.there (Pick.there Pick.here)))))))) | apply Weak.drop))) ?_
  (apply JO.do; exact rfl; exact rfl; exact rfl; (apply Do.call; exact rfl; exact slot_at d D which e f s hD); rintro _ _ (⟨hE, db, fb, rfl, rfl⟩ | ⟨hE, rfl, rfl⟩))
  · have hfi := atE_first hE
    repeat' (first | (first | (apply JO.ru; exact rfl; exact rfl; exact rfl; (first | (apply Ru.move; exact rfl) | (apply Ru.loadN; exact rfl; (repeat (first | exact Pick.here | apply Pick.there)); exact rfl) | (apply Ru.fieldAddr; exact rfl) | (apply Ru.assign; exact rfl) | (apply Ru.lenS; exact rfl) | (apply Ru.neq; exact rfl; exact rfl; (first | exact ndecF (by omega) | exact ndecT (by omega))) | (apply Ru.extractN; exact rfl; exact rfl) | (apply Ru.loadAN; exact rfl; (repeat (first | exact Pick.here | apply Pick.there)); exact rfl; exact rfl))) | refine JC.seq ?_ | refine JC.region ?_ | refine JO.nil ?_ | refine JE.thenN ?_ | refine JE.thenR ?_ | refine JE.blockN ?_ | refine JE.blockR ?_ | refine JC.block ?_ | refine JC.ret ?_ | refine JC.skip ?_ | refine JC.condT rfl ?_ | refine JC.condF rfl ?_ | (apply JO.splitN; exact rfl; exact rfl; exact rfl; (apply Ru.neq; exact rfl; exact rfl; exact rfl); all_goals intro _) | (apply JO.do; exact rfl; exact rfl; exact rfl; (first | (apply Do.allocN; exact rfl) | apply Do.alloc); rintro _ _ ⟨_, rfl, rfl⟩) | (apply JO.do0; exact rfl; exact rfl; (first | (apply Do.storeAN; exact rfl; exact rfl; (repeat (first | exact Pick.here | apply Pick.there)); exact rfl; exact rfl; exact rfl; exact rfl) | (apply Do.storeA; exact rfl; exact rfl; (repeat (first | exact Pick.here | apply Pick.there)); exact rfl; exact rfl; exact rfl)); rintro _ _ ⟨rfl, rfl⟩) | (apply JE.done1; exact rfl; (first | (apply Res.tmp; exact rfl) | (apply Res.cell; exact rfl; (repeat (first | exact Pick.here | apply Pick.there)); exact rfl) | (apply Res.cellAN; exact rfl; (repeat (first | exact Pick.here | apply Pick.there)); exact rfl; exact rfl) | (apply Res.cellA; exact rfl; (repeat (first | exact Pick.here | apply Pick.there)); exact rfl; exact rfl)))) | (first | (apply JO.do; exact rfl; exact rfl; exact rfl; (apply Do.call; exact rfl; exact geo_Total _ _ _); rintro _ _ ⟨rfl, hq⟩; obtain rfl := hq.symm) | (apply JQ.call; exact rfl; exact rfl; exact rfl; exact geo_Total _ _ _; (rintro _ _ ⟨rfl, rfl⟩; exact ⟨rfl, rfl⟩))))
    · rename_i pb heq
      rw [hl] at heq
      have e0 : dataR D which e f s bs = dataGo (firstOf D which e f s) 0 D (pieces bs D.size (secs bs.length D.size).toNat) := by
        unfold dataR; rw [if_neg (by rw [hE]; simp), if_neg (by simpa using heq)]
      obtain ⟨n, hn⟩ : ∃ n, (secs bs.length D.size).toNat = n := ⟨_, rfl⟩
      have hns := secs_bd (m := (bs.length : Int)) (s := (D.size : Int)) (by omega)
      obtain ⟨ps, hps⟩ : ∃ ps, pieces bs D.size n = ps := ⟨_, rfl⟩
      obtain ⟨fi, hfe⟩ : ∃ fi, which * spanG D.size e f s = fi := ⟨_, rfl⟩
      have hfe2 : firstOf D which e f s = fi := hfe
      have hpl : ps.length = n := by rw [← hps]; simp [pieces]
      rw [hn, hps, hfe2] at e0
      rw [e0]
      rw [hfe] at hfi ⊢
      (apply JO.do; exact rfl; exact rfl; exact rfl; (apply Do.call; exact rfl; exact image_Cut _ bs D.size ⟨hz, hz2⟩ hbl hb.cons.cons.cons.cons.cons); rintro _ _ ⟨u, a, rfl, rfl⟩)
      rw [hn]
      refine JO.ownR Pick.here fun hrd _ hsh => ?_
      obtain ⟨p, c, rfl⟩ : ∃ p c, u = .slice p n c := by
        rcases hsh with ⟨rfl, h⟩ | ⟨b, c, rfl, _⟩
        · exact ⟨none, 0, by rw [h]⟩
        · exact ⟨_, c, rfl⟩
      clear hsh hrd
      repeat' (first | (apply JO.ru; exact rfl; exact rfl; exact rfl; (first | (apply Ru.move; exact rfl) | (apply Ru.assign; exact rfl) | (apply Ru.lenS; exact rfl) | (apply Ru.extractN; exact rfl; exact rfl))) | refine JC.seq ?_ | refine JC.region ?_ | refine JO.nil ?_ | refine JE.thenN ?_ | refine JC.block ?_)
      refine JC.loop (fun x : Nat × DiskN => [(9, .pointer (some ⟨pb, 0, none⟩)), (40, .slice p n c), (41, int n), (42, int x.1)])
        (fun x => slotL d x.2 db fb fi (ownS (.slice p n c) 24 1 n (cutRows a D.size n) :: arr a 5 ((padB bs (n * D.size)).map byte) :: arr pb 58 [int (spanG D.size e f s - 1), int D.size, rdV db fb, wrV db fb] :: l))
        (fun x => x.1 ≤ n ∧ dataGo fi 0 D ps = dataGo fi x.1 x.2 (ps.drop x.1) ∧ x.2.WF ∧ x.2.size = D.size ∧ x.2.ops = D.ops + x.1 ∧ x.2.writes = D.writes + x.1) (fun x => n - x.1) (0, D) ⟨Nat.zero_le _, rfl, hD, rfl, rfl, rfl⟩ ⟨rfl, rfl, rfl, rfl, trivial⟩ (Sat.weak (by repeat (first | exact Weak.refl | (apply Weak.cons; (first | exact Pick.here | exact Pick.there Pick.here | exact Pick.there (Pick.there Pick.here) | exact Pick.there (Pick.there (Pick.there Pick.here)) | exact Pick.there (Pick.there (Pick.there (Pick.there Pick.here))) | exact Pick.there (Pick.there (Pick.there (Pick.there (Pick.there Pick.here)))) | exact Pick.there (Pick.there (Pick.there (Pick.there (Pick.there (Pick.there Pick.here))))) | exact Pick.there (Pick.there (Pick.there (Pick.there (Pick.there (Pick.there (Pick.there Pick.here)))))))) | apply Weak.drop))) ?_
      rintro ⟨i, E⟩ ⟨hi, hgo, hE1, hE2, hE3, hE4⟩
      dsimp only at hi hgo hE1 hE2 hE3 hE4 ⊢
      repeat' (first | (apply JO.ru; exact rfl; exact rfl; exact rfl; (first | (apply Ru.move; exact rfl) | (apply Ru.assign; exact rfl))) | refine JC.seq ?_ | refine JC.region ?_ | refine JO.nil ?_ | refine JE.thenN ?_ | refine JE.thenE ?_ | refine JE.blockE ?_ | refine JC.block ?_ | refine JC.ret ?_ | refine JC.skip ?_ | refine JC.exit ?_ | refine JC.condT rfl ?_ | refine JC.condF rfl ?_ | (apply JO.split; exact rfl; exact rfl; exact rfl; ((apply Ru.lss; exact rfl; exact rfl; exact rfl)); all_goals intro _) | (apply JE.done1; exact rfl; (first | (apply Res.tmp; exact rfl) | (apply Res.cell; exact rfl; (repeat (first | exact Pick.here | apply Pick.there)); exact rfl) | (apply Res.cellAN; exact rfl; (repeat (first | exact Pick.here | apply Pick.there)); exact rfl; exact rfl) | (apply Res.cellA; exact rfl; (repeat (first | exact Pick.here | apply Pick.there)); exact rfl; exact rfl))))
      · rename_i hlt
        have hlt' : i < n := by omega
        have hpi : ps[i]? = some (((padB bs (n * D.size)).drop (i * D.size)).take D.size) := by rw [← hps]; exact piece_at hlt'
        have hroom : bs.length ≤ n * D.size := by
          have := (secs_room (m := (bs.length : Int)) (z := (D.size : Int)) (by omega) (by omega) (by omega)).2
          have e9 : secs (bs.length : Int) (D.size : Int) = (n : Int) := by omega
          rw [e9, ← Int.natCast_mul] at this
          omega
        have hpl2 := pieces_each (z := D.size) hroom
        have hPB := padB_length hroom
        have hsm : (i + 1) * D.size ≤ n * D.size := Nat.mul_le_mul_right _ hlt'
        rw [Nat.succ_mul] at hsm
        obtain ⟨x, hx⟩ : ∃ x, ((padB bs (n * D.size)).drop (i * D.size)).take D.size = x := ⟨_, rfl⟩
        rw [hx] at hpi
        have hxl : x.length = D.size := hpl2 x (by rw [hps]; exact List.mem_of_getElem? hpi)
        have hdr : ps.drop i = x :: ps.drop (i + 1) := by
          obtain ⟨h1, h2⟩ := List.getElem?_eq_some_iff.1 hpi
          rw [List.drop_eq_getElem_cons h1, h2]
        rw [hdr, dataGo, hxl] at hgo
        refine JO.ownR (Pick.there (Pick.there (Pick.there Pick.here))) fun hrd2 _ _ => ?_
        obtain ⟨p', cap', e, _, hr2⟩ := hrd2
        injection e with e1 e2 e3
        subst e1; clear e2 e3
        rcases hr2 with h | ⟨b', o', e4, hc⟩
        · have := congrArg List.length h
          simp [cutRows] at this
          omega
        cases e4
        repeat' ((apply JO.ru; exact rfl; exact rfl; exact rfl; ((apply Ru.indexAddr; exact rfl; exact rfl; omega; omega))))
        (apply JO.ru; exact rfl; exact rfl; exact rfl; (apply Ru.loadC; exact rfl; exact rd_row (i := i) (u := .slice (some ⟨a, i * D.size, none⟩) D.size D.size) hc (by unfold cutRows; rw [List.getElem?_map, List.getElem?_range hlt']; rfl) _ (by simp)))
        repeat' (first | (apply JO.ru; exact rfl; exact rfl; exact rfl; (first | (apply Ru.move; exact rfl) | (apply Ru.loadN; exact rfl; (repeat (first | exact Pick.here | apply Pick.there)); exact rfl) | (apply Ru.fieldAddr; exact rfl) | (apply Ru.assign; exact rfl) | (apply Ru.add; exact rfl; exact rfl; (first | exact wrapI (by omega) (by omega) | exact rfl)))) | refine JC.seq ?_ | refine JC.region ?_ | refine JO.nil ?_ | refine JE.thenN ?_)
        have hrd3 : RdS σ (ownS (.slice (some ⟨b', o', none⟩) n c) 24 1 n (cutRows a D.size n) :: arr a 5 ((padB bs (n * D.size)).map byte) :: arr pb 58 [int (spanG D.size e f s - 1), int D.size, rdV db fb, wrV db fb] :: l) (.slice (some ⟨a, i * D.size, none⟩) D.size D.size) (x.map byte) := by
          have := RdS.arr (σ := σ) (l := ownS (.slice (some ⟨b', o', none⟩) n c) 24 1 n (cutRows a D.size n) :: arr a 5 ((padB bs (n * D.size)).map byte) :: arr pb 58 [int (spanG D.size e f s - 1), int D.size, rdV db fb, wrV db fb] :: l) (Pick.there Pick.here) (i * D.size) D.size D.size (by rw [List.length_map]; omega) (Nat.le_refl _)
          rwa [← List.map_drop, ← List.map_take, hx] at this
        have hwr := slot_wr (σ := σ) d E db fb fi (1 + (i : Int)) (.slice (some ⟨a, i * D.size, none⟩) D.size D.size) x hE1 (by omega) (by omega) (by omega) (by omega) hrd3
        rw [hxl] at hwr
        (apply JO.do; exact rfl; exact rfl; exact rfl; (apply Do.callV (f := 45); exact rfl; exact rfl; exact hwr); rintro _ _ (⟨hW, rfl, rfl⟩ | ⟨hW, rfl, rfl⟩))
        · rw [if_neg (by simpa using hW)] at hgo
          repeat' (first | (apply JO.ru; exact rfl; exact rfl; exact rfl; (first | (apply Ru.move; exact rfl) | (apply Ru.assign; exact rfl) | (apply Ru.neq; exact rfl; exact rfl; (first | exact ndecF (by omega) | exact ndecT (by omega))) | (apply Ru.add; exact rfl; exact rfl; (first | exact wrapI (by omega) (by omega) | exact rfl)))) | refine JC.seq ?_ | refine JC.region ?_ | refine JO.nil ?_ | refine JE.thenN ?_ | refine JE.blockN ?_ | refine JC.skip ?_ | refine JC.condF rfl ?_)
          have hwz := writeE_zero hW
          exact JE.round (i + 1, E.put (fi + (1 + (i : Int))) x) ⟨hlt', hgo, hE1.put hwz.1 hwz.2.1 (by omega), hE2, by show E.ops + 1 = _; omega, by show E.writes + 1 = _; omega⟩ (by show n - (i + 1) < n - i; omega) ⟨rfl, rfl, rfl, rfl, trivial⟩ (fun _ h => h)
        · rw [if_pos (by simpa using hW)] at hgo
          rw [hgo]
          repeat' (first | (apply JO.ru; exact rfl; exact rfl; exact rfl; (first | (apply Ru.move; exact rfl) | (apply Ru.assign; exact rfl) | (apply Ru.neq; exact rfl; exact rfl; (first | exact ndecF (by omega) | exact ndecT (by omega))))) | refine JC.seq ?_ | refine JC.region ?_ | refine JO.nil ?_ | refine JE.thenN ?_ | refine JE.thenR ?_ | refine JE.blockR ?_ | refine JC.ret ?_ | refine JC.condT rfl ?_ | (apply JE.done1; exact rfl; (first | (apply Res.tmp; exact rfl) | (apply Res.cell; exact rfl; (repeat (first | exact Pick.here | apply Pick.there)); exact rfl) | (apply Res.cellAN; exact rfl; (repeat (first | exact Pick.here | apply Pick.there)); exact rfl; exact rfl) | (apply Res.cellA; exact rfl; (repeat (first | exact Pick.here | apply Pick.there)); exact rfl; exact rfl))))
          exact ⟨diskHP d E.tick :: l, Sat.weak (by repeat (first | exact Weak.refl | (apply Weak.cons; (first | exact Pick.here | exact Pick.there Pick.here | exact Pick.there (Pick.there Pick.here) | exact Pick.there (Pick.there (Pick.there Pick.here)) | exact Pick.there (Pick.there (Pick.there (Pick.there Pick.here))) | exact Pick.there (Pick.there (Pick.there (Pick.there (Pick.there Pick.here)))) | exact Pick.there (Pick.there (Pick.there (Pick.there (Pick.there (Pick.there Pick.here))))) | exact Pick.there (Pick.there (Pick.there (Pick.there (Pick.there (Pick.there (Pick.there Pick.here)))))))) | apply Weak.drop)), rfl, rfl⟩
      · obtain rfl : i = n := by omega
        rw [List.drop_eq_nil_of_le (by omega), dataGo] at hgo
        rw [hgo]
        exact ⟨diskHP d E :: l, Sat.weak (by repeat (first | exact Weak.refl | (apply Weak.cons; (first | exact Pick.here | exact Pick.there Pick.here | exact Pick.there (Pick.there Pick.here) | exact Pick.there (Pick.there (Pick.there Pick.here)) | exact Pick.there (Pick.there (Pick.there (Pick.there Pick.here))) | exact Pick.there (Pick.there (Pick.there (Pick.there (Pick.there Pick.here)))) | exact Pick.there (Pick.there (Pick.there (Pick.there (Pick.there (Pick.there Pick.here))))) | exact Pick.there (Pick.there (Pick.there (Pick.there (Pick.there (Pick.there (Pick.there Pick.here)))))))) | apply Weak.drop)), rfl, rfl⟩
    · rename_i heq
      rw [hl] at heq
      have e0 : dataR D which e f s bs = (1, D) := by
        unfold dataR; rw [if_neg (by rw [hE]; simp), if_pos heq]
      rw [e0]
      exact ⟨diskHP d D :: l, Sat.weak (by repeat (first | exact Weak.refl | (apply Weak.cons; (first | exact Pick.here | exact Pick.there Pick.here | exact Pick.there (Pick.there Pick.here) | exact Pick.there (Pick.there (Pick.there Pick.here)) | exact Pick.there (Pick.there (Pick.there (Pick.there Pick.here))) | exact Pick.there (Pick.there (Pick.there (Pick.there (Pick.there Pick.here)))) | exact Pick.there (Pick.there (Pick.there (Pick.there (Pick.there (Pick.there Pick.here))))) | exact Pick.there (Pick.there (Pick.there (Pick.there (Pick.there (Pick.there (Pick.there Pick.here)))))))) | apply Weak.drop)), rfl, rfl⟩
  · have e0 : dataR D which e f s bs = (atE D which e f s, D) := by
      unfold dataR; rw [if_pos hE]
    rw [e0]
    repeat' (first | (apply JO.ru; exact rfl; exact rfl; exact rfl; (first | (apply Ru.move; exact rfl) | (apply Ru.assign; exact rfl) | (apply Ru.neq; exact rfl; exact rfl; (first | exact ndecF (by omega) | exact ndecT (by omega))) | (apply Ru.extractN; exact rfl; exact rfl))) | refine JC.seq ?_ | refine JC.region ?_ | refine JO.nil ?_ | refine JE.thenN ?_ | refine JE.thenR ?_ | refine JE.blockR ?_ | refine JC.block ?_ | refine JC.ret ?_ | refine JC.condT rfl ?_ | (apply JO.do; exact rfl; exact rfl; exact rfl; (first | (apply Do.allocN; exact rfl) | apply Do.alloc); rintro _ _ ⟨_, rfl, rfl⟩) | (apply JO.do0; exact rfl; exact rfl; (first | (apply Do.storeAN; exact rfl; exact rfl; (repeat (first | exact Pick.here | apply Pick.there)); exact rfl; exact rfl; exact rfl; exact rfl) | (apply Do.storeA; exact rfl; exact rfl; (repeat (first | exact Pick.here | apply Pick.there)); exact rfl; exact rfl; exact rfl)); rintro _ _ ⟨rfl, rfl⟩) | (apply JE.done1; exact rfl; (first | (apply Res.tmp; exact rfl) | (apply Res.cell; exact rfl; (repeat (first | exact Pick.here | apply Pick.there)); exact rfl) | (apply Res.cellAN; exact rfl; (repeat (first | exact Pick.here | apply Pick.there)); exact rfl; exact rfl) | (apply Res.cellA; exact rfl; (repeat (first | exact Pick.here | apply Pick.there)); exact rfl; exact rfl))))
    exact ⟨diskHP d D :: l, Sat.weak (by repeat (first | exact Weak.refl | (apply Weak.cons; (first | exact Pick.here | exact Pick.there Pick.here | exact Pick.there (Pick.there Pick.here) | exact Pick.there (Pick.there (Pick.there Pick.here)) | exact Pick.there (Pick.there (Pick.there (Pick.there Pick.here))) | exact Pick.there (Pick.there (Pick.there (Pick.there (Pick.there Pick.here)))) | exact Pick.there (Pick.there (Pick.there (Pick.there (Pick.there (Pick.there Pick.here))))) | exact Pick.there (Pick.there (Pick.there (Pick.there (Pick.there (Pick.there (Pick.there Pick.here)))))))) | apply Weak.drop)), rfl, rfl⟩
end Go.Sep
