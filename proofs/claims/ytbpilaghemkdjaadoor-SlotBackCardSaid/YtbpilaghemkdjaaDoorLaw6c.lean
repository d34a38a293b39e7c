/- SlotBack: what was laid and sealed is read as good. -/
import Derived.Test.YtbpilaghemkdjaaDoorLaw6b
namespace Go.Sep
open Go Go.Proofs
attribute [local irreducible] JO JC JE JA JQ JB JI Mid Inv Weak ownS Ru Do Fn Sat Pick Take arr pt star ex Holds bodyPost Post Exit.then Exit.inBlock Res
variable {σ : Sig} {F : List HP}
attribute [local irreducible] diskHP cacheHP planHP rowHP
theorem disk_SyncE {d : Nat} {D : DiskN} {z k : Nat} (h : Okd D z k) (ho : D.ops ≤ 1000000000000) (hw : D.writes ≤ 1000000) :
    Fn Tryd.prog σ 13 #[.pointer (some ⟨d, 0, none⟩)] (diskHP d D :: F) (fun v l => v = int 0 ∧ l = diskHP d D.tick.sync :: F) := by
  refine (disk_Sync d D h.wf ho hw).mono ?_
  rintro v l' (⟨h1, _, _⟩ | ⟨_, rfl, rfl⟩)
  · rw [h.failing] at h1; cases h1
  · exact ⟨rfl, rfl⟩
theorem padB_nil (m : Nat) : padB [] m = List.replicate m 0 := by simp [padB]
theorem few_tot {e f s : Int} (h : fewG e f s = true) (hr : rightG e f s = true) : totG e f s ≤ 500 := by
  unfold fewG at h; rw [hr] at h; simpa using h
/-- What SlotBack's calls come to. -/
theorem back_plain {z k fst many : Nat} {which e f s : Int} (hh : Here z k which e f s fst many) (hk : k ≤ 4096) {bs : List UInt8} {q : Int} (hq : 0 ≤ q ∧ q < 18446744073709551616) (hb : (bs.length : Int) = totG e f s) (sync : Bool) :
    ∃ D1 D2 D4 D5 D6 D7 : DiskN, dataR (freshN k z) which e f s bs = (0, D1) ∧ readR D1 which e f s = (0, D2, ⟨0, 6, 0, []⟩) ∧ ∃ D3, sealR D2 which e f s q bs = (0, D3) ∧ D4 = (if sync = true then D3.tick.sync else D3) ∧ Okd D3 z k ∧ Okd D4 z k ∧
      readR D4 which e f s = (0, D5, ⟨2, 0, q, bs⟩) ∧ wipeR D5 which e f s = (0, D6) ∧ readR D6 which e f s = (0, D7, ⟨0, 6, 0, []⟩) ∧ Okd (freshN k z) z k ∧ Okd D1 z k ∧ Okd D2 z k ∧ Okd D5 z k ∧ Okd D6 z k ∧
      D1.ops = many ∧ D1.writes = many ∧ D2.ops = many + 1 ∧ D2.writes = many ∧ D3.ops = many + 2 ∧ D3.writes = many + 1 ∧ D4.ops ≤ many + 3 ∧ D4.writes = many + 1 ∧ D5.ops ≤ 2 * many + 4 ∧ D5.writes = many + 1 ∧ D6.ops ≤ 2 * many + 5 ∧ D6.writes = many + 2 := by
  have hsz := hh.hsize
  have h0 := freshN_ok (k := k) (z := z) hk (by omega) (by omega)
  have hl := hh.lt (j := 0) (by omega)
  obtain ⟨a1, a2, a3, a4, a5, a6⟩ := data_ok hh h0 hb
  obtain ⟨D1, hD1⟩ : ∃ D1, (dataR (freshN k z) which e f s bs).2 = D1 := ⟨_, rfl⟩
  rw [hD1] at a2 a3 a4 a5 a6
  have hdata : dataR (freshN k z) which e f s bs = (0, D1) := Prod.ext a1 hD1
  have hc1 : D1.cur fst = padB [] z := by rw [a6 fst (by omega), fresh_cur (by omega), padB_nil]
  have c0 := read_magic hh a2 hc1
  have b1 := seal_ok hh a2.tick hb q
  have hpl : (padB (enc (sealHead bs e f s q)) z).length = z := padB_length (by rw [enc_length]; omega)
  obtain ⟨D3, hD3⟩ : ∃ D3, D1.tick.put (fst : Int) (padB (enc (sealHead bs e f s q)) z) = D3 := ⟨_, rfl⟩
  rw [hD3] at b1
  have k3 : Okd D3 z k := hD3 ▸ a2.tick.put (i := fst) (by omega) hpl
  have ho3 : D3.ops = D1.ops + 1 + 1 := by rw [← hD3]; rfl
  have hw3 : D3.writes = D1.writes + 1 := by rw [← hD3]; rfl
  have hcur3 : D3.cur fst = padB (enc (sealHead bs e f s q)) z := by rw [← hD3, cur_put, if_pos rfl]
  have himg3 : ImgIs D3 fst many bs := a5.of_cur (by rw [← hD3]; rfl) fun j hj => by rw [← hD3, cur_put, if_neg (by omega)]; rfl
  obtain ⟨D4, hD4⟩ : ∃ D4, (if sync = true then D3.tick.sync else D3) = D4 := ⟨_, rfl⟩
  have key : Okd D4 z k ∧ D4.cur fst = padB (enc (sealHead bs e f s q)) z ∧ ImgIs D4 fst many bs ∧ D4.ops ≤ D3.ops + 1 ∧ D4.writes = D3.writes := by
    cases sync with
    | false =>
      rw [if_neg (by decide)] at hD4
      subst hD4
      exact ⟨k3, hcur3, himg3, by omega, rfl⟩
    | true =>
      rw [if_pos rfl] at hD4
      subst hD4
      have hr := settled_rest k3.tick.wf D3.tick.keys.length
      refine ⟨k3.tick.sync, ?_, ?_, Nat.le_of_eq hr.1, hr.2.1⟩
      · rw [sync_cur k3.tick.wf (by rw [k3.tick.count]; omega)]; exact hcur3
      · refine himg3.of_cur (k3.tick.sync.size.trans k3.size.symm) fun j hj => ?_
        have := hh.lt (j := 1 + j) (by omega)
        rw [sync_cur k3.tick.wf (by rw [k3.tick.count]; omega)]; rfl
  obtain ⟨k4, hcur4, himg4, ho4, hw4⟩ := key
  have c1 := read_good hh k4 hq hb hcur4 himg4
  have k5 := k4.ticks (1 + many)
  have b2 := wipe_ok hh k5
  have hpl0 : (padB [] z).length = z := padB_length (by simp)
  have k6 : Okd ((D4.ticks (1 + many)).put (fst : Int) (padB [] z)) z k := k5.put (i := fst) (by omega) hpl0
  have c2 := read_magic hh k6 (by rw [cur_put, if_pos rfl])
  have hf0 : (freshN k z).ops = 0 ∧ (freshN k z).writes = 0 := ⟨rfl, rfl⟩
  refine ⟨D1, D1.tick, D4, D4.ticks (1 + many), _, _, hdata, c0, D3, b1, hD4.symm, k3, k4, c1, b2, c2, h0, a2, a2.tick, k5, k6, by omega, by omega, ?_, ?_, by omega, by omega, by omega, by omega, ?_, hw4.trans (by omega), ?_, ?_⟩
  · show D1.ops + 1 = _; omega
  · show D1.writes = _; omega
  · show D4.ops + (1 + many) ≤ _; omega
  · show D4.ops + (1 + many) + 1 ≤ _; omega
  · show D4.writes + 1 = _; omega
set_option maxHeartbeats 8000000 in
theorem law06_SlotBack (e f s : Int) (v : Value) (bs : List UInt8) (z : UInt8) (second : Bool) (q : Int) (sync : Bool) (hq : 0 ≤ q ∧ q < 18446744073709551616) (hb : RdS σ F v (bs.map byte)) [hg : InG F] :
    Fn Tryd.prog σ 3 #[geoV e f s, v, .int .u8 z.toNat, .bool second, u64 q, .bool sync] F (fun r l' => r = .bool true ∧ l' = F) := by
  obtain ⟨pv, cv, rfl, hcv, hrv⟩ := id hb
  have hl : (bs.map byte).length = bs.length := by simp
  have haw := fun G [InG G] => law06_awake (σ := σ) (F := G)
  by_cases h1 : fewG e f s = true
  case neg =>
    simp only [Bool.not_eq_true] at h1
    refine Fn.of Tryd.func3 rfl Tryd.ntmps3 rfl ?_
    repeat' (first | (first | (apply JO.ru; exact rfl; exact rfl; exact rfl; (first | (apply Ru.move; exact rfl) | (apply Ru.assign; exact rfl) | (apply Ru.pickT; exact rfl; exact rfl) | (apply Ru.not; exact rfl) | (apply Ru.loadAN; exact rfl; (repeat (first | exact Pick.here | apply Pick.there)); exact rfl; exact rfl))) | refine JC.seq ?_ | refine JC.region ?_ | refine JO.nil ?_ | refine JE.thenN ?_ | refine JE.thenR ?_ | refine JC.ret ?_ | refine JC.condT rfl ?_ | refine JO.guardF rfl rfl rfl rfl rfl rfl rfl ?_ | (apply JO.do; exact rfl; exact rfl; exact rfl; (first | (apply Do.boxN; exact rfl; exact rfl) | (apply Do.box; exact rfl)); rintro _ _ ⟨_, rfl, rfl⟩) | (apply JE.done1; exact rfl; (first | (apply Res.tmp; exact rfl) | (apply Res.cell; exact rfl; (repeat (first | exact Pick.here | apply Pick.there)); exact rfl) | (apply Res.cellAN; exact rfl; (repeat (first | exact Pick.here | apply Pick.there)); exact rfl; exact rfl) | (apply Res.cellA; exact rfl; (repeat (first | exact Pick.here | apply Pick.there)); exact rfl; exact rfl)))) | (first | (apply JO.do; exact rfl; exact rfl; exact rfl; (apply Do.call; exact rfl; exact haw _); rintro _ _ ⟨rfl, hq⟩; obtain rfl := hq.symm) | (apply JQ.call; exact rfl; exact rfl; exact rfl; exact haw _; (rintro _ _ ⟨rfl, rfl⟩; exact ⟨rfl, rfl⟩))) | ((first | (apply JO.do; exact rfl; exact rfl; exact rfl; (apply Do.call; exact rfl; exact ref_Few _ _ _); rintro _ _ ⟨rfl, hq⟩; obtain rfl := hq.symm) | (apply JQ.call; exact rfl; exact rfl; exact rfl; exact ref_Few _ _ _; (rintro _ _ ⟨rfl, rfl⟩; exact ⟨rfl, rfl⟩))); rw [h1]) | (first | (apply JO.do; exact rfl; exact rfl; exact rfl; (apply Do.call; exact rfl; exact ref_Right _ _ _); rintro _ _ ⟨rfl, hq⟩; obtain rfl := hq.symm) | (apply JQ.call; exact rfl; exact rfl; exact rfl; exact ref_Right _ _ _; (rintro _ _ ⟨rfl, rfl⟩; exact ⟨rfl, rfl⟩))))
    all_goals exact ⟨F, Sat.weak (by repeat (first | exact Weak.refl | (apply Weak.cons; (first | exact Pick.here | exact Pick.there Pick.here | exact Pick.there (Pick.there Pick.here) | exact Pick.there (Pick.there (Pick.there Pick.here)) | exact Pick.there (Pick.there (Pick.there (Pick.there Pick.here))) | exact Pick.there (Pick.there (Pick.there (Pick.there (Pick.there Pick.here)))) | exact Pick.there (Pick.there (Pick.there (Pick.there (Pick.there (Pick.there Pick.here))))) | exact Pick.there (Pick.there (Pick.there (Pick.there (Pick.there (Pick.there (Pick.there Pick.here)))))))) | apply Weak.drop)), rfl, rfl⟩
  by_cases h2 : rightG e f s = true
  case neg =>
    simp only [Bool.not_eq_true] at h2
    refine Fn.of Tryd.func3 rfl Tryd.ntmps3 rfl ?_
    repeat' (first | (first | (apply JO.ru; exact rfl; exact rfl; exact rfl; (first | (apply Ru.move; exact rfl) | (apply Ru.assign; exact rfl) | (apply Ru.pickT; exact rfl; exact rfl) | (apply Ru.pickF; exact rfl; exact rfl) | (apply Ru.not; exact rfl) | (apply Ru.loadAN; exact rfl; (repeat (first | exact Pick.here | apply Pick.there)); exact rfl; exact rfl))) | refine JC.seq ?_ | refine JC.region ?_ | refine JO.nil ?_ | refine JE.thenN ?_ | refine JE.thenR ?_ | refine JC.ret ?_ | refine JC.condT rfl ?_ | refine JO.guardF rfl rfl rfl rfl rfl rfl rfl ?_ | refine JO.guardT rfl rfl rfl rfl ?_ | (apply JO.do; exact rfl; exact rfl; exact rfl; (first | (apply Do.boxN; exact rfl; exact rfl) | (apply Do.box; exact rfl)); rintro _ _ ⟨_, rfl, rfl⟩) | (apply JE.done1; exact rfl; (first | (apply Res.tmp; exact rfl) | (apply Res.cell; exact rfl; (repeat (first | exact Pick.here | apply Pick.there)); exact rfl) | (apply Res.cellAN; exact rfl; (repeat (first | exact Pick.here | apply Pick.there)); exact rfl; exact rfl) | (apply Res.cellA; exact rfl; (repeat (first | exact Pick.here | apply Pick.there)); exact rfl; exact rfl)))) | (first | (apply JO.do; exact rfl; exact rfl; exact rfl; (apply Do.call; exact rfl; exact haw _); rintro _ _ ⟨rfl, hq⟩; obtain rfl := hq.symm) | (apply JQ.call; exact rfl; exact rfl; exact rfl; exact haw _; (rintro _ _ ⟨rfl, rfl⟩; exact ⟨rfl, rfl⟩))) | ((first | (apply JO.do; exact rfl; exact rfl; exact rfl; (apply Do.call; exact rfl; exact ref_Few _ _ _); rintro _ _ ⟨rfl, hq⟩; obtain rfl := hq.symm) | (apply JQ.call; exact rfl; exact rfl; exact rfl; exact ref_Few _ _ _; (rintro _ _ ⟨rfl, rfl⟩; exact ⟨rfl, rfl⟩))); rw [h1]) | ((first | (apply JO.do; exact rfl; exact rfl; exact rfl; (apply Do.call; exact rfl; exact ref_Right _ _ _); rintro _ _ ⟨rfl, hq⟩; obtain rfl := hq.symm) | (apply JQ.call; exact rfl; exact rfl; exact rfl; exact ref_Right _ _ _; (rintro _ _ ⟨rfl, rfl⟩; exact ⟨rfl, rfl⟩))); rw [h2]))
    all_goals exact ⟨F, Sat.weak (by repeat (first | exact Weak.refl | (apply Weak.cons; (first | exact Pick.here | exact Pick.there Pick.here | exact Pick.there (Pick.there Pick.here) | exact Pick.there (Pick.there (Pick.there Pick.here)) | exact Pick.there (Pick.there (Pick.there (Pick.there Pick.here))) | exact Pick.there (Pick.there (Pick.there (Pick.there (Pick.there Pick.here)))) | exact Pick.there (Pick.there (Pick.there (Pick.there (Pick.there (Pick.there Pick.here))))) | exact Pick.there (Pick.there (Pick.there (Pick.there (Pick.there (Pick.there (Pick.there Pick.here)))))))) | apply Weak.drop)), rfl, rfl⟩
  by_cases h3 : (bs.length : Int) = totG e f s
  case neg =>
    refine Fn.of Tryd.func3 rfl Tryd.ntmps3 rfl ?_
    repeat' (first | (first | (apply JO.ru; exact rfl; exact rfl; exact rfl; (first | (apply Ru.move; exact rfl) | (apply Ru.assign; exact rfl) | (apply Ru.lenS; exact rfl) | (apply Ru.neq; exact rfl; exact rfl; (first | exact ndecF (by omega) | exact ndecT (by omega))) | (apply Ru.pickF; exact rfl; exact rfl) | (apply Ru.not; exact rfl) | (apply Ru.loadAN; exact rfl; (repeat (first | exact Pick.here | apply Pick.there)); exact rfl; exact rfl))) | refine JC.seq ?_ | refine JC.region ?_ | refine JO.nil ?_ | refine JE.thenN ?_ | refine JE.thenR ?_ | refine JC.ret ?_ | refine JC.condT rfl ?_ | refine JO.guardT rfl rfl rfl rfl ?_ | (apply JO.do; exact rfl; exact rfl; exact rfl; (first | (apply Do.boxN; exact rfl; exact rfl) | (apply Do.box; exact rfl)); rintro _ _ ⟨_, rfl, rfl⟩) | (apply JE.done1; exact rfl; (first | (apply Res.tmp; exact rfl) | (apply Res.cell; exact rfl; (repeat (first | exact Pick.here | apply Pick.there)); exact rfl) | (apply Res.cellAN; exact rfl; (repeat (first | exact Pick.here | apply Pick.there)); exact rfl; exact rfl) | (apply Res.cellA; exact rfl; (repeat (first | exact Pick.here | apply Pick.there)); exact rfl; exact rfl)))) | (first | (apply JO.do; exact rfl; exact rfl; exact rfl; (apply Do.call; exact rfl; exact haw _); rintro _ _ ⟨rfl, hq⟩; obtain rfl := hq.symm) | (apply JQ.call; exact rfl; exact rfl; exact rfl; exact haw _; (rintro _ _ ⟨rfl, rfl⟩; exact ⟨rfl, rfl⟩))) | ((first | (apply JO.do; exact rfl; exact rfl; exact rfl; (apply Do.call; exact rfl; exact ref_Few _ _ _); rintro _ _ ⟨rfl, hq⟩; obtain rfl := hq.symm) | (apply JQ.call; exact rfl; exact rfl; exact rfl; exact ref_Few _ _ _; (rintro _ _ ⟨rfl, rfl⟩; exact ⟨rfl, rfl⟩))); rw [h1]) | ((first | (apply JO.do; exact rfl; exact rfl; exact rfl; (apply Do.call; exact rfl; exact ref_Right _ _ _); rintro _ _ ⟨rfl, hq⟩; obtain rfl := hq.symm) | (apply JQ.call; exact rfl; exact rfl; exact rfl; exact ref_Right _ _ _; (rintro _ _ ⟨rfl, rfl⟩; exact ⟨rfl, rfl⟩))); rw [h2]) | (first | (apply JO.do; exact rfl; exact rfl; exact rfl; (apply Do.call; exact rfl; exact ref_Total _ _ _); rintro _ _ ⟨rfl, hq⟩; obtain rfl := hq.symm) | (apply JQ.call; exact rfl; exact rfl; exact rfl; exact ref_Total _ _ _; (rintro _ _ ⟨rfl, rfl⟩; exact ⟨rfl, rfl⟩))))
    all_goals exact ⟨F, Sat.weak (by repeat (first | exact Weak.refl | (apply Weak.cons; (first | exact Pick.here | exact Pick.there Pick.here | exact Pick.there (Pick.there Pick.here) | exact Pick.there (Pick.there (Pick.there Pick.here)) | exact Pick.there (Pick.there (Pick.there (Pick.there Pick.here))) | exact Pick.there (Pick.there (Pick.there (Pick.there (Pick.there Pick.here)))) | exact Pick.there (Pick.there (Pick.there (Pick.there (Pick.there (Pick.there Pick.here))))) | exact Pick.there (Pick.there (Pick.there (Pick.there (Pick.there (Pick.there (Pick.there Pick.here)))))))) | apply Weak.drop)), rfl, rfl⟩
  have ht := few_tot h1 h2
  have hm := sizeOfU_bd z
  have hsp := span_few (z := sizeOfU z) ht
  obtain ⟨m, hm0⟩ : ∃ m, sizeOfU z = m := ⟨_, rfl⟩
  obtain ⟨k, hk0⟩ : ∃ k, (2 * spanG m e f s).toNat = k := ⟨_, rfl⟩
  have hfr := fun G [InG G] => law06_fresh (σ := σ) (F := G) z e f s ht
  simp only [hm0, hk0] at hfr
  rw [hm0] at hm hsp
  have hw0 : ∃ w : Int, (if second = true then 1 else 0) = w ∧ (w = 0 ∨ w = 1) := by cases second <;> exact ⟨_, rfl, by simp⟩
  obtain ⟨w, hw, hw1⟩ := hw0
  have hh := Here.of (k := k) h2 hw1 (by omega : 32 ≤ m ∧ m ≤ 4096) (by omega)
  obtain ⟨fst, hfst⟩ : ∃ x, (w * spanG m e f s).toNat = x := ⟨_, rfl⟩
  obtain ⟨many, hmany⟩ : ∃ x, (secs (totG e f s) m).toNat = x := ⟨_, rfl⟩
  rw [hfst, hmany] at hh
  have hml : many ≤ 500 := by
    have := secs_bd (m := totG e f s) (s := (m : Int)) (totG_bd e f s).1
    omega
  obtain ⟨D1, D2, D4, D5, D6, D7, p1, p2, D3, p3, p4, q3, q4, p5, p6, p7, q0, q1, q2, q5, q6, o1, w1, o2, w2, o3, w3, o4, w4, o5, w5, o6, w6⟩ := back_plain hh (by omega) hq h3 sync
  have hbl : bs.length ≤ 100000000 := by omega
  have hf0 : (freshN k m).ops = 0 ∧ (freshN k m).writes = 0 := ⟨rfl, rfl⟩
  have csy := fun (d : Nat) (G : List HP) => disk_SyncE (σ := σ) (F := G) (d := d) q3 (by omega) (by omega)
  have c1 := fun (d gb : Nat) => slot_DataE (σ := σ) (d := d) p1 hbl q0.wf (by omega) (by omega) (l := arr gb 23 [int e, int f, int s] :: F) hb.cons
  have c2 := fun (d : Nat) (G : List HP) [InG G] => slot_ReadE (σ := σ) (d := d) p2 q1.wf (by omega) (F := G)
  have c3 := fun (d : Nat) (G : List HP) [InG G] (hv : RdS σ G (.slice pv (bs.map byte).length cv) (bs.map byte)) => slot_SealE (σ := σ) (d := d) p3 hq.1 hbl q2.wf (by omega) (by omega) (l := G) hv
  have c5 := fun (d : Nat) (G : List HP) [InG G] => slot_ReadE (σ := σ) (d := d) p5 q4.wf (by omega) (F := G)
  have c6 := fun (d : Nat) (G : List HP) [InG G] => slot_WipeE (σ := σ) (d := d) p6 q5.wf (by omega) (by omega) (F := G)
  have c7 := fun (d : Nat) (G : List HP) [InG G] => slot_ReadE (σ := σ) (d := d) p7 q6.wf (by omega) (F := G)
  refine Fn.of Tryd.func3 rfl Tryd.ntmps3 rfl ?_
  repeat' (first | (first | (apply JO.ru; exact rfl; exact rfl; exact rfl; (first | (apply Ru.move; exact rfl) | (apply Ru.assign; exact rfl) | (apply Ru.lenS; exact rfl) | (apply Ru.neq; exact rfl; exact rfl; (first | exact ndecF (by omega) | exact ndecT (by omega))) | (apply Ru.pickF; exact rfl; exact rfl) | (apply Ru.not; exact rfl) | (apply Ru.loadAN; exact rfl; (repeat (first | exact Pick.here | apply Pick.there)); exact rfl; exact rfl) | (apply Ru.eqlPN; exact rfl; exact rfl))) | refine JC.seq ?_ | refine JC.region ?_ | refine JO.nil ?_ | refine JE.thenN ?_ | refine JC.skip ?_ | refine JC.condF rfl ?_ | refine JO.guardT rfl rfl rfl rfl ?_ | (apply JO.do; exact rfl; exact rfl; exact rfl; (first | (apply Do.boxN; exact rfl; exact rfl) | (apply Do.box; exact rfl)); rintro _ _ ⟨_, rfl, rfl⟩)) | (first | (apply JO.do; exact rfl; exact rfl; exact rfl; (apply Do.call; exact rfl; exact haw _); rintro _ _ ⟨rfl, hq⟩; obtain rfl := hq.symm) | (apply JQ.call; exact rfl; exact rfl; exact rfl; exact haw _; (rintro _ _ ⟨rfl, rfl⟩; exact ⟨rfl, rfl⟩))) | ((first | (apply JO.do; exact rfl; exact rfl; exact rfl; (apply Do.call; exact rfl; exact ref_Few _ _ _); rintro _ _ ⟨rfl, hq⟩; obtain rfl := hq.symm) | (apply JQ.call; exact rfl; exact rfl; exact rfl; exact ref_Few _ _ _; (rintro _ _ ⟨rfl, rfl⟩; exact ⟨rfl, rfl⟩))); rw [h1]) | ((first | (apply JO.do; exact rfl; exact rfl; exact rfl; (apply Do.call; exact rfl; exact ref_Right _ _ _); rintro _ _ ⟨rfl, hq⟩; obtain rfl := hq.symm) | (apply JQ.call; exact rfl; exact rfl; exact rfl; exact ref_Right _ _ _; (rintro _ _ ⟨rfl, rfl⟩; exact ⟨rfl, rfl⟩))); rw [h2]) | (first | (apply JO.do; exact rfl; exact rfl; exact rfl; (apply Do.call; exact rfl; exact ref_Total _ _ _); rintro _ _ ⟨rfl, hq⟩; obtain rfl := hq.symm) | (apply JQ.call; exact rfl; exact rfl; exact rfl; exact ref_Total _ _ _; (rintro _ _ ⟨rfl, rfl⟩; exact ⟨rfl, rfl⟩))) | (apply JO.do; exact rfl; exact rfl; exact rfl; (apply Do.call; exact rfl; exact hfr _); rintro _ _ ⟨d, rfl, rfl⟩))
  rename_i gb d
  have hcase : ∀ (b : Bool), second = b → (if b = true then (1 : Int) else 0) = w := fun b h => h ▸ hw
  cases second
  all_goals
    have hw2 := hcase _ rfl
    clear hcase
    simp only [Bool.false_eq_true, if_true, if_false] at hw2
    subst hw2
    repeat' (first | (first | (apply JO.ru; exact rfl; exact rfl; exact rfl; (first | (apply Ru.move; exact rfl) | (apply Ru.assign; exact rfl) | (apply Ru.extractN; exact rfl; exact rfl) | (apply Ru.loadAN; exact rfl; (repeat (first | exact Pick.here | apply Pick.there)); exact rfl; exact rfl))) | refine JC.seq ?_ | refine JC.region ?_ | refine JO.nil ?_ | refine JE.thenN ?_ | refine JC.skip ?_ | refine JC.condT rfl ?_ | refine JC.condF rfl ?_ | (apply JO.do; exact rfl; exact rfl; exact rfl; (first | (apply Do.allocN; exact rfl) | apply Do.alloc); rintro _ _ ⟨_, rfl, rfl⟩)) | (apply JO.do; exact rfl; exact rfl; exact rfl; (apply Do.call; exact rfl; exact c1 _ _); rintro _ _ ⟨rfl, rfl⟩) | (apply JO.do; exact rfl; exact rfl; exact rfl; (apply Do.call; exact rfl; exact c2 _ _); rintro _ _ ⟨u, rfl, rfl⟩))
    refine JO.ownR (Pick.there Pick.here) fun _ _ hsh => ?_
    obtain ⟨p1, n1, m1, rfl⟩ : ∃ p n c, u = .slice p n c := by
      rcases hsh with ⟨rfl, _⟩ | ⟨b, c, rfl, _⟩ <;> exact ⟨_, _, _, rfl⟩
    clear hsh
    repeat' (first | (apply JO.ru; exact rfl; exact rfl; exact rfl; (first | (apply Ru.move; exact rfl) | (apply Ru.assign; exact rfl) | (apply Ru.loadAN; exact rfl; (repeat (first | exact Pick.here | apply Pick.there)); exact rfl; exact rfl))) | refine JC.seq ?_ | refine JC.region ?_ | refine JO.nil ?_ | refine JE.thenN ?_ | (apply JO.do0; exact rfl; exact rfl; (first | (apply Do.storeAN; exact rfl; exact rfl; (repeat (first | exact Pick.here | apply Pick.there)); exact rfl; exact rfl; exact rfl; exact rfl) | (apply Do.storeA; exact rfl; exact rfl; (repeat (first | exact Pick.here | apply Pick.there)); exact rfl; exact rfl; exact rfl)); rintro _ _ ⟨rfl, rfl⟩))
    refine JO.pick (Pick.there (Pick.there Pick.here)) ?_
    repeat' (first | (first | (apply JO.ru; exact rfl; exact rfl; exact rfl; (first | (apply Ru.move; exact rfl) | (apply Ru.assign; exact rfl))) | refine JC.seq ?_ | refine JC.region ?_ | refine JO.nil ?_ | refine JE.thenN ?_) | (apply JO.do; exact rfl; exact rfl; exact rfl; (apply Do.call; exact rfl; exact c3 _ _ hb.cons.cons.cons); rintro _ _ ⟨rfl, rfl⟩))
    have hcase2 : ∀ (b : Bool), sync = b → D4 = (if b = true then D3.tick.sync else D3) := fun b h => h ▸ p4
    cases sync
    all_goals
      have hsy2 := hcase2 _ rfl
      clear hcase2
      simp only [Bool.false_eq_true, if_true, if_false] at hsy2
      subst hsy2
      repeat' (first | (first | (apply JO.ru; exact rfl; exact rfl; exact rfl; (first | (apply Ru.move; exact rfl) | (apply Ru.assign; exact rfl) | (apply Ru.extractN; exact rfl; exact rfl) | (apply Ru.loadAN; exact rfl; (repeat (first | exact Pick.here | apply Pick.there)); exact rfl; exact rfl))) | refine JC.seq ?_ | refine JC.region ?_ | refine JO.nil ?_ | refine JE.thenN ?_ | refine JC.skip ?_ | refine JC.condT rfl ?_ | refine JC.condF rfl ?_ | (apply JO.do; exact rfl; exact rfl; exact rfl; (first | (apply Do.allocN; exact rfl) | apply Do.alloc); rintro _ _ ⟨_, rfl, rfl⟩)) | (apply JO.do; exact rfl; exact rfl; exact rfl; (apply Do.call; exact rfl; exact csy _ _); rintro _ _ ⟨rfl, rfl⟩) | (apply JO.do; exact rfl; exact rfl; exact rfl; (apply Do.call; exact rfl; exact c5 _ _); rintro _ _ ⟨u, rfl, rfl⟩))
      refine JO.ownR (Pick.there Pick.here) fun _ _ hsh => ?_
      obtain ⟨p2, n2, m2, rfl⟩ : ∃ p n c, u = .slice p n c := by
        rcases hsh with ⟨rfl, _⟩ | ⟨b, c, rfl, _⟩ <;> exact ⟨_, _, _, rfl⟩
      clear hsh
      repeat' (first | (apply JO.ru; exact rfl; exact rfl; exact rfl; (first | (apply Ru.move; exact rfl) | (apply Ru.assign; exact rfl) | (apply Ru.loadAN; exact rfl; (repeat (first | exact Pick.here | apply Pick.there)); exact rfl; exact rfl))) | refine JC.seq ?_ | refine JC.region ?_ | refine JO.nil ?_ | refine JE.thenN ?_ | (apply JO.do0; exact rfl; exact rfl; (first | (apply Do.storeAN; exact rfl; exact rfl; (repeat (first | exact Pick.here | apply Pick.there)); exact rfl; exact rfl; exact rfl; exact rfl) | (apply Do.storeA; exact rfl; exact rfl; (repeat (first | exact Pick.here | apply Pick.there)); exact rfl; exact rfl; exact rfl)); rintro _ _ ⟨rfl, rfl⟩))
      refine JO.pick (Pick.there (Pick.there Pick.here)) ?_
      repeat' (first | (first | (apply JO.ru; exact rfl; exact rfl; exact rfl; (first | (apply Ru.move; exact rfl) | (apply Ru.assign; exact rfl) | (apply Ru.extractN; exact rfl; exact rfl) | (apply Ru.loadAN; exact rfl; (repeat (first | exact Pick.here | apply Pick.there)); exact rfl; exact rfl))) | refine JC.seq ?_ | refine JC.region ?_ | refine JO.nil ?_ | refine JE.thenN ?_ | (apply JO.do; exact rfl; exact rfl; exact rfl; (first | (apply Do.allocN; exact rfl) | apply Do.alloc); rintro _ _ ⟨_, rfl, rfl⟩)) | (apply JO.do; exact rfl; exact rfl; exact rfl; (apply Do.call; exact rfl; exact c6 _ _); rintro _ _ ⟨rfl, rfl⟩) | (apply JO.do; exact rfl; exact rfl; exact rfl; (apply Do.call; exact rfl; exact c7 _ _); rintro _ _ ⟨u, rfl, rfl⟩))
      refine JO.ownR (Pick.there Pick.here) fun _ _ hsh => ?_
      obtain ⟨p3, n3, m3, rfl⟩ : ∃ p n c, u = .slice p n c := by
        rcases hsh with ⟨rfl, _⟩ | ⟨b, c, rfl, _⟩ <;> exact ⟨_, _, _, rfl⟩
      clear hsh
      repeat' (first | (apply JO.ru; exact rfl; exact rfl; exact rfl; (first | (apply Ru.move; exact rfl) | (apply Ru.loadN; exact rfl; (repeat (first | exact Pick.here | apply Pick.there)); exact rfl) | (apply Ru.fieldAddr; exact rfl) | (apply Ru.assign; exact rfl) | (apply Ru.eql; exact rfl; exact rfl; (first | exact decT (by omega) | exact decF (by omega))) | (apply Ru.neq; exact rfl; exact rfl; (first | exact ndecF (by omega) | exact ndecT (by omega))) | (apply Ru.pickT; exact rfl; exact rfl) | (apply Ru.pickF; exact rfl; exact rfl))) | refine JC.seq ?_ | refine JC.region ?_ | refine JO.nil ?_ | refine JE.thenN ?_ | refine JC.skip ?_ | refine JC.condF rfl ?_ | refine JO.guardT rfl rfl rfl rfl ?_ | (apply JO.do0; exact rfl; exact rfl; (first | (apply Do.storeAN; exact rfl; exact rfl; (repeat (first | exact Pick.here | apply Pick.there)); exact rfl; exact rfl; exact rfl; exact rfl) | (apply Do.storeA; exact rfl; exact rfl; (repeat (first | exact Pick.here | apply Pick.there)); exact rfl; exact rfl; exact rfl)); rintro _ _ ⟨rfl, rfl⟩))
      refine JO.ownR (Pick.there (Pick.there (Pick.there (Pick.there Pick.here)))) fun hri _ _ => ?_
      (apply JO.do; exact rfl; exact rfl; exact rfl; (apply Do.call; exact rfl; exact ref_Same _ _ bs bs (by omega) hri hb.cons.cons.cons.cons.cons.cons.cons.cons); rintro _ _ ⟨rfl, rfl⟩)
      rw [decide_eq_true (rfl : bs = bs)]
      repeat' (first | (apply JO.ru; exact rfl; exact rfl; exact rfl; (first | (apply Ru.move; exact rfl) | (apply Ru.loadN; exact rfl; (repeat (first | exact Pick.here | apply Pick.there)); exact rfl) | (apply Ru.fieldAddr; exact rfl) | (apply Ru.assign; exact rfl) | (apply Ru.eql; exact rfl; exact rfl; (first | exact decT (by omega) | exact decF (by omega))) | (apply Ru.pickT; exact rfl; exact rfl))) | refine JO.nil ?_ | refine JE.thenN ?_ | refine JC.ret ?_ | refine JO.guardT rfl rfl rfl rfl ?_ | (apply JE.done1; exact rfl; (first | (apply Res.tmp; exact rfl) | (apply Res.cell; exact rfl; (repeat (first | exact Pick.here | apply Pick.there)); exact rfl) | (apply Res.cellAN; exact rfl; (repeat (first | exact Pick.here | apply Pick.there)); exact rfl; exact rfl) | (apply Res.cellA; exact rfl; (repeat (first | exact Pick.here | apply Pick.there)); exact rfl; exact rfl))))
      exact ⟨F, Sat.weak (by repeat (first | exact Weak.refl | (apply Weak.cons; (first | exact Pick.here | exact Pick.there Pick.here | exact Pick.there (Pick.there Pick.here) | exact Pick.there (Pick.there (Pick.there Pick.here)) | exact Pick.there (Pick.there (Pick.there (Pick.there Pick.here))) | exact Pick.there (Pick.there (Pick.there (Pick.there (Pick.there Pick.here)))) | exact Pick.there (Pick.there (Pick.there (Pick.there (Pick.there (Pick.there Pick.here))))) | exact Pick.there (Pick.there (Pick.there (Pick.there (Pick.there (Pick.there (Pick.there Pick.here)))))))) | apply Weak.drop)), rfl, rfl⟩
end Go.Sep
