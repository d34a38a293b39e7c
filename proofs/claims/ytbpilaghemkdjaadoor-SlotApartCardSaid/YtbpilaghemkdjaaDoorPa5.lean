/- SlotApart: what is done with one slot changes nothing of the other one, also if it fails, or is torn: for every input of which the statement speaks. -/
import Derived.Test.YtbpilaghemkdjaaDoorPa4
set_option linter.all false
/- SlotApart: what is done with one slot changes nothing of the other. -/
namespace Go.Sep
open Go Go.Proofs
attribute [local irreducible] JO JC JE JA JQ JB JI Mid Inv Weak ownS Ru Do Fn Sat Pick Take arr pt star ex Holds bodyPost Post Exit.then Exit.inBlock Res
variable {σ : Sig} {F : List HP}
attribute [local irreducible] diskHP cacheHP planHP rowHP

set_option maxHeartbeats 4000000 in
theorem apart_plain {z k fst1 fst2 many : Nat} {one two e f s : Int} (h1 : Here z k one e f s fst1 many) (h2 : Here z k two e f s fst2 many) (h12 : one = 1 - two) (hk : k ≤ 4096) {b c : List UInt8} (hb : (b.length : Int) = totG e f s) (hc : (c.length : Int) = totG e f s) (fail : Nat) (ts : List TearN) :
    ∃ D1 D2 : DiskN, dataR (freshN k z) one e f s b = (0, D1) ∧ sealR D1 one e f s 5 b = (0, D2) ∧ Okd (freshN k z) z k ∧ Okd D1 z k ∧ Okd D2 z k ∧ D1.ops = many ∧ D1.writes = many ∧ D2.ops = many + 1 ∧ D2.writes = many + 1 ∧
      D2.tick.sync.ops = many + 2 ∧ D2.tick.sync.writes = many + 1 ∧
      ∀ n : Int, n = ((many + 2 : Nat) : Int) + 1 + fail → ∃ E0 E1 E2 E3 E4 : DiskN, E0 = D2.tick.sync.plan n ∧ E1 = (dataR E0 two e f s c).2 ∧ E2 = (sealR E1 two e f s 6 c).2 ∧ E3 = (wipeR E2 two e f s).2 ∧ E4 = E3.crash ts ∧
        E0.WF ∧ E1.WF ∧ E2.WF ∧ E3.WF ∧ E4.WF ∧ E0.ops = many + 2 ∧ E0.writes = many + 1 ∧ E1.ops ≤ 2 * many + 2 ∧ E1.writes ≤ 2 * many + 1 ∧ E2.ops ≤ 2 * many + 3 ∧ E2.writes ≤ 2 * many + 2 ∧ E3.ops ≤ 2 * many + 4 ∧ E3.writes ≤ 2 * many + 3 ∧ E4.ops ≤ 2 * many + 4 ∧
        ((∃ D', readR E4 one e f s = (0, D', ⟨2, 0, 5, b⟩)) ∨ ∃ D' D'', readR E4 one e f s = (3, D', .zero) ∧ D'.WF ∧ D'.ops ≤ 3 * many + 5 ∧ readR D' one e f s = (0, D'', ⟨2, 0, 5, b⟩)) := by
  have hsz := h1.hsize
  have h0 := freshN_ok (k := k) (z := z) hk (by omega) (by omega)
  have hl := h1.lt (j := 0) (by omega)
  obtain ⟨a1, a2, a3, a4, a5, a6⟩ := data_ok h1 h0 hb
  obtain ⟨D1, hD1⟩ : ∃ D1, (dataR (freshN k z) one e f s b).2 = D1 := ⟨_, rfl⟩
  rw [hD1] at a2 a3 a4 a5 a6
  have hdata : dataR (freshN k z) one e f s b = (0, D1) := Prod.ext a1 hD1
  have b1 := seal_ok h1 a2 hb 5
  have hpl : (padB (enc (sealHead b e f s 5)) z).length = z := padB_length (by rw [enc_length]; omega)
  obtain ⟨D2, hD2⟩ : ∃ D2, D1.put (fst1 : Int) (padB (enc (sealHead b e f s 5)) z) = D2 := ⟨_, rfl⟩
  rw [hD2] at b1
  have k2 : Okd D2 z k := hD2 ▸ a2.put (i := fst1) (by omega) hpl
  have ho2 : D2.ops = D1.ops + 1 := by rw [← hD2]; rfl
  have hw2 : D2.writes = D1.writes + 1 := by rw [← hD2]; rfl
  have hcur2 : D2.cur fst1 = padB (enc (sealHead b e f s 5)) z := by rw [← hD2, cur_put, if_pos rfl]
  have himg2 : ImgIs D2 fst1 many b := a5.of_cur (by rw [← hD2]; rfl) fun j hj => by rw [← hD2, cur_put, if_neg (by omega)]
  have hr := settled_rest k2.tick.wf D2.tick.keys.length
  have k3 := k2.tick.sync
  have hf0 : (freshN k z).ops = 0 ∧ (freshN k z).writes = 0 := ⟨rfl, rfl⟩
  have ho3 : D2.tick.sync.ops = many + 2 := by rw [show D2.tick.sync.ops = D2.tick.ops from hr.1]; show D2.ops + 1 = _; omega
  have hw3 : D2.tick.sync.writes = many + 1 := by rw [show D2.tick.sync.writes = D2.tick.writes from hr.2.1]; show D2.writes = _; omega
  refine ⟨D1, D2, hdata, b1, h0, a2, k2, by omega, by omega, by omega, by omega, ho3, hw3, fun n hn => ?_⟩
  obtain ⟨E0, hE0⟩ : ∃ E0, D2.tick.sync.plan n = E0 := ⟨_, rfl⟩
  obtain ⟨E1, hE1⟩ : ∃ E1, (dataR E0 two e f s c).2 = E1 := ⟨_, rfl⟩
  obtain ⟨E2, hE2⟩ : ∃ E2, (sealR E1 two e f s 6 c).2 = E2 := ⟨_, rfl⟩
  obtain ⟨E3, hE3⟩ : ∃ E3, (wipeR E2 two e f s).2 = E3 := ⟨_, rfl⟩
  have w0 : E0.WF := hE0 ▸ k3.wf.plan n
  have z0 : E0.size = z := by rw [← hE0]; exact k3.size
  have c0 : E0.count = k := by rw [← hE0]; exact k3.count
  have p0 : E0.planned = [n] := by
    rw [← hE0]
    show addP D2.tick.sync.planned n = [n]
    rw [k3.plan]; rfl
  have o0 : E0.ops = many + 2 := by rw [← hE0]; exact ho3
  have wr0 : E0.writes = many + 1 := by rw [← hE0]; exact hw3
  have cc0 : E0.cached = [] := by rw [← hE0]; exact sync_cached k2.tick.wf
  have s0 : ∀ j, j < k → E0.sector j = D2.cur j := fun j hj => by
    rw [← hE0]
    show D2.tick.sync.sector j = _
    rw [sync_sector k2.tick.wf (by rw [k2.tick.count]; exact hj)]; rfl
  have hf1 := h1.hfirst
  have hf2 := h2.hfirst
  have hsp1 := h1.hspan
  have apart : ∀ j, j ≤ many → ¬ (fst1 ≤ fst2 + j ∧ fst2 + j ≤ fst1 + many) := by
    intro j hj
    rcases h2.hwhich with w | w
    · subst w
      obtain rfl : one = 1 := by omega
      omega
    · subst w
      obtain rfl : one = 0 := by omega
      omega
  have q0 := Kept.refl (S := fun j => fst1 ≤ j ∧ j ≤ fst1 + many) w0 cc0
  obtain ⟨q1, o1, w1⟩ := data_kept h2 z0 c0 q0 hc (fun j hj => apart (1 + j) (by omega))
  rw [hE1] at q1 o1 w1
  obtain ⟨q2, o2, w2⟩ := seal_kept h2 z0 c0 q1 (bs := c) 6 (by have := apart 0 (by omega); simpa using this)
  rw [hE2] at q2 o2 w2
  obtain ⟨q3, o3, w3⟩ := wipe_kept h2 z0 c0 q2 (by have := apart 0 (by omega); simpa using this)
  rw [hE3] at q3 o3 w3
  have q4 := q3.crash ts
  have o4 := (crash_facts q3.wf ts).2.2.2.1
  refine ⟨E0, E1, E2, E3, E3.crash ts, hE0.symm, hE1.symm, hE2.symm, hE3.symm, rfl, w0, q1.wf, q2.wf, q3.wf, q4.wf, o0, wr0, by omega, by omega, by omega, by omega, by omega, by omega, by omega, ?_⟩
  have hcur : ∀ j, j ≤ many → (E3.crash ts).cur (fst1 + j) = D2.cur (fst1 + j) := fun j hj => by
    have := h1.lt (j := j) hj
    rw [q4.cur ⟨by omega, by omega⟩ (by rw [c0]; omega), s0 _ (by omega)]
  have z4 : (E3.crash ts).size = z := q4.size.trans z0
  have c4 : (E3.crash ts).count = k := q4.count.trans c0
  have p4 : (E3.crash ts).planned = [n] := q4.plan.trans p0
  have hc4 : (E3.crash ts).cur fst1 = padB (enc (sealHead b e f s 5)) z := by have := hcur 0 (by omega); rw [Nat.add_zero] at this; rw [this, hcur2]
  have hi4 : ImgIs (E3.crash ts) fst1 many b := himg2.of_cur (z4.trans k2.size.symm) fun j hj => by have := hcur (1 + j) (by omega); rwa [← Nat.add_assoc] at this
  rcases read_maybe h1 q4.wf z4 c4 p4 (by omega : (0 : Int) ≤ 5 ∧ (5 : Int) < 18446744073709551616) hb hc4 hi4 with r | ⟨⟨j, hj, r1, r2⟩, _⟩
  · exact .inl ⟨_, r⟩
  · right
    rcases read_maybe (D := (E3.crash ts).ticks j) h1 (q4.wf.ticks j) z4 c4 p4 (by omega : (0 : Int) ≤ 5 ∧ (5 : Int) < 18446744073709551616) hb hc4 hi4 with r | ⟨_, r3⟩
    · exact ⟨_, _, r1, q4.wf.ticks j, by show (E3.crash ts).ops + j ≤ _; omega, r⟩
    · omega
theorem tears_len {ts : List TearN} (h : tearsOk ts = true) : ts.length ≤ 40 ∧ ∀ t ∈ ts, t.bytes.length ≤ 100 := by
  unfold tearsOk at h
  simp only [Bool.and_eq_true, decide_eq_true_eq, List.all_eq_true] at h
  exact h
set_option maxHeartbeats 8000000 in
theorem law06_SlotApart (e f s : Int) (vb vc : Value) (b c : List UInt8) (z fail : UInt8) (second : Bool) (vt : Value) (ts : List TearN) (hb : RdS σ F vb (b.map byte)) (hc : RdS σ F vc (c.map byte)) (ht : RdT σ F vt ts) [hg : InG F] :
    Fn Tryd.prog σ 4 #[geoV e f s, vb, vc, .int .u8 z.toNat, .bool second, .int .u8 fail.toNat, vt] F (fun r l' => r = .bool true ∧ l' = F) := by
  obtain ⟨pb, cb, rfl, hcb, hrb⟩ := id hb
  obtain ⟨pc, cc, rfl, hcc, hrc⟩ := id hc
  obtain ⟨pt', ct, rfl, hct, hrt⟩ := id ht
  have hlb : (b.map byte).length = b.length := by simp
  have hlc : (c.map byte).length = c.length := by simp
  have haw := fun G [InG G] => law06_awake (σ := σ) (F := G)
  by_cases h1 : fewG e f s = true
  case neg =>
    simp only [Bool.not_eq_true] at h1
    refine Fn.of Tryd.func4 rfl Tryd.ntmps4 rfl ?_
    repeat' (first | (first | (apply JO.ru; exact rfl; exact rfl; exact rfl; (first | (apply Ru.move; exact rfl) | (apply Ru.assign; exact rfl) | (apply Ru.pickT; exact rfl; exact rfl) | (apply Ru.not; exact rfl) | (apply Ru.loadAN; exact rfl; (repeat (first | exact Pick.here | apply Pick.there)); exact rfl; exact rfl))) | refine JC.seq ?_ | refine JC.region ?_ | refine JO.nil ?_ | refine JE.thenN ?_ | refine JE.thenR ?_ | refine JC.ret ?_ | refine JC.condT rfl ?_ | refine JO.guardF rfl rfl rfl rfl rfl rfl rfl ?_ | (apply JO.do; exact rfl; exact rfl; exact rfl; (first | (apply Do.boxN; exact rfl; exact rfl) | (apply Do.box; exact rfl)); rintro _ _ ⟨_, rfl, rfl⟩) | (apply JE.done1; exact rfl; (first | (apply Res.tmp; exact rfl) | (apply Res.cell; exact rfl; (repeat (first | exact Pick.here | apply Pick.there)); exact rfl) | (apply Res.cellAN; exact rfl; (repeat (first | exact Pick.here | apply Pick.there)); exact rfl; exact rfl) | (apply Res.cellA; exact rfl; (repeat (first | exact Pick.here | apply Pick.there)); exact rfl; exact rfl)))) | (first | (apply JO.do; exact rfl; exact rfl; exact rfl; (apply Do.call; exact rfl; exact haw _); rintro _ _ ⟨rfl, hq⟩; obtain rfl := hq.symm) | (apply JQ.call; exact rfl; exact rfl; exact rfl; exact haw _; (rintro _ _ ⟨rfl, rfl⟩; exact ⟨rfl, rfl⟩))) | ((first | (apply JO.do; exact rfl; exact rfl; exact rfl; (apply Do.call; exact rfl; exact ref_Few _ _ _); rintro _ _ ⟨rfl, hq⟩; obtain rfl := hq.symm) | (apply JQ.call; exact rfl; exact rfl; exact rfl; exact ref_Few _ _ _; (rintro _ _ ⟨rfl, rfl⟩; exact ⟨rfl, rfl⟩))); rw [h1]) | (first | (apply JO.do; exact rfl; exact rfl; exact rfl; (apply Do.call; exact rfl; exact ref_Right _ _ _); rintro _ _ ⟨rfl, hq⟩; obtain rfl := hq.symm) | (apply JQ.call; exact rfl; exact rfl; exact rfl; exact ref_Right _ _ _; (rintro _ _ ⟨rfl, rfl⟩; exact ⟨rfl, rfl⟩))))
    all_goals exact ⟨F, Sat.weak (by repeat (first | exact Weak.refl | (apply Weak.cons; (first | exact Pick.here | exact Pick.there Pick.here | exact Pick.there (Pick.there Pick.here) | exact Pick.there (Pick.there (Pick.there Pick.here)) | exact Pick.there (Pick.there (Pick.there (Pick.there Pick.here))) | exact Pick.there (Pick.there (Pick.there (Pick.there (Pick.there Pick.here)))) | exact Pick.there (Pick.there (Pick.there (Pick.there (Pick.there (Pick.there Pick.here))))) | exact Pick.there (Pick.there (Pick.there (Pick.there (Pick.there (Pick.there (Pick.there Pick.here)))))))) | apply Weak.drop)), rfl, rfl⟩
  by_cases h2 : rightG e f s = true
  case neg =>
    simp only [Bool.not_eq_true] at h2
    refine Fn.of Tryd.func4 rfl Tryd.ntmps4 rfl ?_
    repeat' (first | (first | (apply JO.ru; exact rfl; exact rfl; exact rfl; (first | (apply Ru.move; exact rfl) | (apply Ru.assign; exact rfl) | (apply Ru.pickT; exact rfl; exact rfl) | (apply Ru.pickF; exact rfl; exact rfl) | (apply Ru.not; exact rfl) | (apply Ru.loadAN; exact rfl; (repeat (first | exact Pick.here | apply Pick.there)); exact rfl; exact rfl))) | refine JC.seq ?_ | refine JC.region ?_ | refine JO.nil ?_ | refine JE.thenN ?_ | refine JE.thenR ?_ | refine JC.ret ?_ | refine JC.condT rfl ?_ | refine JO.guardF rfl rfl rfl rfl rfl rfl rfl ?_ | refine JO.guardT rfl rfl rfl rfl ?_ | (apply JO.do; exact rfl; exact rfl; exact rfl; (first | (apply Do.boxN; exact rfl; exact rfl) | (apply Do.box; exact rfl)); rintro _ _ ⟨_, rfl, rfl⟩) | (apply JE.done1; exact rfl; (first | (apply Res.tmp; exact rfl) | (apply Res.cell; exact rfl; (repeat (first | exact Pick.here | apply Pick.there)); exact rfl) | (apply Res.cellAN; exact rfl; (repeat (first | exact Pick.here | apply Pick.there)); exact rfl; exact rfl) | (apply Res.cellA; exact rfl; (repeat (first | exact Pick.here | apply Pick.there)); exact rfl; exact rfl)))) | (first | (apply JO.do; exact rfl; exact rfl; exact rfl; (apply Do.call; exact rfl; exact haw _); rintro _ _ ⟨rfl, hq⟩; obtain rfl := hq.symm) | (apply JQ.call; exact rfl; exact rfl; exact rfl; exact haw _; (rintro _ _ ⟨rfl, rfl⟩; exact ⟨rfl, rfl⟩))) | ((first | (apply JO.do; exact rfl; exact rfl; exact rfl; (apply Do.call; exact rfl; exact ref_Few _ _ _); rintro _ _ ⟨rfl, hq⟩; obtain rfl := hq.symm) | (apply JQ.call; exact rfl; exact rfl; exact rfl; exact ref_Few _ _ _; (rintro _ _ ⟨rfl, rfl⟩; exact ⟨rfl, rfl⟩))); rw [h1]) | ((first | (apply JO.do; exact rfl; exact rfl; exact rfl; (apply Do.call; exact rfl; exact ref_Right _ _ _); rintro _ _ ⟨rfl, hq⟩; obtain rfl := hq.symm) | (apply JQ.call; exact rfl; exact rfl; exact rfl; exact ref_Right _ _ _; (rintro _ _ ⟨rfl, rfl⟩; exact ⟨rfl, rfl⟩))); rw [h2]))
    all_goals exact ⟨F, Sat.weak (by repeat (first | exact Weak.refl | (apply Weak.cons; (first | exact Pick.here | exact Pick.there Pick.here | exact Pick.there (Pick.there Pick.here) | exact Pick.there (Pick.there (Pick.there Pick.here)) | exact Pick.there (Pick.there (Pick.there (Pick.there Pick.here))) | exact Pick.there (Pick.there (Pick.there (Pick.there (Pick.there Pick.here)))) | exact Pick.there (Pick.there (Pick.there (Pick.there (Pick.there (Pick.there Pick.here))))) | exact Pick.there (Pick.there (Pick.there (Pick.there (Pick.there (Pick.there (Pick.there Pick.here)))))))) | apply Weak.drop)), rfl, rfl⟩
  by_cases h3 : (b.length : Int) = totG e f s ∧ c.length = b.length
  case neg =>
    refine Fn.of Tryd.func4 rfl Tryd.ntmps4 rfl ?_
    repeat' (first | (first | (apply JO.ru; exact rfl; exact rfl; exact rfl; (first | (apply Ru.move; exact rfl) | (apply Ru.assign; exact rfl) | (apply Ru.lenS; exact rfl) | (apply Ru.neq; exact rfl; exact rfl; (first | exact ndecF (by omega) | exact ndecT (by omega))) | (apply Ru.pickT; exact rfl; exact rfl) | (apply Ru.pickF; exact rfl; exact rfl) | (apply Ru.not; exact rfl) | (apply Ru.loadAN; exact rfl; (repeat (first | exact Pick.here | apply Pick.there)); exact rfl; exact rfl))) | refine JC.seq ?_ | refine JC.region ?_ | refine JO.nil ?_ | refine JE.thenN ?_ | refine JE.thenR ?_ | refine JC.ret ?_ | refine JC.condT rfl ?_ | (apply JO.splitN; exact rfl; exact rfl; exact rfl; (apply Ru.neq; exact rfl; exact rfl; exact rfl); all_goals intro _) | refine JO.guardF rfl rfl rfl rfl rfl rfl rfl ?_ | refine JO.guardT rfl rfl rfl rfl ?_ | (apply JO.do; exact rfl; exact rfl; exact rfl; (first | (apply Do.boxN; exact rfl; exact rfl) | (apply Do.box; exact rfl)); rintro _ _ ⟨_, rfl, rfl⟩) | (apply JE.done1; exact rfl; (first | (apply Res.tmp; exact rfl) | (apply Res.cell; exact rfl; (repeat (first | exact Pick.here | apply Pick.there)); exact rfl) | (apply Res.cellAN; exact rfl; (repeat (first | exact Pick.here | apply Pick.there)); exact rfl; exact rfl) | (apply Res.cellA; exact rfl; (repeat (first | exact Pick.here | apply Pick.there)); exact rfl; exact rfl)))) | (first | (apply JO.do; exact rfl; exact rfl; exact rfl; (apply Do.call; exact rfl; exact haw _); rintro _ _ ⟨rfl, hq⟩; obtain rfl := hq.symm) | (apply JQ.call; exact rfl; exact rfl; exact rfl; exact haw _; (rintro _ _ ⟨rfl, rfl⟩; exact ⟨rfl, rfl⟩))) | ((first | (apply JO.do; exact rfl; exact rfl; exact rfl; (apply Do.call; exact rfl; exact ref_Few _ _ _); rintro _ _ ⟨rfl, hq⟩; obtain rfl := hq.symm) | (apply JQ.call; exact rfl; exact rfl; exact rfl; exact ref_Few _ _ _; (rintro _ _ ⟨rfl, rfl⟩; exact ⟨rfl, rfl⟩))); rw [h1]) | ((first | (apply JO.do; exact rfl; exact rfl; exact rfl; (apply Do.call; exact rfl; exact ref_Right _ _ _); rintro _ _ ⟨rfl, hq⟩; obtain rfl := hq.symm) | (apply JQ.call; exact rfl; exact rfl; exact rfl; exact ref_Right _ _ _; (rintro _ _ ⟨rfl, rfl⟩; exact ⟨rfl, rfl⟩))); rw [h2]) | (first | (apply JO.do; exact rfl; exact rfl; exact rfl; (apply Do.call; exact rfl; exact ref_Total _ _ _); rintro _ _ ⟨rfl, hq⟩; obtain rfl := hq.symm) | (apply JQ.call; exact rfl; exact rfl; exact rfl; exact ref_Total _ _ _; (rintro _ _ ⟨rfl, rfl⟩; exact ⟨rfl, rfl⟩))))
    all_goals first | exact ⟨F, Sat.weak (by repeat (first | exact Weak.refl | (apply Weak.cons; (first | exact Pick.here | exact Pick.there Pick.here | exact Pick.there (Pick.there Pick.here) | exact Pick.there (Pick.there (Pick.there Pick.here)) | exact Pick.there (Pick.there (Pick.there (Pick.there Pick.here))) | exact Pick.there (Pick.there (Pick.there (Pick.there (Pick.there Pick.here)))) | exact Pick.there (Pick.there (Pick.there (Pick.there (Pick.there (Pick.there Pick.here))))) | exact Pick.there (Pick.there (Pick.there (Pick.there (Pick.there (Pick.there (Pick.there Pick.here)))))))) | apply Weak.drop)), rfl, rfl⟩ | (exfalso; omega)
  obtain ⟨h3, h4⟩ := h3
  have htt := few_tot h1 h2
  have hm := sizeOfU_bd z
  have hsp := span_few (z := sizeOfU z) htt
  obtain ⟨m, hm0⟩ : ∃ m, sizeOfU z = m := ⟨_, rfl⟩
  obtain ⟨k, hk0⟩ : ∃ k, (2 * spanG m e f s).toNat = k := ⟨_, rfl⟩
  have hfr := fun G [InG G] => law06_fresh (σ := σ) (F := G) z e f s htt
  simp only [hm0, hk0] at hfr
  rw [hm0] at hm hsp
  have hrdo : ∀ (x : Nat) (r : List HP), RdT σ r (.slice pt' ts.length ct) ts → RdO σ (arr x 45 [.int .u8 0, .int .i64 0, .int .u64 0, .slice none 0 0, .int .u8 0, .slice pt' ts.length ct] :: r) (.slice (some ⟨x, 0, none⟩) 1 1) [⟨0, 0, 0, 0, [], ts⟩] := by
    intro x r hrt
    refine ⟨some ⟨x, 0, none⟩, 1, rfl, Nat.le_refl _, .inr ⟨x, 0, rfl, fun i y hy => ?_⟩⟩
    obtain rfl : i = 0 := by
      rcases Nat.eq_zero_or_pos i with q | q
      · exact q
      · rw [List.getElem?_eq_none (by simp; omega)] at hy; cases hy
    obtain rfl : (⟨0, 0, 0, 0, [], ts⟩ : OpN) = y := by simpa using hy
    refine ⟨.slice none 0 0, .slice pt' ts.length ct, fun w s j u hu => ?_, RdS.nil, hrt.cons⟩
    have := arr_cell (σ := σ) (Pick.here (p := arr x 45 [.int .u8 0, .int .i64 0, .int .u64 0, .slice none 0 0, .int .u8 0, .slice pt' ts.length ct]) (l := r)) w s j
    have e1 : 0 + ((0 : Nat) : Int).toNat * 6 + j = j := by omega
    rw [e1, this]; exact hu
  have hfew := fun (x : Nat) (r : List HP) (hrt : RdT σ r (.slice pt' ts.length ct) ts) => law06_few (σ := σ) _ _ (hrdo x r hrt) (by show 1 ≤ _; omega)
  simp only [few_one 0 0 0 0 [] ts (Nat.zero_le _)] at hfew
  by_cases hs : tearsOk ts = true
  case neg =>
    simp only [Bool.not_eq_true] at hs
    refine Fn.of Tryd.func4 rfl Tryd.ntmps4 rfl ?_
    repeat' (first | (first | (apply JO.ru; exact rfl; exact rfl; exact rfl; (first | (apply Ru.move; exact rfl) | (apply Ru.assign; exact rfl) | (apply Ru.lenS; exact rfl) | (apply Ru.neq; exact rfl; exact rfl; (first | exact ndecF (by omega) | exact ndecT (by omega))) | (apply Ru.pickF; exact rfl; exact rfl) | (apply Ru.not; exact rfl) | (apply Ru.loadAN; exact rfl; (repeat (first | exact Pick.here | apply Pick.there)); exact rfl; exact rfl) | (apply Ru.buildN; exact rfl; exact rfl))) | refine JC.seq ?_ | refine JC.region ?_ | refine JO.nil ?_ | refine JE.thenN ?_ | refine JE.thenR ?_ | refine JC.ret ?_ | refine JC.skip ?_ | refine JC.condT rfl ?_ | refine JC.condF rfl ?_ | refine JO.guardT rfl rfl rfl rfl ?_ | (apply JO.do; exact rfl; exact rfl; exact rfl; (first | (apply Do.boxN; exact rfl; exact rfl) | (apply Do.box; exact rfl)); rintro _ _ ⟨_, rfl, rfl⟩) | (apply JO.do; exact rfl; exact rfl; exact rfl; (first | (apply Do.buildSliceN; exact rfl; exact rfl; exact rfl; exact rfl) | (apply Do.buildSlice; exact rfl; exact rfl; exact rfl; exact rfl)); rintro _ _ ⟨_, rfl, rfl⟩) | (apply JE.done1; exact rfl; (first | (apply Res.tmp; exact rfl) | (apply Res.cell; exact rfl; (repeat (first | exact Pick.here | apply Pick.there)); exact rfl) | (apply Res.cellAN; exact rfl; (repeat (first | exact Pick.here | apply Pick.there)); exact rfl; exact rfl) | (apply Res.cellA; exact rfl; (repeat (first | exact Pick.here | apply Pick.there)); exact rfl; exact rfl)))) | (first | (apply JO.do; exact rfl; exact rfl; exact rfl; (apply Do.call; exact rfl; exact haw _); rintro _ _ ⟨rfl, hq⟩; obtain rfl := hq.symm) | (apply JQ.call; exact rfl; exact rfl; exact rfl; exact haw _; (rintro _ _ ⟨rfl, rfl⟩; exact ⟨rfl, rfl⟩))) | ((first | (apply JO.do; exact rfl; exact rfl; exact rfl; (apply Do.call; exact rfl; exact ref_Few _ _ _); rintro _ _ ⟨rfl, hq⟩; obtain rfl := hq.symm) | (apply JQ.call; exact rfl; exact rfl; exact rfl; exact ref_Few _ _ _; (rintro _ _ ⟨rfl, rfl⟩; exact ⟨rfl, rfl⟩))); rw [h1]) | ((first | (apply JO.do; exact rfl; exact rfl; exact rfl; (apply Do.call; exact rfl; exact ref_Right _ _ _); rintro _ _ ⟨rfl, hq⟩; obtain rfl := hq.symm) | (apply JQ.call; exact rfl; exact rfl; exact rfl; exact ref_Right _ _ _; (rintro _ _ ⟨rfl, rfl⟩; exact ⟨rfl, rfl⟩))); rw [h2]) | (first | (apply JO.do; exact rfl; exact rfl; exact rfl; (apply Do.call; exact rfl; exact ref_Total _ _ _); rintro _ _ ⟨rfl, hq⟩; obtain rfl := hq.symm) | (apply JQ.call; exact rfl; exact rfl; exact rfl; exact ref_Total _ _ _; (rintro _ _ ⟨rfl, rfl⟩; exact ⟨rfl, rfl⟩))) | (apply JO.do; exact rfl; exact rfl; exact rfl; (apply Do.call; exact rfl; exact hfr _); rintro _ _ ⟨d, rfl, rfl⟩) | ((apply JO.do; exact rfl; exact rfl; exact rfl; (apply Do.call; exact rfl; exact hfew _ _ ht.cons); rintro _ _ ⟨rfl, rfl⟩); rw [hs]))
    all_goals exact ⟨F, Sat.weak (by repeat (first | exact Weak.refl | (apply Weak.cons; (first | exact Pick.here | exact Pick.there Pick.here | exact Pick.there (Pick.there Pick.here) | exact Pick.there (Pick.there (Pick.there Pick.here)) | exact Pick.there (Pick.there (Pick.there (Pick.there Pick.here))) | exact Pick.there (Pick.there (Pick.there (Pick.there (Pick.there Pick.here)))) | exact Pick.there (Pick.there (Pick.there (Pick.there (Pick.there (Pick.there Pick.here))))) | exact Pick.there (Pick.there (Pick.there (Pick.there (Pick.there (Pick.there (Pick.there Pick.here)))))))) | apply Weak.drop)), rfl, rfl⟩
  obtain ⟨hs1, hs2⟩ := tears_len hs
  have hw0 : ∃ w : Int, (if second = true then 1 else 0) = w ∧ (w = 0 ∨ w = 1) := by cases second <;> exact ⟨_, rfl, by simp⟩
  obtain ⟨w, hw, hw1⟩ := hw0
  have hh1 := Here.of (k := k) h2 hw1 (by omega : 32 ≤ m ∧ m ≤ 4096) (by omega)
  have hh2 := Here.of (k := k) (which := 1 - w) h2 (by omega) (by omega : 32 ≤ m ∧ m ≤ 4096) (by omega)
  obtain ⟨fst1, hfst1⟩ : ∃ x, (w * spanG m e f s).toNat = x := ⟨_, rfl⟩
  obtain ⟨fst2, hfst2⟩ : ∃ x, ((1 - w) * spanG m e f s).toNat = x := ⟨_, rfl⟩
  obtain ⟨many, hmany⟩ : ∃ x, (secs (totG e f s) m).toNat = x := ⟨_, rfl⟩
  rw [hfst1, hmany] at hh1
  rw [hfst2, hmany] at hh2
  have hml : many ≤ 500 := by
    have := secs_bd (m := totG e f s) (s := (m : Int)) (totG_bd e f s).1
    omega
  obtain ⟨D1, D2, p1, p2, q0, q1, q2, o1, w1, o2, w2, o3, w3, rest⟩ := apart_plain hh1 hh2 (by omega) (by omega) h3 (by omega : (c.length : Int) = totG e f s) fail.toNat ts
  obtain ⟨n, hn⟩ : ∃ n : Int, ((many + 2 : Nat) : Int) + 1 + fail.toNat = n := ⟨_, rfl⟩
  obtain ⟨E0, E1, E2, E3, E4, r0, r1, r2, r3, r4, wf0, wf1, wf2, wf3, wf4, oe0, we0, oe1, we1, oe2, we2, oe3, we3, oe4, out⟩ := rest n hn.symm
  have hbl : b.length ≤ 100000000 := by omega
  have hcl : c.length ≤ 100000000 := by omega
  have hfl := UInt8.toNat_lt fail
  have hf0 : (freshN k m).ops = 0 ∧ (freshN k m).writes = 0 := ⟨rfl, rfl⟩
  have c1 := fun (d : Nat) (G : List HP) [InG G] (hv : RdS σ G (.slice pb (b.map byte).length cb) (b.map byte)) => slot_DataE (σ := σ) (d := d) p1 hbl q0.wf (by omega) (by omega) (l := G) hv
  have c2 := fun (d : Nat) (G : List HP) [InG G] (hv : RdS σ G (.slice pb (b.map byte).length cb) (b.map byte)) => slot_SealE (σ := σ) (d := d) p2 (by omega) hbl q1.wf (by omega) (by omega) (l := G) hv
  have c3 := fun (d : Nat) (G : List HP) => disk_SyncE (σ := σ) (F := G) (d := d) q2 (by omega) (by omega)
  have wfs : D2.tick.sync.WF := (q2.tick.sync).wf
  have c4 := fun (d : Nat) (G : List HP) => disk_OpsC (σ := σ) d D2.tick.sync (l := diskHP d D2.tick.sync :: G) Pick.here
  simp only [o3] at c4
  have c5 := fun (d : Nat) (G : List HP) => disk_Fail (σ := σ) (F := G) d D2.tick.sync n (by omega)
  simp only [← r0] at c5
  have c6 := fun (d : Nat) (G : List HP) [InG G] (hv : RdS σ G (.slice pc (c.map byte).length cc) (c.map byte)) => slot_Data (σ := σ) d E0 (1 - w) e f s _ c hcl wf0 (by omega) (by omega) (l := G) hv
  simp only [← r1] at c6
  have c7 := fun (d : Nat) (G : List HP) [InG G] (hv : RdS σ G (.slice pc (c.map byte).length cc) (c.map byte)) => slot_SealR (σ := σ) d E1 (1 - w) e f s 6 _ c (by omega) hcl wf1 (by omega) (by omega) (l := G) hv
  simp only [← r2] at c7
  have c8 := fun (d : Nat) (G : List HP) [InG G] => slot_WipeR (σ := σ) (F := G) d E2 (1 - w) e f s wf2 (by omega) (by omega)
  simp only [← r3] at c8
  have c9 := fun (d : Nat) (G : List HP) (hv : RdT σ G (.slice pt' ts.length ct) ts) => disk_Crash (σ := σ) d E3 _ ts wf3 (by omega) (by omega) (fun t h => by have := hs2 t h; omega) (l := G) hv
  simp only [← r4] at c9
  refine Fn.of Tryd.func4 rfl Tryd.ntmps4 rfl ?_
  repeat' (first | (first | (apply JO.ru; exact rfl; exact rfl; exact rfl; (first | (apply Ru.move; exact rfl) | (apply Ru.assign; exact rfl) | (apply Ru.lenS; exact rfl) | (apply Ru.neq; exact rfl; exact rfl; (first | exact ndecF (by omega) | exact ndecT (by omega))) | (apply Ru.pickF; exact rfl; exact rfl) | (apply Ru.not; exact rfl) | (apply Ru.loadAN; exact rfl; (repeat (first | exact Pick.here | apply Pick.there)); exact rfl; exact rfl) | (apply Ru.buildN; exact rfl; exact rfl) | (apply Ru.eqlPN; exact rfl; exact rfl))) | refine JC.seq ?_ | refine JC.region ?_ | refine JO.nil ?_ | refine JE.thenN ?_ | refine JC.skip ?_ | refine JC.condF rfl ?_ | refine JO.guardT rfl rfl rfl rfl ?_ | (apply JO.do; exact rfl; exact rfl; exact rfl; (first | (apply Do.boxN; exact rfl; exact rfl) | (apply Do.box; exact rfl)); rintro _ _ ⟨_, rfl, rfl⟩) | (apply JO.do; exact rfl; exact rfl; exact rfl; (first | (apply Do.buildSliceN; exact rfl; exact rfl; exact rfl; exact rfl) | (apply Do.buildSlice; exact rfl; exact rfl; exact rfl; exact rfl)); rintro _ _ ⟨_, rfl, rfl⟩)) | (first | (apply JO.do; exact rfl; exact rfl; exact rfl; (apply Do.call; exact rfl; exact haw _); rintro _ _ ⟨rfl, hq⟩; obtain rfl := hq.symm) | (apply JQ.call; exact rfl; exact rfl; exact rfl; exact haw _; (rintro _ _ ⟨rfl, rfl⟩; exact ⟨rfl, rfl⟩))) | ((first | (apply JO.do; exact rfl; exact rfl; exact rfl; (apply Do.call; exact rfl; exact ref_Few _ _ _); rintro _ _ ⟨rfl, hq⟩; obtain rfl := hq.symm) | (apply JQ.call; exact rfl; exact rfl; exact rfl; exact ref_Few _ _ _; (rintro _ _ ⟨rfl, rfl⟩; exact ⟨rfl, rfl⟩))); rw [h1]) | ((first | (apply JO.do; exact rfl; exact rfl; exact rfl; (apply Do.call; exact rfl; exact ref_Right _ _ _); rintro _ _ ⟨rfl, hq⟩; obtain rfl := hq.symm) | (apply JQ.call; exact rfl; exact rfl; exact rfl; exact ref_Right _ _ _; (rintro _ _ ⟨rfl, rfl⟩; exact ⟨rfl, rfl⟩))); rw [h2]) | (first | (apply JO.do; exact rfl; exact rfl; exact rfl; (apply Do.call; exact rfl; exact ref_Total _ _ _); rintro _ _ ⟨rfl, hq⟩; obtain rfl := hq.symm) | (apply JQ.call; exact rfl; exact rfl; exact rfl; exact ref_Total _ _ _; (rintro _ _ ⟨rfl, rfl⟩; exact ⟨rfl, rfl⟩))) | (apply JO.do; exact rfl; exact rfl; exact rfl; (apply Do.call; exact rfl; exact hfr _); rintro _ _ ⟨d, rfl, rfl⟩) | ((apply JO.do; exact rfl; exact rfl; exact rfl; (apply Do.call; exact rfl; exact hfew _ _ ht.cons); rintro _ _ ⟨rfl, rfl⟩); rw [hs]))
  rename_i gb xb d
  have hcase : ∀ (q : Bool), second = q → (if q = true then (1 : Int) else 0) = w := fun q h => h ▸ hw
  cases second
  all_goals
    have hw2 := hcase _ rfl
    clear hcase
    simp only [Bool.false_eq_true, if_true, if_false] at hw2
    subst hw2
    simp only [Int.sub_zero, Int.sub_self] at c6 c7 c8
    repeat' (first | (first | (apply JO.ru; exact rfl; exact rfl; exact rfl; (first | (apply Ru.move; exact rfl) | (apply Ru.assign; exact rfl) | (apply Ru.neq; exact rfl; exact rfl; (first | exact ndecF (by omega) | exact ndecT (by omega))) | (apply Ru.add; exact rfl; exact rfl; (first | exact wrapI (by omega) (by omega) | exact rfl)) | (apply Ru.pickF; exact rfl; exact rfl) | (apply Ru.loadAN; exact rfl; (repeat (first | exact Pick.here | apply Pick.there)); exact rfl; exact rfl) | (apply Ru.conv; exact rfl; exact rfl))) | refine JC.seq ?_ | refine JC.region ?_ | refine JO.nil ?_ | refine JE.thenN ?_ | refine JC.skip ?_ | refine JC.condT rfl ?_ | refine JC.condF rfl ?_ | refine JO.guardT rfl rfl rfl rfl ?_) | (apply JO.do; exact rfl; exact rfl; exact rfl; (apply Do.call; exact rfl; exact c1 _ _ hb.cons.cons); rintro _ _ ⟨rfl, rfl⟩) | (apply JO.do; exact rfl; exact rfl; exact rfl; (apply Do.call; exact rfl; exact c2 _ _ hb.cons.cons); rintro _ _ ⟨rfl, rfl⟩) | (apply JO.do; exact rfl; exact rfl; exact rfl; (apply Do.call; exact rfl; exact c3 _ _); rintro _ _ ⟨rfl, rfl⟩) | (apply JO.do; exact rfl; exact rfl; exact rfl; (apply Do.call; exact rfl; exact c4 _ _); rintro _ _ ⟨rfl, rfl⟩))
    have e1 : IntKind.i64.wrap (fail.toNat : Int) = fail.toNat := wrapI (by omega) (by omega)
    have e2 : IntKind.i64.wrap (((many + 2 : Nat) : Int) + 1 + fail.toNat) = n := by rw [wrapI (by omega) (by omega)]; exact hn
    rw [e1, e2]
    repeat' (first | (first | (apply JO.ru; exact rfl; exact rfl; exact rfl; (first | (apply Ru.move; exact rfl) | (apply Ru.loadAN; exact rfl; (repeat (first | exact Pick.here | apply Pick.there)); exact rfl; exact rfl))) | refine JC.seq ?_ | refine JC.region ?_ | refine JO.nil ?_ | refine JE.thenN ?_) | (apply JO.do; exact rfl; exact rfl; exact rfl; (apply Do.call; exact rfl; exact c5 _ _); rintro _ _ ⟨rfl, rfl⟩) | (apply JO.do; exact rfl; exact rfl; exact rfl; (apply Do.call; exact rfl; exact c6 _ _ hc.cons.cons); rintro _ _ ⟨rfl, rfl⟩) | (apply JO.do; exact rfl; exact rfl; exact rfl; (apply Do.call; exact rfl; exact c7 _ _ hc.cons.cons); rintro _ _ ⟨rfl, rfl⟩) | (apply JO.do; exact rfl; exact rfl; exact rfl; (apply Do.call; exact rfl; exact c8 _ _); rintro _ _ ⟨rfl, rfl⟩) | (apply JO.do; exact rfl; exact rfl; exact rfl; (apply Do.call; exact rfl; exact c9 _ _ ht.cons.cons); rintro _ _ ⟨rfl, rfl⟩))
    rcases out with ⟨D', g⟩ | ⟨D', D'', g1, gw, go, g2⟩
    · (apply JO.do; exact rfl; exact rfl; exact rfl; (apply Do.call; exact rfl; exact slot_ReadE g wf4 (by omega)); rintro _ _ ⟨u, rfl, rfl⟩)
      repeat' (first | (apply JO.ru; exact rfl; exact rfl; exact rfl; (first | (apply Ru.move; exact rfl) | (apply Ru.extractN; exact rfl; exact rfl))) | (apply JO.do; exact rfl; exact rfl; exact rfl; (first | (apply Do.allocN; exact rfl) | apply Do.alloc); rintro _ _ ⟨_, rfl, rfl⟩))
      refine JO.ownR (Pick.there Pick.here) fun _ _ hsh => ?_
      obtain ⟨p1, n1, m1, rfl⟩ : ∃ p n c, u = .slice p n c := by
        rcases hsh with ⟨rfl, _⟩ | ⟨b, c, rfl, _⟩ <;> exact ⟨_, _, _, rfl⟩
      clear hsh
      repeat' (first | (apply JO.ru; exact rfl; exact rfl; exact rfl; (first | (apply Ru.move; exact rfl) | (apply Ru.loadN; exact rfl; (repeat (first | exact Pick.here | apply Pick.there)); exact rfl) | (apply Ru.fieldAddr; exact rfl) | (apply Ru.assign; exact rfl) | (apply Ru.eql; exact rfl; exact rfl; (first | exact decT (by omega) | exact decF (by omega))) | (apply Ru.pickT; exact rfl; exact rfl))) | refine JC.seq ?_ | refine JC.region ?_ | refine JO.nil ?_ | refine JE.thenN ?_ | refine JC.skip ?_ | refine JC.condF rfl ?_ | refine JO.guardT rfl rfl rfl rfl ?_ | (apply JO.do0; exact rfl; exact rfl; (first | (apply Do.storeAN; exact rfl; exact rfl; (repeat (first | exact Pick.here | apply Pick.there)); exact rfl; exact rfl; exact rfl; exact rfl) | (apply Do.storeA; exact rfl; exact rfl; (repeat (first | exact Pick.here | apply Pick.there)); exact rfl; exact rfl; exact rfl)); rintro _ _ ⟨rfl, rfl⟩))
      refine JO.ownR (Pick.there Pick.here) fun hri _ _ => ?_
      (apply JO.do; exact rfl; exact rfl; exact rfl; (apply Do.call; exact rfl; exact ref_Same _ _ b b (by omega) hri hb.cons.cons.cons.cons.cons); rintro _ _ ⟨rfl, rfl⟩)
      rw [decide_eq_true (rfl : b = b)]
      repeat' (first | (apply JO.ru; exact rfl; exact rfl; exact rfl; (first | (apply Ru.assign; exact rfl) | (apply Ru.pickT; exact rfl; exact rfl))) | refine JO.nil ?_ | refine JE.thenN ?_ | refine JC.ret ?_ | (apply JE.done1; exact rfl; (first | (apply Res.tmp; exact rfl) | (apply Res.cell; exact rfl; (repeat (first | exact Pick.here | apply Pick.there)); exact rfl) | (apply Res.cellAN; exact rfl; (repeat (first | exact Pick.here | apply Pick.there)); exact rfl; exact rfl) | (apply Res.cellA; exact rfl; (repeat (first | exact Pick.here | apply Pick.there)); exact rfl; exact rfl))))
      exact ⟨F, Sat.weak (by repeat (first | exact Weak.refl | (apply Weak.cons; (first | exact Pick.here | exact Pick.there Pick.here | exact Pick.there (Pick.there Pick.here) | exact Pick.there (Pick.there (Pick.there Pick.here)) | exact Pick.there (Pick.there (Pick.there (Pick.there Pick.here))) | exact Pick.there (Pick.there (Pick.there (Pick.there (Pick.there Pick.here)))) | exact Pick.there (Pick.there (Pick.there (Pick.there (Pick.there (Pick.there Pick.here))))) | exact Pick.there (Pick.there (Pick.there (Pick.there (Pick.there (Pick.there (Pick.there Pick.here)))))))) | apply Weak.drop)), rfl, rfl⟩
    · (apply JO.do; exact rfl; exact rfl; exact rfl; (apply Do.call; exact rfl; exact slot_ReadE g1 wf4 (by omega)); rintro _ _ ⟨u, rfl, rfl⟩)
      repeat' (first | (apply JO.ru; exact rfl; exact rfl; exact rfl; (first | (apply Ru.move; exact rfl) | (apply Ru.extractN; exact rfl; exact rfl))) | (apply JO.do; exact rfl; exact rfl; exact rfl; (first | (apply Do.allocN; exact rfl) | apply Do.alloc); rintro _ _ ⟨_, rfl, rfl⟩))
      refine JO.ownR (Pick.there Pick.here) fun _ _ hsh => ?_
      obtain ⟨p1, n1, m1, rfl⟩ : ∃ p n c, u = .slice p n c := by
        rcases hsh with ⟨rfl, _⟩ | ⟨b, c, rfl, _⟩ <;> exact ⟨_, _, _, rfl⟩
      clear hsh
      repeat' (first | (apply JO.ru; exact rfl; exact rfl; exact rfl; (first | (apply Ru.move; exact rfl) | (apply Ru.assign; exact rfl) | (apply Ru.eql; exact rfl; exact rfl; (first | exact decT (by omega) | exact decF (by omega))) | (apply Ru.loadAN; exact rfl; (repeat (first | exact Pick.here | apply Pick.there)); exact rfl; exact rfl))) | refine JC.seq ?_ | refine JC.region ?_ | refine JO.nil ?_ | refine JE.thenN ?_ | refine JC.condT rfl ?_ | (apply JO.do0; exact rfl; exact rfl; (first | (apply Do.storeAN; exact rfl; exact rfl; (repeat (first | exact Pick.here | apply Pick.there)); exact rfl; exact rfl; exact rfl; exact rfl) | (apply Do.storeA; exact rfl; exact rfl; (repeat (first | exact Pick.here | apply Pick.there)); exact rfl; exact rfl; exact rfl)); rintro _ _ ⟨rfl, rfl⟩))
      refine JO.pick (Pick.there (Pick.there Pick.here)) ?_
      (apply JO.do; exact rfl; exact rfl; exact rfl; (apply Do.call; exact rfl; exact slot_ReadE g2 gw (by omega)); rintro _ _ ⟨u, rfl, rfl⟩)
      repeat' ((apply JO.ru; exact rfl; exact rfl; exact rfl; (first | (apply Ru.move; exact rfl) | (apply Ru.extractN; exact rfl; exact rfl))))
      refine JO.ownR Pick.here fun _ _ hsh => ?_
      obtain ⟨p2, n2, m2, rfl⟩ : ∃ p n c, u = .slice p n c := by
        rcases hsh with ⟨rfl, _⟩ | ⟨b, c, rfl, _⟩ <;> exact ⟨_, _, _, rfl⟩
      clear hsh
      repeat' (first | (apply JO.ru; exact rfl; exact rfl; exact rfl; (first | (apply Ru.move; exact rfl) | (apply Ru.loadN; exact rfl; (repeat (first | exact Pick.here | apply Pick.there)); exact rfl) | (apply Ru.fieldAddr; exact rfl) | (apply Ru.assign; exact rfl) | (apply Ru.eql; exact rfl; exact rfl; (first | exact decT (by omega) | exact decF (by omega))) | (apply Ru.pickT; exact rfl; exact rfl))) | refine JC.seq ?_ | refine JC.region ?_ | refine JO.nil ?_ | refine JE.thenN ?_ | refine JO.guardT rfl rfl rfl rfl ?_ | (apply JO.do0; exact rfl; exact rfl; (first | (apply Do.storeAN; exact rfl; exact rfl; (repeat (first | exact Pick.here | apply Pick.there)); exact rfl; exact rfl; exact rfl; exact rfl) | (apply Do.storeA; exact rfl; exact rfl; (repeat (first | exact Pick.here | apply Pick.there)); exact rfl; exact rfl; exact rfl)); rintro _ _ ⟨rfl, rfl⟩))
      refine JO.ownR (Pick.there Pick.here) fun hri _ _ => ?_
      (apply JO.do; exact rfl; exact rfl; exact rfl; (apply Do.call; exact rfl; exact ref_Same _ _ b b (by omega) hri hb.cons.cons.cons.cons.cons.cons); rintro _ _ ⟨rfl, rfl⟩)
      rw [decide_eq_true (rfl : b = b)]
      repeat' (first | (apply JO.ru; exact rfl; exact rfl; exact rfl; (first | (apply Ru.assign; exact rfl) | (apply Ru.pickT; exact rfl; exact rfl))) | refine JO.nil ?_ | refine JE.thenN ?_ | refine JC.ret ?_ | (apply JE.done1; exact rfl; (first | (apply Res.tmp; exact rfl) | (apply Res.cell; exact rfl; (repeat (first | exact Pick.here | apply Pick.there)); exact rfl) | (apply Res.cellAN; exact rfl; (repeat (first | exact Pick.here | apply Pick.there)); exact rfl; exact rfl) | (apply Res.cellA; exact rfl; (repeat (first | exact Pick.here | apply Pick.there)); exact rfl; exact rfl))))
      exact ⟨F, Sat.weak (by repeat (first | exact Weak.refl | (apply Weak.cons; (first | exact Pick.here | exact Pick.there Pick.here | exact Pick.there (Pick.there Pick.here) | exact Pick.there (Pick.there (Pick.there Pick.here)) | exact Pick.there (Pick.there (Pick.there (Pick.there Pick.here))) | exact Pick.there (Pick.there (Pick.there (Pick.there (Pick.there Pick.here)))) | exact Pick.there (Pick.there (Pick.there (Pick.there (Pick.there (Pick.there Pick.here))))) | exact Pick.there (Pick.there (Pick.there (Pick.there (Pick.there (Pick.there (Pick.there Pick.here)))))))) | apply Weak.drop)), rfl, rfl⟩
end Go.Sep
/- SlotApart: what is done with one slot changes nothing of the other one, also if it fails, or is torn: for every input of which the statement speaks. -/
namespace Go.Proofs.YtbpilaghemkdjaaDoor
open Go Go.Sep Go.ChangeShapes Go.WideShapes Go.ChangeAt Go.WideMaps Go.WideElems Go.RowKit
set_option maxRecDepth 100000 in
theorem apart_lifted (os : Os) (started : os.Started) (H : Type) (enc : TypeId × Value → H) :
    ReturnsInHanded {} Tryd.checked os 4 .any (fun w args => (Rows.slotApartSpec.pre enc Tryd.prog Tryd.f4 [] false w args ∧ laidMetH Tryd.prog [("keepsake/geo.rows", Rows.laid_keepsake_geo_rows)] w) ∧ sizedMet enc Tryd.prog Tryd.f4 (OpenSpec.ofChange Rows.slotApartSpec) false w args)
      (Rows.slotApartSpec.post enc Tryd.prog Tryd.f4 false true false false) := by
  refine returnsInHanded_of_change_and (C := Tryd.checked) (X := fun w _ => laidMetH Tryd.prog [("keepsake/geo.rows", Rows.laid_keepsake_geo_rows)] w) (fun _ _ _ hh h => h.of_heap hh) own0 started (by kernel_rfl) Tryd.func4
    (ChangeSpec.witness_shaped (enc := enc) (C := Tryd.checked) (os := os) (X := fun w _ => laidMetH Tryd.prog [("keepsake/geo.rows", Rows.laid_keepsake_geo_rows)] w) false (World.doorLaid Tryd.prog 25 os) #[.agg #[.int .i64 0, .int .i64 0, .int .i64 0], .slice none 0 0, .slice none 0 0, .int .u8 0, .bool false, .int .u8 0, .slice none 0 0] 8 rfl (World.shaped_of_RefB (by kernel_rfl) (by kernel_rfl)) (by kernel_rfl) (by kernel_rfl) (by kernel_rfl) (door0 os _)) ?_
  intro W base args ds gs before hval0 hW _ _ hL _
  have hval : ∀ (j : Nat) t v, Tryd.f4.params[j]? = some t → args[j]? = some v → Value.okWide Tryd.prog W .any base t v := hval0
  have hW0 : DataW.Whole enc Tryd.prog Tryd.f4.params.toList Rows.slotApartSpec.vars false W args.toList ds gs before := hW
  obtain ⟨p, q, hA, hV, hpq, hrest⟩ := id hW0
  obtain ⟨rfl, rfl⟩ := trodVars_none hV
  rw [Tryd.params4] at hA hval
  obtain ⟨v0, r0, d0, y0, p0, q0, a0, rfl, _, t0, k0⟩ := trodAll_cons hA
  obtain ⟨v1, r1, d1, y1, p1, q1, a1, rfl, _, t1, k1⟩ := trodAll_cons k0
  obtain ⟨v2, r2, d2, y2, p2, q2, a2, rfl, _, t2, k2⟩ := trodAll_cons k1
  obtain ⟨v3, r3, d3, y3, p3, q3, a3, rfl, _, t3, k3⟩ := trodAll_cons k2
  obtain ⟨v4, r4, d4, y4, p4, q4, a4, rfl, _, t4, k4⟩ := trodAll_cons k3
  obtain ⟨v5, r5, d5, y5, p5, q5, a5, rfl, _, t5, k5⟩ := trodAll_cons k4
  obtain ⟨v6, r6, d6, y6, p6, q6, a6, rfl, _, t6, k6⟩ := trodAll_cons k5
  obtain ⟨a7, rfl, _⟩ := trodAll_nil k6
  obtain rfl : args = #[v0, v1, v2, v3, v4, v5, v6] := by
    apply Array.ext'
    rw [a0, a1, a2, a3, a4, a5, a6, a7]
  obtain ⟨e0, f0, s0, rfl⟩ := arg_geo (hval 0 _ v0 rfl rfl) t0
  obtain ⟨bs1, hbs1⟩ := arg_bs (hval 1 _ v1 rfl rfl) t1
  obtain ⟨bs2, hbs2⟩ := arg_bs (hval 2 _ v2 rfl rfl) t2
  obtain ⟨z3, rfl⟩ := arg_u8 (hval 3 _ v3 rfl rfl) t3
  obtain ⟨b4, rfl⟩ := arg_b (hval 4 _ v4 rfl rfl) t4
  obtain ⟨z5, rfl⟩ := arg_u8 (hval 5 _ v5 rfl rfl) t5
  obtain ⟨ts6, hts6, hl6⟩ := arg_tears (hval 6 _ v6 rfl rfl) t6
  have := inG_mem hL
  have hfn := law06_SlotApart (σ := sigOf W) (F := [memHP W]) e0 f0 s0 v1 v2 bs1 bs2 z3 z5 b4 v6 ts6 (RdS.ofC hbs1) (RdS.ofC hbs2) (RdT.ofC hts6) W (mem_start W)
  refine hfn.mono ?_
  rintro e W' ⟨v, l', rfl, ⟨rfl, rfl⟩, s'⟩
  exact ⟨_, rfl, post_true lo0 hW0 rfl ⟨rfl, rfl, rfl⟩ (show Tryd.f4.resultTypes = #[4] by kernel_rfl) Tryd.underlying4 (by
    rw [Tryd.params4]
    have hall : ([23, 24, 24, 5, 4, 5, 42].all fun t => Tryd.prog.readableRec t && decide (t < Tryd.prog.types.size)) = true := by kernel_rfl
    intro t ht
    have hm : t ∈ [23, 24, 24, 5, 4, 5, 42] := by simpa using ht
    simpa using List.all_eq_true.1 hall t hm) (mem_below s')⟩
theorem apart_row : Rows.SlotApartSaid :=
  OpenClaim.holds_of_wide 4 Tryd.f4 rfl rfl rfl rfl rfl rfl rfl ⟨rfl, rfl, rfl, rfl, rfl⟩ rfl rfl rfl rfl rfl (by kernel_rfl) Tryd.func4 (by kernel_rfl)
    (of_decide_eq_true (by kernel_rfl)) (by unfold Func.isWrapper; first | (rw [if_pos (by decide +kernel)]; kernel_rfl) | (rw [if_neg (by decide +kernel)]; exact ⟨rfl, rfl⟩))
    (fun os started H enc _ => apart_lifted os started H enc)
theorem slotApart_holds : Rows.SlotApartCardSaid :=
  Claim7.holds_tied_plain_at .later [] [.data] true (true, "286cfe8a6d390c54ff701b75c4d15572c59fbe76a01d06601093e04ee5e91cc0") false
    apart_row (fun _ h => by cases h) (by kernel_rfl) (fun _ h => by cases h) slotApart_row_tie rfl ⟨rfl, rfl⟩ (by kernel_rfl) rfl
    (fun f fn hf hfn => by
      obtain rfl : f = 4 := Option.some.inj ((show Tryd.prog.funcNamed "keepsake/keepsakelaw06.SlotApart" = some 4 by kernel_rfl).symm.trans hf) |>.symm
      obtain rfl : fn = Tryd.f4 := (Option.some.inj (Tryd.func4.symm.trans hfn)).symm
      exact ⟨by kernel_rfl, fun j t ht => by
        rw [Tryd.params4] at ht
        have hm : t ∈ [23, 24, 24, 5, 4, 5, 42] := by simpa using Array.mem_of_getElem? ht
        have hall : ([23, 24, 24, 5, 4, 5, 42].all fun u => !Tryd.prog.wantsStandIn u) = true := by kernel_rfl
        exact (show Tryd.prog.wantsStandIn t = false by simpa using List.all_eq_true.1 hall t hm)⟩)
    (by kernel_rfl)
#print axioms slotApart_holds
end Go.Proofs.YtbpilaghemkdjaaDoor
