/- ShadowStale: behind a commit that failed nothing is committed till it is opened again: for every input of which the statement speaks. -/
import Derived.Test.YtbpilaghemkdjaaGreatDoorPs6
set_option linter.all false
/- ShadowStale. -/
namespace Go.Sep
open Go Go.Proofs
attribute [local irreducible] JO JC JE JA JQ JB JI Mid Inv Weak ownS Ru Do Fn Sat Pick Take arr pt star ex Holds bodyPost Post Exit.then Exit.inBlock Res
variable {σ : Sig} {F : List HP}
attribute [local irreducible] shadHP diskHP cacheHP planHP rowHP FnX PostX
set_option maxHeartbeats 8000000 in
theorem law07_ShadowStale (e f s : Int) (z z2 : UInt8) [hg : InG F] :
    Fn Tryz.prog σ 5 #[geoV e f s, .int .u8 z.toNat, .int .u8 z2.toNat] F (fun r l' => r = .bool true ∧ l' = F) := by
  have haw := fun (G : List HP) [InG G] => law07_awake (σ := σ) (F := G)
  by_cases h1 : fewG e f s = true
  case neg =>
    simp only [Bool.not_eq_true] at h1
    refine Fn.of Tryz.func5 rfl Tryz.ntmps5 rfl ?_
    repeat' (first | (first | (apply JO.ru; exact rfl; exact rfl; exact rfl; (first | (apply Ru.move; exact rfl) | (apply Ru.assign; exact rfl) | (apply Ru.pickT; exact rfl; exact rfl) | (apply Ru.not; exact rfl) | (apply Ru.loadAN; exact rfl; (repeat (first | exact Pick.here | apply Pick.there)); exact rfl; exact rfl))) | refine JC.seq ?_ | refine JC.region ?_ | refine JO.nil ?_ | refine JE.thenN ?_ | refine JE.thenR ?_ | refine JC.ret ?_ | refine JC.condT rfl ?_ | refine JO.guardF rfl rfl rfl rfl rfl rfl rfl ?_ | (apply JO.do; exact rfl; exact rfl; exact rfl; (first | (apply Do.boxN; exact rfl; exact rfl) | (apply Do.box; exact rfl)); rintro _ _ ⟨_, rfl, rfl⟩) | (apply JE.done1; exact rfl; (first | (apply Res.tmp; exact rfl) | (apply Res.cell; exact rfl; (repeat (first | exact Pick.here | apply Pick.there)); exact rfl) | (apply Res.cellAN; exact rfl; (repeat (first | exact Pick.here | apply Pick.there)); exact rfl; exact rfl) | (apply Res.cellA; exact rfl; (repeat (first | exact Pick.here | apply Pick.there)); exact rfl; exact rfl)))) | refine JO.guardU rfl rfl rfl rfl rfl rfl ?_ | (first | (apply JO.do; exact rfl; exact rfl; exact rfl; (apply Do.call; exact rfl; exact haw _); rintro _ _ ⟨rfl, hq⟩; obtain rfl := hq.symm) | (apply JQ.call; exact rfl; exact rfl; exact rfl; exact haw _; (rintro _ _ ⟨rfl, rfl⟩; exact ⟨rfl, rfl⟩))) | ((first | (apply JO.do; exact rfl; exact rfl; exact rfl; (apply Do.call; exact rfl; exact ref_Few _ _ _); rintro _ _ ⟨rfl, hq⟩; obtain rfl := hq.symm) | (apply JQ.call; exact rfl; exact rfl; exact rfl; exact ref_Few _ _ _; (rintro _ _ ⟨rfl, rfl⟩; exact ⟨rfl, rfl⟩))); rw [h1]) | (first | (apply JO.do; exact rfl; exact rfl; exact rfl; (apply Do.call; exact rfl; exact ref_Right _ _ _); rintro _ _ ⟨rfl, hq⟩; obtain rfl := hq.symm) | (apply JQ.call; exact rfl; exact rfl; exact rfl; exact ref_Right _ _ _; (rintro _ _ ⟨rfl, rfl⟩; exact ⟨rfl, rfl⟩))))
    all_goals exact ⟨F, Sat.weak (by repeat (first | exact Weak.refl | (apply Weak.cons; (first | exact Pick.here | exact Pick.there Pick.here | exact Pick.there (Pick.there Pick.here) | exact Pick.there (Pick.there (Pick.there Pick.here)) | exact Pick.there (Pick.there (Pick.there (Pick.there Pick.here))) | exact Pick.there (Pick.there (Pick.there (Pick.there (Pick.there Pick.here)))) | exact Pick.there (Pick.there (Pick.there (Pick.there (Pick.there (Pick.there Pick.here))))) | exact Pick.there (Pick.there (Pick.there (Pick.there (Pick.there (Pick.there (Pick.there Pick.here)))))))) | apply Weak.drop)), rfl, rfl⟩
  by_cases h2 : rightG e f s = true
  case neg =>
    simp only [Bool.not_eq_true] at h2
    refine Fn.of Tryz.func5 rfl Tryz.ntmps5 rfl ?_
    repeat' (first | (first | (apply JO.ru; exact rfl; exact rfl; exact rfl; (first | (apply Ru.move; exact rfl) | (apply Ru.assign; exact rfl) | (apply Ru.pickT; exact rfl; exact rfl) | (apply Ru.pickF; exact rfl; exact rfl) | (apply Ru.not; exact rfl) | (apply Ru.loadAN; exact rfl; (repeat (first | exact Pick.here | apply Pick.there)); exact rfl; exact rfl))) | refine JC.seq ?_ | refine JC.region ?_ | refine JO.nil ?_ | refine JE.thenN ?_ | refine JE.thenR ?_ | refine JC.ret ?_ | refine JC.condT rfl ?_ | refine JO.guardF rfl rfl rfl rfl rfl rfl rfl ?_ | refine JO.guardT rfl rfl rfl rfl ?_ | (apply JO.do; exact rfl; exact rfl; exact rfl; (first | (apply Do.boxN; exact rfl; exact rfl) | (apply Do.box; exact rfl)); rintro _ _ ⟨_, rfl, rfl⟩) | (apply JE.done1; exact rfl; (first | (apply Res.tmp; exact rfl) | (apply Res.cell; exact rfl; (repeat (first | exact Pick.here | apply Pick.there)); exact rfl) | (apply Res.cellAN; exact rfl; (repeat (first | exact Pick.here | apply Pick.there)); exact rfl; exact rfl) | (apply Res.cellA; exact rfl; (repeat (first | exact Pick.here | apply Pick.there)); exact rfl; exact rfl)))) | refine JO.guardU rfl rfl rfl rfl rfl rfl ?_ | (first | (apply JO.do; exact rfl; exact rfl; exact rfl; (apply Do.call; exact rfl; exact haw _); rintro _ _ ⟨rfl, hq⟩; obtain rfl := hq.symm) | (apply JQ.call; exact rfl; exact rfl; exact rfl; exact haw _; (rintro _ _ ⟨rfl, rfl⟩; exact ⟨rfl, rfl⟩))) | ((first | (apply JO.do; exact rfl; exact rfl; exact rfl; (apply Do.call; exact rfl; exact ref_Few _ _ _); rintro _ _ ⟨rfl, hq⟩; obtain rfl := hq.symm) | (apply JQ.call; exact rfl; exact rfl; exact rfl; exact ref_Few _ _ _; (rintro _ _ ⟨rfl, rfl⟩; exact ⟨rfl, rfl⟩))); rw [h1]) | ((first | (apply JO.do; exact rfl; exact rfl; exact rfl; (apply Do.call; exact rfl; exact ref_Right _ _ _); rintro _ _ ⟨rfl, hq⟩; obtain rfl := hq.symm) | (apply JQ.call; exact rfl; exact rfl; exact rfl; exact ref_Right _ _ _; (rintro _ _ ⟨rfl, rfl⟩; exact ⟨rfl, rfl⟩))); rw [h2]))
    all_goals exact ⟨F, Sat.weak (by repeat (first | exact Weak.refl | (apply Weak.cons; (first | exact Pick.here | exact Pick.there Pick.here | exact Pick.there (Pick.there Pick.here) | exact Pick.there (Pick.there (Pick.there Pick.here)) | exact Pick.there (Pick.there (Pick.there (Pick.there Pick.here))) | exact Pick.there (Pick.there (Pick.there (Pick.there (Pick.there Pick.here)))) | exact Pick.there (Pick.there (Pick.there (Pick.there (Pick.there (Pick.there Pick.here))))) | exact Pick.there (Pick.there (Pick.there (Pick.there (Pick.there (Pick.there (Pick.there Pick.here)))))))) | apply Weak.drop)), rfl, rfl⟩
  by_cases h3 : totG e f s = 0
  case pos =>
    refine Fn.of Tryz.func5 rfl Tryz.ntmps5 rfl ?_
    repeat' (first | (first | (apply JO.ru; exact rfl; exact rfl; exact rfl; (first | (apply Ru.move; exact rfl) | (apply Ru.assign; exact rfl) | (apply Ru.eql; exact rfl; exact rfl; (first | exact decT (by omega) | exact decF (by omega))) | (apply Ru.pickF; exact rfl; exact rfl) | (apply Ru.not; exact rfl) | (apply Ru.loadAN; exact rfl; (repeat (first | exact Pick.here | apply Pick.there)); exact rfl; exact rfl))) | refine JC.seq ?_ | refine JC.region ?_ | refine JO.nil ?_ | refine JE.thenN ?_ | refine JE.thenR ?_ | refine JC.ret ?_ | refine JC.condT rfl ?_ | refine JO.guardT rfl rfl rfl rfl ?_ | (apply JO.do; exact rfl; exact rfl; exact rfl; (first | (apply Do.boxN; exact rfl; exact rfl) | (apply Do.box; exact rfl)); rintro _ _ ⟨_, rfl, rfl⟩) | (apply JE.done1; exact rfl; (first | (apply Res.tmp; exact rfl) | (apply Res.cell; exact rfl; (repeat (first | exact Pick.here | apply Pick.there)); exact rfl) | (apply Res.cellAN; exact rfl; (repeat (first | exact Pick.here | apply Pick.there)); exact rfl; exact rfl) | (apply Res.cellA; exact rfl; (repeat (first | exact Pick.here | apply Pick.there)); exact rfl; exact rfl)))) | refine JO.guardU rfl rfl rfl rfl rfl rfl ?_ | (first | (apply JO.do; exact rfl; exact rfl; exact rfl; (apply Do.call; exact rfl; exact haw _); rintro _ _ ⟨rfl, hq⟩; obtain rfl := hq.symm) | (apply JQ.call; exact rfl; exact rfl; exact rfl; exact haw _; (rintro _ _ ⟨rfl, rfl⟩; exact ⟨rfl, rfl⟩))) | ((first | (apply JO.do; exact rfl; exact rfl; exact rfl; (apply Do.call; exact rfl; exact ref_Few _ _ _); rintro _ _ ⟨rfl, hq⟩; obtain rfl := hq.symm) | (apply JQ.call; exact rfl; exact rfl; exact rfl; exact ref_Few _ _ _; (rintro _ _ ⟨rfl, rfl⟩; exact ⟨rfl, rfl⟩))); rw [h1]) | ((first | (apply JO.do; exact rfl; exact rfl; exact rfl; (apply Do.call; exact rfl; exact ref_Right _ _ _); rintro _ _ ⟨rfl, hq⟩; obtain rfl := hq.symm) | (apply JQ.call; exact rfl; exact rfl; exact rfl; exact ref_Right _ _ _; (rintro _ _ ⟨rfl, rfl⟩; exact ⟨rfl, rfl⟩))); rw [h2]) | ((first | (apply JO.do; exact rfl; exact rfl; exact rfl; (apply Do.call; exact rfl; exact ref_Total _ _ _); rintro _ _ ⟨rfl, hq⟩; obtain rfl := hq.symm) | (apply JQ.call; exact rfl; exact rfl; exact rfl; exact ref_Total _ _ _; (rintro _ _ ⟨rfl, rfl⟩; exact ⟨rfl, rfl⟩))); rw [h3]))
    all_goals exact ⟨F, Sat.weak (by repeat (first | exact Weak.refl | (apply Weak.cons; (first | exact Pick.here | exact Pick.there Pick.here | exact Pick.there (Pick.there Pick.here) | exact Pick.there (Pick.there (Pick.there Pick.here)) | exact Pick.there (Pick.there (Pick.there (Pick.there Pick.here))) | exact Pick.there (Pick.there (Pick.there (Pick.there (Pick.there Pick.here)))) | exact Pick.there (Pick.there (Pick.there (Pick.there (Pick.there (Pick.there Pick.here))))) | exact Pick.there (Pick.there (Pick.there (Pick.there (Pick.there (Pick.there (Pick.there Pick.here)))))))) | apply Weak.drop)), rfl, rfl⟩
  have ht := few_tot h1 h2
  have hm := sizeOfU_bd z
  have hsp := span_few (z := sizeOfU z) ht
  have hmz : (sizeOfU z : Int) = 32 + (z.toNat : Int) % 100 := by unfold sizeOfU; omega
  obtain ⟨m, hm0⟩ : ∃ m, sizeOfU z = m := ⟨_, rfl⟩
  obtain ⟨k, hk0⟩ : ∃ k, (2 * spanG m e f s + 1).toNat = k := ⟨_, rfl⟩
  have hfr := fun (G : List HP) => law07_fresh (σ := σ) (F := G) z e f s ht
  simp only [hm0, hk0] at hfr
  rw [hm0] at hm hsp hmz
  have hB := Both.of (z := m) (k := k) h2 (by omega) (by omega)
  obtain ⟨many, hmany⟩ : ∃ x, (secs (totG e f s) m).toNat = x := ⟨_, rfl⟩
  rw [hmany] at hB
  have hspan := hB.h0.hspan
  have hml : many ≤ 500 := by
    have := secs_bd (m := totG e f s) (s := (m : Int)) (totG_bd e f s).1
    omega
  obtain ⟨f1, f2, f3, f4, f5, f6, f7⟩ := freshN_facts (k := k) (z := m) (by omega) (by omega) (by omega)
  obtain ⟨D0, hD0⟩ : ∃ D0, freshN k m = D0 := ⟨_, rfl⟩
  rw [hD0] at f1 f2 f3 f4 f5 f6 f7
  simp only [hD0] at hfr
  obtain ⟨D1, D2, p1, p2, q1, q2, st, q4, q5, o1, w1, w2, _, o2⟩ := start_ok hB f1 f2 f3 f4 (by omega)
  have htot := totG_bd e f s
  have hfl := factB_length h2
  have k1 := fun (d : Nat) (G : List HP) [InG G] => shadow_FormatE (σ := σ) (d := d) p1 (fun _ => by omega) f1 (by omega) (by omega) (l := G)
  have k2 := fun (d : Nat) (G : List HP) [InG G] => shadow_OpenE (σ := σ) (d := d) p2 q1 (by omega) (by omega) (l := G)
  obtain ⟨was, hwas⟩ : ∃ x, factB e f s = x := ⟨_, rfl⟩
  rw [hwas] at p2 st k2 hfl
  obtain ⟨c, r, hcr⟩ : ∃ c r, was = c :: r := by
    cases was with
    | nil => simp at hfl; omega
    | cons c r => exact ⟨c, r, rfl⟩
  have hzu := UInt8.toNat_lt z
  have hzu2 := UInt8.toNat_lt z2
  have e1 : IntKind.i64.wrap ((z.toNat : Int) % 100) = (z.toNat : Int) % 100 := wrapI (by omega) (by omega)
  have e2 : IntKind.i64.wrap (32 + (z.toNat : Int) % 100) = (m : Int) := by rw [wrapI (by omega) (by omega)]; omega
  refine Fn.of Tryz.func5 rfl Tryz.ntmps5 rfl ?_
  repeat' (first | (apply JO.ru; exact rfl; exact rfl; exact rfl; ((apply Ru.assign; exact rfl))) | refine JC.seq ?_ | refine JC.region ?_ | refine JO.nil ?_ | refine JE.thenN ?_ | (apply JO.do; exact rfl; exact rfl; exact rfl; (first | (apply Do.boxN; exact rfl; exact rfl) | (apply Do.box; exact rfl)); rintro _ _ ⟨_, rfl, rfl⟩))
  rename_i gb
  repeat' (first | (first | (apply JO.ru; exact rfl; exact rfl; exact rfl; (first | (apply Ru.move; exact rfl) | (apply Ru.assign; exact rfl) | (apply Ru.eql; exact rfl; exact rfl; (first | exact decT (by omega) | exact decF (by omega))) | (apply Ru.neq; exact rfl; exact rfl; (first | exact ndecF (by omega) | exact ndecT (by omega))) | (apply Ru.pickF; exact rfl; exact rfl) | (apply Ru.not; exact rfl) | (apply Ru.extractN; exact rfl; exact rfl) | (apply Ru.loadAN; exact rfl; (repeat (first | exact Pick.here | apply Pick.there)); exact rfl; exact rfl) | (apply Ru.eqlPN; exact rfl; exact rfl))) | refine JC.seq ?_ | refine JC.region ?_ | refine JO.nil ?_ | refine JE.thenN ?_ | refine JC.skip ?_ | refine JC.condF rfl ?_ | refine JO.guardT rfl rfl rfl rfl ?_) | refine JO.guardU rfl rfl rfl rfl rfl rfl ?_ | (first | (apply JO.do; exact rfl; exact rfl; exact rfl; (apply Do.call; exact rfl; exact haw _); rintro _ _ ⟨rfl, hq⟩; obtain rfl := hq.symm) | (apply JQ.call; exact rfl; exact rfl; exact rfl; exact haw _; (rintro _ _ ⟨rfl, rfl⟩; exact ⟨rfl, rfl⟩))) | ((first | (apply JO.do; exact rfl; exact rfl; exact rfl; (apply Do.call; exact rfl; exact ref_Few _ _ _); rintro _ _ ⟨rfl, hq⟩; obtain rfl := hq.symm) | (apply JQ.call; exact rfl; exact rfl; exact rfl; exact ref_Few _ _ _; (rintro _ _ ⟨rfl, rfl⟩; exact ⟨rfl, rfl⟩))); rw [h1]) | ((first | (apply JO.do; exact rfl; exact rfl; exact rfl; (apply Do.call; exact rfl; exact ref_Right _ _ _); rintro _ _ ⟨rfl, hq⟩; obtain rfl := hq.symm) | (apply JQ.call; exact rfl; exact rfl; exact rfl; exact ref_Right _ _ _; (rintro _ _ ⟨rfl, rfl⟩; exact ⟨rfl, rfl⟩))); rw [h2]) | (first | (apply JO.do; exact rfl; exact rfl; exact rfl; (apply Do.call; exact rfl; exact ref_Total _ _ _); rintro _ _ ⟨rfl, hq⟩; obtain rfl := hq.symm) | (apply JQ.call; exact rfl; exact rfl; exact rfl; exact ref_Total _ _ _; (rintro _ _ ⟨rfl, rfl⟩; exact ⟨rfl, rfl⟩))) | (apply JO.do; exact rfl; exact rfl; exact rfl; (apply Do.call; exact rfl; exact hfr _); rintro _ _ ⟨d, rfl, rfl⟩) | (first | (apply JO.do; exact rfl; exact rfl; exact rfl; (apply Do.call; exact rfl; exact k1 _ _); rintro _ _ ⟨rfl, hq⟩; obtain rfl := hq.symm) | (apply JQ.call; exact rfl; exact rfl; exact rfl; exact k1 _ _; (rintro _ _ ⟨rfl, rfl⟩; exact ⟨rfl, rfl⟩))) | (apply JO.do; exact rfl; exact rfl; exact rfl; (apply Do.call; exact rfl; exact k2 _ _); rintro _ _ ⟨sb, rfl, rfl⟩))
  (apply JO.do; exact rfl; exact rfl; exact rfl; (apply Do.call; exact rfl; exact shadow_ImageP (by omega) Pick.here); rintro u _ rfl)
  refine JO.ownU Pick.here fun pw cw hu => ?_
  subst hu
  refine JO.ownD Pick.here fun hrw => ?_
  repeat' (first | (apply JO.ru; exact rfl; exact rfl; exact rfl; ((apply Ru.assign; exact rfl))) | refine JC.seq ?_ | refine JC.region ?_ | refine JO.nil ?_ | refine JE.thenN ?_)
  (apply JO.do; exact rfl; exact rfl; exact rfl; apply Do.buildSlice0; rintro _ _ ⟨xb, rfl, rfl⟩)
  refine JO.heap (fun _ s => Sat.ownS_arr (xs := []) (spare := []) (k := 0) (cap := 0) (z := 1) (Nat.le_refl _) rfl (Nat.le_refl _) s) ?_
  repeat' ((apply JO.ru; exact rfl; exact rfl; exact rfl; ((apply Ru.move; exact rfl))))
  have hwl : (was.map byte).length = was.length := by simp
  (apply JO.do; exact rfl; exact rfl; exact rfl; (apply Do.append1; exact rfl; exact rfl; exact Pick.here; exact hrw.cons; exact byteOne _; (show (0 + (was.map byte).length) * 1 ≤ _; omega); exact rfl; exact rfl); rintro u2 _ ⟨rfl, _⟩)
  rw [Nat.zero_add, List.nil_append, hwl]
  refine JO.openOwn Pick.here (by omega) fun b cap spare hu hcap hlx hcl => ?_
  subst hu
  have hwc : (was.map byte ++ spare)[0]? = some (byte c) := by rw [hcr]; rfl
  repeat' (first | (first | (apply JO.ru; exact rfl; exact rfl; exact rfl; (first | (apply Ru.move; exact rfl) | (apply Ru.assign; exact rfl) | (apply Ru.indexAddr; exact rfl; exact rfl; omega; omega) | (apply Ru.xor; exact rfl; exact rfl))) | refine JC.seq ?_ | refine JC.region ?_ | refine JO.nil ?_ | refine JE.thenN ?_) | (apply JO.ru; exact rfl; exact rfl; exact rfl; (apply Ru.load; exact rfl; exact Pick.here; exact hwc)))
  (apply JO.do0; exact rfl; exact rfl; (apply Do.store; exact rfl; exact rfl; exact rfl; exact Pick.here; (rw [Nat.blt_eq, List.length_append, hwl]; show 0 < _; omega)); rintro _ _ ⟨rfl, rfl⟩)
  obtain ⟨x, hx⟩ : ∃ x, (c ^^^ 8) :: r = x := ⟨_, rfl⟩
  have hxl : x.length = was.length := by rw [← hx, hcr]; rfl
  have hxne : x ≠ was := by
    rw [← hx, hcr]; intro h; injection h with h _; exact xor_ne c 8 (by decide) h
  have ex : (was.map byte ++ spare).set (0 + Int.toNat 0 * 1) (Value.int .u8 (Go.bits .xor .u8 (c.toNat : Int) 8)) = x.map byte ++ spare := by
    have := xor_u8 c 8
    rw [hcr, ← hx]
    show Value.int .u8 (Go.bits .xor .u8 (c.toNat : Int) ((8 : UInt8).toNat : Int)) :: _ = _
    rw [this]; rfl
  rw [ex]
  have hback : ∀ w, Sat σ w (arr b 5 (x.map byte ++ spare) :: bytesHP (.slice pw was.length cw) was :: shadHP sb d e f s ⟨was, 1, 0, false⟩ :: diskHP d D2 :: arr gb 23 [int e, int f, int s] :: F) →
      Sat σ w (shadHP sb d e f s ⟨was, 1, 0, false⟩ :: diskHP d D2 :: bytesHP (.slice (some ⟨b, 0, none⟩) was.length cap) x :: bytesHP (.slice pw was.length cw) was :: arr gb 23 [int e, int f, int s] :: F) := fun w s => by
    have := Sat.ownS_arr (z := 1) (k := x.length) (cap := cap) (by rw [hxl]; exact hcap) (by rw [List.length_map, Nat.mul_one]) (by rw [List.length_append, hwl] at hcl; rw [List.length_append, List.length_map, hxl]; omega) s
    have ev : Value.slice (some ⟨b, 0, none⟩) was.length cap = .slice (some ⟨b, 0, none⟩) x.length cap := by rw [hxl]
    rw [ev]
    exact Sat.weak (by repeat (first | exact Weak.refl | (apply Weak.cons; (first | exact Pick.here | exact Pick.there Pick.here | exact Pick.there (Pick.there Pick.here) | exact Pick.there (Pick.there (Pick.there Pick.here)) | exact Pick.there (Pick.there (Pick.there (Pick.there Pick.here))) | exact Pick.there (Pick.there (Pick.there (Pick.there (Pick.there Pick.here)))) | exact Pick.there (Pick.there (Pick.there (Pick.there (Pick.there (Pick.there Pick.here))))) | exact Pick.there (Pick.there (Pick.there (Pick.there (Pick.there (Pick.there (Pick.there Pick.here)))))))) | apply Weak.drop)) w this
  refine JO.heap hback ?_
  refine JO.tail2 fun hrx => ?_
  refine JO.tail3 fun hrw3 => ?_
  have hn0 : 0 ≤ (z2.toNat : Int) % (many + 3) ∧ (z2.toNat : Int) % (many + 3) < many + 3 := ⟨Int.emod_nonneg _ (by omega), Int.emod_lt_of_pos _ (by omega)⟩
  obtain ⟨fz, hfz⟩ : ∃ y, (z2.toNat : Int) % (many + 3) = y := ⟨_, rfl⟩
  rw [hfz] at hn0
  obtain ⟨E, E2, E3, img, q, w, q', w', c1, c2, c3, c4, c5, c6, c7, c8, c9, c10, c11, c12, c13⟩ := stale_plain (x := x) hB st q4 q5 (by omega) hxne (n := (D2.ops : Int) + 1 + fz) (by omega)
  repeat' (first | (apply JO.ru; exact rfl; exact rfl; exact rfl; (apply Ru.conv; exact rfl; exact e1)) | (apply JO.ru; exact rfl; exact rfl; exact rfl; (apply Ru.add; exact rfl; exact rfl; exact e2)) | (first | (apply JO.ru; exact rfl; exact rfl; exact rfl; (first | (apply Ru.move; exact rfl) | (apply Ru.assign; exact rfl) | (apply Ru.add; exact rfl; exact rfl; (first | exact wrapI (by omega) (by omega) | exact rfl)) | (apply Ru.loadAN; exact rfl; (repeat (first | exact Pick.here | apply Pick.there)); exact rfl; exact rfl) | (apply Ru.remN; exact rfl; exact rfl; omega; omega))) | refine JC.seq ?_ | refine JC.region ?_ | refine JO.nil ?_ | refine JE.thenN ?_) | (first | (apply JO.do; exact rfl; exact rfl; exact rfl; (apply Do.call; exact rfl; exact ref_Span _ _ _ _); rintro _ _ ⟨rfl, hq⟩; obtain rfl := hq.symm) | (apply JQ.call; exact rfl; exact rfl; exact rfl; exact ref_Span _ _ _ _; (rintro _ _ ⟨rfl, rfl⟩; exact ⟨rfl, rfl⟩))))
  have e3 : IntKind.i64.wrap (z2.toNat : Int) = (z2.toNat : Int) := wrapI (by omega) (by omega)
  have e4 : (z2.toNat : Int) % (spanG m e f s + 2) = fz := by
    rw [hspan, show (1 + (many : Int) + 2) = many + 3 from by omega]; exact hfz
  refine JC.regionB (arr gb 23 [int e, int f, int s] :: F) mixed ?_
  refine JB.heap (l' := diskHP d D2 :: shadHP sb d e f s ⟨was, 1, 0, false⟩ :: bytesHP (.slice (some ⟨b, 0, none⟩) was.length cap) x :: bytesHP (.slice pw was.length cw) was :: arr gb 23 [int e, int f, int s] :: F) (Sat.weak (by repeat (first | exact Weak.refl | (apply Weak.cons; (first | exact Pick.here | exact Pick.there Pick.here | exact Pick.there (Pick.there Pick.here) | exact Pick.there (Pick.there (Pick.there Pick.here)) | exact Pick.there (Pick.there (Pick.there (Pick.there Pick.here))) | exact Pick.there (Pick.there (Pick.there (Pick.there (Pick.there Pick.here)))) | exact Pick.there (Pick.there (Pick.there (Pick.there (Pick.there (Pick.there Pick.here))))) | exact Pick.there (Pick.there (Pick.there (Pick.there (Pick.there (Pick.there (Pick.there Pick.here)))))))) | apply Weak.drop))) ?_
  repeat' ((apply JB.ru; exact rfl; exact rfl; exact rfl; exact rfl; (first | (apply Ru.move; exact rfl) | (apply Ru.remN; exact rfl; exact rfl; omega; omega) | (apply Ru.conv; exact rfl; exact rfl)); decide +kernel; decide +kernel; (first | exact fun _ h => h | exact fun _ h => Sat.drop h | exact fun _ h => Sat.drop (Sat.drop h) | exact fun _ h => Sat.drop (Sat.drop (Sat.drop h)) | exact fun _ h => Sat.drop (Sat.drop (Sat.drop (Sat.drop h)))); (simp only [Nat.reduceAdd, Nat.reducePow, Nat.reduceMul, Nat.zero_or, Nat.or_zero, Nat.reduceXor, Nat.reduceOr]; try exact rfl)))
  rw [e3]
  repeat' (fail)
  rw [e4]
  refine JB.one 2 (by decide +kernel) ?_
  (apply JI.do; exact rfl; exact rfl; exact rfl; exact rfl; (apply Do.call; exact rfl; exact disk_OpsC d D2 Pick.here); (simp only [Nat.reduceAdd, Nat.reducePow, Nat.reduceMul, Nat.zero_or, Nat.or_zero, Nat.reduceXor, Nat.reduceOr]; try exact rfl); rintro _ _ ⟨rfl, rfl⟩; refine ⟨Sat.weak (by repeat (first | exact Weak.refl | (apply Weak.cons; (first | exact Pick.here | exact Pick.there Pick.here | exact Pick.there (Pick.there Pick.here) | exact Pick.there (Pick.there (Pick.there Pick.here)) | exact Pick.there (Pick.there (Pick.there (Pick.there Pick.here))) | exact Pick.there (Pick.there (Pick.there (Pick.there (Pick.there Pick.here)))) | exact Pick.there (Pick.there (Pick.there (Pick.there (Pick.there (Pick.there Pick.here))))) | exact Pick.there (Pick.there (Pick.there (Pick.there (Pick.there (Pick.there (Pick.there Pick.here)))))))) | apply Weak.drop)), ?_⟩)
  repeat' ((apply JB.ru; exact rfl; exact rfl; exact rfl; exact rfl; ((apply Ru.add; exact rfl; exact rfl; (first | exact wrapI (by omega) (by omega) | exact rfl))); decide +kernel; decide +kernel; (first | exact fun _ h => h | exact fun _ h => Sat.drop h | exact fun _ h => Sat.drop (Sat.drop h) | exact fun _ h => Sat.drop (Sat.drop (Sat.drop h)) | exact fun _ h => Sat.drop (Sat.drop (Sat.drop (Sat.drop h)))); (simp only [Nat.reduceAdd, Nat.reducePow, Nat.reduceMul, Nat.zero_or, Nat.or_zero, Nat.reduceXor, Nat.reduceOr]; try exact rfl)))
  refine JB.one 9 (by decide +kernel) ?_
  (apply JI.do; exact rfl; exact rfl; exact rfl; exact rfl; (apply Do.call; exact rfl; exact disk_Fail d D2 _ (by omega)); (simp only [Nat.reduceAdd, Nat.reducePow, Nat.reduceMul, Nat.zero_or, Nat.or_zero, Nat.reduceXor, Nat.reduceOr]; try exact rfl); rintro _ _ ⟨rfl, rfl⟩; refine ⟨Sat.weak (by repeat (first | exact Weak.refl | (apply Weak.cons; (first | exact Pick.here | exact Pick.there Pick.here | exact Pick.there (Pick.there Pick.here) | exact Pick.there (Pick.there (Pick.there Pick.here)) | exact Pick.there (Pick.there (Pick.there (Pick.there Pick.here))) | exact Pick.there (Pick.there (Pick.there (Pick.there (Pick.there Pick.here)))) | exact Pick.there (Pick.there (Pick.there (Pick.there (Pick.there (Pick.there Pick.here))))) | exact Pick.there (Pick.there (Pick.there (Pick.there (Pick.there (Pick.there (Pick.there Pick.here)))))))) | apply Weak.drop)), ?_⟩)
  repeat' ((apply JB.nil; exact rfl))
  have hst := (st.plan ((D2.ops : Int) + 1 + fz)).wf
  have hpo : (D2.plan ((D2.ops : Int) + 1 + fz)).ops = D2.ops := rfl
  have hpw : (D2.plan ((D2.ops : Int) + 1 + fz)).writes = D2.writes := rfl
  have k3 := shadow_CommitE (σ := σ) (sb := sb) (d := d) c1 (.inl rfl) (by show (0 : Int) ≤ 1 ∧ (1 : Int) ≤ _; decide) (by omega) (by show was.length ≤ _; omega) hst (by omega) (by omega) hrx
  have k4 := shadow_CommitE (σ := σ) (sb := sb) (d := d) (commit_stale (D := E) (e := e) (f := f) (s := s) (S := ⟨was, 1, 0, true⟩) (bs := x) rfl) (.inl rfl) (by show (0 : Int) ≤ 1 ∧ (1 : Int) ≤ _; decide) (by omega) (by show was.length ≤ _; omega) c2 (by omega) (by omega) hrx
  have k5 := shadow_CommitE (σ := σ) (sb := sb) (d := d) (commit_stale (D := E) (e := e) (f := f) (s := s) (S := ⟨was, 1, 0, true⟩) (bs := was) rfl) (.inl rfl) (by show (0 : Int) ≤ 1 ∧ (1 : Int) ≤ _; decide) (by omega) (by show was.length ≤ _; omega) c2 (by omega) (by omega) (l := bytesHP (.slice (some ⟨b, 0, none⟩) was.length cap) x :: bytesHP (.slice pw was.length cw) was :: arr gb 23 [int e, int f, int s] :: F) hrw3.cons
  repeat' (first | (apply JO.ru; exact rfl; exact rfl; exact rfl; ((apply Ru.move; exact rfl))) | refine JC.seq ?_ | refine JC.region ?_ | refine JE.thenN ?_)
  refine JO.pick (Pick.there Pick.here) ?_
  repeat' (first | (first | (apply JO.ru; exact rfl; exact rfl; exact rfl; (first | (apply Ru.move; exact rfl) | (apply Ru.assign; exact rfl) | (apply Ru.neq; exact rfl; exact rfl; (first | exact ndecF (by omega) | exact ndecT (by omega))) | (apply Ru.pickF; exact rfl; exact rfl) | (apply Ru.not; exact rfl))) | refine JC.seq ?_ | refine JC.region ?_ | refine JO.nil ?_ | refine JE.thenN ?_ | refine JO.guardT rfl rfl rfl rfl ?_) | refine JO.guardU rfl rfl rfl rfl rfl rfl ?_ | (first | (apply JO.do; exact rfl; exact rfl; exact rfl; (apply Do.call; exact rfl; exact k3); rintro _ _ ⟨rfl, hq⟩; obtain rfl := hq.symm) | (apply JQ.call; exact rfl; exact rfl; exact rfl; exact k3; (rintro _ _ ⟨rfl, rfl⟩; exact ⟨rfl, rfl⟩))) | (first | (apply JO.do; exact rfl; exact rfl; exact rfl; (apply Do.call; exact rfl; exact k4); rintro _ _ ⟨rfl, hq⟩; obtain rfl := hq.symm) | (apply JQ.call; exact rfl; exact rfl; exact rfl; exact k4; (rintro _ _ ⟨rfl, rfl⟩; exact ⟨rfl, rfl⟩))) | (first | (apply JO.do; exact rfl; exact rfl; exact rfl; (apply Do.call; exact rfl; exact k5); rintro _ _ ⟨rfl, hq⟩; obtain rfl := hq.symm) | (apply JQ.call; exact rfl; exact rfl; exact rfl; exact k5; (rintro _ _ ⟨rfl, rfl⟩; exact ⟨rfl, rfl⟩))) | (first | (apply JO.do; exact rfl; exact rfl; exact rfl; (apply Do.call; exact rfl; exact disk_OpsC d E (by repeat (first | exact Pick.here | apply Pick.there))); rintro _ _ ⟨rfl, hq⟩; obtain rfl := hq.symm) | (apply JQ.call; exact rfl; exact rfl; exact rfl; exact disk_OpsC d E (by repeat (first | exact Pick.here | apply Pick.there)); (rintro _ _ ⟨rfl, rfl⟩; exact ⟨rfl, rfl⟩))) | (first | (apply JO.do; exact rfl; exact rfl; exact rfl; (apply Do.call; exact rfl; exact shadow_StaleP (by repeat (first | exact Pick.here | apply Pick.there))); rintro _ _ ⟨rfl, hq⟩; obtain rfl := hq.symm) | (apply JQ.call; exact rfl; exact rfl; exact rfl; exact shadow_StaleP (by repeat (first | exact Pick.here | apply Pick.there)); (rintro _ _ ⟨rfl, rfl⟩; exact ⟨rfl, rfl⟩))) | (first | (apply JO.do; exact rfl; exact rfl; exact rfl; (apply Do.call; exact rfl; exact shadow_SeqP (by repeat (first | exact Pick.here | apply Pick.there))); rintro _ _ ⟨rfl, hq⟩; obtain rfl := hq.symm) | (apply JQ.call; exact rfl; exact rfl; exact rfl; exact shadow_SeqP (by repeat (first | exact Pick.here | apply Pick.there)); (rintro _ _ ⟨rfl, rfl⟩; exact ⟨rfl, rfl⟩))))
  (apply JO.do; exact rfl; exact rfl; exact rfl; (apply Do.call; exact rfl; exact shadow_ImageP (by omega) Pick.here); rintro u3 _ rfl)
  refine JO.ownD Pick.here fun hx3 => ?_
  have hs3 := ref_Same (σ := σ) _ _ was was (by omega) hx3 hrw3.cons.cons.cons.cons
  rw [decide_eq_true rfl] at hs3
  repeat' (first | (first | (apply JO.ru; exact rfl; exact rfl; exact rfl; (first | (apply Ru.move; exact rfl) | (apply Ru.neq; exact rfl; exact rfl; (first | exact ndecF (by omega) | exact ndecT (by omega))) | (apply Ru.pickF; exact rfl; exact rfl) | (apply Ru.not; exact rfl) | (apply Ru.loadAN; exact rfl; (repeat (first | exact Pick.here | apply Pick.there)); exact rfl; exact rfl))) | refine JC.seq ?_ | refine JC.region ?_ | refine JO.nil ?_ | refine JE.thenN ?_ | refine JC.skip ?_ | refine JC.condF rfl ?_ | refine JO.guardT rfl rfl rfl rfl ?_) | refine JO.guardU rfl rfl rfl rfl rfl rfl ?_ | (first | (apply JO.do; exact rfl; exact rfl; exact rfl; (apply Do.call; exact rfl; exact hs3); rintro _ _ ⟨rfl, hq⟩; obtain rfl := hq.symm) | (apply JQ.call; exact rfl; exact rfl; exact rfl; exact hs3; (rintro _ _ ⟨rfl, rfl⟩; exact ⟨rfl, rfl⟩))) | (first | (apply JO.do; exact rfl; exact rfl; exact rfl; (apply Do.call; exact rfl; exact shadow_SeqP (by repeat (first | exact Pick.here | apply Pick.there))); rintro _ _ ⟨rfl, hq⟩; obtain rfl := hq.symm) | (apply JQ.call; exact rfl; exact rfl; exact rfl; exact shadow_SeqP (by repeat (first | exact Pick.here | apply Pick.there)); (rintro _ _ ⟨rfl, rfl⟩; exact ⟨rfl, rfl⟩))))
  refine JO.pick (Pick.there (Pick.there Pick.here)) ?_
  have k6 := fun (G : List HP) [InG G] => shadow_OpenE (σ := σ) (d := d) c5 c2 (by omega) (by omega) (l := G)
  (apply JO.do; exact rfl; exact rfl; exact rfl; (apply Do.call; exact rfl; exact k6 _); rintro _ _ ⟨sb2, rfl, rfl⟩)
  have k7 := shadow_CommitE (σ := σ) (sb := sb2) (d := d) c13 c9 (by show 0 ≤ q ∧ q ≤ _; omega) (by omega) (by show img.length ≤ _; omega) c6 (by omega) (by omega) (l := bytesHP u3 was :: shadHP sb d e f s ⟨was, 1, 0, true⟩ :: bytesHP (.slice (some ⟨b, 0, none⟩) was.length cap) x :: bytesHP (.slice pw was.length cw) was :: arr gb 23 [int e, int f, int s] :: F) hrx.cons.cons
  repeat' (first | (first | (apply JO.ru; exact rfl; exact rfl; exact rfl; (first | (apply Ru.move; exact rfl) | (apply Ru.assign; exact rfl) | (apply Ru.eql; exact rfl; exact rfl; (first | exact decT (by omega) | exact decF (by omega))) | (apply Ru.neq; exact rfl; exact rfl; (first | exact ndecF (by omega) | exact ndecT (by omega))) | (apply Ru.pickT; exact rfl; exact rfl) | (apply Ru.pickF; exact rfl; exact rfl) | (apply Ru.not; exact rfl) | (apply Ru.extractN; exact rfl; exact rfl) | (apply Ru.eqlPN; exact rfl; exact rfl))) | refine JC.seq ?_ | refine JC.region ?_ | refine JO.nil ?_ | refine JE.thenN ?_ | refine JC.skip ?_ | refine JC.condF rfl ?_ | refine JO.guardT rfl rfl rfl rfl ?_) | refine JO.guardU rfl rfl rfl rfl rfl rfl ?_ | (first | (apply JO.do; exact rfl; exact rfl; exact rfl; (apply Do.call; exact rfl; exact k7); rintro _ _ ⟨rfl, hq⟩; obtain rfl := hq.symm) | (apply JQ.call; exact rfl; exact rfl; exact rfl; exact k7; (rintro _ _ ⟨rfl, rfl⟩; exact ⟨rfl, rfl⟩))) | (first | (apply JO.do; exact rfl; exact rfl; exact rfl; (apply Do.call; exact rfl; exact shadow_StaleP (by repeat (first | exact Pick.here | apply Pick.there))); rintro _ _ ⟨rfl, hq⟩; obtain rfl := hq.symm) | (apply JQ.call; exact rfl; exact rfl; exact rfl; exact shadow_StaleP (by repeat (first | exact Pick.here | apply Pick.there)); (rintro _ _ ⟨rfl, rfl⟩; exact ⟨rfl, rfl⟩))))
  (apply JO.do; exact rfl; exact rfl; exact rfl; (apply Do.call; exact rfl; exact shadow_ImageP (by omega) Pick.here); rintro u4 _ rfl)
  refine JO.ownD Pick.here fun hx4 => ?_
  have hs4 := ref_Same (σ := σ) _ _ x x (by omega) hx4 hrx.cons.cons.cons.cons.cons
  rw [decide_eq_true rfl] at hs4
  repeat' (first | (first | (apply JO.ru; exact rfl; exact rfl; exact rfl; (first | (apply Ru.move; exact rfl) | (apply Ru.assign; exact rfl) | (apply Ru.pickT; exact rfl; exact rfl))) | refine JO.nil ?_ | refine JE.thenN ?_ | refine JC.ret ?_ | refine JO.guardT rfl rfl rfl rfl ?_ | (apply JE.done1; exact rfl; (first | (apply Res.tmp; exact rfl) | (apply Res.cell; exact rfl; (repeat (first | exact Pick.here | apply Pick.there)); exact rfl) | (apply Res.cellAN; exact rfl; (repeat (first | exact Pick.here | apply Pick.there)); exact rfl; exact rfl) | (apply Res.cellA; exact rfl; (repeat (first | exact Pick.here | apply Pick.there)); exact rfl; exact rfl)))) | refine JO.guardU rfl rfl rfl rfl rfl rfl ?_ | (first | (apply JO.do; exact rfl; exact rfl; exact rfl; (apply Do.call; exact rfl; exact hs4); rintro _ _ ⟨rfl, hq⟩; obtain rfl := hq.symm) | (apply JQ.call; exact rfl; exact rfl; exact rfl; exact hs4; (rintro _ _ ⟨rfl, rfl⟩; exact ⟨rfl, rfl⟩))))
  all_goals exact ⟨F, Sat.weak (by repeat (first | exact Weak.refl | (apply Weak.cons; (first | exact Pick.here | exact Pick.there Pick.here | exact Pick.there (Pick.there Pick.here) | exact Pick.there (Pick.there (Pick.there Pick.here)) | exact Pick.there (Pick.there (Pick.there (Pick.there Pick.here))) | exact Pick.there (Pick.there (Pick.there (Pick.there (Pick.there Pick.here)))) | exact Pick.there (Pick.there (Pick.there (Pick.there (Pick.there (Pick.there Pick.here))))) | exact Pick.there (Pick.there (Pick.there (Pick.there (Pick.there (Pick.there (Pick.there Pick.here)))))) | exact Pick.there (Pick.there (Pick.there (Pick.there (Pick.there (Pick.there (Pick.there (Pick.there Pick.here))))))) | exact Pick.there (Pick.there (Pick.there (Pick.there (Pick.there (Pick.there (Pick.there (Pick.there (Pick.there Pick.here)))))))) | exact Pick.there (Pick.there (Pick.there (Pick.there (Pick.there (Pick.there (Pick.there (Pick.there (Pick.there (Pick.there Pick.here))))))))) | exact Pick.there (Pick.there (Pick.there (Pick.there (Pick.there (Pick.there (Pick.there (Pick.there (Pick.there (Pick.there (Pick.there Pick.here)))))))))) | exact Pick.there (Pick.there (Pick.there (Pick.there (Pick.there (Pick.there (Pick.there (Pick.there (Pick.there (Pick.there (Pick.there (Pick.there Pick.here))))))))))) | exact Pick.there (Pick.there (Pick.there (Pick.there (Pick.there (Pick.there (Pick.there (Pick.there (Pick.there (Pick.there (Pick.there (Pick.there (Pick.there Pick.here)))))))))))))) | apply Weak.drop)), rfl, rfl⟩
end Go.Sep
/- ShadowStale: behind a commit that failed nothing is committed till it is opened again: for every input of which the statement speaks. -/
namespace Go.Proofs.YtbpilaghemkdjaaGreatDoor
open Go Go.Sep Go.ChangeShapes Go.WideShapes Go.ChangeAt Go.WideMaps Go.WideElems Go.RowKit
set_option maxRecDepth 100000 in
theorem stale_lifted (os : Os) (started : os.Started) (H : Type) (enc : TypeId × Value → H) :
    ReturnsInHanded {} Tryz.checked os 5 .any (fun w args => (Rows.shadowStaleSpec.pre enc Tryz.prog Tryz.f5 [] false w args ∧ laidMetH Tryz.prog [("keepsake/geo.rows", Rows.laid_keepsake_geo_rows)] w) ∧ sizedMet enc Tryz.prog Tryz.f5 (OpenSpec.ofChange Rows.shadowStaleSpec) false w args)
      (Rows.shadowStaleSpec.post enc Tryz.prog Tryz.f5 false true false false) := by
  refine returnsInHanded_of_change_and (C := Tryz.checked) (X := fun w _ => laidMetH Tryz.prog [("keepsake/geo.rows", Rows.laid_keepsake_geo_rows)] w) (fun _ _ _ hh h => h.of_heap hh) own0 started (by kernel_rfl) Tryz.func5
    (ChangeSpec.witness_shaped (enc := enc) (C := Tryz.checked) (os := os) (X := fun w _ => laidMetH Tryz.prog [("keepsake/geo.rows", Rows.laid_keepsake_geo_rows)] w) false (World.doorLaid Tryz.prog 25 os) #[.agg #[.int .i64 0, .int .i64 0, .int .i64 0], .int .u8 0, .int .u8 0] 8 rfl (World.shaped_of_RefB (by kernel_rfl) (by kernel_rfl)) (by kernel_rfl) (by kernel_rfl) (by kernel_rfl) (door0 os _)) ?_
  intro W base args ds gs before hval0 hW _ _ hL _
  have hval : ∀ (j : Nat) t v, Tryz.f5.params[j]? = some t → args[j]? = some v → Value.okWide Tryz.prog W .any base t v := hval0
  have hW0 : DataW.Whole enc Tryz.prog Tryz.f5.params.toList Rows.shadowStaleSpec.vars false W args.toList ds gs before := hW
  obtain ⟨p, q, hA, hV, hpq, hrest⟩ := id hW0
  obtain ⟨rfl, rfl⟩ := trodVars_none hV
  rw [Tryz.params5] at hA hval
  obtain ⟨v0, r0, d0, y0, p0, q0, a0, rfl, _, t0, k0⟩ := trodAll_cons hA
  obtain ⟨v1, r1, d1, y1, p1, q1, a1, rfl, _, t1, k1⟩ := trodAll_cons k0
  obtain ⟨v2, r2, d2, y2, p2, q2, a2, rfl, _, t2, k2⟩ := trodAll_cons k1
  obtain ⟨a3, rfl, _⟩ := trodAll_nil k2
  obtain rfl : args = #[v0, v1, v2] := by
    apply Array.ext'
    rw [a0, a1, a2, a3]
  obtain ⟨e0, f0, s0, rfl⟩ := arg_geo (hval 0 _ v0 rfl rfl) t0
  obtain ⟨z1, rfl⟩ := arg_u8 (hval 1 _ v1 rfl rfl) t1
  obtain ⟨z2, rfl⟩ := arg_u8 (hval 2 _ v2 rfl rfl) t2
  have := inG_mem hL
  have hfn := law07_ShadowStale (σ := sigOf W) (F := [memHP W]) e0 f0 s0 z1 z2 W (mem_start W)
  refine hfn.mono ?_
  rintro e W' ⟨v, l', rfl, ⟨rfl, rfl⟩, s'⟩
  exact ⟨_, rfl, post_true lo0 hW0 rfl ⟨rfl, rfl, rfl⟩ (show Tryz.f5.resultTypes = #[4] by kernel_rfl) Tryz.underlying4 (by
    rw [Tryz.params5]
    have hall : ([23, 5, 5].all fun t => Tryz.prog.readableRec t && decide (t < Tryz.prog.types.size)) = true := by kernel_rfl
    intro t ht
    have hm : t ∈ [23, 5, 5] := by simpa using ht
    simpa using List.all_eq_true.1 hall t hm) (mem_below s')⟩
theorem stale_row : Rows.ShadowStaleSaid :=
  OpenClaim.holds_of_wide 5 Tryz.f5 rfl rfl rfl rfl rfl rfl rfl ⟨rfl, rfl, rfl, rfl, rfl⟩ rfl rfl rfl rfl rfl (by kernel_rfl) Tryz.func5 (by kernel_rfl)
    (of_decide_eq_true (by kernel_rfl)) (by unfold Func.isWrapper; first | (rw [if_pos (by decide +kernel)]; kernel_rfl) | (rw [if_neg (by decide +kernel)]; exact ⟨rfl, rfl⟩))
    (fun os started H enc _ => stale_lifted os started H enc)
theorem shadowStale_holds : Rows.ShadowStaleCardSaid :=
  Claim7.holds_tied_plain_at .later [] [.data] true (true, "fec2b3f3123dbc2c6f01ec91e0f29272a832ac25297d5111a8d4cb52a59a6a25") true
    stale_row (fun _ h => by cases h) (by kernel_rfl) (fun _ h => by cases h) shadowStale_row_tie rfl ⟨rfl, rfl⟩ (by kernel_rfl) rfl
    (fun f fn hf hfn => by
      obtain rfl : f = 5 := Option.some.inj ((show Tryz.prog.funcNamed "keepsake/keepsakelaw07.ShadowStale" = some 5 by kernel_rfl).symm.trans hf) |>.symm
      obtain rfl : fn = Tryz.f5 := (Option.some.inj (Tryz.func5.symm.trans hfn)).symm
      exact ⟨by kernel_rfl, fun j t ht => by
        rw [Tryz.params5] at ht
        have hm : t ∈ [23, 5, 5] := by simpa using Array.mem_of_getElem? ht
        have hall : ([23, 5, 5].all fun u => !Tryz.prog.wantsStandIn u) = true := by kernel_rfl
        exact (show Tryz.prog.wantsStandIn t = false by simpa using List.all_eq_true.1 hall t hm)⟩)
    (by kernel_rfl)
#print axioms shadowStale_holds
end Go.Proofs.YtbpilaghemkdjaaGreatDoor
