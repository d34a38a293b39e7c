/- ShadowTurns: each unlike image that is committed has the next number, and the other slot; one that is current has neither: for every input of which the statement speaks. -/
import Derived.Test.YtbpilaghemkdjaaGreatDoorPt5
set_option linter.all false
/- shadow: Commit; what it tells. -/
namespace Go.Sep
open Go Go.Proofs
attribute [local irreducible] JO JC JE JA JQ JB JI Mid Inv Weak ownS Ru Do Fn Sat Pick Take arr pt star ex Holds bodyPost Post Exit.then Exit.inBlock Res
variable {σ : Sig} {F : List HP}
attribute [local irreducible] shadHP diskHP cacheHP planHP rowHP FnX PostX
def commitR (D : DiskN) (e f s : Int) (S : ShadN) (b : List UInt8) : Int × DiskN × ShadN :=
  if S.stale = true then (11, D, S)
  else if (b.length : Int) ≠ S.now.length then (1, D, S)
  else if b = S.now then (0, D, S)
  else if S.seq = 18446744073709551615 then (12, D, S)
  else if (layR D (1 - S.which) e f s (S.seq + 1) b).1 ≠ 0 then ((layR D (1 - S.which) e f s (S.seq + 1) b).1, (layR D (1 - S.which) e f s (S.seq + 1) b).2, { S with stale := true })
  else (0, (layR D (1 - S.which) e f s (S.seq + 1) b).2, ⟨b, S.seq + 1, 1 - S.which, false⟩)
theorem Fn.shad {P : Program} {f' : FuncId} {args : Array Value} {post : Value → List HP → Prop} {sb d : Nat} {e f s : Int} {S : ShadN} {l : List HP} (h : ∀ p c, Fn P σ f' args (arr sb shT (shCells d e f s (.slice p S.now.length c) S.seq S.which S.stale) :: bytesHP (.slice p S.now.length c) S.now :: l) post) : Fn P σ f' args (shadHP sb d e f s S :: l) post :=
  Fn.shadU fun u => Fn.ownR (Pick.there Pick.here) fun _ _ hsh => by
    rcases hsh with ⟨rfl, h2⟩ | ⟨b, cap, rfl, _⟩
    · have e1 : Value.slice none 0 0 = Value.slice none S.now.length 0 := by rw [h2]
      rw [e1]
      exact h none 0
    · exact h _ cap
theorem finShad {post : Value → List HP → Prop} {v : Value} {l : List HP} {sb d : Nat} {e f s : Int} {img : List UInt8} {q w : Int} {st : Bool} {u : Value} {r l2 : List HP} (k : Weak l (arr sb shT (shCells d e f s u q w st) :: bytesHP u img :: r)) (k2 : Weak (shadHP sb d e f s ⟨img, q, w, st⟩ :: r) l2) (h : post v l2) : fin post v l σ :=
  ⟨_, Sat.weak (Weak.trans k (Weak.trans Weak.shadE k2)), h⟩
set_option maxHeartbeats 4000000 in
theorem shadow_Commit (sb d : Nat) (D : DiskN) (e f s : Int) (S : ShadN) (v : Value) (bs : List UInt8) (hw01 : S.which = 0 ∨ S.which = 1) (hq : 0 ≤ S.seq ∧ S.seq ≤ 18446744073709551615) (hbl : bs.length ≤ 100000) (hnl : S.now.length ≤ 100000) (hD : D.WF) (hops : D.ops ≤ 1000000000) (hwr : D.writes ≤ 100000) {l : List HP} [hg : InG l] (hb : RdS σ l v (bs.map byte)) :
    Fn Tryz.prog σ 46 #[.pointer (some ⟨sb, 0, none⟩), v] (shadHP sb d e f s S :: diskHP d D :: l)
      (fun r l' => r = int (commitR D e f s S bs).1 ∧ l' = shadHP sb d e f s (commitR D e f s S bs).2.2 :: diskHP d (commitR D e f s S bs).2.1 :: l) := by
  obtain ⟨now, q, w, st⟩ := S
  dsimp only at hw01 hq hnl
  refine Fn.shad fun p c => ?_
  dsimp only
  refine Fn.ownR (Pick.there Pick.here) fun hu _ _ => ?_
  obtain ⟨pv, cv, rfl, hcv, hrv⟩ := id hb
  have hlm : (bs.map byte).length = bs.length := by simp
  rw [hlm] at hb ⊢
  clear hrv hcv
  refine Fn.of Tryz.func46 rfl Tryz.ntmps46 rfl ?_
  cases st with
  | true =>
    have hR : commitR D e f s ⟨now, q, w, true⟩ bs = (11, D, ⟨now, q, w, true⟩) := if_pos rfl
    rw [hR]
    repeat' (first | (apply JO.ru; exact rfl; exact rfl; exact rfl; (first | (apply Ru.loadN; exact rfl; (repeat (first | exact Pick.here | apply Pick.there)); exact rfl) | (apply Ru.fieldAddr; exact rfl) | (apply Ru.nilP; exact rfl) | (apply Ru.assign; exact rfl))) | refine JC.seq ?_ | refine JC.region ?_ | refine JO.nil ?_ | refine JE.thenN ?_ | refine JE.thenR ?_ | refine JE.blockR ?_ | refine JC.block ?_ | refine JC.ret ?_ | refine JC.condT rfl ?_ | (apply JO.do; exact rfl; exact rfl; exact rfl; (first | (apply Do.boxN; exact rfl; exact rfl) | (apply Do.box; exact rfl)); rintro _ _ ⟨_, rfl, rfl⟩) | (apply JE.done1; exact rfl; (first | (apply Res.tmp; exact rfl) | (apply Res.cell; exact rfl; (repeat (first | exact Pick.here | apply Pick.there)); exact rfl) | (apply Res.cellAN; exact rfl; (repeat (first | exact Pick.here | apply Pick.there)); exact rfl; exact rfl) | (apply Res.cellA; exact rfl; (repeat (first | exact Pick.here | apply Pick.there)); exact rfl; exact rfl))))
    exact finShad (r := diskHP d D :: l) (by repeat (first | exact Weak.refl | (apply Weak.cons; (first | exact Pick.here | exact Pick.there Pick.here | exact Pick.there (Pick.there Pick.here) | exact Pick.there (Pick.there (Pick.there Pick.here)) | exact Pick.there (Pick.there (Pick.there (Pick.there Pick.here))) | exact Pick.there (Pick.there (Pick.there (Pick.there (Pick.there Pick.here)))) | exact Pick.there (Pick.there (Pick.there (Pick.there (Pick.there (Pick.there Pick.here))))) | exact Pick.there (Pick.there (Pick.there (Pick.there (Pick.there (Pick.there (Pick.there Pick.here)))))))) | apply Weak.drop)) (by repeat (first | exact Weak.refl | (apply Weak.cons; (first | exact Pick.here | exact Pick.there Pick.here | exact Pick.there (Pick.there Pick.here) | exact Pick.there (Pick.there (Pick.there Pick.here)) | exact Pick.there (Pick.there (Pick.there (Pick.there Pick.here))) | exact Pick.there (Pick.there (Pick.there (Pick.there (Pick.there Pick.here)))) | exact Pick.there (Pick.there (Pick.there (Pick.there (Pick.there (Pick.there Pick.here))))) | exact Pick.there (Pick.there (Pick.there (Pick.there (Pick.there (Pick.there (Pick.there Pick.here)))))))) | apply Weak.drop)) ⟨rfl, rfl⟩
  | false =>
    repeat' (first | (apply JO.ru; exact rfl; exact rfl; exact rfl; (first | (apply Ru.loadN; exact rfl; (repeat (first | exact Pick.here | apply Pick.there)); exact rfl) | (apply Ru.fieldAddr; exact rfl) | (apply Ru.nilP; exact rfl) | (apply Ru.assign; exact rfl))) | refine JC.seq ?_ | refine JC.region ?_ | refine JO.nil ?_ | refine JE.thenN ?_ | refine JE.thenR ?_ | refine JE.blockR ?_ | refine JC.block ?_ | refine JC.ret ?_ | refine JC.condT rfl ?_ | refine JC.condF rfl ?_ | (apply JQ.ru; exact rfl; exact rfl; exact rfl; (first | (apply Ru.loadN; exact rfl; (repeat (first | exact Pick.here | apply Pick.there)); exact rfl) | (apply Ru.fieldAddr; exact rfl) | (apply Ru.nilP; exact rfl) | (apply Ru.assign; exact rfl) | (apply Ru.lenS; exact rfl))) | (apply JQ.splitN; exact rfl; exact rfl; exact rfl; (apply Ru.neq; exact rfl; exact rfl; exact rfl); all_goals intro _) | refine JQ.nil ?_ | (apply JO.do; exact rfl; exact rfl; exact rfl; (first | (apply Do.boxN; exact rfl; exact rfl) | (apply Do.box; exact rfl)); rintro _ _ ⟨_, rfl, rfl⟩) | refine JC.regionQ mixed (by decide +kernel) ?_ | (apply JE.done1; exact rfl; (first | (apply Res.tmp; exact rfl) | (apply Res.cell; exact rfl; (repeat (first | exact Pick.here | apply Pick.there)); exact rfl) | (apply Res.cellAN; exact rfl; (repeat (first | exact Pick.here | apply Pick.there)); exact rfl; exact rfl) | (apply Res.cellA; exact rfl; (repeat (first | exact Pick.here | apply Pick.there)); exact rfl; exact rfl))))
    · rename_i tb bb heq
      have he := bytes_Equal (σ := σ) _ _ bs now (l := arr bb 35 [.slice pv bs.length cv] :: arr tb 66 [.pointer (some ⟨sb, 0, none⟩)] :: arr sb shT (shCells d e f s (.slice p now.length c) q w false) :: bytesHP (.slice p now.length c) now :: diskHP d D :: l) hb.cons.cons.cons.cons.cons hu.cons.cons
      rcases hbb : decide (bs = now) with _ | _
      · rw [hbb] at he
        have hne : ¬ bs = now := of_decide_eq_false hbb
        (apply JQ.call; exact rfl; exact rfl; exact rfl; exact he; (rintro _ _ ⟨rfl, rfl⟩; exact ⟨rfl, rfl⟩))
        repeat' (first | (apply JO.ru; exact rfl; exact rfl; exact rfl; (first | (apply Ru.loadN; exact rfl; (repeat (first | exact Pick.here | apply Pick.there)); exact rfl) | (apply Ru.fieldAddr; exact rfl) | (apply Ru.nilP; exact rfl) | (apply Ru.assign; exact rfl) | (apply Ru.sub; exact rfl; exact rfl; (first | exact wrapI (by omega) (by omega) | exact rfl)) | (apply Ru.makeFunc; exact rfl; exact rfl))) | refine JC.seq ?_ | refine JC.region ?_ | refine JO.nil ?_ | refine JE.thenN ?_ | refine JE.thenR ?_ | refine JE.blockN ?_ | refine JE.blockR ?_ | refine JC.ret ?_ | refine JC.skip ?_ | refine JC.condT rfl ?_ | refine JC.condF rfl ?_ | (apply JQ.ru; exact rfl; exact rfl; exact rfl; ((apply Ru.assign; exact rfl))) | (apply JO.split; exact rfl; exact rfl; exact rfl; ((apply Ru.eql; exact rfl; exact rfl; exact rfl)); all_goals intro _) | refine JQ.nil ?_ | (apply JO.do; exact rfl; exact rfl; exact rfl; (first | (apply Do.allocN; exact rfl) | apply Do.alloc); rintro _ _ ⟨_, rfl, rfl⟩) | (apply JO.do0; exact rfl; exact rfl; (first | (apply Do.storeN; exact rfl; exact rfl; exact rfl; (repeat (first | exact Pick.here | apply Pick.there)); exact rfl; exact rfl) | (apply Do.store; exact rfl; exact rfl; exact rfl; (repeat (first | exact Pick.here | apply Pick.there)); exact rfl)); rintro _ _ ⟨rfl, rfl⟩) | (apply JE.done1; exact rfl; (first | (apply Res.tmp; exact rfl) | (apply Res.cell; exact rfl; (repeat (first | exact Pick.here | apply Pick.there)); exact rfl) | (apply Res.cellAN; exact rfl; (repeat (first | exact Pick.here | apply Pick.there)); exact rfl; exact rfl) | (apply Res.cellA; exact rfl; (repeat (first | exact Pick.here | apply Pick.there)); exact rfl; exact rfl))))
        · rename_i hqq
          have hR : commitR D e f s ⟨now, q, w, false⟩ bs = (12, D, ⟨now, q, w, false⟩) := by
            unfold commitR; rw [if_neg (by simp), if_neg (by show ¬ ((bs.length : Int) ≠ now.length); omega), if_neg hne, if_pos hqq]
          rw [hR]
          exact finShad (r := diskHP d D :: l) (by repeat (first | exact Weak.refl | (apply Weak.cons; (first | exact Pick.here | exact Pick.there Pick.here | exact Pick.there (Pick.there Pick.here) | exact Pick.there (Pick.there (Pick.there Pick.here)) | exact Pick.there (Pick.there (Pick.there (Pick.there Pick.here))) | exact Pick.there (Pick.there (Pick.there (Pick.there (Pick.there Pick.here)))) | exact Pick.there (Pick.there (Pick.there (Pick.there (Pick.there (Pick.there Pick.here))))) | exact Pick.there (Pick.there (Pick.there (Pick.there (Pick.there (Pick.there (Pick.there Pick.here)))))))) | apply Weak.drop)) (by repeat (first | exact Weak.refl | (apply Weak.cons; (first | exact Pick.here | exact Pick.there Pick.here | exact Pick.there (Pick.there Pick.here) | exact Pick.there (Pick.there (Pick.there Pick.here)) | exact Pick.there (Pick.there (Pick.there (Pick.there Pick.here))) | exact Pick.there (Pick.there (Pick.there (Pick.there (Pick.there Pick.here)))) | exact Pick.there (Pick.there (Pick.there (Pick.there (Pick.there (Pick.there Pick.here))))) | exact Pick.there (Pick.there (Pick.there (Pick.there (Pick.there (Pick.there (Pick.there Pick.here)))))))) | apply Weak.drop)) ⟨rfl, rfl⟩
        · rename_i hqq ob
          obtain ⟨⟨er, E⟩, hE⟩ : ∃ x, layR D (1 - w) e f s (q + 1) bs = x := ⟨_, rfl⟩
          have h1 := fun p' => shadow_Commit1 (σ := σ) d sb bb ob tb D e f s q w (1 - w) false (.slice p now.length c) (.slice pv bs.length cv) bs (by omega) hbl hD hops hwr (l := bytesHP (.slice p now.length c) now :: l) hb.cons p'
          rw [hE] at h1
          refine JO.heap (Sat.weak (l' := diskHP d D :: arr ob 3 [int (1 - w)] :: arr tb 66 [.pointer (some ⟨sb, 0, none⟩)] :: arr bb 35 [.slice pv bs.length cv] :: arr sb shT (shCells d e f s (.slice p now.length c) q w false) :: bytesHP (.slice p now.length c) now :: l) (by repeat (first | exact Weak.refl | (apply Weak.cons; (first | exact Pick.here | exact Pick.there Pick.here | exact Pick.there (Pick.there Pick.here) | exact Pick.there (Pick.there (Pick.there Pick.here)) | exact Pick.there (Pick.there (Pick.there (Pick.there Pick.here))) | exact Pick.there (Pick.there (Pick.there (Pick.there (Pick.there Pick.here)))) | exact Pick.there (Pick.there (Pick.there (Pick.there (Pick.there (Pick.there Pick.here))))) | exact Pick.there (Pick.there (Pick.there (Pick.there (Pick.there (Pick.there (Pick.there Pick.here)))))))) | apply Weak.drop))) ?_
          repeat' (fail)
          (apply JO.do; exact rfl; exact rfl; exact rfl; (apply Do.call; exact rfl; exact shadow_tried h1); rintro _ _ ⟨rfl, rfl⟩)
          by_cases h : er = 0
          · subst h
            have hR : commitR D e f s ⟨now, q, w, false⟩ bs = (0, E, ⟨bs, q + 1, 1 - w, false⟩) := by
              unfold commitR; rw [if_neg (by simp), if_neg (by show ¬ ((bs.length : Int) ≠ now.length); omega), if_neg hne, if_neg hqq, hE, if_neg (by simp)]
            rw [hR]
            repeat' (first | (apply JO.ru; exact rfl; exact rfl; exact rfl; (first | (apply Ru.move; exact rfl) | (apply Ru.loadN; exact rfl; (repeat (first | exact Pick.here | apply Pick.there)); exact rfl) | (apply Ru.fieldAddr; exact rfl) | (apply Ru.nilP; exact rfl) | (apply Ru.assign; exact rfl) | (apply Ru.neq; exact rfl; exact rfl; (first | exact ndecF (by omega) | exact ndecT (by omega))))) | refine JC.seq ?_ | refine JC.region ?_ | refine JO.nil ?_ | refine JE.thenN ?_ | refine JC.skip ?_ | refine JC.condF rfl ?_ | (apply JO.do0; exact rfl; exact rfl; (first | (apply Do.storeN; exact rfl; exact rfl; exact rfl; (repeat (first | exact Pick.here | apply Pick.there)); exact rfl; exact rfl) | (apply Do.store; exact rfl; exact rfl; exact rfl; (repeat (first | exact Pick.here | apply Pick.there)); exact rfl)); rintro _ _ ⟨rfl, rfl⟩))
            refine JC.regionB (diskHP d E :: arr ob 3 [int (1 - w)] :: arr tb 66 [.pointer (some ⟨sb, 0, none⟩)] :: arr bb 35 [.slice pv bs.length cv] :: bytesHP (.slice p now.length c) now :: l) mixed ?_
            repeat' ((apply JB.ru; exact rfl; exact rfl; exact rfl; exact rfl; (first | (apply Ru.loadN; exact rfl; (repeat (first | exact Pick.here | apply Pick.there)); exact rfl) | (apply Ru.fieldAddr; exact rfl) | (apply Ru.nilP; exact rfl)); decide +kernel; decide +kernel; (first | exact fun _ h => h | exact fun _ h => Sat.drop h | exact fun _ h => Sat.drop (Sat.drop h) | exact fun _ h => Sat.drop (Sat.drop (Sat.drop h)) | exact fun _ h => Sat.drop (Sat.drop (Sat.drop (Sat.drop h)))); (simp only [Nat.reduceAdd, Nat.reducePow, Nat.reduceMul, Nat.zero_or, Nat.or_zero, Nat.reduceXor, Nat.reduceOr]; try exact rfl)))
            (apply JB.at 10; exact rfl; decide +kernel; exact rfl; exact rfl; exact rfl; ((apply Ru.loadN; exact rfl; (repeat (first | exact Pick.here | apply Pick.there)); exact rfl)); decide +kernel; decide +kernel; exact fun _ h => Sat.drop h; (simp only [Nat.reduceAdd, Nat.reducePow, Nat.reduceMul, Nat.zero_or, Nat.or_zero, Nat.reduceXor, Nat.reduceOr]; try exact rfl))
            have hcl := slices_Clone (σ := σ) (.slice pv bs.length cv) (bs.map byte) (byteOne _) (by rw [hlm]; omega) (l := arr sb shT [.pointer (some ⟨d, 0, none⟩), int e, int f, int s, .slice p now.length c, u64 q, int w, .bool false] :: diskHP d E :: arr ob 3 [int (1 - w)] :: arr tb 66 [.pointer (some ⟨sb, 0, none⟩)] :: arr bb 35 [.slice pv bs.length cv] :: bytesHP (.slice p now.length c) now :: l) hb.cons.cons.cons.cons.cons.cons
            rw [hlm] at hcl
            have hwq : IntKind.u64.wrap (q + 1) = q + 1 := wrapU64 (by omega) (by omega)
            refine JB.two 4 8 (by decide +kernel) ?_ ?_
            · (apply JI.do; exact rfl; exact rfl; exact rfl; exact rfl; (apply Do.call; exact rfl; exact hcl); (simp only [Nat.reduceAdd, Nat.reducePow, Nat.reduceMul, Nat.zero_or, Nat.or_zero, Nat.reduceXor, Nat.reduceOr]; try exact rfl); rintro u2 _ ⟨rfl, _⟩; refine ⟨fun _ s => s.drop.drop, ?_⟩)
              refine JB.ownU Pick.here fun pu cu hu2 => ?_
              subst hu2
              refine JB.one 8 (by decide +kernel) ?_
              (apply JI.do; exact rfl; exact rfl; exact rfl; exact rfl; (apply Ru.ofDo; (apply Ru.loadN; exact rfl; (repeat (first | exact Pick.here | apply Pick.there)); exact rfl)); (simp only [Nat.reduceAdd, Nat.reducePow, Nat.reduceMul, Nat.zero_or, Nat.or_zero, Nat.reduceXor, Nat.reduceOr]; try exact rfl); rintro _ _ ⟨rfl, rfl⟩; refine ⟨fun _ s => s.drop.drop, ?_⟩)
              repeat' (first | (first | (apply JB.ru; exact rfl; exact rfl; exact rfl; exact rfl; (first | (apply Ru.fieldAddr; exact rfl) | (apply Ru.nilP; exact rfl) | (apply Ru.add; exact rfl; exact rfl; (first | exact wrapI (by omega) (by omega) | exact rfl))); decide +kernel; decide +kernel; (first | exact fun _ h => h | exact fun _ h => Sat.drop h | exact fun _ h => Sat.drop (Sat.drop h) | exact fun _ h => Sat.drop (Sat.drop (Sat.drop h)) | exact fun _ h => Sat.drop (Sat.drop (Sat.drop (Sat.drop h)))); (simp only [Nat.reduceAdd, Nat.reducePow, Nat.reduceMul, Nat.zero_or, Nat.or_zero, Nat.reduceXor, Nat.reduceOr]; try exact rfl)) | (apply JB.nil; exact rfl) | (apply JI.do0; exact rfl; exact rfl; exact rfl; (first | (apply Do.storeN; exact rfl; exact rfl; exact rfl; (repeat (first | exact Pick.here | apply Pick.there)); exact rfl; exact rfl) | (apply Do.store; exact rfl; exact rfl; exact rfl; (repeat (first | exact Pick.here | apply Pick.there)); exact rfl)); (simp only [Nat.reduceAdd, Nat.reducePow, Nat.reduceMul, Nat.zero_or, Nat.or_zero, Nat.reduceXor, Nat.reduceOr]; try exact rfl); rintro _ _ ⟨rfl, rfl⟩; refine ⟨(by (first | exact fun _ h => h | exact fun _ h => Sat.drop h | exact fun _ h => Sat.drop (Sat.drop h) | exact fun _ h => Sat.drop (Sat.drop (Sat.drop h)) | exact fun _ h => Sat.drop (Sat.drop (Sat.drop (Sat.drop h))))), ?_⟩)) | refine JB.one 13 (by decide +kernel) ?_ | refine JB.one 16 (by decide +kernel) ?_ | refine JB.one 19 (by decide +kernel) ?_)
              rw [hwq]
              repeat' (first | (apply JO.ru; exact rfl; exact rfl; exact rfl; ((apply Ru.assign; exact rfl))) | refine JC.seq ?_ | refine JC.region ?_ | refine JO.nil ?_ | refine JE.thenN ?_ | refine JC.ret ?_ | (apply JE.done1; exact rfl; (first | (apply Res.tmp; exact rfl) | (apply Res.cell; exact rfl; (repeat (first | exact Pick.here | apply Pick.there)); exact rfl) | (apply Res.cellAN; exact rfl; (repeat (first | exact Pick.here | apply Pick.there)); exact rfl; exact rfl) | (apply Res.cellA; exact rfl; (repeat (first | exact Pick.here | apply Pick.there)); exact rfl; exact rfl))))
              exact finShad (r := diskHP d E :: l) (by repeat (first | exact Weak.refl | (apply Weak.cons; (first | exact Pick.here | exact Pick.there Pick.here | exact Pick.there (Pick.there Pick.here) | exact Pick.there (Pick.there (Pick.there Pick.here)) | exact Pick.there (Pick.there (Pick.there (Pick.there Pick.here))) | exact Pick.there (Pick.there (Pick.there (Pick.there (Pick.there Pick.here)))) | exact Pick.there (Pick.there (Pick.there (Pick.there (Pick.there (Pick.there Pick.here))))) | exact Pick.there (Pick.there (Pick.there (Pick.there (Pick.there (Pick.there (Pick.there Pick.here)))))) | exact Pick.there (Pick.there (Pick.there (Pick.there (Pick.there (Pick.there (Pick.there (Pick.there Pick.here))))))) | exact Pick.there (Pick.there (Pick.there (Pick.there (Pick.there (Pick.there (Pick.there (Pick.there (Pick.there Pick.here)))))))) | exact Pick.there (Pick.there (Pick.there (Pick.there (Pick.there (Pick.there (Pick.there (Pick.there (Pick.there (Pick.there Pick.here))))))))) | exact Pick.there (Pick.there (Pick.there (Pick.there (Pick.there (Pick.there (Pick.there (Pick.there (Pick.there (Pick.there (Pick.there Pick.here)))))))))) | exact Pick.there (Pick.there (Pick.there (Pick.there (Pick.there (Pick.there (Pick.there (Pick.there (Pick.there (Pick.there (Pick.there (Pick.there Pick.here))))))))))) | exact Pick.there (Pick.there (Pick.there (Pick.there (Pick.there (Pick.there (Pick.there (Pick.there (Pick.there (Pick.there (Pick.there (Pick.there (Pick.there Pick.here)))))))))))))) | apply Weak.drop)) (by repeat (first | exact Weak.refl | (apply Weak.cons; (first | exact Pick.here | exact Pick.there Pick.here | exact Pick.there (Pick.there Pick.here) | exact Pick.there (Pick.there (Pick.there Pick.here)) | exact Pick.there (Pick.there (Pick.there (Pick.there Pick.here))) | exact Pick.there (Pick.there (Pick.there (Pick.there (Pick.there Pick.here)))) | exact Pick.there (Pick.there (Pick.there (Pick.there (Pick.there (Pick.there Pick.here))))) | exact Pick.there (Pick.there (Pick.there (Pick.there (Pick.there (Pick.there (Pick.there Pick.here)))))))) | apply Weak.drop)) ⟨rfl, rfl⟩
            · (apply JI.do; exact rfl; exact rfl; exact rfl; exact rfl; (apply Ru.ofDo; (apply Ru.loadN; exact rfl; (repeat (first | exact Pick.here | apply Pick.there)); exact rfl)); (simp only [Nat.reduceAdd, Nat.reducePow, Nat.reduceMul, Nat.zero_or, Nat.or_zero, Nat.reduceXor, Nat.reduceOr]; try exact rfl); rintro _ _ ⟨rfl, rfl⟩; refine ⟨fun _ s => s.drop, ?_⟩)
              repeat' ((apply JB.ru; exact rfl; exact rfl; exact rfl; exact rfl; ((apply Ru.add; exact rfl; exact rfl; (first | exact wrapI (by omega) (by omega) | exact rfl))); decide +kernel; decide +kernel; (first | exact fun _ h => h | exact fun _ h => Sat.drop h | exact fun _ h => Sat.drop (Sat.drop h) | exact fun _ h => Sat.drop (Sat.drop (Sat.drop h)) | exact fun _ h => Sat.drop (Sat.drop (Sat.drop (Sat.drop h)))); (simp only [Nat.reduceAdd, Nat.reducePow, Nat.reduceMul, Nat.zero_or, Nat.or_zero, Nat.reduceXor, Nat.reduceOr]; try exact rfl)))
              refine JB.one 4 (by decide +kernel) ?_
              (apply JI.do; exact rfl; exact rfl; exact rfl; exact rfl; (apply Do.call; exact rfl; exact hcl); (simp only [Nat.reduceAdd, Nat.reducePow, Nat.reduceMul, Nat.zero_or, Nat.or_zero, Nat.reduceXor, Nat.reduceOr]; try exact rfl); rintro u2 _ ⟨rfl, _⟩; refine ⟨fun _ s => s.drop.drop, ?_⟩)
              refine JB.ownU Pick.here fun pu cu hu2 => ?_
              subst hu2
              repeat' (first | (first | (apply JB.ru; exact rfl; exact rfl; exact rfl; exact rfl; (first | (apply Ru.fieldAddr; exact rfl) | (apply Ru.nilP; exact rfl)); decide +kernel; decide +kernel; (first | exact fun _ h => h | exact fun _ h => Sat.drop h | exact fun _ h => Sat.drop (Sat.drop h) | exact fun _ h => Sat.drop (Sat.drop (Sat.drop h)) | exact fun _ h => Sat.drop (Sat.drop (Sat.drop (Sat.drop h)))); (simp only [Nat.reduceAdd, Nat.reducePow, Nat.reduceMul, Nat.zero_or, Nat.or_zero, Nat.reduceXor, Nat.reduceOr]; try exact rfl)) | (apply JB.nil; exact rfl) | (apply JI.do0; exact rfl; exact rfl; exact rfl; (first | (apply Do.storeN; exact rfl; exact rfl; exact rfl; (repeat (first | exact Pick.here | apply Pick.there)); exact rfl; exact rfl) | (apply Do.store; exact rfl; exact rfl; exact rfl; (repeat (first | exact Pick.here | apply Pick.there)); exact rfl)); (simp only [Nat.reduceAdd, Nat.reducePow, Nat.reduceMul, Nat.zero_or, Nat.or_zero, Nat.reduceXor, Nat.reduceOr]; try exact rfl); rintro _ _ ⟨rfl, rfl⟩; refine ⟨(by (first | exact fun _ h => h | exact fun _ h => Sat.drop h | exact fun _ h => Sat.drop (Sat.drop h) | exact fun _ h => Sat.drop (Sat.drop (Sat.drop h)) | exact fun _ h => Sat.drop (Sat.drop (Sat.drop (Sat.drop h))))), ?_⟩)) | refine JB.one 13 (by decide +kernel) ?_ | refine JB.one 16 (by decide +kernel) ?_ | refine JB.one 19 (by decide +kernel) ?_)
              rw [hwq]
              repeat' (first | (apply JO.ru; exact rfl; exact rfl; exact rfl; ((apply Ru.assign; exact rfl))) | refine JC.seq ?_ | refine JC.region ?_ | refine JO.nil ?_ | refine JE.thenN ?_ | refine JC.ret ?_ | (apply JE.done1; exact rfl; (first | (apply Res.tmp; exact rfl) | (apply Res.cell; exact rfl; (repeat (first | exact Pick.here | apply Pick.there)); exact rfl) | (apply Res.cellAN; exact rfl; (repeat (first | exact Pick.here | apply Pick.there)); exact rfl; exact rfl) | (apply Res.cellA; exact rfl; (repeat (first | exact Pick.here | apply Pick.there)); exact rfl; exact rfl))))
              exact finShad (r := diskHP d E :: l) (by repeat (first | exact Weak.refl | (apply Weak.cons; (first | exact Pick.here | exact Pick.there Pick.here | exact Pick.there (Pick.there Pick.here) | exact Pick.there (Pick.there (Pick.there Pick.here)) | exact Pick.there (Pick.there (Pick.there (Pick.there Pick.here))) | exact Pick.there (Pick.there (Pick.there (Pick.there (Pick.there Pick.here)))) | exact Pick.there (Pick.there (Pick.there (Pick.there (Pick.there (Pick.there Pick.here))))) | exact Pick.there (Pick.there (Pick.there (Pick.there (Pick.there (Pick.there (Pick.there Pick.here)))))) | exact Pick.there (Pick.there (Pick.there (Pick.there (Pick.there (Pick.there (Pick.there (Pick.there Pick.here))))))) | exact Pick.there (Pick.there (Pick.there (Pick.there (Pick.there (Pick.there (Pick.there (Pick.there (Pick.there Pick.here)))))))) | exact Pick.there (Pick.there (Pick.there (Pick.there (Pick.there (Pick.there (Pick.there (Pick.there (Pick.there (Pick.there Pick.here))))))))) | exact Pick.there (Pick.there (Pick.there (Pick.there (Pick.there (Pick.there (Pick.there (Pick.there (Pick.there (Pick.there (Pick.there Pick.here)))))))))) | exact Pick.there (Pick.there (Pick.there (Pick.there (Pick.there (Pick.there (Pick.there (Pick.there (Pick.there (Pick.there (Pick.there (Pick.there Pick.here))))))))))) | exact Pick.there (Pick.there (Pick.there (Pick.there (Pick.there (Pick.there (Pick.there (Pick.there (Pick.there (Pick.there (Pick.there (Pick.there (Pick.there Pick.here)))))))))))))) | apply Weak.drop)) (by repeat (first | exact Weak.refl | (apply Weak.cons; (first | exact Pick.here | exact Pick.there Pick.here | exact Pick.there (Pick.there Pick.here) | exact Pick.there (Pick.there (Pick.there Pick.here)) | exact Pick.there (Pick.there (Pick.there (Pick.there Pick.here))) | exact Pick.there (Pick.there (Pick.there (Pick.there (Pick.there Pick.here)))) | exact Pick.there (Pick.there (Pick.there (Pick.there (Pick.there (Pick.there Pick.here))))) | exact Pick.there (Pick.there (Pick.there (Pick.there (Pick.there (Pick.there (Pick.there Pick.here)))))))) | apply Weak.drop)) ⟨rfl, rfl⟩
          · have hR : commitR D e f s ⟨now, q, w, false⟩ bs = (er, E, ⟨now, q, w, true⟩) := by
              unfold commitR; rw [if_neg (by simp), if_neg (by show ¬ ((bs.length : Int) ≠ now.length); omega), if_neg hne, if_neg hqq, hE, if_pos h]
            rw [hR]
            repeat' (first | (apply JO.ru; exact rfl; exact rfl; exact rfl; (first | (apply Ru.move; exact rfl) | (apply Ru.loadN; exact rfl; (repeat (first | exact Pick.here | apply Pick.there)); exact rfl) | (apply Ru.fieldAddr; exact rfl) | (apply Ru.nilP; exact rfl) | (apply Ru.assign; exact rfl) | (apply Ru.neq; exact rfl; exact rfl; (first | exact ndecF (by omega) | exact ndecT (by omega))))) | refine JC.seq ?_ | refine JC.region ?_ | refine JO.nil ?_ | refine JE.thenN ?_ | refine JE.thenR ?_ | refine JC.ret ?_ | refine JC.condT rfl ?_ | (apply JO.do0; exact rfl; exact rfl; (first | (apply Do.storeN; exact rfl; exact rfl; exact rfl; (repeat (first | exact Pick.here | apply Pick.there)); exact rfl; exact rfl) | (apply Do.store; exact rfl; exact rfl; exact rfl; (repeat (first | exact Pick.here | apply Pick.there)); exact rfl)); rintro _ _ ⟨rfl, rfl⟩) | (apply JE.done1; exact rfl; (first | (apply Res.tmp; exact rfl) | (apply Res.cell; exact rfl; (repeat (first | exact Pick.here | apply Pick.there)); exact rfl) | (apply Res.cellAN; exact rfl; (repeat (first | exact Pick.here | apply Pick.there)); exact rfl; exact rfl) | (apply Res.cellA; exact rfl; (repeat (first | exact Pick.here | apply Pick.there)); exact rfl; exact rfl))))
            exact finShad (r := diskHP d E :: l) (by repeat (first | exact Weak.refl | (apply Weak.cons; (first | exact Pick.here | exact Pick.there Pick.here | exact Pick.there (Pick.there Pick.here) | exact Pick.there (Pick.there (Pick.there Pick.here)) | exact Pick.there (Pick.there (Pick.there (Pick.there Pick.here))) | exact Pick.there (Pick.there (Pick.there (Pick.there (Pick.there Pick.here)))) | exact Pick.there (Pick.there (Pick.there (Pick.there (Pick.there (Pick.there Pick.here))))) | exact Pick.there (Pick.there (Pick.there (Pick.there (Pick.there (Pick.there (Pick.there Pick.here)))))) | exact Pick.there (Pick.there (Pick.there (Pick.there (Pick.there (Pick.there (Pick.there (Pick.there Pick.here))))))) | exact Pick.there (Pick.there (Pick.there (Pick.there (Pick.there (Pick.there (Pick.there (Pick.there (Pick.there Pick.here)))))))) | exact Pick.there (Pick.there (Pick.there (Pick.there (Pick.there (Pick.there (Pick.there (Pick.there (Pick.there (Pick.there Pick.here))))))))) | exact Pick.there (Pick.there (Pick.there (Pick.there (Pick.there (Pick.there (Pick.there (Pick.there (Pick.there (Pick.there (Pick.there Pick.here)))))))))) | exact Pick.there (Pick.there (Pick.there (Pick.there (Pick.there (Pick.there (Pick.there (Pick.there (Pick.there (Pick.there (Pick.there (Pick.there Pick.here))))))))))) | exact Pick.there (Pick.there (Pick.there (Pick.there (Pick.there (Pick.there (Pick.there (Pick.there (Pick.there (Pick.there (Pick.there (Pick.there (Pick.there Pick.here)))))))))))))) | apply Weak.drop)) (by repeat (first | exact Weak.refl | (apply Weak.cons; (first | exact Pick.here | exact Pick.there Pick.here | exact Pick.there (Pick.there Pick.here) | exact Pick.there (Pick.there (Pick.there Pick.here)) | exact Pick.there (Pick.there (Pick.there (Pick.there Pick.here))) | exact Pick.there (Pick.there (Pick.there (Pick.there (Pick.there Pick.here)))) | exact Pick.there (Pick.there (Pick.there (Pick.there (Pick.there (Pick.there Pick.here))))) | exact Pick.there (Pick.there (Pick.there (Pick.there (Pick.there (Pick.there (Pick.there Pick.here)))))))) | apply Weak.drop)) ⟨rfl, rfl⟩
      · rw [hbb] at he
        have hne : bs = now := of_decide_eq_true hbb
        have hR : commitR D e f s ⟨now, q, w, false⟩ bs = (0, D, ⟨now, q, w, false⟩) := by
          unfold commitR; rw [if_neg (by simp), if_neg (by show ¬ ((bs.length : Int) ≠ now.length); omega), if_pos hne]
        rw [hR]
        (apply JQ.call; exact rfl; exact rfl; exact rfl; exact he; (rintro _ _ ⟨rfl, rfl⟩; exact ⟨rfl, rfl⟩))
        repeat' (first | (apply JO.ru; exact rfl; exact rfl; exact rfl; ((apply Ru.assign; exact rfl))) | refine JC.seq ?_ | refine JC.region ?_ | refine JO.nil ?_ | refine JE.thenN ?_ | refine JE.thenR ?_ | refine JE.blockR ?_ | refine JC.ret ?_ | refine JC.condT rfl ?_ | (apply JQ.ru; exact rfl; exact rfl; exact rfl; ((apply Ru.assign; exact rfl))) | refine JQ.nil ?_ | (apply JE.done1; exact rfl; (first | (apply Res.tmp; exact rfl) | (apply Res.cell; exact rfl; (repeat (first | exact Pick.here | apply Pick.there)); exact rfl) | (apply Res.cellAN; exact rfl; (repeat (first | exact Pick.here | apply Pick.there)); exact rfl; exact rfl) | (apply Res.cellA; exact rfl; (repeat (first | exact Pick.here | apply Pick.there)); exact rfl; exact rfl))))
        exact finShad (r := diskHP d D :: l) (by repeat (first | exact Weak.refl | (apply Weak.cons; (first | exact Pick.here | exact Pick.there Pick.here | exact Pick.there (Pick.there Pick.here) | exact Pick.there (Pick.there (Pick.there Pick.here)) | exact Pick.there (Pick.there (Pick.there (Pick.there Pick.here))) | exact Pick.there (Pick.there (Pick.there (Pick.there (Pick.there Pick.here)))) | exact Pick.there (Pick.there (Pick.there (Pick.there (Pick.there (Pick.there Pick.here))))) | exact Pick.there (Pick.there (Pick.there (Pick.there (Pick.there (Pick.there (Pick.there Pick.here)))))))) | apply Weak.drop)) (by repeat (first | exact Weak.refl | (apply Weak.cons; (first | exact Pick.here | exact Pick.there Pick.here | exact Pick.there (Pick.there Pick.here) | exact Pick.there (Pick.there (Pick.there Pick.here)) | exact Pick.there (Pick.there (Pick.there (Pick.there Pick.here))) | exact Pick.there (Pick.there (Pick.there (Pick.there (Pick.there Pick.here)))) | exact Pick.there (Pick.there (Pick.there (Pick.there (Pick.there (Pick.there Pick.here))))) | exact Pick.there (Pick.there (Pick.there (Pick.there (Pick.there (Pick.there (Pick.there Pick.here)))))))) | apply Weak.drop)) ⟨rfl, rfl⟩
    · rename_i hle
      have hR : commitR D e f s ⟨now, q, w, false⟩ bs = (1, D, ⟨now, q, w, false⟩) := by
        unfold commitR; rw [if_neg (by simp), if_pos hle]
      rw [hR]
      exact finShad (r := diskHP d D :: l) (by repeat (first | exact Weak.refl | (apply Weak.cons; (first | exact Pick.here | exact Pick.there Pick.here | exact Pick.there (Pick.there Pick.here) | exact Pick.there (Pick.there (Pick.there Pick.here)) | exact Pick.there (Pick.there (Pick.there (Pick.there Pick.here))) | exact Pick.there (Pick.there (Pick.there (Pick.there (Pick.there Pick.here)))) | exact Pick.there (Pick.there (Pick.there (Pick.there (Pick.there (Pick.there Pick.here))))) | exact Pick.there (Pick.there (Pick.there (Pick.there (Pick.there (Pick.there (Pick.there Pick.here)))))))) | apply Weak.drop)) (by repeat (first | exact Weak.refl | (apply Weak.cons; (first | exact Pick.here | exact Pick.there Pick.here | exact Pick.there (Pick.there Pick.here) | exact Pick.there (Pick.there (Pick.there Pick.here)) | exact Pick.there (Pick.there (Pick.there (Pick.there Pick.here))) | exact Pick.there (Pick.there (Pick.there (Pick.there (Pick.there Pick.here)))) | exact Pick.there (Pick.there (Pick.there (Pick.there (Pick.there (Pick.there Pick.here))))) | exact Pick.there (Pick.there (Pick.there (Pick.there (Pick.there (Pick.there (Pick.there Pick.here)))))))) | apply Weak.drop)) ⟨rfl, rfl⟩
set_option maxHeartbeats 1000000 in
theorem shadow_Image (sb d : Nat) (e f s : Int) (S : ShadN) (hn : S.now.length ≤ 100000) {l : List HP} :
    Fn Tryz.prog σ 42 #[.pointer (some ⟨sb, 0, none⟩)] (shadHP sb d e f s S :: l) (fun v l' => l' = bytesHP v S.now :: shadHP sb d e f s S :: l) := by
  obtain ⟨now, q, w, st⟩ := S
  refine Fn.shad fun p c => ?_
  dsimp only at hn ⊢
  refine Fn.ownR (Pick.there Pick.here) fun hu _ _ => ?_
  have hlm : (now.map byte).length = now.length := by simp
  have hcl := slices_Clone (σ := σ) (.slice p now.length c) (now.map byte) (byteOne _) (by rw [hlm]; omega) hu
  rw [hlm] at hcl
  refine Fn.of Tryz.func42 rfl Tryz.ntmps42 rfl ?_
  repeat' (first | (apply JO.ru; exact rfl; exact rfl; exact rfl; (first | (apply Ru.move; exact rfl) | (apply Ru.loadN; exact rfl; (repeat (first | exact Pick.here | apply Pick.there)); exact rfl) | (apply Ru.fieldAddr; exact rfl) | (apply Ru.nilP; exact rfl) | (apply Ru.assign; exact rfl))) | refine JC.seq ?_ | refine JC.region ?_ | refine JO.nil ?_ | refine JE.thenN ?_)
  (apply JO.do; exact rfl; exact rfl; exact rfl; (apply Do.call; exact rfl; exact hcl); rintro u2 _ ⟨rfl, _⟩)
  repeat' (first | (apply JO.ru; exact rfl; exact rfl; exact rfl; ((apply Ru.assign; exact rfl))) | refine JO.nil ?_ | refine JE.thenN ?_ | refine JC.ret ?_ | (apply JE.done1; exact rfl; (first | (apply Res.tmp; exact rfl) | (apply Res.cell; exact rfl; (repeat (first | exact Pick.here | apply Pick.there)); exact rfl) | (apply Res.cellAN; exact rfl; (repeat (first | exact Pick.here | apply Pick.there)); exact rfl; exact rfl) | (apply Res.cellA; exact rfl; (repeat (first | exact Pick.here | apply Pick.there)); exact rfl; exact rfl))))
  refine ⟨bytesHP u2 now :: shadHP sb d e f s ⟨now, q, w, st⟩ :: l, Sat.weak ?_, rfl⟩
  exact Weak.cons Pick.here Weak.shadE
theorem shadow_Seq (sb d : Nat) (e f s : Int) (S : ShadN) {l : List HP} :
    Fn Tryz.prog σ 43 #[.pointer (some ⟨sb, 0, none⟩)] (shadHP sb d e f s S :: l) (fun v l' => v = u64 S.seq ∧ l' = shadHP sb d e f s S :: l) := by
  obtain ⟨now, q, w, st⟩ := S
  refine Fn.shad fun p c => ?_
  dsimp only
  refine Fn.of Tryz.func43 rfl Tryz.ntmps43 rfl ?_
  repeat' (first | (apply JO.ru; exact rfl; exact rfl; exact rfl; (first | (apply Ru.move; exact rfl) | (apply Ru.loadN; exact rfl; (repeat (first | exact Pick.here | apply Pick.there)); exact rfl) | (apply Ru.fieldAddr; exact rfl) | (apply Ru.nilP; exact rfl) | (apply Ru.assign; exact rfl))) | refine JC.seq ?_ | refine JC.region ?_ | refine JO.nil ?_ | refine JE.thenN ?_ | refine JC.ret ?_ | (apply JE.done1; exact rfl; (first | (apply Res.tmp; exact rfl) | (apply Res.cell; exact rfl; (repeat (first | exact Pick.here | apply Pick.there)); exact rfl) | (apply Res.cellAN; exact rfl; (repeat (first | exact Pick.here | apply Pick.there)); exact rfl; exact rfl) | (apply Res.cellA; exact rfl; (repeat (first | exact Pick.here | apply Pick.there)); exact rfl; exact rfl))))
  exact finShad (r := l) Weak.refl Weak.refl ⟨rfl, rfl⟩
theorem shadow_Which (sb d : Nat) (e f s : Int) (S : ShadN) {l : List HP} :
    Fn Tryz.prog σ 44 #[.pointer (some ⟨sb, 0, none⟩)] (shadHP sb d e f s S :: l) (fun v l' => v = int S.which ∧ l' = shadHP sb d e f s S :: l) := by
  obtain ⟨now, q, w, st⟩ := S
  refine Fn.shad fun p c => ?_
  dsimp only
  refine Fn.of Tryz.func44 rfl Tryz.ntmps44 rfl ?_
  repeat' (first | (apply JO.ru; exact rfl; exact rfl; exact rfl; (first | (apply Ru.move; exact rfl) | (apply Ru.loadN; exact rfl; (repeat (first | exact Pick.here | apply Pick.there)); exact rfl) | (apply Ru.fieldAddr; exact rfl) | (apply Ru.nilP; exact rfl) | (apply Ru.assign; exact rfl))) | refine JC.seq ?_ | refine JC.region ?_ | refine JO.nil ?_ | refine JE.thenN ?_ | refine JC.ret ?_ | (apply JE.done1; exact rfl; (first | (apply Res.tmp; exact rfl) | (apply Res.cell; exact rfl; (repeat (first | exact Pick.here | apply Pick.there)); exact rfl) | (apply Res.cellAN; exact rfl; (repeat (first | exact Pick.here | apply Pick.there)); exact rfl; exact rfl) | (apply Res.cellA; exact rfl; (repeat (first | exact Pick.here | apply Pick.there)); exact rfl; exact rfl))))
  exact finShad (r := l) Weak.refl Weak.refl ⟨rfl, rfl⟩
theorem shadow_Stale (sb d : Nat) (e f s : Int) (S : ShadN) {l : List HP} :
    Fn Tryz.prog σ 49 #[.pointer (some ⟨sb, 0, none⟩)] (shadHP sb d e f s S :: l) (fun v l' => v = .bool S.stale ∧ l' = shadHP sb d e f s S :: l) := by
  obtain ⟨now, q, w, st⟩ := S
  refine Fn.shad fun p c => ?_
  dsimp only
  refine Fn.of Tryz.func49 rfl Tryz.ntmps49 rfl ?_
  repeat' (first | (apply JO.ru; exact rfl; exact rfl; exact rfl; (first | (apply Ru.move; exact rfl) | (apply Ru.loadN; exact rfl; (repeat (first | exact Pick.here | apply Pick.there)); exact rfl) | (apply Ru.fieldAddr; exact rfl) | (apply Ru.nilP; exact rfl) | (apply Ru.assign; exact rfl))) | refine JC.seq ?_ | refine JC.region ?_ | refine JO.nil ?_ | refine JE.thenN ?_ | refine JC.ret ?_ | (apply JE.done1; exact rfl; (first | (apply Res.tmp; exact rfl) | (apply Res.cell; exact rfl; (repeat (first | exact Pick.here | apply Pick.there)); exact rfl) | (apply Res.cellAN; exact rfl; (repeat (first | exact Pick.here | apply Pick.there)); exact rfl; exact rfl) | (apply Res.cellA; exact rfl; (repeat (first | exact Pick.here | apply Pick.there)); exact rfl; exact rfl))))
  exact finShad (r := l) Weak.refl Weak.refl ⟨rfl, rfl⟩
end Go.Sep
/- The statements of layer 7: what they are helped by. -/
namespace Go.Sep
open Go Go.Proofs
attribute [local irreducible] JO JC JE JA JQ JB JI Mid Inv Weak ownS Ru Do Fn Sat Pick Take arr pt star ex Holds bodyPost Post Exit.then Exit.inBlock Res
variable {σ : Sig} {F : List HP}
attribute [local irreducible] shadHP diskHP cacheHP planHP rowHP FnX PostX
def sizeOfU (z : UInt8) : Nat := 32 + z.toNat % 100
theorem sizeOfU_bd (z : UInt8) : 32 ≤ sizeOfU z ∧ sizeOfU z ≤ 131 := by unfold sizeOfU; omega
theorem span_few {z : Nat} {e f s : Int} (ht : totG e f s ≤ 500) : 0 ≤ spanG z e f s ∧ spanG z e f s ≤ 501 := by
  have h1 := totG_bd e f s
  have h2 := secs_bd (m := totG e f s) (s := (z : Int)) h1.1
  unfold spanG
  split <;> omega
theorem few_tot {e f s : Int} (h : fewG e f s = true) (hr : rightG e f s = true) : totG e f s ≤ 500 := by
  unfold fewG at h; rw [hr] at h; simpa using h
theorem padB_nil (m : Nat) : padB [] m = List.replicate m 0 := by simp [padB]
theorem secs_ref {m z : Int} (hm : 1 ≤ m) (hz : 1 ≤ z ∧ z ≤ 4096) : secs m z = m / z + (if m % z > 0 then 1 else 0) := by
  unfold secs
  rw [if_neg (by omega)]
  have h1 := Int.mul_ediv_add_emod m z
  have h2 := Int.emod_nonneg m (by omega : z ≠ 0)
  have h3 := Int.emod_lt_of_pos m (by omega : 0 < z)
  have h4 := Int.mul_ediv_add_emod (m - 1) z
  have h5 := Int.emod_nonneg (m - 1) (by omega : z ≠ 0)
  have h6 := Int.emod_lt_of_pos (m - 1) (by omega : 0 < z)
  generalize m / z = a at *
  generalize m % z = b at *
  generalize (m - 1) / z = c at *
  generalize (m - 1) % z = d at *
  by_cases hb : b > 0
  · rw [if_pos hb]
    have : z * a + b = z * c + d + 1 := by omega
    have e1 : z * (a - c) = d + 1 - b := by rw [Int.mul_sub]; omega
    have : a - c = 0 := by
      rcases Int.lt_trichotomy (a - c) 0 with q | q | q
      · have : z * (a - c) ≤ z * (-1) := Int.mul_le_mul_of_nonneg_left (by omega) (by omega)
        omega
      · exact q
      · have : z * 1 ≤ z * (a - c) := Int.mul_le_mul_of_nonneg_left (by omega) (by omega)
        omega
    omega
  · rw [if_neg hb]
    have e1 : z * (a - c) = d + 1 - b := by rw [Int.mul_sub]; omega
    have : a - c = 1 := by
      rcases Int.lt_trichotomy (a - c) 1 with q | q | q
      · have : z * (a - c) ≤ z * 0 := Int.mul_le_mul_of_nonneg_left (by omega) (by omega)
        omega
      · exact q
      · have : z * 2 ≤ z * (a - c) := Int.mul_le_mul_of_nonneg_left (by omega) (by omega)
        omega
    omega
theorem ref_Sectors (m z : Int) (hm : 0 ≤ m ∧ m ≤ 1000000000) : Fn Tryz.prog σ 98 #[int m, int z] F (fun v l => v = int (secs m z) ∧ l = F) := by
  have hs := secs_bd (m := m) (s := z) hm.1
  by_cases h1 : z < 1
  · have e0 : secs m z = 0 := by unfold secs; rw [if_pos (by omega)]
    rw [e0]
    refine Fn.of Tryz.func98 rfl Tryz.ntmps98 rfl ?_
    repeat' (first | (first | (apply JO.ru; exact rfl; exact rfl; exact rfl; (first | (apply Ru.move; exact rfl) | (apply Ru.assign; exact rfl) | (apply Ru.lss; exact rfl; exact rfl; (first | exact decT (by omega) | exact decF (by omega))) | (apply Ru.pickT; exact rfl; exact rfl))) | refine JC.seq ?_ | refine JC.region ?_ | refine JO.nil ?_ | refine JE.thenN ?_ | refine JE.thenR ?_ | refine JC.ret ?_ | refine JC.condT rfl ?_ | refine JO.guardF rfl rfl rfl rfl rfl rfl rfl ?_ | (apply JE.done1; exact rfl; (first | (apply Res.tmp; exact rfl) | (apply Res.cell; exact rfl; (repeat (first | exact Pick.here | apply Pick.there)); exact rfl) | (apply Res.cellAN; exact rfl; (repeat (first | exact Pick.here | apply Pick.there)); exact rfl; exact rfl) | (apply Res.cellA; exact rfl; (repeat (first | exact Pick.here | apply Pick.there)); exact rfl; exact rfl)))) | refine JO.guardU rfl rfl rfl rfl rfl rfl ?_)
    all_goals exact finS ⟨rfl, rfl⟩
  by_cases h2 : 4096 < z
  · have e0 : secs m z = 0 := by unfold secs; rw [if_pos (by omega)]
    rw [e0]
    refine Fn.of Tryz.func98 rfl Tryz.ntmps98 rfl ?_
    repeat' (first | (first | (apply JO.ru; exact rfl; exact rfl; exact rfl; (first | (apply Ru.move; exact rfl) | (apply Ru.assign; exact rfl) | (apply Ru.lss; exact rfl; exact rfl; (first | exact decT (by omega) | exact decF (by omega))) | (apply Ru.gtr; exact rfl; exact rfl; (first | exact decT (by omega) | exact decF (by omega))) | (apply Ru.pickT; exact rfl; exact rfl) | (apply Ru.pickF; exact rfl; exact rfl))) | refine JC.seq ?_ | refine JC.region ?_ | refine JO.nil ?_ | refine JE.thenN ?_ | refine JE.thenR ?_ | refine JC.ret ?_ | refine JC.condT rfl ?_ | refine JO.guardF rfl rfl rfl rfl rfl rfl rfl ?_ | refine JO.guardT rfl rfl rfl rfl ?_ | (apply JE.done1; exact rfl; (first | (apply Res.tmp; exact rfl) | (apply Res.cell; exact rfl; (repeat (first | exact Pick.here | apply Pick.there)); exact rfl) | (apply Res.cellAN; exact rfl; (repeat (first | exact Pick.here | apply Pick.there)); exact rfl; exact rfl) | (apply Res.cellA; exact rfl; (repeat (first | exact Pick.here | apply Pick.there)); exact rfl; exact rfl)))) | refine JO.guardU rfl rfl rfl rfl rfl rfl ?_)
    all_goals exact finS ⟨rfl, rfl⟩
  by_cases h3 : m < 1
  · have e0 : secs m z = 0 := by unfold secs; rw [if_pos (by omega)]
    rw [e0]
    refine Fn.of Tryz.func98 rfl Tryz.ntmps98 rfl ?_
    repeat' (first | (first | (apply JO.ru; exact rfl; exact rfl; exact rfl; (first | (apply Ru.move; exact rfl) | (apply Ru.assign; exact rfl) | (apply Ru.lss; exact rfl; exact rfl; (first | exact decT (by omega) | exact decF (by omega))) | (apply Ru.gtr; exact rfl; exact rfl; (first | exact decT (by omega) | exact decF (by omega))) | (apply Ru.pickF; exact rfl; exact rfl))) | refine JC.seq ?_ | refine JC.region ?_ | refine JO.nil ?_ | refine JE.thenN ?_ | refine JE.thenR ?_ | refine JC.ret ?_ | refine JC.condT rfl ?_ | refine JO.guardT rfl rfl rfl rfl ?_ | (apply JE.done1; exact rfl; (first | (apply Res.tmp; exact rfl) | (apply Res.cell; exact rfl; (repeat (first | exact Pick.here | apply Pick.there)); exact rfl) | (apply Res.cellAN; exact rfl; (repeat (first | exact Pick.here | apply Pick.there)); exact rfl; exact rfl) | (apply Res.cellA; exact rfl; (repeat (first | exact Pick.here | apply Pick.there)); exact rfl; exact rfl)))) | refine JO.guardU rfl rfl rfl rfl rfl rfl ?_)
    all_goals exact finS ⟨rfl, rfl⟩
  have e0 := secs_ref (m := m) (z := z) (by omega) (by omega)
  have hd : 0 ≤ m / z ∧ m / z ≤ 1000000000 := by
    constructor
    · exact Int.ediv_nonneg hm.1 (by omega)
    · exact Int.le_trans (Int.ediv_le_self z hm.1) hm.2
  have hwd : IntKind.i64.wrap (m / z + 1) = m / z + 1 := wrapI (by omega) (by omega)
  obtain ⟨a, ha⟩ : ∃ a, m / z = a := ⟨_, rfl⟩
  obtain ⟨b, hb⟩ : ∃ b, m % z = b := ⟨_, rfl⟩
  by_cases h4 : m % z > 0
  · rw [if_pos h4] at e0
    rw [e0]
    refine Fn.of Tryz.func98 rfl Tryz.ntmps98 rfl ?_
    repeat' (first | (first | (apply JO.ru; exact rfl; exact rfl; exact rfl; (first | (apply Ru.move; exact rfl) | (apply Ru.assign; exact rfl) | (apply Ru.lss; exact rfl; exact rfl; (first | exact decT (by omega) | exact decF (by omega))) | (apply Ru.gtr; exact rfl; exact rfl; (first | exact decT (by omega) | exact decF (by omega))) | (apply Ru.add; exact rfl; exact rfl; (first | exact wrapI (by omega) (by omega) | exact rfl)) | (apply Ru.pickF; exact rfl; exact rfl) | (apply Ru.quoN; exact rfl; exact rfl; omega; omega; omega) | (apply Ru.remN; exact rfl; exact rfl; omega; omega))) | refine JC.seq ?_ | refine JC.region ?_ | refine JO.nil ?_ | refine JE.thenN ?_ | refine JC.ret ?_ | refine JC.skip ?_ | refine JC.condT rfl ?_ | refine JC.condF rfl ?_ | refine JO.guardT rfl rfl rfl rfl ?_ | (apply JE.done1; exact rfl; (first | (apply Res.tmp; exact rfl) | (apply Res.cell; exact rfl; (repeat (first | exact Pick.here | apply Pick.there)); exact rfl) | (apply Res.cellAN; exact rfl; (repeat (first | exact Pick.here | apply Pick.there)); exact rfl; exact rfl) | (apply Res.cellA; exact rfl; (repeat (first | exact Pick.here | apply Pick.there)); exact rfl; exact rfl)))) | refine JO.guardU rfl rfl rfl rfl rfl rfl ?_ | (apply JO.ru; exact rfl; exact rfl; exact rfl; (apply Ru.add; exact rfl; exact rfl; exact hwd)))
    all_goals exact finS ⟨rfl, rfl⟩
  · rw [if_neg h4, Int.add_zero] at e0
    rw [e0]
    refine Fn.of Tryz.func98 rfl Tryz.ntmps98 rfl ?_
    repeat' (first | (first | (apply JO.ru; exact rfl; exact rfl; exact rfl; (first | (apply Ru.move; exact rfl) | (apply Ru.assign; exact rfl) | (apply Ru.lss; exact rfl; exact rfl; (first | exact decT (by omega) | exact decF (by omega))) | (apply Ru.gtr; exact rfl; exact rfl; (first | exact decT (by omega) | exact decF (by omega))) | (apply Ru.pickF; exact rfl; exact rfl) | (apply Ru.quoN; exact rfl; exact rfl; omega; omega; omega) | (apply Ru.remN; exact rfl; exact rfl; omega; omega))) | refine JC.seq ?_ | refine JC.region ?_ | refine JO.nil ?_ | refine JE.thenN ?_ | refine JC.ret ?_ | refine JC.skip ?_ | refine JC.condF rfl ?_ | refine JO.guardT rfl rfl rfl rfl ?_ | (apply JE.done1; exact rfl; (first | (apply Res.tmp; exact rfl) | (apply Res.cell; exact rfl; (repeat (first | exact Pick.here | apply Pick.there)); exact rfl) | (apply Res.cellAN; exact rfl; (repeat (first | exact Pick.here | apply Pick.there)); exact rfl; exact rfl) | (apply Res.cellA; exact rfl; (repeat (first | exact Pick.here | apply Pick.there)); exact rfl; exact rfl)))) | refine JO.guardU rfl rfl rfl rfl rfl rfl ?_)
    all_goals exact finS ⟨rfl, rfl⟩
theorem ref_Span (z e f s : Int) : Fn Tryz.prog σ 48 #[int z, geoV e f s] F (fun v l => v = int (spanG z e f s) ∧ l = F) := by
  have ht := totG_bd e f s
  have hs := secs_bd (m := totG e f s) (s := z) ht.1
  have hsp := spanG_bd z e f s
  unfold spanG at hsp ⊢
  by_cases h1 : rightG e f s = true
  case neg =>
    simp only [Bool.not_eq_true] at h1
    rw [if_neg (by simp [h1])]
    refine Fn.of Tryz.func48 rfl Tryz.ntmps48 rfl ?_
    repeat' (first | (first | (apply JO.ru; exact rfl; exact rfl; exact rfl; (first | (apply Ru.move; exact rfl) | (apply Ru.assign; exact rfl) | (apply Ru.pickT; exact rfl; exact rfl) | (apply Ru.not; exact rfl) | (apply Ru.loadAN; exact rfl; (repeat (first | exact Pick.here | apply Pick.there)); exact rfl; exact rfl))) | refine JC.seq ?_ | refine JC.region ?_ | refine JO.nil ?_ | refine JE.thenN ?_ | refine JE.thenR ?_ | refine JC.ret ?_ | refine JC.condT rfl ?_ | refine JO.guardF rfl rfl rfl rfl rfl rfl rfl ?_ | (apply JO.do; exact rfl; exact rfl; exact rfl; (first | (apply Do.boxN; exact rfl; exact rfl) | (apply Do.box; exact rfl)); rintro _ _ ⟨_, rfl, rfl⟩) | (apply JE.done1; exact rfl; (first | (apply Res.tmp; exact rfl) | (apply Res.cell; exact rfl; (repeat (first | exact Pick.here | apply Pick.there)); exact rfl) | (apply Res.cellAN; exact rfl; (repeat (first | exact Pick.here | apply Pick.there)); exact rfl; exact rfl) | (apply Res.cellA; exact rfl; (repeat (first | exact Pick.here | apply Pick.there)); exact rfl; exact rfl)))) | refine JO.guardU rfl rfl rfl rfl rfl rfl ?_ | ((first | (apply JO.do; exact rfl; exact rfl; exact rfl; (apply Do.call; exact rfl; exact ref_Right _ _ _); rintro _ _ ⟨rfl, hq⟩; obtain rfl := hq.symm) | (apply JQ.call; exact rfl; exact rfl; exact rfl; exact ref_Right _ _ _; (rintro _ _ ⟨rfl, rfl⟩; exact ⟨rfl, rfl⟩))); rw [h1]))
    all_goals exact ⟨F, Sat.weak (by repeat (first | exact Weak.refl | (apply Weak.cons; (first | exact Pick.here | exact Pick.there Pick.here | exact Pick.there (Pick.there Pick.here) | exact Pick.there (Pick.there (Pick.there Pick.here)) | exact Pick.there (Pick.there (Pick.there (Pick.there Pick.here))) | exact Pick.there (Pick.there (Pick.there (Pick.there (Pick.there Pick.here)))) | exact Pick.there (Pick.there (Pick.there (Pick.there (Pick.there (Pick.there Pick.here))))) | exact Pick.there (Pick.there (Pick.there (Pick.there (Pick.there (Pick.there (Pick.there Pick.here)))))))) | apply Weak.drop)), rfl, rfl⟩
  by_cases h2 : 32 ≤ z ∧ z ≤ 4096
  case neg =>
    rw [if_neg (by omega)]
    by_cases h3 : z < 32
    all_goals
      refine Fn.of Tryz.func48 rfl Tryz.ntmps48 rfl ?_
      repeat' (first | (first | (apply JO.ru; exact rfl; exact rfl; exact rfl; (first | (apply Ru.move; exact rfl) | (apply Ru.assign; exact rfl) | (apply Ru.lss; exact rfl; exact rfl; (first | exact decT (by omega) | exact decF (by omega))) | (apply Ru.gtr; exact rfl; exact rfl; (first | exact decT (by omega) | exact decF (by omega))) | (apply Ru.pickT; exact rfl; exact rfl) | (apply Ru.pickF; exact rfl; exact rfl) | (apply Ru.not; exact rfl) | (apply Ru.loadAN; exact rfl; (repeat (first | exact Pick.here | apply Pick.there)); exact rfl; exact rfl))) | refine JC.seq ?_ | refine JC.region ?_ | refine JO.nil ?_ | refine JE.thenN ?_ | refine JE.thenR ?_ | refine JC.ret ?_ | refine JC.condT rfl ?_ | refine JO.guardF rfl rfl rfl rfl rfl rfl rfl ?_ | refine JO.guardT rfl rfl rfl rfl ?_ | (apply JO.do; exact rfl; exact rfl; exact rfl; (first | (apply Do.boxN; exact rfl; exact rfl) | (apply Do.box; exact rfl)); rintro _ _ ⟨_, rfl, rfl⟩) | (apply JE.done1; exact rfl; (first | (apply Res.tmp; exact rfl) | (apply Res.cell; exact rfl; (repeat (first | exact Pick.here | apply Pick.there)); exact rfl) | (apply Res.cellAN; exact rfl; (repeat (first | exact Pick.here | apply Pick.there)); exact rfl; exact rfl) | (apply Res.cellA; exact rfl; (repeat (first | exact Pick.here | apply Pick.there)); exact rfl; exact rfl)))) | refine JO.guardU rfl rfl rfl rfl rfl rfl ?_ | ((first | (apply JO.do; exact rfl; exact rfl; exact rfl; (apply Do.call; exact rfl; exact ref_Right _ _ _); rintro _ _ ⟨rfl, hq⟩; obtain rfl := hq.symm) | (apply JQ.call; exact rfl; exact rfl; exact rfl; exact ref_Right _ _ _; (rintro _ _ ⟨rfl, rfl⟩; exact ⟨rfl, rfl⟩))); rw [h1]))
      all_goals exact ⟨F, Sat.weak (by repeat (first | exact Weak.refl | (apply Weak.cons; (first | exact Pick.here | exact Pick.there Pick.here | exact Pick.there (Pick.there Pick.here) | exact Pick.there (Pick.there (Pick.there Pick.here)) | exact Pick.there (Pick.there (Pick.there (Pick.there Pick.here))) | exact Pick.there (Pick.there (Pick.there (Pick.there (Pick.there Pick.here)))) | exact Pick.there (Pick.there (Pick.there (Pick.there (Pick.there (Pick.there Pick.here))))) | exact Pick.there (Pick.there (Pick.there (Pick.there (Pick.there (Pick.there (Pick.there Pick.here)))))))) | apply Weak.drop)), rfl, rfl⟩
  rw [if_pos ⟨h1, h2⟩]
  refine Fn.of Tryz.func48 rfl Tryz.ntmps48 rfl ?_
  repeat' (first | (first | (apply JO.ru; exact rfl; exact rfl; exact rfl; (first | (apply Ru.move; exact rfl) | (apply Ru.assign; exact rfl) | (apply Ru.lss; exact rfl; exact rfl; (first | exact decT (by omega) | exact decF (by omega))) | (apply Ru.gtr; exact rfl; exact rfl; (first | exact decT (by omega) | exact decF (by omega))) | (apply Ru.add; exact rfl; exact rfl; (first | exact wrapI (by omega) (by omega) | exact rfl)) | (apply Ru.pickF; exact rfl; exact rfl) | (apply Ru.not; exact rfl) | (apply Ru.loadAN; exact rfl; (repeat (first | exact Pick.here | apply Pick.there)); exact rfl; exact rfl))) | refine JC.seq ?_ | refine JC.region ?_ | refine JO.nil ?_ | refine JE.thenN ?_ | refine JC.ret ?_ | refine JC.skip ?_ | refine JC.condF rfl ?_ | refine JO.guardT rfl rfl rfl rfl ?_ | (apply JO.do; exact rfl; exact rfl; exact rfl; (first | (apply Do.boxN; exact rfl; exact rfl) | (apply Do.box; exact rfl)); rintro _ _ ⟨_, rfl, rfl⟩) | (apply JE.done1; exact rfl; (first | (apply Res.tmp; exact rfl) | (apply Res.cell; exact rfl; (repeat (first | exact Pick.here | apply Pick.there)); exact rfl) | (apply Res.cellAN; exact rfl; (repeat (first | exact Pick.here | apply Pick.there)); exact rfl; exact rfl) | (apply Res.cellA; exact rfl; (repeat (first | exact Pick.here | apply Pick.there)); exact rfl; exact rfl)))) | refine JO.guardU rfl rfl rfl rfl rfl rfl ?_ | ((first | (apply JO.do; exact rfl; exact rfl; exact rfl; (apply Do.call; exact rfl; exact ref_Right _ _ _); rintro _ _ ⟨rfl, hq⟩; obtain rfl := hq.symm) | (apply JQ.call; exact rfl; exact rfl; exact rfl; exact ref_Right _ _ _; (rintro _ _ ⟨rfl, rfl⟩; exact ⟨rfl, rfl⟩))); rw [h1]) | (first | (apply JO.do; exact rfl; exact rfl; exact rfl; (apply Do.call; exact rfl; exact ref_Total _ _ _); rintro _ _ ⟨rfl, hq⟩; obtain rfl := hq.symm) | (apply JQ.call; exact rfl; exact rfl; exact rfl; exact ref_Total _ _ _; (rintro _ _ ⟨rfl, rfl⟩; exact ⟨rfl, rfl⟩))) | (first | (apply JO.do; exact rfl; exact rfl; exact rfl; (apply Do.call; exact rfl; exact ref_Sectors _ _ (by omega)); rintro _ _ ⟨rfl, hq⟩; obtain rfl := hq.symm) | (apply JQ.call; exact rfl; exact rfl; exact rfl; exact ref_Sectors _ _ (by omega); (rintro _ _ ⟨rfl, rfl⟩; exact ⟨rfl, rfl⟩))))
  all_goals exact ⟨F, Sat.weak (by repeat (first | exact Weak.refl | (apply Weak.cons; (first | exact Pick.here | exact Pick.there Pick.here | exact Pick.there (Pick.there Pick.here) | exact Pick.there (Pick.there (Pick.there Pick.here)) | exact Pick.there (Pick.there (Pick.there (Pick.there Pick.here))) | exact Pick.there (Pick.there (Pick.there (Pick.there (Pick.there Pick.here)))) | exact Pick.there (Pick.there (Pick.there (Pick.there (Pick.there (Pick.there Pick.here))))) | exact Pick.there (Pick.there (Pick.there (Pick.there (Pick.there (Pick.there (Pick.there Pick.here)))))))) | apply Weak.drop)), rfl, rfl⟩
end Go.Sep
/- The statements of layer 7: a fresh disk, made bytes; the calls with known answers. -/
namespace Go.Sep
open Go Go.Proofs
attribute [local irreducible] JO JC JE JA JQ JB JI Mid Inv Weak ownS Ru Do Fn Sat Pick Take arr pt star ex Holds bodyPost Post Exit.then Exit.inBlock Res
variable {σ : Sig} {F : List HP}
attribute [local irreducible] shadHP diskHP cacheHP planHP rowHP FnX PostX
theorem law07_fresh (z : UInt8) (e f s : Int) (ht : totG e f s ≤ 500) :
    Fn Tryz.prog σ 39 #[.int .u8 z.toNat, geoV e f s] F (fun v l => ∃ d, v = .pointer (some ⟨d, 0, none⟩) ∧ l = diskHP d (freshN (2 * spanG (sizeOfU z) e f s + 1).toNat (sizeOfU z)) :: F) := by
  have hz := sizeOfU_bd z
  have hsp := span_few (z := sizeOfU z) ht
  have hzu := UInt8.toNat_lt z
  have e1 : IntKind.i64.wrap ((z.toNat : Int) % 100) = (z.toNat : Int) % 100 := wrapI (by omega) (by omega)
  have e2 : IntKind.i64.wrap (32 + (z.toNat : Int) % 100) = (sizeOfU z : Int) := by
    rw [wrapI (by omega) (by omega)]; unfold sizeOfU; omega
  refine Fn.of Tryz.func39 rfl Tryz.ntmps39 rfl ?_
  iterate 11 (first | (apply JO.ru; exact rfl; exact rfl; exact rfl; (first | (apply Ru.move; exact rfl) | (apply Ru.assign; exact rfl) | (apply Ru.remN; exact rfl; exact rfl; omega; omega) | (apply Ru.conv; exact rfl; exact rfl))) | refine JC.seq ?_ | refine JC.region ?_ | refine JO.nil ?_ | refine JE.thenN ?_ | (apply JO.do; exact rfl; exact rfl; exact rfl; (first | (apply Do.boxN; exact rfl; exact rfl) | (apply Do.box; exact rfl)); rintro _ _ ⟨_, rfl, rfl⟩))
  rw [e1]
  (apply JO.ru; exact rfl; exact rfl; exact rfl; (apply Ru.add; exact rfl; exact rfl; exact e2))
  repeat' (first | (first | (apply JO.ru; exact rfl; exact rfl; exact rfl; (first | (apply Ru.move; exact rfl) | (apply Ru.assign; exact rfl) | (apply Ru.add; exact rfl; exact rfl; (first | exact wrapI (by omega) (by omega) | exact rfl)) | (apply Ru.mul; exact rfl; exact rfl; (first | exact wrapI (by omega) (by omega) | exact rfl)) | (apply Ru.loadAN; exact rfl; (repeat (first | exact Pick.here | apply Pick.there)); exact rfl; exact rfl))) | refine JC.seq ?_ | refine JC.region ?_ | refine JO.nil ?_ | refine JE.thenN ?_) | (first | (apply JO.do; exact rfl; exact rfl; exact rfl; (apply Do.call; exact rfl; exact ref_Span _ _ _ _); rintro _ _ ⟨rfl, hq⟩; obtain rfl := hq.symm) | (apply JQ.call; exact rfl; exact rfl; exact rfl; exact ref_Span _ _ _ _; (rintro _ _ ⟨rfl, rfl⟩; exact ⟨rfl, rfl⟩))))
  have e3 : (2 * spanG (sizeOfU z) e f s + 1) = (((2 * spanG (sizeOfU z) e f s + 1).toNat : Nat) : Int) := by omega
  (apply JO.do; exact rfl; exact rfl; exact rfl; (apply Do.call; exact rfl; rw [e3]; exact disk_New _ (sizeOfU z) (by omega) (by omega) (by omega)); rintro _ _ ⟨d, rfl, rfl⟩)
  repeat' (first | (apply JO.ru; exact rfl; exact rfl; exact rfl; (first | (apply Ru.move; exact rfl) | (apply Ru.assign; exact rfl) | (apply Ru.neq; exact rfl; exact rfl; (first | exact ndecF (by omega) | exact ndecT (by omega))) | (apply Ru.extractN; exact rfl; exact rfl))) | refine JC.seq ?_ | refine JC.region ?_ | refine JO.nil ?_ | refine JE.thenN ?_ | refine JC.ret ?_ | refine JC.skip ?_ | refine JC.condF rfl ?_ | (apply JE.done1; exact rfl; (first | (apply Res.tmp; exact rfl) | (apply Res.cell; exact rfl; (repeat (first | exact Pick.here | apply Pick.there)); exact rfl) | (apply Res.cellAN; exact rfl; (repeat (first | exact Pick.here | apply Pick.there)); exact rfl; exact rfl) | (apply Res.cellA; exact rfl; (repeat (first | exact Pick.here | apply Pick.there)); exact rfl; exact rfl))))
  exact ⟨_, Sat.weak (by repeat (first | exact Weak.refl | (apply Weak.cons; (first | exact Pick.here | exact Pick.there Pick.here | exact Pick.there (Pick.there Pick.here) | exact Pick.there (Pick.there (Pick.there Pick.here)) | exact Pick.there (Pick.there (Pick.there (Pick.there Pick.here))) | exact Pick.there (Pick.there (Pick.there (Pick.there (Pick.there Pick.here)))) | exact Pick.there (Pick.there (Pick.there (Pick.there (Pick.there (Pick.there Pick.here))))) | exact Pick.there (Pick.there (Pick.there (Pick.there (Pick.there (Pick.there (Pick.there Pick.here)))))))) | apply Weak.drop)), d, rfl, rfl⟩
theorem law07_made (v : Value) (bs : List UInt8) (m : Nat) (hm : m ≤ 100000) (hbl : bs.length ≤ 1000000) {l : List HP} (hb : RdS σ l v (bs.map byte)) :
    Fn Tryz.prog σ 45 #[v, int m] l (fun u l' => l' = bytesHP u (fit bs m) :: l) := by
  obtain ⟨pv, cv, rfl, hcv, hrv⟩ := id hb
  have hl : (bs.map byte).length = bs.length := by simp
  rw [hl] at hb ⊢
  refine Fn.of Tryz.func45 rfl Tryz.ntmps45 rfl ?_
  repeat' (first | (apply JO.ru; exact rfl; exact rfl; exact rfl; (first | (apply Ru.move; exact rfl) | (apply Ru.assign; exact rfl))) | refine JC.seq ?_ | refine JC.region ?_ | refine JO.nil ?_ | refine JE.thenN ?_)
  (apply JO.do; exact rfl; exact rfl; exact rfl; (apply Do.makeSlice (k := m) (c := m); exact rfl; exact rfl; exact Nat.le_refl _; (show m * 1 ≤ _; omega); omega); rintro _ _ ⟨x, rfl, rfl⟩)
  repeat' (first | (apply JO.ru; exact rfl; exact rfl; exact rfl; (first | (apply Ru.move; exact rfl) | (apply Ru.assign; exact rfl))) | refine JC.seq ?_ | refine JC.region ?_ | refine JO.nil ?_ | refine JE.thenN ?_)
  (apply JO.do; exact rfl; exact rfl; exact rfl; (apply Do.copy (ys := bs.map byte); exact rfl; exact rfl; exact Pick.here; exact hb.cons; (rw [List.length_replicate]; omega); exact byteOne _); rintro _ _ ⟨rfl, rfl⟩)
  have e1 : splice (List.replicate m (Value.int .u8 0)) 0 ((bs.map byte).take (min bs.length m)) = (fit bs m).map byte := by
    have := splice_pad (bs.take m) m (by rw [List.length_take]; omega)
    unfold fit
    rw [← this, List.map_take]
    congr 1
    rcases Nat.le_total bs.length m with q | q
    · rw [Nat.min_eq_left q, List.take_of_length_le (by rw [hl]; exact Nat.le_refl _), List.take_of_length_le (by rw [hl]; exact q)]
    · rw [Nat.min_eq_right q]
  rw [e1]
  repeat' (first | (apply JO.ru; exact rfl; exact rfl; exact rfl; (first | (apply Ru.move; exact rfl) | (apply Ru.assign; exact rfl))) | refine JC.seq ?_ | refine JC.region ?_ | refine JO.nil ?_ | refine JE.thenN ?_ | refine JC.ret ?_ | (apply JE.done1; exact rfl; (first | (apply Res.tmp; exact rfl) | (apply Res.cell; exact rfl; (repeat (first | exact Pick.here | apply Pick.there)); exact rfl) | (apply Res.cellAN; exact rfl; (repeat (first | exact Pick.here | apply Pick.there)); exact rfl; exact rfl) | (apply Res.cellA; exact rfl; (repeat (first | exact Pick.here | apply Pick.there)); exact rfl; exact rfl))))
  refine ⟨bytesHP _ (fit bs m) :: l, fun w s => ?_, rfl⟩
  have hfl := fit_length bs m
  have := Sat.ownS_arr (E := 5) (z := 1) (k := (fit bs m).length) (cap := (fit bs m).length) (xs := (fit bs m).map byte) (spare := []) (Nat.le_refl _) (by simp) (by simp) (by rw [List.append_nil]; exact s)
  rw [hfl] at this
  unfold bytesHP
  rw [hfl]
  exact this
theorem shadow_FormatE {d : Nat} {D E : DiskN} {e f s er : Int} (h : formatR D e f s = (er, E)) (ht : rightG e f s = true → totG e f s ≤ 8192) (hD : D.WF) (ho : D.ops ≤ 1000000000) (hw : D.writes ≤ 10000) {l : List HP} [hg : InG l] :
    Fn Tryz.prog σ 40 #[.pointer (some ⟨d, 0, none⟩), geoV e f s] (diskHP d D :: l) (fun v l' => v = int er ∧ l' = diskHP d E :: l) := by
  have := shadow_Format (σ := σ) d D e f s ht hD ho hw (l := l)
  rw [h] at this; exact this
theorem shadow_OpenE {d : Nat} {D E : DiskN} {e f s : Int} {S : ShadN} (h : openR D e f s = (0, E, S)) (hD : D.WF) (ho : D.ops ≤ 1000000000) (hw : D.writes ≤ 1000000) {l : List HP} [hg : InG l] :
    Fn Tryz.prog σ 41 #[.pointer (some ⟨d, 0, none⟩), geoV e f s] (diskHP d D :: l) (fun v l' => ∃ sb, v = .tuple #[.pointer (some ⟨sb, 0, none⟩), int 0] ∧ l' = shadHP sb d e f s S :: diskHP d E :: l) := by
  refine (shadow_Open (σ := σ) d D e f s hD ho hw (l := l)).mono ?_
  rw [h]
  rintro v l' (⟨_, sb, h1, h2⟩ | ⟨h1, _⟩)
  · exact ⟨sb, h1, h2⟩
  · exact absurd rfl h1
theorem shadow_OpenN {d : Nat} {D E : DiskN} {e f s er : Int} {S : ShadN} (h : openR D e f s = (er, E, S)) (h0 : er ≠ 0) (hD : D.WF) (ho : D.ops ≤ 1000000000) (hw : D.writes ≤ 1000000) {l : List HP} [hg : InG l] :
    Fn Tryz.prog σ 41 #[.pointer (some ⟨d, 0, none⟩), geoV e f s] (diskHP d D :: l) (fun v l' => v = .tuple #[.pointer none, int er] ∧ l' = diskHP d E :: l) := by
  refine (shadow_Open (σ := σ) d D e f s hD ho hw (l := l)).mono ?_
  rw [h]
  rintro v l' (⟨h1, _⟩ | ⟨_, h1, h2⟩)
  · exact absurd h1 h0
  · exact ⟨h1, h2⟩
theorem shadow_CommitE {sb d : Nat} {D E : DiskN} {e f s er : Int} {S S' : ShadN} {v : Value} {bs : List UInt8} (h : commitR D e f s S bs = (er, E, S')) (hw01 : S.which = 0 ∨ S.which = 1) (hq : 0 ≤ S.seq ∧ S.seq ≤ 18446744073709551615) (hbl : bs.length ≤ 100000) (hnl : S.now.length ≤ 100000) (hD : D.WF) (hops : D.ops ≤ 1000000000) (hwr : D.writes ≤ 100000) {l : List HP} [hg : InG l] (hb : RdS σ l v (bs.map byte)) :
    Fn Tryz.prog σ 46 #[.pointer (some ⟨sb, 0, none⟩), v] (shadHP sb d e f s S :: diskHP d D :: l) (fun r l' => r = int er ∧ l' = shadHP sb d e f s S' :: diskHP d E :: l) := by
  have := shadow_Commit (σ := σ) sb d D e f s S v bs hw01 hq hbl hnl hD hops hwr hb
  rw [h] at this; exact this
theorem shadow_SeqP {sb d : Nat} {e f s q w : Int} {now : List UInt8} {st : Bool} {l r : List HP} (hp : Pick (shadHP sb d e f s ⟨now, q, w, st⟩) l r) : Fn Tryz.prog σ 43 #[.pointer (some ⟨sb, 0, none⟩)] l (fun v l' => v = u64 q ∧ l' = l) := Fn.atP hp (shadow_Seq sb d e f s _)
theorem shadow_WhichP {sb d : Nat} {e f s q w : Int} {now : List UInt8} {st : Bool} {l r : List HP} (hp : Pick (shadHP sb d e f s ⟨now, q, w, st⟩) l r) : Fn Tryz.prog σ 44 #[.pointer (some ⟨sb, 0, none⟩)] l (fun v l' => v = int w ∧ l' = l) := Fn.atP hp (shadow_Which sb d e f s _)
theorem shadow_StaleP {sb d : Nat} {e f s q w : Int} {now : List UInt8} {st : Bool} {l r : List HP} (hp : Pick (shadHP sb d e f s ⟨now, q, w, st⟩) l r) : Fn Tryz.prog σ 49 #[.pointer (some ⟨sb, 0, none⟩)] l (fun v l' => v = .bool st ∧ l' = l) := Fn.atP hp (shadow_Stale sb d e f s _)
theorem shadow_ImageP {sb d : Nat} {e f s q w : Int} {now : List UInt8} {st : Bool} (hn : now.length ≤ 100000) {l r : List HP} (hp : Pick (shadHP sb d e f s ⟨now, q, w, st⟩) l r) : Fn Tryz.prog σ 42 #[.pointer (some ⟨sb, 0, none⟩)] l (fun v l' => l' = bytesHP v now :: l) := Fn.atI (R := fun v => bytesHP v now) hp (shadow_Image sb d e f s _ hn)
end Go.Sep
/- Shadows: what is opened, what is committed: no program in sight. -/
namespace Go.Sep
open Go Go.Proofs
/-- An open shadow, and its disk. -/
structure ShSt (D : DiskN) (z k many : Nat) (e f s : Int) (S : ShadN) : Prop where
  wf : D.WF
  size : D.size = z
  count : D.count = k
  cach : D.cached = []
  has : HasS D many e f s S.which S.seq S.now
  len : (S.now.length : Int) = totG e f s
  q : 0 ≤ S.seq
section
variable {D : DiskN} {z k many : Nat} {e f s : Int} {S : ShadN}
theorem open_has (hB : Both z k e f s many) (hwf : D.WF) (hz : D.size = z) (hk : D.count = k) {w q : Int} {img : List UInt8} (h : HasS D many e f s w q img) (hl : (img.length : Int) = totG e f s) (hq : 0 ≤ q) :
    (∃ E, openR D e f s = (3, E, .zero) ∧ View D E ∧ Hit D E ∧ E.ops ≤ D.ops + (2 * many + 3)) ∨
    (∃ E, openR D e f s = (0, E, ⟨img, q, w, false⟩) ∧ View D E ∧ ShSt E z k many e f s ⟨img, q, w, false⟩ ∧ E.ops ≤ D.ops + (2 * many + 3)) := by
  rcases open_any hB hwf hz hk with h1 | ⟨E, h1, v, hc, ho⟩
  · exact .inl h1
  · right
    refine ⟨E, by rw [h1, h.openP], v, ⟨v.wf, v.size.trans hz, v.count.trans hk, hc, h.congr hB hk v.cur, hl, hq⟩, ho⟩
theorem commit_same {bs : List UInt8} (h0 : S.stale = false) (h : bs = S.now) : commitR D e f s S bs = (0, D, S) := by
  unfold commitR
  rw [if_neg (by rw [h0]; simp), if_neg (by rw [h]; simp), if_pos h]
theorem commit_stale {bs : List UInt8} (h0 : S.stale = true) : commitR D e f s S bs = (11, D, S) := if_pos h0
theorem commit_lay {bs : List UInt8} (h0 : S.stale = false) (hl : (bs.length : Int) = S.now.length) (h : bs ≠ S.now) (hq : S.seq + 1 < 18446744073709551616) :
    commitR D e f s S bs = if (layR D (1 - S.which) e f s (S.seq + 1) bs).1 ≠ 0 then ((layR D (1 - S.which) e f s (S.seq + 1) bs).1, (layR D (1 - S.which) e f s (S.seq + 1) bs).2, { S with stale := true })
      else (0, (layR D (1 - S.which) e f s (S.seq + 1) bs).2, ⟨bs, S.seq + 1, 1 - S.which, false⟩) := by
  unfold commitR
  rw [if_neg (by rw [h0]; simp), if_neg (by rw [hl]; simp), if_neg h, if_neg (by omega)]
/-- What a commit of an unlike image comes to. -/
theorem commit_any (hB : Both z k e f s many) (h : ShSt D z k many e f s S) (h0 : S.stale = false) {bs : List UInt8} (hl : (bs.length : Int) = totG e f s) (hne : bs ≠ S.now) (hq : S.seq + 1 < 18446744073709551616) :
    (∃ E, commitR D e f s S bs = (0, E, ⟨bs, S.seq + 1, 1 - S.which, false⟩) ∧ ShSt E z k many e f s ⟨bs, S.seq + 1, 1 - S.which, false⟩ ∧ E.planned = D.planned ∧ E.ops = D.ops + (many + 3) ∧ E.writes = D.writes + (many + 1)) ∨
    (∃ E, commitR D e f s S bs = (3, E, { S with stale := true }) ∧ Kept (offImg (slotOf (1 - S.which) many) many) D E ∧ Hit D E ∧ E.ops ≤ D.ops + (many + 3) ∧ E.writes ≤ D.writes + (many + 1)) ∨
    (∃ E, commitR D e f s S bs = (3, E, { S with stale := true }) ∧ Kept (offSlot (slotOf (1 - S.which) many) many) D E ∧ Hit D E ∧ HasS E many e f s (1 - S.which) (S.seq + 1) bs ∧
      E.cur (slotOf (1 - S.which) many) = padB (enc (sealHead bs e f s (S.seq + 1))) z ∧ ImgIs E (slotOf (1 - S.which) many) many bs ∧ E.sector (slotOf (1 - S.which) many) = D.sector (slotOf (1 - S.which) many) ∧ (∀ j, j < many → lookI E.cached ((slotOf (1 - S.which) many + 1 + j : Nat) : Int) = none) ∧
      E.ops = D.ops + (many + 3) ∧ E.writes = D.writes + (many + 1)) := by
  have hw2 : 1 - S.which = 0 ∨ 1 - S.which = 1 := by rcases h.has.w01 with q | q <;> rw [q] <;> simp
  have hh := hB.here hw2
  have hq0 := h.q
  have hcl := commit_lay (D := D) (e := e) (f := f) (s := s) h0 (hl.trans h.len.symm) hne hq
  rcases lay_any hh h.wf h.size h.count h.cach hl (S.seq + 1) with ⟨E, hE, K, hc, hcur, hi, ho, hwr⟩ | ⟨E, hE, K, hh2, ho, hwr⟩ | ⟨E, hE, K, hh2, hcur, hi, hsec, hlk, ho, hwr⟩
  · left
    refine ⟨E, by rw [hcl, hE, if_neg (by simp)], ⟨K.wf, K.size.trans h.size, K.count.trans h.count, hc, h.has.laid hB h.size h.count h.cach ⟨hq0, hq⟩ hl K hcur hi, hl, by show 0 ≤ S.seq + 1; omega⟩, K.plan, ho, hwr⟩
  · right; left
    exact ⟨E, by rw [hcl, hE, if_pos (by simp)], K, hh2, ho, hwr⟩
  · right; right
    exact ⟨E, by rw [hcl, hE, if_pos (by simp)], K, hh2, h.has.laid hB h.size h.count h.cach ⟨hq0, hq⟩ hl K hcur hi, hcur, hi, hsec, hlk, ho, hwr⟩
/-- A commit that failed ahead of its head leaves the slot that counts as it is, and the other one's head. -/
theorem HasS.kept {E : DiskN} {w q : Int} {img : List UInt8} (hB : Both z k e f s many) (hk : D.count = k) (hc : D.cached = []) (h : HasS D many e f s w q img) (hh : decE (D.cur (slotOf (1 - w) many)) ≠ 0 ∨ ((decH (D.cur (slotOf (1 - w) many))).e = e ∧ (decH (D.cur (slotOf (1 - w) many))).f = f ∧ (decH (D.cur (slotOf (1 - w) many))).s = s) ∧ (decH (D.cur (slotOf (1 - w) many))).seq < q)
    (K : Kept (offImg (slotOf (1 - w) many) many) D E) : HasS E many e f s w q img ∧ E.cur (slotOf (1 - w) many) = D.cur (slotOf (1 - w) many) := by
  have l1 := fun {j : Nat} (hj : j ≤ many) => hB.h1.lt (j := j) hj
  have hkeep : ∀ j, j < D.count → offImg (slotOf (1 - w) many) many j → E.cur j = D.cur j := fun j hj ho => by
    rw [K.cur ho hj]; unfold DiskN.cur; rw [hc]; rfl
  have hs : slotP E (slotOf w many) many e f s = slotP D (slotOf w many) many e f s := slotP_congr fun j hj => by
    have := l1 hj
    refine hkeep _ (by unfold slotOf; split <;> omega) fun hin => ?_
    rcases h.w01 with rfl | rfl
    · have e2 : slotOf (1 - 0) many = 1 + many := rfl
      have e3 : slotOf 0 many = 0 := rfl
      rw [e2, e3] at hin; omega
    · have e2 : slotOf (1 - 1) many = 0 := rfl
      have e3 : slotOf 1 many = 1 + many := rfl
      rw [e2, e3] at hin; omega
  have ho : E.cur (slotOf (1 - w) many) = D.cur (slotOf (1 - w) many) := by
    have := l1 (Nat.zero_le many)
    exact hkeep _ (by unfold slotOf; split <;> omega) (fun hin => by omega)
  refine ⟨⟨h.w01, by rw [hs]; exact h.good, ?_⟩, ho⟩
  have := slotP_seq (D := E) (fst := slotOf (1 - w) many) (many := many) (e := e) (f := f) (s := s) (q - 1) (by rw [ho]; rcases hh with hh | ⟨hh, h2⟩; exact .inl hh; exact .inr ⟨hh, by omega⟩)
  rcases this with t | ⟨t, t2⟩
  · exact .inl t
  · exact .inr ⟨t, by omega⟩
end
end Go.Sep
/- The statements of layer 7: the chapter's example. -/
namespace Go.Sep
open Go Go.Proofs
attribute [local irreducible] JO JC JE JA JQ JB JI Mid Inv Weak ownS Ru Do Fn Sat Pick Take arr pt star ex Holds bodyPost Post Exit.then Exit.inBlock Res
variable {σ : Sig} {F : List HP}
attribute [local irreducible] shadHP diskHP cacheHP planHP rowHP FnX PostX
theorem freshN_facts {k z : Nat} (hk : k ≤ 4096) (hz : 1 ≤ z) (hz2 : z ≤ 4096) : (freshN k z).WF ∧ (freshN k z).size = z ∧ (freshN k z).count = k ∧ (freshN k z).planned = [] ∧ (freshN k z).cached = [] ∧ (freshN k z).ops = 0 ∧ (freshN k z).writes = 0 := by
  have h := freshN_ok (k := k) (z := z) hk hz hz2
  exact ⟨h.wf, h.size, h.count, h.plan, rfl, rfl, rfl⟩
/-- A shadow's disk on which nothing fails: formatted, opened. -/
theorem start_ok {D : DiskN} {z k many : Nat} {e f s : Int} (hB : Both z k e f s many) (hwf : D.WF) (hz : D.size = z) (hk : D.count = k) (hp : D.planned = []) (ht : totG e f s ≤ 8192) :
    ∃ D1 D2, formatR D e f s = (0, D1) ∧ openR D1 e f s = (0, D2, ⟨factB e f s, 1, 0, false⟩) ∧ D1.WF ∧ D1.planned = [] ∧ ShSt D2 z k many e f s ⟨factB e f s, 1, 0, false⟩ ∧ D2.planned = [] ∧
      decE (D2.cur (1 + many)) ≠ 0 ∧ D1.ops = D.ops + (many + 6) ∧ D1.writes = D.writes + (many + 3) ∧ D2.writes = D1.writes ∧ D1.ops ≤ D2.ops ∧ D2.ops ≤ D1.ops + (2 * many + 3) := by
  have hfl := factB_length hB.h0.hright
  have hlt := hB.h1.lt (j := 0) (Nat.zero_le _)
  rcases format_any hB hwf hz hk ht with ⟨D1, h1, F1⟩ | ⟨_, _, _, hh⟩
  · have p1 := F1.plan.trans hp
    rcases open_has hB F1.wf (F1.size.trans hz) (F1.count.trans hk) (F1.has hB) hfl (by omega) with ⟨_, _, _, hh, _⟩ | ⟨D2, h2, v, st, o2⟩
    · exact absurd hh (Hit.none p1)
    · refine ⟨D1, D2, h1, h2, F1.wf, p1, st, v.plan.trans p1, ?_, F1.ops, F1.writes, v.writes, v.ops, o2⟩
      have hs := F1.s1
      rw [v.cur (1 + many) (by rw [F1.count, hk]; omega), hs, dec_zero (by have := hB.h0.hsize; omega)]
      decide
  · exact absurd hh (Hit.none hp)
theorem both6 : Both 32 6 0 0 1 2 := Both.of (z := 32) (k := 6) (e := 0) (f := 0) (s := 1) (by decide) (by decide) (by decide)
def awB : List UInt8 := (factB 0 0 1).set 3 1
set_option maxHeartbeats 4000000 in
theorem law07_awake [hg : InG F] : Fn Tryz.prog σ 37 #[] F (fun v l => v = .bool true ∧ l = F) := by
  obtain ⟨f1, f2, f3, f4, f5, f6, f7⟩ := freshN_facts (k := 6) (z := 32) (by omega) (by omega) (by omega)
  obtain ⟨D0, hD0⟩ : ∃ D0, freshN 6 32 = D0 := ⟨_, rfl⟩
  rw [hD0] at f1 f2 f3 f4 f5 f6 f7
  obtain ⟨D1, D2, p1, p2, q1, q2, st, q4, _, o1, w1, w2, _, o2⟩ := start_ok both6 f1 f2 f3 f4 (by decide)
  have hfl : (factB 0 0 1).length = 64 := by decide
  have hne : awB ≠ factB 0 0 1 := by decide
  have hal : (awB.length : Int) = totG 0 0 1 := by decide
  obtain ⟨D3, p3, st3⟩ : ∃ E, commitR D2 0 0 1 ⟨factB 0 0 1, 1, 0, false⟩ awB = (0, E, ⟨awB, 2, 1, false⟩) ∧ E.WF := by
    rcases commit_any both6 st rfl hal hne (by decide) with ⟨E, h1, h2, _⟩ | ⟨E, _, _, hh, _⟩ | ⟨E, _, _, hh, _⟩
    · exact ⟨E, h1, h2.wf⟩
    · exact absurd hh (Hit.none q4)
    · exact absurd hh (Hit.none q4)
  have k1 := fun (d : Nat) (G : List HP) [InG G] => shadow_FormatE (σ := σ) (d := d) p1 (fun _ => by decide) f1 (by omega) (by omega) (l := G)
  have k2 := fun (d : Nat) (G : List HP) [InG G] => shadow_OpenE (σ := σ) (d := d) p2 q1 (by omega) (by omega) (l := G)
  refine Fn.of Tryz.func37 rfl Tryz.ntmps37 rfl ?_
  repeat' (first | (apply JO.ru; exact rfl; exact rfl; exact rfl; (first | (apply Ru.assign; exact rfl) | (apply Ru.buildN; exact rfl; exact rfl))) | refine JC.seq ?_ | refine JC.region ?_ | refine JO.nil ?_ | refine JE.thenN ?_ | (apply JO.do; exact rfl; exact rfl; exact rfl; (first | (apply Do.allocN; exact rfl) | apply Do.alloc); rintro _ _ ⟨_, rfl, rfl⟩) | (apply JO.do0; exact rfl; exact rfl; (first | (apply Do.storeAN; exact rfl; exact rfl; (repeat (first | exact Pick.here | apply Pick.there)); exact rfl; exact rfl; exact rfl; exact rfl) | (apply Do.storeA; exact rfl; exact rfl; (repeat (first | exact Pick.here | apply Pick.there)); exact rfl; exact rfl; exact rfl)); rintro _ _ ⟨rfl, rfl⟩))
  rename_i gb
  (apply JO.do; exact rfl; exact rfl; exact rfl; (apply Do.call; exact rfl; exact disk_New 6 32 (by omega) (by omega) (by omega)); rintro _ _ ⟨d, rfl, rfl⟩)
  rw [hD0]
  repeat' (first | (first | (apply JO.ru; exact rfl; exact rfl; exact rfl; (first | (apply Ru.move; exact rfl) | (apply Ru.assign; exact rfl) | (apply Ru.neq; exact rfl; exact rfl; (first | exact ndecF (by omega) | exact ndecT (by omega))) | (apply Ru.pickF; exact rfl; exact rfl) | (apply Ru.extractN; exact rfl; exact rfl) | (apply Ru.loadAN; exact rfl; (repeat (first | exact Pick.here | apply Pick.there)); exact rfl; exact rfl) | (apply Ru.eqlPN; exact rfl; exact rfl))) | refine JC.seq ?_ | refine JC.region ?_ | refine JO.nil ?_ | refine JE.thenN ?_ | refine JC.skip ?_ | refine JC.condF rfl ?_ | refine JO.guardT rfl rfl rfl rfl ?_) | refine JO.guardU rfl rfl rfl rfl rfl rfl ?_ | (first | (apply JO.do; exact rfl; exact rfl; exact rfl; (apply Do.call; exact rfl; exact k1 d _); rintro _ _ ⟨rfl, hq⟩; obtain rfl := hq.symm) | (apply JQ.call; exact rfl; exact rfl; exact rfl; exact k1 d _; (rintro _ _ ⟨rfl, rfl⟩; exact ⟨rfl, rfl⟩))) | (apply JO.do; exact rfl; exact rfl; exact rfl; (apply Do.call; exact rfl; exact k2 d _); rintro _ _ ⟨sb, rfl, rfl⟩))
  (apply JO.do; exact rfl; exact rfl; exact rfl; (apply Do.call; exact rfl; exact shadow_ImageP (by rw [hfl]; omega) Pick.here); rintro u _ rfl)
  refine JO.heap (fun _ s => (by unfold bytesHP at s; rw [hfl] at s; exact s : Sat σ _ (ownS u 5 1 64 ((factB 0 0 1).map byte) :: _))) ?_
  refine JO.openOwn Pick.here (by omega) fun b cap spare hu hcap hlx hcl => ?_
  subst hu
  repeat' (first | (first | (apply JO.ru; exact rfl; exact rfl; exact rfl; (first | (apply Ru.move; exact rfl) | (apply Ru.assign; exact rfl) | (apply Ru.lenS; exact rfl) | (apply Ru.neq; exact rfl; exact rfl; (first | exact ndecF (by omega) | exact ndecT (by omega))) | (apply Ru.pickF; exact rfl; exact rfl) | (apply Ru.indexAddr; exact rfl; exact rfl; omega; omega))) | refine JC.seq ?_ | refine JC.region ?_ | refine JO.nil ?_ | refine JE.thenN ?_ | refine JC.skip ?_ | refine JC.condF rfl ?_ | refine JO.guardT rfl rfl rfl rfl ?_ | (apply JO.do0; exact rfl; exact rfl; (first | (apply Do.storeN; exact rfl; exact rfl; exact rfl; (repeat (first | exact Pick.here | apply Pick.there)); exact rfl; exact rfl) | (apply Do.store; exact rfl; exact rfl; exact rfl; (repeat (first | exact Pick.here | apply Pick.there)); exact rfl)); rintro _ _ ⟨rfl, rfl⟩)) | refine JO.guardU rfl rfl rfl rfl rfl rfl ?_ | (first | (apply JO.do; exact rfl; exact rfl; exact rfl; (apply Do.call; exact rfl; exact shadow_SeqP (by repeat (first | exact Pick.here | apply Pick.there))); rintro _ _ ⟨rfl, hq⟩; obtain rfl := hq.symm) | (apply JQ.call; exact rfl; exact rfl; exact rfl; exact shadow_SeqP (by repeat (first | exact Pick.here | apply Pick.there)); (rintro _ _ ⟨rfl, rfl⟩; exact ⟨rfl, rfl⟩))) | (first | (apply JO.do; exact rfl; exact rfl; exact rfl; (apply Do.call; exact rfl; exact shadow_WhichP (by repeat (first | exact Pick.here | apply Pick.there))); rintro _ _ ⟨rfl, hq⟩; obtain rfl := hq.symm) | (apply JQ.call; exact rfl; exact rfl; exact rfl; exact shadow_WhichP (by repeat (first | exact Pick.here | apply Pick.there)); (rintro _ _ ⟨rfl, rfl⟩; exact ⟨rfl, rfl⟩))))
  have e1 : ((factB 0 0 1).map byte ++ spare).set (0 + Int.toNat 3 * 1) (Value.int .u8 1) = awB.map byte ++ spare := by
    show ((factB 0 0 1).map byte ++ spare).set 3 (byte 1) = _
    rw [List.set_append_left _ _ (by rw [List.length_map, hfl]; omega), ← List.map_set]; rfl
  rw [e1]
  have hawl : awB.length = 64 := by decide
  have hback : ∀ w, Sat σ w (arr b 5 (awB.map byte ++ spare) :: shadHP sb d 0 0 1 ⟨factB 0 0 1, 1, 0, false⟩ :: diskHP d D2 :: arr gb 23 [Value.int .i64 0, Value.int .i64 0, Value.int .i64 1] :: F) →
      Sat σ w (shadHP sb d 0 0 1 ⟨factB 0 0 1, 1, 0, false⟩ :: diskHP d D2 :: ownS (.slice (some ⟨b, 0, none⟩) 64 cap) 5 1 64 (awB.map byte) :: arr gb 23 [Value.int .i64 0, Value.int .i64 0, Value.int .i64 1] :: F) := fun w s => by
    have := Sat.ownS_arr (z := 1) hcap (by rw [List.length_map, hawl]) (by rw [List.length_append, List.length_map, hawl]; rw [List.length_append, List.length_map, hfl] at hcl; omega) s
    exact Sat.weak (by repeat (first | exact Weak.refl | (apply Weak.cons; (first | exact Pick.here | exact Pick.there Pick.here | exact Pick.there (Pick.there Pick.here) | exact Pick.there (Pick.there (Pick.there Pick.here)) | exact Pick.there (Pick.there (Pick.there (Pick.there Pick.here))) | exact Pick.there (Pick.there (Pick.there (Pick.there (Pick.there Pick.here)))) | exact Pick.there (Pick.there (Pick.there (Pick.there (Pick.there (Pick.there Pick.here))))) | exact Pick.there (Pick.there (Pick.there (Pick.there (Pick.there (Pick.there (Pick.there Pick.here)))))))) | apply Weak.drop)) w this
  refine JO.heap hback ?_
  refine JO.tail2 fun hrd => ?_
  have k3 := shadow_CommitE (σ := σ) (sb := sb) (d := d) p3 (.inl rfl) (by decide) (by rw [hawl]; omega) (by show (factB 0 0 1).length ≤ _; rw [hfl]; omega) st.wf (by omega) (by omega) hrd
  repeat' (first | (first | (apply JO.ru; exact rfl; exact rfl; exact rfl; (first | (apply Ru.move; exact rfl) | (apply Ru.assign; exact rfl) | (apply Ru.eql; exact rfl; exact rfl; (first | exact decT (by omega) | exact decF (by omega))))) | refine JC.seq ?_ | refine JC.region ?_ | refine JO.nil ?_ | refine JE.thenN ?_ | refine JO.guardT rfl rfl rfl rfl ?_) | refine JO.guardU rfl rfl rfl rfl rfl rfl ?_ | (first | (apply JO.do; exact rfl; exact rfl; exact rfl; (apply Do.call; exact rfl; exact k3); rintro _ _ ⟨rfl, hq⟩; obtain rfl := hq.symm) | (apply JQ.call; exact rfl; exact rfl; exact rfl; exact k3; (rintro _ _ ⟨rfl, rfl⟩; exact ⟨rfl, rfl⟩))))
  repeat' (first | (first | (apply JO.ru; exact rfl; exact rfl; exact rfl; (first | (apply Ru.move; exact rfl) | (apply Ru.eql; exact rfl; exact rfl; (first | exact decT (by omega) | exact decF (by omega))) | (apply Ru.pickT; exact rfl; exact rfl))) | refine JO.guardT rfl rfl rfl rfl ?_) | refine JO.guardU rfl rfl rfl rfl rfl rfl ?_ | (first | (apply JO.do; exact rfl; exact rfl; exact rfl; (apply Do.call; exact rfl; exact shadow_SeqP (by repeat (first | exact Pick.here | apply Pick.there))); rintro _ _ ⟨rfl, hq⟩; obtain rfl := hq.symm) | (apply JQ.call; exact rfl; exact rfl; exact rfl; exact shadow_SeqP (by repeat (first | exact Pick.here | apply Pick.there)); (rintro _ _ ⟨rfl, rfl⟩; exact ⟨rfl, rfl⟩))) | (first | (apply JO.do; exact rfl; exact rfl; exact rfl; (apply Do.call; exact rfl; exact shadow_WhichP (by repeat (first | exact Pick.here | apply Pick.there))); rintro _ _ ⟨rfl, hq⟩; obtain rfl := hq.symm) | (apply JQ.call; exact rfl; exact rfl; exact rfl; exact shadow_WhichP (by repeat (first | exact Pick.here | apply Pick.there)); (rintro _ _ ⟨rfl, rfl⟩; exact ⟨rfl, rfl⟩))))
  (apply JO.do; exact rfl; exact rfl; exact rfl; (apply Do.call; exact rfl; exact shadow_ImageP (by rw [hawl]; omega) Pick.here); rintro u _ rfl)
  refine JO.ownR Pick.here fun hx _ _ => ?_
  refine JO.ownR (Pick.there (Pick.there (Pick.there Pick.here))) fun hy _ _ => ?_
  have hsame := ref_Same (σ := σ) _ _ awB awB (by omega) hx hy
  rw [decide_eq_true rfl] at hsame
  repeat' (first | (first | (apply JO.ru; exact rfl; exact rfl; exact rfl; (first | (apply Ru.move; exact rfl) | (apply Ru.assign; exact rfl) | (apply Ru.pickT; exact rfl; exact rfl) | (apply Ru.not; exact rfl))) | refine JO.nil ?_ | refine JE.thenN ?_ | refine JC.ret ?_ | refine JO.guardT rfl rfl rfl rfl ?_ | (apply JE.done1; exact rfl; (first | (apply Res.tmp; exact rfl) | (apply Res.cell; exact rfl; (repeat (first | exact Pick.here | apply Pick.there)); exact rfl) | (apply Res.cellAN; exact rfl; (repeat (first | exact Pick.here | apply Pick.there)); exact rfl; exact rfl) | (apply Res.cellA; exact rfl; (repeat (first | exact Pick.here | apply Pick.there)); exact rfl; exact rfl)))) | refine JO.guardU rfl rfl rfl rfl rfl rfl ?_ | (first | (apply JO.do; exact rfl; exact rfl; exact rfl; (apply Do.call; exact rfl; exact shadow_SeqP (by repeat (first | exact Pick.here | apply Pick.there))); rintro _ _ ⟨rfl, hq⟩; obtain rfl := hq.symm) | (apply JQ.call; exact rfl; exact rfl; exact rfl; exact shadow_SeqP (by repeat (first | exact Pick.here | apply Pick.there)); (rintro _ _ ⟨rfl, rfl⟩; exact ⟨rfl, rfl⟩))) | (first | (apply JO.do; exact rfl; exact rfl; exact rfl; (apply Do.call; exact rfl; exact shadow_WhichP (by repeat (first | exact Pick.here | apply Pick.there))); rintro _ _ ⟨rfl, hq⟩; obtain rfl := hq.symm) | (apply JQ.call; exact rfl; exact rfl; exact rfl; exact shadow_WhichP (by repeat (first | exact Pick.here | apply Pick.there)); (rintro _ _ ⟨rfl, rfl⟩; exact ⟨rfl, rfl⟩))) | (first | (apply JO.do; exact rfl; exact rfl; exact rfl; (apply Do.call; exact rfl; exact shadow_StaleP (by repeat (first | exact Pick.here | apply Pick.there))); rintro _ _ ⟨rfl, hq⟩; obtain rfl := hq.symm) | (apply JQ.call; exact rfl; exact rfl; exact rfl; exact shadow_StaleP (by repeat (first | exact Pick.here | apply Pick.there)); (rintro _ _ ⟨rfl, rfl⟩; exact ⟨rfl, rfl⟩))) | (first | (apply JO.do; exact rfl; exact rfl; exact rfl; (apply Do.call; exact rfl; exact hsame); rintro _ _ ⟨rfl, hq⟩; obtain rfl := hq.symm) | (apply JQ.call; exact rfl; exact rfl; exact rfl; exact hsame; (rintro _ _ ⟨rfl, rfl⟩; exact ⟨rfl, rfl⟩))))
  all_goals exact ⟨F, Sat.weak (by repeat (first | exact Weak.refl | (apply Weak.cons; (first | exact Pick.here | exact Pick.there Pick.here | exact Pick.there (Pick.there Pick.here) | exact Pick.there (Pick.there (Pick.there Pick.here)) | exact Pick.there (Pick.there (Pick.there (Pick.there Pick.here))) | exact Pick.there (Pick.there (Pick.there (Pick.there (Pick.there Pick.here)))) | exact Pick.there (Pick.there (Pick.there (Pick.there (Pick.there (Pick.there Pick.here))))) | exact Pick.there (Pick.there (Pick.there (Pick.there (Pick.there (Pick.there (Pick.there Pick.here)))))))) | apply Weak.drop)), rfl, rfl⟩
end Go.Sep
/- A slice of slices of bytes among the arguments. -/
namespace Go.Sep
open Go Go.Proofs
attribute [local irreducible] JO JC JE JA JQ JB JI Mid Inv Weak ownS Ru Do Fn Sat Pick Take arr pt star ex Holds bodyPost Post Exit.then Exit.inBlock Res
variable {σ : Sig} {F : List HP}
def RdB (σ : Sig) (l : List HP) (v : Value) (bss : List (List UInt8)) : Prop :=
  ∃ p cap, v = .slice p bss.length cap ∧ bss.length ≤ cap ∧ (bss = [] ∨ ∃ b o, p = some ⟨b, o, none⟩ ∧ ∀ (i : Nat) (bs : List UInt8), bss[i]? = some bs → ∃ q c,
    (∀ w, Sat σ w l → w.cell? ⟨b, o + i * 1, none⟩ = some (.slice q bs.length c)) ∧ RdS σ l (.slice q bs.length c) (bs.map byte))
end Go.Sep
/- ShadowTurns. -/
namespace Go.Sep
open Go Go.Proofs
attribute [local irreducible] JO JC JE JA JQ JB JI Mid Inv Weak ownS Ru Do Fn Sat Pick Take arr pt star ex Holds bodyPost Post Exit.then Exit.inBlock Res
variable {σ : Sig} {F : List HP}
attribute [local irreducible] shadHP diskHP cacheHP planHP rowHP FnX PostX
/-- A round of ShadowTurns. -/
theorem turn_plain {D : DiskN} {z k many : Nat} {e f s q w : Int} {now : List UInt8} (hB : Both z k e f s many) (h : ShSt D z k many e f s ⟨now, q, w, false⟩) (hp : D.planned = []) (hq : q ≤ 1000) {b : List UInt8} (hb : (b.length : Int) = totG e f s) :
    ∃ E E2 q' w', commitR D e f s ⟨now, q, w, false⟩ b = (0, E, ⟨b, q', w', false⟩) ∧ openR E e f s = (0, E2, ⟨b, q', w', false⟩) ∧ E.WF ∧ E.planned = [] ∧ ShSt E2 z k many e f s ⟨b, q', w', false⟩ ∧ E2.planned = [] ∧
      (now = b → q' = q ∧ w' = w) ∧ (now ≠ b → q' = q + 1 ∧ w' = 1 - w) ∧ D.ops ≤ E.ops ∧ E.ops ≤ D.ops + (many + 3) ∧ E.writes ≤ D.writes + (many + 1) ∧ E2.ops ≤ D.ops + (3 * many + 6) ∧ E2.writes ≤ D.writes + (many + 1) := by
  have key : ∃ E q' w', commitR D e f s ⟨now, q, w, false⟩ b = (0, E, ⟨b, q', w', false⟩) ∧ ShSt E z k many e f s ⟨b, q', w', false⟩ ∧ E.planned = [] ∧ (now = b → q' = q ∧ w' = w) ∧ (now ≠ b → q' = q + 1 ∧ w' = 1 - w) ∧ D.ops ≤ E.ops ∧ E.ops ≤ D.ops + (many + 3) ∧ E.writes ≤ D.writes + (many + 1) := by
    by_cases hs : now = b
    · subst hs
      exact ⟨D, q, w, commit_same rfl rfl, h, hp, fun _ => ⟨rfl, rfl⟩, fun c => absurd rfl c, Nat.le_refl _, by omega, by omega⟩
    · rcases commit_any hB h rfl hb (fun c => hs c.symm) (by show q + 1 < _; omega) with ⟨E, h1, h2, h3, h4, h5⟩ | ⟨E, _, _, hh, _⟩ | ⟨E, _, _, hh, _⟩
      · exact ⟨E, q + 1, 1 - w, h1, h2, h3.trans hp, fun c => absurd c hs, fun _ => ⟨rfl, rfl⟩, by omega, by omega, by omega⟩
      · exact absurd hh (Hit.none hp)
      · exact absurd hh (Hit.none hp)
  obtain ⟨E, q', w', h1, h2, h3, h4, h5, h6, h7, h8⟩ := key
  rcases open_has hB h2.wf h2.size h2.count h2.has h2.len h2.q with ⟨_, _, _, hh, _⟩ | ⟨E2, g1, v, st, g2⟩
  · exact absurd hh (Hit.none h3)
  · exact ⟨E, E2, q', w', h1, g1, h2.wf, h3, st, v.plan.trans h3, h4, h5, h6, h7, h8, by omega, by have := v.writes; omega⟩
set_option maxHeartbeats 8000000 in
theorem law07_ShadowTurns (e f s : Int) (z : UInt8) (v : Value) (bss : List (List UInt8)) (hr : RdB σ F v bss) [hg : InG F] :
    Fn Tryz.prog σ 4 #[geoV e f s, .int .u8 z.toNat, v] F (fun r l' => r = .bool true ∧ l' = F) := by
  obtain ⟨p, cap, rfl, hcap, hrc⟩ := id hr
  clear hr
  obtain ⟨n, hn⟩ : ∃ n, bss.length = n := ⟨_, rfl⟩
  rw [hn] at hcap ⊢
  have haw := fun (G : List HP) [InG G] => law07_awake (σ := σ) (F := G)
  by_cases h1 : fewG e f s = true
  case neg =>
    simp only [Bool.not_eq_true] at h1
    refine Fn.of Tryz.func4 rfl Tryz.ntmps4 rfl ?_
    repeat' (first | (first | (apply JO.ru; exact rfl; exact rfl; exact rfl; (first | (apply Ru.move; exact rfl) | (apply Ru.assign; exact rfl) | (apply Ru.pickT; exact rfl; exact rfl) | (apply Ru.not; exact rfl) | (apply Ru.loadAN; exact rfl; (repeat (first | exact Pick.here | apply Pick.there)); exact rfl; exact rfl))) | refine JC.seq ?_ | refine JC.region ?_ | refine JO.nil ?_ | refine JE.thenN ?_ | refine JE.thenR ?_ | refine JC.ret ?_ | refine JC.condT rfl ?_ | refine JO.guardF rfl rfl rfl rfl rfl rfl rfl ?_ | (apply JO.do; exact rfl; exact rfl; exact rfl; (first | (apply Do.boxN; exact rfl; exact rfl) | (apply Do.box; exact rfl)); rintro _ _ ⟨_, rfl, rfl⟩) | (apply JE.done1; exact rfl; (first | (apply Res.tmp; exact rfl) | (apply Res.cell; exact rfl; (repeat (first | exact Pick.here | apply Pick.there)); exact rfl) | (apply Res.cellAN; exact rfl; (repeat (first | exact Pick.here | apply Pick.there)); exact rfl; exact rfl) | (apply Res.cellA; exact rfl; (repeat (first | exact Pick.here | apply Pick.there)); exact rfl; exact rfl)))) | refine JO.guardU rfl rfl rfl rfl rfl rfl ?_ | (first | (apply JO.do; exact rfl; exact rfl; exact rfl; (apply Do.call; exact rfl; exact haw _); rintro _ _ ⟨rfl, hq⟩; obtain rfl := hq.symm) | (apply JQ.call; exact rfl; exact rfl; exact rfl; exact haw _; (rintro _ _ ⟨rfl, rfl⟩; exact ⟨rfl, rfl⟩))) | ((first | (apply JO.do; exact rfl; exact rfl; exact rfl; (apply Do.call; exact rfl; exact ref_Few _ _ _); rintro _ _ ⟨rfl, hq⟩; obtain rfl := hq.symm) | (apply JQ.call; exact rfl; exact rfl; exact rfl; exact ref_Few _ _ _; (rintro _ _ ⟨rfl, rfl⟩; exact ⟨rfl, rfl⟩))); rw [h1]) | (first | (apply JO.do; exact rfl; exact rfl; exact rfl; (apply Do.call; exact rfl; exact ref_Right _ _ _); rintro _ _ ⟨rfl, hq⟩; obtain rfl := hq.symm) | (apply JQ.call; exact rfl; exact rfl; exact rfl; exact ref_Right _ _ _; (rintro _ _ ⟨rfl, rfl⟩; exact ⟨rfl, rfl⟩))))
    all_goals exact ⟨F, Sat.weak (by repeat (first | exact Weak.refl | (apply Weak.cons; (first | exact Pick.here | exact Pick.there Pick.here | exact Pick.there (Pick.there Pick.here) | exact Pick.there (Pick.there (Pick.there Pick.here)) | exact Pick.there (Pick.there (Pick.there (Pick.there Pick.here))) | exact Pick.there (Pick.there (Pick.there (Pick.there (Pick.there Pick.here)))) | exact Pick.there (Pick.there (Pick.there (Pick.there (Pick.there (Pick.there Pick.here))))) | exact Pick.there (Pick.there (Pick.there (Pick.there (Pick.there (Pick.there (Pick.there Pick.here)))))))) | apply Weak.drop)), rfl, rfl⟩
  by_cases h2 : rightG e f s = true
  case neg =>
    simp only [Bool.not_eq_true] at h2
    refine Fn.of Tryz.func4 rfl Tryz.ntmps4 rfl ?_
    repeat' (first | (first | (apply JO.ru; exact rfl; exact rfl; exact rfl; (first | (apply Ru.move; exact rfl) | (apply Ru.assign; exact rfl) | (apply Ru.pickT; exact rfl; exact rfl) | (apply Ru.pickF; exact rfl; exact rfl) | (apply Ru.not; exact rfl) | (apply Ru.loadAN; exact rfl; (repeat (first | exact Pick.here | apply Pick.there)); exact rfl; exact rfl))) | refine JC.seq ?_ | refine JC.region ?_ | refine JO.nil ?_ | refine JE.thenN ?_ | refine JE.thenR ?_ | refine JC.ret ?_ | refine JC.condT rfl ?_ | refine JO.guardF rfl rfl rfl rfl rfl rfl rfl ?_ | refine JO.guardT rfl rfl rfl rfl ?_ | (apply JO.do; exact rfl; exact rfl; exact rfl; (first | (apply Do.boxN; exact rfl; exact rfl) | (apply Do.box; exact rfl)); rintro _ _ ⟨_, rfl, rfl⟩) | (apply JE.done1; exact rfl; (first | (apply Res.tmp; exact rfl) | (apply Res.cell; exact rfl; (repeat (first | exact Pick.here | apply Pick.there)); exact rfl) | (apply Res.cellAN; exact rfl; (repeat (first | exact Pick.here | apply Pick.there)); exact rfl; exact rfl) | (apply Res.cellA; exact rfl; (repeat (first | exact Pick.here | apply Pick.there)); exact rfl; exact rfl)))) | refine JO.guardU rfl rfl rfl rfl rfl rfl ?_ | (first | (apply JO.do; exact rfl; exact rfl; exact rfl; (apply Do.call; exact rfl; exact haw _); rintro _ _ ⟨rfl, hq⟩; obtain rfl := hq.symm) | (apply JQ.call; exact rfl; exact rfl; exact rfl; exact haw _; (rintro _ _ ⟨rfl, rfl⟩; exact ⟨rfl, rfl⟩))) | ((first | (apply JO.do; exact rfl; exact rfl; exact rfl; (apply Do.call; exact rfl; exact ref_Few _ _ _); rintro _ _ ⟨rfl, hq⟩; obtain rfl := hq.symm) | (apply JQ.call; exact rfl; exact rfl; exact rfl; exact ref_Few _ _ _; (rintro _ _ ⟨rfl, rfl⟩; exact ⟨rfl, rfl⟩))); rw [h1]) | ((first | (apply JO.do; exact rfl; exact rfl; exact rfl; (apply Do.call; exact rfl; exact ref_Right _ _ _); rintro _ _ ⟨rfl, hq⟩; obtain rfl := hq.symm) | (apply JQ.call; exact rfl; exact rfl; exact rfl; exact ref_Right _ _ _; (rintro _ _ ⟨rfl, rfl⟩; exact ⟨rfl, rfl⟩))); rw [h2]))
    all_goals exact ⟨F, Sat.weak (by repeat (first | exact Weak.refl | (apply Weak.cons; (first | exact Pick.here | exact Pick.there Pick.here | exact Pick.there (Pick.there Pick.here) | exact Pick.there (Pick.there (Pick.there Pick.here)) | exact Pick.there (Pick.there (Pick.there (Pick.there Pick.here))) | exact Pick.there (Pick.there (Pick.there (Pick.there (Pick.there Pick.here)))) | exact Pick.there (Pick.there (Pick.there (Pick.there (Pick.there (Pick.there Pick.here))))) | exact Pick.there (Pick.there (Pick.there (Pick.there (Pick.there (Pick.there (Pick.there Pick.here)))))))) | apply Weak.drop)), rfl, rfl⟩
  by_cases h3 : n ≤ 6
  case neg =>
    refine Fn.of Tryz.func4 rfl Tryz.ntmps4 rfl ?_
    repeat' (first | (first | (apply JO.ru; exact rfl; exact rfl; exact rfl; (first | (apply Ru.move; exact rfl) | (apply Ru.assign; exact rfl) | (apply Ru.lenS; exact rfl) | (apply Ru.gtr; exact rfl; exact rfl; (first | exact decT (by omega) | exact decF (by omega))) | (apply Ru.pickF; exact rfl; exact rfl) | (apply Ru.not; exact rfl) | (apply Ru.loadAN; exact rfl; (repeat (first | exact Pick.here | apply Pick.there)); exact rfl; exact rfl))) | refine JC.seq ?_ | refine JC.region ?_ | refine JO.nil ?_ | refine JE.thenN ?_ | refine JE.thenR ?_ | refine JC.ret ?_ | refine JC.condT rfl ?_ | refine JO.guardT rfl rfl rfl rfl ?_ | (apply JO.do; exact rfl; exact rfl; exact rfl; (first | (apply Do.boxN; exact rfl; exact rfl) | (apply Do.box; exact rfl)); rintro _ _ ⟨_, rfl, rfl⟩) | (apply JE.done1; exact rfl; (first | (apply Res.tmp; exact rfl) | (apply Res.cell; exact rfl; (repeat (first | exact Pick.here | apply Pick.there)); exact rfl) | (apply Res.cellAN; exact rfl; (repeat (first | exact Pick.here | apply Pick.there)); exact rfl; exact rfl) | (apply Res.cellA; exact rfl; (repeat (first | exact Pick.here | apply Pick.there)); exact rfl; exact rfl)))) | refine JO.guardU rfl rfl rfl rfl rfl rfl ?_ | (first | (apply JO.do; exact rfl; exact rfl; exact rfl; (apply Do.call; exact rfl; exact haw _); rintro _ _ ⟨rfl, hq⟩; obtain rfl := hq.symm) | (apply JQ.call; exact rfl; exact rfl; exact rfl; exact haw _; (rintro _ _ ⟨rfl, rfl⟩; exact ⟨rfl, rfl⟩))) | ((first | (apply JO.do; exact rfl; exact rfl; exact rfl; (apply Do.call; exact rfl; exact ref_Few _ _ _); rintro _ _ ⟨rfl, hq⟩; obtain rfl := hq.symm) | (apply JQ.call; exact rfl; exact rfl; exact rfl; exact ref_Few _ _ _; (rintro _ _ ⟨rfl, rfl⟩; exact ⟨rfl, rfl⟩))); rw [h1]) | ((first | (apply JO.do; exact rfl; exact rfl; exact rfl; (apply Do.call; exact rfl; exact ref_Right _ _ _); rintro _ _ ⟨rfl, hq⟩; obtain rfl := hq.symm) | (apply JQ.call; exact rfl; exact rfl; exact rfl; exact ref_Right _ _ _; (rintro _ _ ⟨rfl, rfl⟩; exact ⟨rfl, rfl⟩))); rw [h2]))
    all_goals exact ⟨F, Sat.weak (by repeat (first | exact Weak.refl | (apply Weak.cons; (first | exact Pick.here | exact Pick.there Pick.here | exact Pick.there (Pick.there Pick.here) | exact Pick.there (Pick.there (Pick.there Pick.here)) | exact Pick.there (Pick.there (Pick.there (Pick.there Pick.here))) | exact Pick.there (Pick.there (Pick.there (Pick.there (Pick.there Pick.here)))) | exact Pick.there (Pick.there (Pick.there (Pick.there (Pick.there (Pick.there Pick.here))))) | exact Pick.there (Pick.there (Pick.there (Pick.there (Pick.there (Pick.there (Pick.there Pick.here)))))))) | apply Weak.drop)), rfl, rfl⟩
  have ht := few_tot h1 h2
  have hm := sizeOfU_bd z
  have hsp := span_few (z := sizeOfU z) ht
  obtain ⟨m, hm0⟩ : ∃ m, sizeOfU z = m := ⟨_, rfl⟩
  obtain ⟨k, hk0⟩ : ∃ k, (2 * spanG m e f s + 1).toNat = k := ⟨_, rfl⟩
  have hfr := fun (G : List HP) => law07_fresh (σ := σ) (F := G) z e f s ht
  simp only [hm0, hk0] at hfr
  rw [hm0] at hm hsp
  have hB := Both.of (z := m) (k := k) h2 (by omega) (by omega)
  obtain ⟨many, hmany⟩ : ∃ x, (secs (totG e f s) m).toNat = x := ⟨_, rfl⟩
  rw [hmany] at hB
  have hml : many ≤ 500 := by
    have := secs_bd (m := totG e f s) (s := (m : Int)) (totG_bd e f s).1
    omega
  obtain ⟨f1, f2, f3, f4, f5, f6, f7⟩ := freshN_facts (k := k) (z := m) (by omega) (by omega) (by omega)
  obtain ⟨D0, hD0⟩ : ∃ D0, freshN k m = D0 := ⟨_, rfl⟩
  rw [hD0] at f1 f2 f3 f4 f5 f6 f7
  simp only [hD0] at hfr
  obtain ⟨D1, D2, p1, p2, q1, q2, st, q4, _, o1, w1, w2, _, o2⟩ := start_ok hB f1 f2 f3 f4 (by omega)
  have htot := totG_bd e f s
  have k1 := fun (d : Nat) (G : List HP) [InG G] => shadow_FormatE (σ := σ) (d := d) p1 (fun _ => by omega) f1 (by omega) (by omega) (l := G)
  have k2 := fun (d : Nat) (G : List HP) [InG G] => shadow_OpenE (σ := σ) (d := d) p2 q1 (by omega) (by omega) (l := G)
  refine Fn.of Tryz.func4 rfl Tryz.ntmps4 rfl ?_
  repeat' (first | (apply JO.ru; exact rfl; exact rfl; exact rfl; ((apply Ru.assign; exact rfl))) | refine JC.seq ?_ | refine JC.region ?_ | refine JO.nil ?_ | refine JE.thenN ?_ | (apply JO.do; exact rfl; exact rfl; exact rfl; (first | (apply Do.boxN; exact rfl; exact rfl) | (apply Do.box; exact rfl)); rintro _ _ ⟨_, rfl, rfl⟩))
  rename_i gb
  repeat' (first | (first | (apply JO.ru; exact rfl; exact rfl; exact rfl; (first | (apply Ru.move; exact rfl) | (apply Ru.assign; exact rfl) | (apply Ru.lenS; exact rfl) | (apply Ru.gtr; exact rfl; exact rfl; (first | exact decT (by omega) | exact decF (by omega))) | (apply Ru.pickF; exact rfl; exact rfl) | (apply Ru.not; exact rfl) | (apply Ru.loadAN; exact rfl; (repeat (first | exact Pick.here | apply Pick.there)); exact rfl; exact rfl))) | refine JC.seq ?_ | refine JC.region ?_ | refine JO.nil ?_ | refine JE.thenN ?_ | refine JC.block ?_ | refine JC.skip ?_ | refine JC.condF rfl ?_ | refine JO.guardT rfl rfl rfl rfl ?_) | refine JO.guardU rfl rfl rfl rfl rfl rfl ?_ | (first | (apply JO.do; exact rfl; exact rfl; exact rfl; (apply Do.call; exact rfl; exact haw _); rintro _ _ ⟨rfl, hq⟩; obtain rfl := hq.symm) | (apply JQ.call; exact rfl; exact rfl; exact rfl; exact haw _; (rintro _ _ ⟨rfl, rfl⟩; exact ⟨rfl, rfl⟩))) | ((first | (apply JO.do; exact rfl; exact rfl; exact rfl; (apply Do.call; exact rfl; exact ref_Few _ _ _); rintro _ _ ⟨rfl, hq⟩; obtain rfl := hq.symm) | (apply JQ.call; exact rfl; exact rfl; exact rfl; exact ref_Few _ _ _; (rintro _ _ ⟨rfl, rfl⟩; exact ⟨rfl, rfl⟩))); rw [h1]) | ((first | (apply JO.do; exact rfl; exact rfl; exact rfl; (apply Do.call; exact rfl; exact ref_Right _ _ _); rintro _ _ ⟨rfl, hq⟩; obtain rfl := hq.symm) | (apply JQ.call; exact rfl; exact rfl; exact rfl; exact ref_Right _ _ _; (rintro _ _ ⟨rfl, rfl⟩; exact ⟨rfl, rfl⟩))); rw [h2]))
  refine JC.loop (fun i : Nat => [(1, .int .u8 z.toNat), (2, .slice p n cap), (3, .pointer (some ⟨gb, 0, none⟩)), (7, .bool true), (10, int i)]) (fun _ => arr gb 23 [int e, int f, int s] :: F) (fun i => i ≤ n ∧ ∀ j bs, j < i → bss[j]? = some bs → bs.length ≤ 600) (fun i => n - i) 0 ⟨Nat.zero_le _, fun _ _ hj => absurd hj (Nat.not_lt_zero _)⟩ ⟨rfl, rfl, rfl, rfl, rfl, trivial⟩ (fun _ h => h) ?_
  intro i ⟨hi, hall⟩
  have hrow : ∀ j, j < n → ∃ b o, p = some ⟨b, o, none⟩ ∧ ∃ bs pu cu, bss[j]? = some bs ∧ RdS σ F (.slice pu bs.length cu) (bs.map byte) ∧ ∀ w, Sat σ w F → w.cell? ⟨b, o + j * 1, none⟩ = some (.slice pu bs.length cu) := by
    intro j hj
    rcases hrc with h0 | ⟨b, o, hp, hc⟩
    · rw [h0] at hn; simp at hn; omega
    · obtain ⟨bs, hbs⟩ : ∃ bs, bss[j]? = some bs := ⟨_, List.getElem?_eq_getElem (by omega)⟩
      obtain ⟨pu, cu, h5, h6⟩ := hc j bs hbs
      exact ⟨b, o, hp, bs, pu, cu, hbs, h6, h5⟩
  clear hrc
  repeat' (first | (apply JO.ru; exact rfl; exact rfl; exact rfl; (first | (apply Ru.move; exact rfl) | (apply Ru.lenS; exact rfl) | (apply Ru.loadAN; exact rfl; (repeat (first | exact Pick.here | apply Pick.there)); exact rfl; exact rfl))) | refine JC.seq ?_ | refine JC.region ?_ | refine JO.nil ?_ | refine JE.thenN ?_ | refine JE.thenE ?_ | refine JE.blockE ?_ | refine JC.block ?_ | refine JC.skip ?_ | refine JC.exit ?_ | refine JC.condT rfl ?_ | refine JC.condF rfl ?_ | (apply JO.split; exact rfl; exact rfl; exact rfl; ((apply Ru.lss; exact rfl; exact rfl; exact rfl)); all_goals intro _))
  · rename_i hlt
    obtain ⟨b, o, rfl, bs, pu, cu, hbs, hrd, hcell⟩ := hrow i (by omega)
    repeat' ((apply JO.ru; exact rfl; exact rfl; exact rfl; ((apply Ru.indexAddr; exact rfl; exact rfl; omega; omega))))
    (apply JO.ru; exact rfl; exact rfl; exact rfl; (apply Ru.loadC; exact rfl; exact fun w s => (by have := hcell w (Sat.drop s); simpa using this)))
    repeat' (first | (apply JO.ru; exact rfl; exact rfl; exact rfl; (first | (apply Ru.move; exact rfl) | (apply Ru.assign; exact rfl) | (apply Ru.lenS; exact rfl) | (apply Ru.add; exact rfl; exact rfl; (first | exact wrapI (by omega) (by omega) | exact rfl)))) | refine JC.seq ?_ | refine JC.region ?_ | refine JO.nil ?_ | refine JE.thenN ?_ | refine JE.thenR ?_ | refine JE.blockN ?_ | refine JE.blockR ?_ | refine JC.ret ?_ | refine JC.skip ?_ | refine JC.condT rfl ?_ | refine JC.condF rfl ?_ | (apply JO.split; exact rfl; exact rfl; exact rfl; ((apply Ru.gtr; exact rfl; exact rfl; exact rfl)); all_goals intro _) | (apply JE.done1; exact rfl; (first | (apply Res.tmp; exact rfl) | (apply Res.cell; exact rfl; (repeat (first | exact Pick.here | apply Pick.there)); exact rfl) | (apply Res.cellAN; exact rfl; (repeat (first | exact Pick.here | apply Pick.there)); exact rfl; exact rfl) | (apply Res.cellA; exact rfl; (repeat (first | exact Pick.here | apply Pick.there)); exact rfl; exact rfl))))
    · exact ⟨F, Sat.weak (by repeat (first | exact Weak.refl | (apply Weak.cons; (first | exact Pick.here | exact Pick.there Pick.here | exact Pick.there (Pick.there Pick.here) | exact Pick.there (Pick.there (Pick.there Pick.here)) | exact Pick.there (Pick.there (Pick.there (Pick.there Pick.here))) | exact Pick.there (Pick.there (Pick.there (Pick.there (Pick.there Pick.here)))) | exact Pick.there (Pick.there (Pick.there (Pick.there (Pick.there (Pick.there Pick.here))))) | exact Pick.there (Pick.there (Pick.there (Pick.there (Pick.there (Pick.there (Pick.there Pick.here)))))))) | apply Weak.drop)), rfl, rfl⟩
    · rename_i hgt
      refine JE.round (i + 1) ⟨by omega, fun j bs' hj hb' => ?_⟩ (by omega) ⟨rfl, rfl, rfl, rfl, rfl, trivial⟩ (fun _ h => h)
      rcases Nat.lt_or_ge j i with q | q
      · exact hall j bs' q hb'
      · obtain rfl : j = i := by omega
        rw [hbs] at hb'; injection hb' with hb'; subst hb'; omega
  · have hin : n = i := by omega
    subst hin
    (apply JO.do; exact rfl; exact rfl; exact rfl; (apply Do.call; exact rfl; exact hfr _); rintro _ _ ⟨d, rfl, rfl⟩)
    repeat' (first | (first | (apply JO.ru; exact rfl; exact rfl; exact rfl; (first | (apply Ru.move; exact rfl) | (apply Ru.assign; exact rfl) | (apply Ru.neq; exact rfl; exact rfl; (first | exact ndecF (by omega) | exact ndecT (by omega))) | (apply Ru.pickF; exact rfl; exact rfl) | (apply Ru.extractN; exact rfl; exact rfl) | (apply Ru.loadAN; exact rfl; (repeat (first | exact Pick.here | apply Pick.there)); exact rfl; exact rfl) | (apply Ru.eqlPN; exact rfl; exact rfl))) | refine JC.seq ?_ | refine JC.region ?_ | refine JO.nil ?_ | refine JE.thenN ?_ | refine JC.block ?_ | refine JC.skip ?_ | refine JC.condF rfl ?_ | refine JO.guardT rfl rfl rfl rfl ?_) | refine JO.guardU rfl rfl rfl rfl rfl rfl ?_ | (first | (apply JO.do; exact rfl; exact rfl; exact rfl; (apply Do.call; exact rfl; exact k1 d _); rintro _ _ ⟨rfl, hq⟩; obtain rfl := hq.symm) | (apply JQ.call; exact rfl; exact rfl; exact rfl; exact k1 d _; (rintro _ _ ⟨rfl, rfl⟩; exact ⟨rfl, rfl⟩))) | (apply JO.do; exact rfl; exact rfl; exact rfl; (apply Do.call; exact rfl; exact k2 d _); rintro _ _ ⟨sb, rfl, rfl⟩))
    clear k1 k2 haw hfr
    refine JC.loop (fun x : Nat × DiskN × List UInt8 × Int × Int => [(2, .slice p n cap), (3, .pointer (some ⟨gb, 0, none⟩)), (7, .bool true), (11, .pointer (some ⟨d, 0, none⟩)), (13, .pointer (some ⟨sb, 0, none⟩)), (15, int x.1)])
      (fun x => shadHP sb d e f s ⟨x.2.2.1, x.2.2.2.1, x.2.2.2.2, false⟩ :: diskHP d x.2.1 :: arr gb 23 [int e, int f, int s] :: F)
      (fun x => x.1 ≤ n ∧ ShSt x.2.1 m k many e f s ⟨x.2.2.1, x.2.2.2.1, x.2.2.2.2, false⟩ ∧ x.2.1.planned = [] ∧ x.2.2.2.1 ≤ 1 + (x.1 : Int) ∧ x.2.1.ops ≤ 2000 + x.1 * 2000 ∧ x.2.1.writes ≤ 2000 + x.1 * 2000)
      (fun x => n - x.1) (0, D2, factB e f s, 1, 0) ⟨Nat.zero_le _, st, q4, by simp, by simp; omega, by simp; omega⟩ ⟨rfl, rfl, rfl, rfl, rfl, rfl, trivial⟩ (fun _ h => h) ?_
    clear st q4 p1 p2 q1 q2 o1 w1 w2 o2 f1 f2 f3 f4 f5 f6 f7 hD0
    rintro ⟨i, D, now, q, w⟩ ⟨hi, st, hp, hq, ho, hw⟩
    dsimp only at hi st hp hq ho hw ⊢
    have hnl := st.len
    dsimp only at hnl
    have hq0 := st.q
    dsimp only at hq0
    have hw01 := st.has.w01
    dsimp only at hw01
    repeat' (first | (apply JO.ru; exact rfl; exact rfl; exact rfl; (first | (apply Ru.move; exact rfl) | (apply Ru.assign; exact rfl) | (apply Ru.lenS; exact rfl))) | refine JC.seq ?_ | refine JC.region ?_ | refine JO.nil ?_ | refine JE.thenN ?_ | refine JE.thenE ?_ | refine JE.blockE ?_ | refine JC.block ?_ | refine JC.ret ?_ | refine JC.skip ?_ | refine JC.exit ?_ | refine JC.condT rfl ?_ | refine JC.condF rfl ?_ | (apply JO.split; exact rfl; exact rfl; exact rfl; ((apply Ru.lss; exact rfl; exact rfl; exact rfl)); all_goals intro _) | (apply JE.done1; exact rfl; (first | (apply Res.tmp; exact rfl) | (apply Res.cell; exact rfl; (repeat (first | exact Pick.here | apply Pick.there)); exact rfl) | (apply Res.cellAN; exact rfl; (repeat (first | exact Pick.here | apply Pick.there)); exact rfl; exact rfl) | (apply Res.cellA; exact rfl; (repeat (first | exact Pick.here | apply Pick.there)); exact rfl; exact rfl))))
    · rename_i hlt
      (apply JO.do; exact rfl; exact rfl; exact rfl; (apply Do.call; exact rfl; exact shadow_ImageP (by omega) Pick.here); rintro u _ rfl)
      refine JO.ownU Pick.here fun pw cw hu => ?_
      subst hu
      refine JO.ownD Pick.here fun hwas => ?_
      obtain ⟨b, o, rfl, bs, pu, cu, hbs, hrd, hcell⟩ := hrow i (by omega)
      have hbb := hall i bs (by omega) hbs
      repeat' (first | (first | (apply JO.ru; exact rfl; exact rfl; exact rfl; (first | (apply Ru.move; exact rfl) | (apply Ru.assign; exact rfl) | (apply Ru.indexAddr; exact rfl; exact rfl; omega; omega))) | refine JC.seq ?_ | refine JC.region ?_ | refine JO.nil ?_ | refine JE.thenN ?_) | (first | (apply JO.do; exact rfl; exact rfl; exact rfl; (apply Do.call; exact rfl; exact shadow_SeqP (by repeat (first | exact Pick.here | apply Pick.there))); rintro _ _ ⟨rfl, hq⟩; obtain rfl := hq.symm) | (apply JQ.call; exact rfl; exact rfl; exact rfl; exact shadow_SeqP (by repeat (first | exact Pick.here | apply Pick.there)); (rintro _ _ ⟨rfl, rfl⟩; exact ⟨rfl, rfl⟩))) | (first | (apply JO.do; exact rfl; exact rfl; exact rfl; (apply Do.call; exact rfl; exact shadow_WhichP (by repeat (first | exact Pick.here | apply Pick.there))); rintro _ _ ⟨rfl, hq⟩; obtain rfl := hq.symm) | (apply JQ.call; exact rfl; exact rfl; exact rfl; exact shadow_WhichP (by repeat (first | exact Pick.here | apply Pick.there)); (rintro _ _ ⟨rfl, rfl⟩; exact ⟨rfl, rfl⟩))))
      (apply JO.ru; exact rfl; exact rfl; exact rfl; (apply Ru.loadC; exact rfl; exact fun w s => (by have := hcell w (Sat.drop (Sat.drop (Sat.drop (Sat.drop s)))); simpa using this)))
      repeat' ((apply JO.ru; exact rfl; exact rfl; exact rfl; (first | (apply Ru.move; exact rfl) | (apply Ru.lenS; exact rfl))))
      (apply JO.do; exact rfl; exact rfl; exact rfl; (apply Do.call; exact rfl; exact law07_made _ bs now.length (by omega) (by omega) hrd.cons.cons.cons.cons); rintro ub _ rfl)
      refine JO.ownU Pick.here fun pb cb hub => ?_
      subst hub
      obtain ⟨nb, hnb⟩ : ∃ nb, fit bs now.length = nb := ⟨_, rfl⟩
      have hnbl : nb.length = now.length := by rw [← hnb]; exact fit_length _ _
      rw [hnb]
      obtain ⟨E, E2, q', w', c1, c2, c3, c4, c5, c6, c7, c8, c9, c10, c11, c12, c13⟩ := turn_plain hB st hp (by omega) (b := nb) (by omega)
      refine JO.ownD Pick.here fun hnew => ?_
      have hsm := ref_Same (σ := σ) _ _ now nb (by omega) hwas.cons hnew
      repeat' (first | (first | (apply JO.ru; exact rfl; exact rfl; exact rfl; (first | (apply Ru.move; exact rfl) | (apply Ru.assign; exact rfl))) | refine JC.seq ?_ | refine JC.region ?_ | refine JO.nil ?_ | refine JE.thenN ?_) | (first | (apply JO.do; exact rfl; exact rfl; exact rfl; (apply Do.call; exact rfl; exact hsm); rintro _ _ ⟨rfl, hq⟩; obtain rfl := hq.symm) | (apply JQ.call; exact rfl; exact rfl; exact rfl; exact hsm; (rintro _ _ ⟨rfl, rfl⟩; exact ⟨rfl, rfl⟩))))
      refine JO.heap (Sat.weak (l' := shadHP sb d e f s ⟨now, q, w, false⟩ :: diskHP d D :: bytesHP (.slice pb nb.length cb) nb :: arr gb 23 [int e, int f, int s] :: F) (by repeat (first | exact Weak.refl | (apply Weak.cons; (first | exact Pick.here | exact Pick.there Pick.here | exact Pick.there (Pick.there Pick.here) | exact Pick.there (Pick.there (Pick.there Pick.here)) | exact Pick.there (Pick.there (Pick.there (Pick.there Pick.here))) | exact Pick.there (Pick.there (Pick.there (Pick.there (Pick.there Pick.here)))) | exact Pick.there (Pick.there (Pick.there (Pick.there (Pick.there (Pick.there Pick.here))))) | exact Pick.there (Pick.there (Pick.there (Pick.there (Pick.there (Pick.there (Pick.there Pick.here)))))))) | apply Weak.drop))) ?_
      refine JO.tail2 fun hrd2 => ?_
      have k3 := shadow_CommitE (σ := σ) (sb := sb) (d := d) c1 hw01 (by show 0 ≤ q ∧ q ≤ _; omega) (by omega) (by show now.length ≤ _; omega) st.wf (by omega) (by omega) hrd2
      have k4 := fun (G : List HP) [InG G] => shadow_OpenE (σ := σ) (d := d) c2 c3 (by omega) (by omega) (l := G)
      have hqw : (now = nb ∧ q' = q ∧ w' = w) ∨ (now ≠ nb ∧ q' = q + 1 ∧ w' = 1 - w) := by
        by_cases h : now = nb
        · exact .inl ⟨h, c7 h⟩
        · exact .inr ⟨h, c8 h⟩
      clear c1 c2 c3 c4 c7 c8 hwas hnew hsm
      rcases hqw with ⟨hd, rfl, rfl⟩ | ⟨hd, rfl, rfl⟩
      · rw [decide_eq_true hd]
        repeat' (first | (first | (apply JO.ru; exact rfl; exact rfl; exact rfl; (first | (apply Ru.move; exact rfl) | (apply Ru.assign; exact rfl) | (apply Ru.neq; exact rfl; exact rfl; (first | exact ndecF (by omega) | exact ndecT (by omega))))) | refine JC.seq ?_ | refine JC.region ?_ | refine JO.nil ?_ | refine JE.thenN ?_ | refine JO.guardT rfl rfl rfl rfl ?_) | refine JO.guardU rfl rfl rfl rfl rfl rfl ?_ | (first | (apply JO.do; exact rfl; exact rfl; exact rfl; (apply Do.call; exact rfl; exact k3); rintro _ _ ⟨rfl, hq⟩; obtain rfl := hq.symm) | (apply JQ.call; exact rfl; exact rfl; exact rfl; exact k3; (rintro _ _ ⟨rfl, rfl⟩; exact ⟨rfl, rfl⟩))))
        (apply JO.do; exact rfl; exact rfl; exact rfl; (apply Do.call; exact rfl; exact shadow_ImageP (by omega) Pick.here); rintro u2 _ rfl)
        refine JO.ownD Pick.here fun hx => ?_
        refine JO.ownD (Pick.there (Pick.there (Pick.there Pick.here))) fun hy => ?_
        have hs2 := ref_Same (σ := σ) _ _ nb nb (by omega) hx hy
        rw [decide_eq_true rfl] at hs2
        repeat' (first | (apply JO.ru; exact rfl; exact rfl; exact rfl; (apply Ru.add; exact rfl; exact rfl; exact wrapU64 (by omega) (by omega))) | (first | (apply JO.ru; exact rfl; exact rfl; exact rfl; (first | (apply Ru.move; exact rfl) | (apply Ru.neq; exact rfl; exact rfl; (first | exact ndecF (by omega) | exact ndecT (by omega))) | (apply Ru.pickT; exact rfl; exact rfl) | (apply Ru.pickF; exact rfl; exact rfl) | (apply Ru.not; exact rfl) | (apply Ru.loadAN; exact rfl; (repeat (first | exact Pick.here | apply Pick.there)); exact rfl; exact rfl))) | refine JC.seq ?_ | refine JC.region ?_ | refine JO.nil ?_ | refine JE.thenN ?_ | refine JC.skip ?_ | refine JC.condF rfl ?_ | refine JO.guardF rfl rfl rfl rfl rfl rfl rfl ?_ | refine JO.guardT rfl rfl rfl rfl ?_) | refine JO.guardU rfl rfl rfl rfl rfl rfl ?_ | (first | (apply JO.do; exact rfl; exact rfl; exact rfl; (apply Do.call; exact rfl; exact hs2); rintro _ _ ⟨rfl, hq⟩; obtain rfl := hq.symm) | (apply JQ.call; exact rfl; exact rfl; exact rfl; exact hs2; (rintro _ _ ⟨rfl, rfl⟩; exact ⟨rfl, rfl⟩))) | (first | (apply JO.do; exact rfl; exact rfl; exact rfl; (apply Do.call; exact rfl; exact shadow_SeqP (by repeat (first | exact Pick.here | apply Pick.there))); rintro _ _ ⟨rfl, hq⟩; obtain rfl := hq.symm) | (apply JQ.call; exact rfl; exact rfl; exact rfl; exact shadow_SeqP (by repeat (first | exact Pick.here | apply Pick.there)); (rintro _ _ ⟨rfl, rfl⟩; exact ⟨rfl, rfl⟩))) | (first | (apply JO.do; exact rfl; exact rfl; exact rfl; (apply Do.call; exact rfl; exact shadow_WhichP (by repeat (first | exact Pick.here | apply Pick.there))); rintro _ _ ⟨rfl, hq⟩; obtain rfl := hq.symm) | (apply JQ.call; exact rfl; exact rfl; exact rfl; exact shadow_WhichP (by repeat (first | exact Pick.here | apply Pick.there)); (rintro _ _ ⟨rfl, rfl⟩; exact ⟨rfl, rfl⟩))))
        refine JO.pick (Pick.there (Pick.there Pick.here)) ?_
        (apply JO.do; exact rfl; exact rfl; exact rfl; (apply Do.call; exact rfl; exact k4 _); rintro _ _ ⟨sb2, rfl, rfl⟩)
        repeat' (first | (first | (apply JO.ru; exact rfl; exact rfl; exact rfl; (first | (apply Ru.move; exact rfl) | (apply Ru.assign; exact rfl) | (apply Ru.neq; exact rfl; exact rfl; (first | exact ndecF (by omega) | exact ndecT (by omega))) | (apply Ru.pickF; exact rfl; exact rfl) | (apply Ru.extractN; exact rfl; exact rfl) | (apply Ru.eqlPN; exact rfl; exact rfl))) | refine JC.seq ?_ | refine JC.region ?_ | refine JO.nil ?_ | refine JE.thenN ?_ | refine JC.skip ?_ | refine JC.condF rfl ?_ | refine JO.guardT rfl rfl rfl rfl ?_) | refine JO.guardU rfl rfl rfl rfl rfl rfl ?_ | (first | (apply JO.do; exact rfl; exact rfl; exact rfl; (apply Do.call; exact rfl; exact shadow_SeqP (by repeat (first | exact Pick.here | apply Pick.there))); rintro _ _ ⟨rfl, hq⟩; obtain rfl := hq.symm) | (apply JQ.call; exact rfl; exact rfl; exact rfl; exact shadow_SeqP (by repeat (first | exact Pick.here | apply Pick.there)); (rintro _ _ ⟨rfl, rfl⟩; exact ⟨rfl, rfl⟩))) | (first | (apply JO.do; exact rfl; exact rfl; exact rfl; (apply Do.call; exact rfl; exact shadow_WhichP (by repeat (first | exact Pick.here | apply Pick.there))); rintro _ _ ⟨rfl, hq⟩; obtain rfl := hq.symm) | (apply JQ.call; exact rfl; exact rfl; exact rfl; exact shadow_WhichP (by repeat (first | exact Pick.here | apply Pick.there)); (rintro _ _ ⟨rfl, rfl⟩; exact ⟨rfl, rfl⟩))))
        (apply JO.do; exact rfl; exact rfl; exact rfl; (apply Do.call; exact rfl; exact shadow_ImageP (by omega) Pick.here); rintro u3 _ rfl)
        refine JO.ownD Pick.here fun hx3 => ?_
        refine JO.ownD (Pick.there (Pick.there (Pick.there (Pick.there (Pick.there Pick.here))))) fun hy3 => ?_
        have hs3 := ref_Same (σ := σ) _ _ nb nb (by omega) hx3 hy3
        rw [decide_eq_true rfl] at hs3
        repeat' (first | (first | (apply JO.ru; exact rfl; exact rfl; exact rfl; (first | (apply Ru.move; exact rfl) | (apply Ru.assign; exact rfl) | (apply Ru.add; exact rfl; exact rfl; (first | exact wrapI (by omega) (by omega) | exact rfl)) | (apply Ru.pickF; exact rfl; exact rfl) | (apply Ru.not; exact rfl))) | refine JC.region ?_ | refine JO.nil ?_ | refine JE.thenN ?_ | refine JE.blockN ?_ | refine JC.skip ?_ | refine JC.condF rfl ?_ | refine JO.guardT rfl rfl rfl rfl ?_) | refine JO.guardU rfl rfl rfl rfl rfl rfl ?_ | (first | (apply JO.do; exact rfl; exact rfl; exact rfl; (apply Do.call; exact rfl; exact hs3); rintro _ _ ⟨rfl, hq⟩; obtain rfl := hq.symm) | (apply JQ.call; exact rfl; exact rfl; exact rfl; exact hs3; (rintro _ _ ⟨rfl, rfl⟩; exact ⟨rfl, rfl⟩))))
        exact JE.round (i + 1, E2, nb, q', w') ⟨by show i + 1 ≤ n; omega, c5, c6, by show q' ≤ 1 + ((i + 1 : Nat) : Int); omega, by show E2.ops ≤ 2000 + (i + 1) * 2000; omega, by show E2.writes ≤ 2000 + (i + 1) * 2000; omega⟩ (by show n - (i + 1) < n - i; omega) ⟨rfl, rfl, rfl, rfl, rfl, rfl, trivial⟩ (Sat.weak (by repeat (first | exact Weak.refl | (apply Weak.cons; (first | exact Pick.here | exact Pick.there Pick.here | exact Pick.there (Pick.there Pick.here) | exact Pick.there (Pick.there (Pick.there Pick.here)) | exact Pick.there (Pick.there (Pick.there (Pick.there Pick.here))) | exact Pick.there (Pick.there (Pick.there (Pick.there (Pick.there Pick.here)))) | exact Pick.there (Pick.there (Pick.there (Pick.there (Pick.there (Pick.there Pick.here))))) | exact Pick.there (Pick.there (Pick.there (Pick.there (Pick.there (Pick.there (Pick.there Pick.here)))))) | exact Pick.there (Pick.there (Pick.there (Pick.there (Pick.there (Pick.there (Pick.there (Pick.there Pick.here))))))) | exact Pick.there (Pick.there (Pick.there (Pick.there (Pick.there (Pick.there (Pick.there (Pick.there (Pick.there Pick.here)))))))) | exact Pick.there (Pick.there (Pick.there (Pick.there (Pick.there (Pick.there (Pick.there (Pick.there (Pick.there (Pick.there Pick.here))))))))) | exact Pick.there (Pick.there (Pick.there (Pick.there (Pick.there (Pick.there (Pick.there (Pick.there (Pick.there (Pick.there (Pick.there Pick.here)))))))))) | exact Pick.there (Pick.there (Pick.there (Pick.there (Pick.there (Pick.there (Pick.there (Pick.there (Pick.there (Pick.there (Pick.there (Pick.there Pick.here))))))))))) | exact Pick.there (Pick.there (Pick.there (Pick.there (Pick.there (Pick.there (Pick.there (Pick.there (Pick.there (Pick.there (Pick.there (Pick.there (Pick.there Pick.here)))))))))))))) | apply Weak.drop)))
      · rw [decide_eq_false hd]
        repeat' (first | (first | (apply JO.ru; exact rfl; exact rfl; exact rfl; (first | (apply Ru.move; exact rfl) | (apply Ru.assign; exact rfl) | (apply Ru.neq; exact rfl; exact rfl; (first | exact ndecF (by omega) | exact ndecT (by omega))))) | refine JC.seq ?_ | refine JC.region ?_ | refine JO.nil ?_ | refine JE.thenN ?_ | refine JO.guardT rfl rfl rfl rfl ?_) | refine JO.guardU rfl rfl rfl rfl rfl rfl ?_ | (first | (apply JO.do; exact rfl; exact rfl; exact rfl; (apply Do.call; exact rfl; exact k3); rintro _ _ ⟨rfl, hq⟩; obtain rfl := hq.symm) | (apply JQ.call; exact rfl; exact rfl; exact rfl; exact k3; (rintro _ _ ⟨rfl, rfl⟩; exact ⟨rfl, rfl⟩))))
        (apply JO.do; exact rfl; exact rfl; exact rfl; (apply Do.call; exact rfl; exact shadow_ImageP (by omega) Pick.here); rintro u2 _ rfl)
        refine JO.ownD Pick.here fun hx => ?_
        refine JO.ownD (Pick.there (Pick.there (Pick.there Pick.here))) fun hy => ?_
        have hs2 := ref_Same (σ := σ) _ _ nb nb (by omega) hx hy
        rw [decide_eq_true rfl] at hs2
        repeat' (first | (apply JO.ru; exact rfl; exact rfl; exact rfl; (apply Ru.add; exact rfl; exact rfl; exact wrapU64 (by omega) (by omega))) | (first | (apply JO.ru; exact rfl; exact rfl; exact rfl; (first | (apply Ru.move; exact rfl) | (apply Ru.neq; exact rfl; exact rfl; (first | exact ndecF (by omega) | exact ndecT (by omega))) | (apply Ru.sub; exact rfl; exact rfl; (first | exact wrapI (by omega) (by omega) | exact rfl)) | (apply Ru.pickT; exact rfl; exact rfl) | (apply Ru.pickF; exact rfl; exact rfl) | (apply Ru.not; exact rfl) | (apply Ru.loadAN; exact rfl; (repeat (first | exact Pick.here | apply Pick.there)); exact rfl; exact rfl))) | refine JC.seq ?_ | refine JC.region ?_ | refine JO.nil ?_ | refine JE.thenN ?_ | refine JC.skip ?_ | refine JC.condF rfl ?_ | refine JO.guardF rfl rfl rfl rfl rfl rfl rfl ?_ | refine JO.guardT rfl rfl rfl rfl ?_) | refine JO.guardU rfl rfl rfl rfl rfl rfl ?_ | (first | (apply JO.do; exact rfl; exact rfl; exact rfl; (apply Do.call; exact rfl; exact hs2); rintro _ _ ⟨rfl, hq⟩; obtain rfl := hq.symm) | (apply JQ.call; exact rfl; exact rfl; exact rfl; exact hs2; (rintro _ _ ⟨rfl, rfl⟩; exact ⟨rfl, rfl⟩))) | (first | (apply JO.do; exact rfl; exact rfl; exact rfl; (apply Do.call; exact rfl; exact shadow_SeqP (by repeat (first | exact Pick.here | apply Pick.there))); rintro _ _ ⟨rfl, hq⟩; obtain rfl := hq.symm) | (apply JQ.call; exact rfl; exact rfl; exact rfl; exact shadow_SeqP (by repeat (first | exact Pick.here | apply Pick.there)); (rintro _ _ ⟨rfl, rfl⟩; exact ⟨rfl, rfl⟩))) | (first | (apply JO.do; exact rfl; exact rfl; exact rfl; (apply Do.call; exact rfl; exact shadow_WhichP (by repeat (first | exact Pick.here | apply Pick.there))); rintro _ _ ⟨rfl, hq⟩; obtain rfl := hq.symm) | (apply JQ.call; exact rfl; exact rfl; exact rfl; exact shadow_WhichP (by repeat (first | exact Pick.here | apply Pick.there)); (rintro _ _ ⟨rfl, rfl⟩; exact ⟨rfl, rfl⟩))))
        refine JO.pick (Pick.there (Pick.there Pick.here)) ?_
        (apply JO.do; exact rfl; exact rfl; exact rfl; (apply Do.call; exact rfl; exact k4 _); rintro _ _ ⟨sb2, rfl, rfl⟩)
        repeat' (first | (first | (apply JO.ru; exact rfl; exact rfl; exact rfl; (first | (apply Ru.move; exact rfl) | (apply Ru.assign; exact rfl) | (apply Ru.neq; exact rfl; exact rfl; (first | exact ndecF (by omega) | exact ndecT (by omega))) | (apply Ru.pickF; exact rfl; exact rfl) | (apply Ru.extractN; exact rfl; exact rfl) | (apply Ru.eqlPN; exact rfl; exact rfl))) | refine JC.seq ?_ | refine JC.region ?_ | refine JO.nil ?_ | refine JE.thenN ?_ | refine JC.skip ?_ | refine JC.condF rfl ?_ | refine JO.guardT rfl rfl rfl rfl ?_) | refine JO.guardU rfl rfl rfl rfl rfl rfl ?_ | (first | (apply JO.do; exact rfl; exact rfl; exact rfl; (apply Do.call; exact rfl; exact shadow_SeqP (by repeat (first | exact Pick.here | apply Pick.there))); rintro _ _ ⟨rfl, hq⟩; obtain rfl := hq.symm) | (apply JQ.call; exact rfl; exact rfl; exact rfl; exact shadow_SeqP (by repeat (first | exact Pick.here | apply Pick.there)); (rintro _ _ ⟨rfl, rfl⟩; exact ⟨rfl, rfl⟩))) | (first | (apply JO.do; exact rfl; exact rfl; exact rfl; (apply Do.call; exact rfl; exact shadow_WhichP (by repeat (first | exact Pick.here | apply Pick.there))); rintro _ _ ⟨rfl, hq⟩; obtain rfl := hq.symm) | (apply JQ.call; exact rfl; exact rfl; exact rfl; exact shadow_WhichP (by repeat (first | exact Pick.here | apply Pick.there)); (rintro _ _ ⟨rfl, rfl⟩; exact ⟨rfl, rfl⟩))))
        (apply JO.do; exact rfl; exact rfl; exact rfl; (apply Do.call; exact rfl; exact shadow_ImageP (by omega) Pick.here); rintro u3 _ rfl)
        refine JO.ownD Pick.here fun hx3 => ?_
        refine JO.ownD (Pick.there (Pick.there (Pick.there (Pick.there (Pick.there Pick.here))))) fun hy3 => ?_
        have hs3 := ref_Same (σ := σ) _ _ nb nb (by omega) hx3 hy3
        rw [decide_eq_true rfl] at hs3
        repeat' (first | (first | (apply JO.ru; exact rfl; exact rfl; exact rfl; (first | (apply Ru.move; exact rfl) | (apply Ru.assign; exact rfl) | (apply Ru.add; exact rfl; exact rfl; (first | exact wrapI (by omega) (by omega) | exact rfl)) | (apply Ru.pickF; exact rfl; exact rfl) | (apply Ru.not; exact rfl))) | refine JC.region ?_ | refine JO.nil ?_ | refine JE.thenN ?_ | refine JE.blockN ?_ | refine JC.skip ?_ | refine JC.condF rfl ?_ | refine JO.guardT rfl rfl rfl rfl ?_) | refine JO.guardU rfl rfl rfl rfl rfl rfl ?_ | (first | (apply JO.do; exact rfl; exact rfl; exact rfl; (apply Do.call; exact rfl; exact hs3); rintro _ _ ⟨rfl, hq⟩; obtain rfl := hq.symm) | (apply JQ.call; exact rfl; exact rfl; exact rfl; exact hs3; (rintro _ _ ⟨rfl, rfl⟩; exact ⟨rfl, rfl⟩))))
        exact JE.round (i + 1, E2, nb, q + 1, 1 - w) ⟨by show i + 1 ≤ n; omega, c5, c6, by show q + 1 ≤ 1 + ((i + 1 : Nat) : Int); omega, by show E2.ops ≤ 2000 + (i + 1) * 2000; omega, by show E2.writes ≤ 2000 + (i + 1) * 2000; omega⟩ (by show n - (i + 1) < n - i; omega) ⟨rfl, rfl, rfl, rfl, rfl, rfl, trivial⟩ (Sat.weak (by repeat (first | exact Weak.refl | (apply Weak.cons; (first | exact Pick.here | exact Pick.there Pick.here | exact Pick.there (Pick.there Pick.here) | exact Pick.there (Pick.there (Pick.there Pick.here)) | exact Pick.there (Pick.there (Pick.there (Pick.there Pick.here))) | exact Pick.there (Pick.there (Pick.there (Pick.there (Pick.there Pick.here)))) | exact Pick.there (Pick.there (Pick.there (Pick.there (Pick.there (Pick.there Pick.here))))) | exact Pick.there (Pick.there (Pick.there (Pick.there (Pick.there (Pick.there (Pick.there Pick.here)))))) | exact Pick.there (Pick.there (Pick.there (Pick.there (Pick.there (Pick.there (Pick.there (Pick.there Pick.here))))))) | exact Pick.there (Pick.there (Pick.there (Pick.there (Pick.there (Pick.there (Pick.there (Pick.there (Pick.there Pick.here)))))))) | exact Pick.there (Pick.there (Pick.there (Pick.there (Pick.there (Pick.there (Pick.there (Pick.there (Pick.there (Pick.there Pick.here))))))))) | exact Pick.there (Pick.there (Pick.there (Pick.there (Pick.there (Pick.there (Pick.there (Pick.there (Pick.there (Pick.there (Pick.there Pick.here)))))))))) | exact Pick.there (Pick.there (Pick.there (Pick.there (Pick.there (Pick.there (Pick.there (Pick.there (Pick.there (Pick.there (Pick.there (Pick.there Pick.here))))))))))) | exact Pick.there (Pick.there (Pick.there (Pick.there (Pick.there (Pick.there (Pick.there (Pick.there (Pick.there (Pick.there (Pick.there (Pick.there (Pick.there Pick.here)))))))))))))) | apply Weak.drop)))
    · exact ⟨F, Sat.weak (by repeat (first | exact Weak.refl | (apply Weak.cons; (first | exact Pick.here | exact Pick.there Pick.here | exact Pick.there (Pick.there Pick.here) | exact Pick.there (Pick.there (Pick.there Pick.here)) | exact Pick.there (Pick.there (Pick.there (Pick.there Pick.here))) | exact Pick.there (Pick.there (Pick.there (Pick.there (Pick.there Pick.here)))) | exact Pick.there (Pick.there (Pick.there (Pick.there (Pick.there (Pick.there Pick.here))))) | exact Pick.there (Pick.there (Pick.there (Pick.there (Pick.there (Pick.there (Pick.there Pick.here)))))))) | apply Weak.drop)), rfl, rfl⟩
end Go.Sep
/- Slices of bytes among the arguments. -/
namespace Go.Sep
open Go Go.Proofs Go.ChangeShapes Go.WideShapes Go.ChangeAt Go.RowKit Go.WideElems
def RdBC (W : World) (v : Value) (bss : List (List UInt8)) : Prop :=
  ∃ p cap, v = .slice p bss.length cap ∧ bss.length ≤ cap ∧ (bss = [] ∨ ∃ b o, p = some ⟨b, o, none⟩ ∧ ∀ (i : Nat) (bs : List UInt8), bss[i]? = some bs → ∃ u, W.cell? ⟨b, o + i * 1, none⟩ = some u ∧ RdC W u bs)
theorem rd_bss {W : World} {v : Value} (h : (Lay.slice (.slice (.int .u8))).rd W [v]) : ∃ bss, RdBC W v bss := by
  obtain ⟨ts, q, cap, rfl, h1, h2, h3⟩ := rd_elems (p := fun (bs : List UInt8) cs => ∃ u, cs = [u] ∧ RdC W u bs) (by decide) h fun cs hc => by
    obtain ⟨u, rfl⟩ : ∃ u, cs = [u] := by
      rcases hc with e | ⟨_, _, _, e, _⟩ <;> exact ⟨_, e⟩
    obtain ⟨bs, hb⟩ := rd_bytes hc
    exact ⟨bs, ⟨u, rfl, hb⟩, rfl⟩
  refine ⟨ts, q, cap, rfl, h1, h3.imp id ?_⟩
  rintro ⟨b, o, rfl, h4⟩
  refine ⟨b, o, rfl, fun i t ht => ?_⟩
  obtain ⟨cs, ⟨u, rfl, hb⟩, hc⟩ := h4 i t ht
  exact ⟨u, hc 0 u rfl, hb⟩
theorem RdB.ofC {σ : Sig} {W : World} {v : Value} {bss : List (List UInt8)} (h : RdBC W v bss) : RdB σ [memHP W] v bss := by
  obtain ⟨p, cap, rfl, h1, h2⟩ := h
  refine ⟨p, cap, rfl, h1, h2.imp id ?_⟩
  rintro ⟨b, o, rfl, h3⟩
  refine ⟨b, o, rfl, fun i t ht => ?_⟩
  obtain ⟨u, hc, hu⟩ := h3 i t ht
  have hr := RdS.ofC (σ := σ) hu
  obtain ⟨q, c, rfl, h4, _⟩ := hu
  exact ⟨q, c, fun w s => mem_cell s hc, hr⟩
set_option maxRecDepth 100000 in
theorem arg_bss {H : Type} {enc : TypeId × Value → H} {W : World} {base : Nat} {v : Value} {d : DataW H} {ps : List MemPlace} (hok : Value.okWide Tryz.prog W .any base 56 v) (h : DataW.Trod enc Tryz.prog W 0 (fun _ => true) true 56 v d ps) : ∃ bss, RdBC W v bss :=
  rd_bss (arg_slice (l := .slice (.int .u8)) Tryz.underlying56 (by kernel_rfl) (Lay.isS Tryz.underlying35 (by kernel_rfl) (Lay.isI Tryz.underlying5)) hok h)
end Go.Sep
/- ShadowTurns: each unlike image that is committed has the next number, and the other slot; one that is current has neither: for every input of which the statement speaks. -/
namespace Go.Proofs.YtbpilaghemkdjaaGreatDoor
open Go Go.Sep Go.ChangeShapes Go.WideShapes Go.ChangeAt Go.WideMaps Go.WideElems Go.RowKit
set_option maxRecDepth 100000 in
theorem turns_lifted (os : Os) (started : os.Started) (H : Type) (enc : TypeId × Value → H) :
    ReturnsInHanded {} Tryz.checked os 4 .any (fun w args => (Rows.shadowTurnsSpec.pre enc Tryz.prog Tryz.f4 [] false w args ∧ laidMetH Tryz.prog [("keepsake/geo.rows", Rows.laid_keepsake_geo_rows)] w) ∧ sizedMet enc Tryz.prog Tryz.f4 (OpenSpec.ofChange Rows.shadowTurnsSpec) false w args)
      (Rows.shadowTurnsSpec.post enc Tryz.prog Tryz.f4 false true false false) := by
  refine returnsInHanded_of_change_and (C := Tryz.checked) (X := fun w _ => laidMetH Tryz.prog [("keepsake/geo.rows", Rows.laid_keepsake_geo_rows)] w) (fun _ _ _ hh h => h.of_heap hh) own0 started (by kernel_rfl) Tryz.func4
    (ChangeSpec.witness_shaped (enc := enc) (C := Tryz.checked) (os := os) (X := fun w _ => laidMetH Tryz.prog [("keepsake/geo.rows", Rows.laid_keepsake_geo_rows)] w) false (World.doorLaid Tryz.prog 25 os) #[.agg #[.int .i64 0, .int .i64 0, .int .i64 0], .int .u8 0, .slice none 0 0] 8 rfl (World.shaped_of_RefB (by kernel_rfl) (by kernel_rfl)) (by kernel_rfl) (by kernel_rfl) (by kernel_rfl) (door0 os _)) ?_
  intro W base args ds gs before hval0 hW _ _ hL _
  have hval : ∀ (j : Nat) t v, Tryz.f4.params[j]? = some t → args[j]? = some v → Value.okWide Tryz.prog W .any base t v := hval0
  have hW0 : DataW.Whole enc Tryz.prog Tryz.f4.params.toList Rows.shadowTurnsSpec.vars false W args.toList ds gs before := hW
  obtain ⟨p, q, hA, hV, hpq, hrest⟩ := id hW0
  obtain ⟨rfl, rfl⟩ := trodVars_none hV
  rw [Tryz.params4] at hA hval
  obtain ⟨v0, r0, d0, y0, p0, q0, a0, rfl, _, t0, k0⟩ := trodAll_cons hA
  obtain ⟨v1, r1, d1, y1, p1, q1, a1, rfl, _, t1, k1⟩ := trodAll_cons k0
  obtain ⟨v2, r2, d2, y2, p2, q2, a2, rfl, _, t2, k2⟩ := trodAll_cons k1
  obtain ⟨a3, rfl, _⟩ := trodAll_nil k2
  obtain rfl : args = #[v0, v1, v2] := by
    apply Array.ext'
    rw [a0, a1, a2, a3]
  obtain ⟨e0, f0, s0, rfl⟩ := arg_geo (hval 0 _ v0 rfl rfl) t0
  obtain ⟨z1, rfl⟩ := arg_u8 (hval 1 _ v1 rfl rfl) t1
  obtain ⟨bss2, hbss2⟩ := arg_bss (hval 2 _ v2 rfl rfl) t2
  have := inG_mem hL
  have hfn := law07_ShadowTurns (σ := sigOf W) (F := [memHP W]) e0 f0 s0 z1 v2 bss2 (RdB.ofC hbss2) W (mem_start W)
  refine hfn.mono ?_
  rintro e W' ⟨v, l', rfl, ⟨rfl, rfl⟩, s'⟩
  exact ⟨_, rfl, post_true lo0 hW0 rfl ⟨rfl, rfl, rfl⟩ (show Tryz.f4.resultTypes = #[4] by kernel_rfl) Tryz.underlying4 (by
    rw [Tryz.params4]
    have hall : ([23, 5, 56].all fun t => Tryz.prog.readableRec t && decide (t < Tryz.prog.types.size)) = true := by kernel_rfl
    intro t ht
    have hm : t ∈ [23, 5, 56] := by simpa using ht
    simpa using List.all_eq_true.1 hall t hm) (mem_below s')⟩
theorem turns_row : Rows.ShadowTurnsSaid :=
  OpenClaim.holds_of_wide 4 Tryz.f4 rfl rfl rfl rfl rfl rfl rfl ⟨rfl, rfl, rfl, rfl, rfl⟩ rfl rfl rfl rfl rfl (by kernel_rfl) Tryz.func4 (by kernel_rfl)
    (of_decide_eq_true (by kernel_rfl)) (by unfold Func.isWrapper; first | (rw [if_pos (by decide +kernel)]; kernel_rfl) | (rw [if_neg (by decide +kernel)]; exact ⟨rfl, rfl⟩))
    (fun os started H enc _ => turns_lifted os started H enc)
theorem shadowTurns_holds : Rows.ShadowTurnsCardSaid :=
  Claim7.holds_tied_plain_at .later [] [.data] true (true, "fec2b3f3123dbc2c6f01ec91e0f29272a832ac25297d5111a8d4cb52a59a6a25") true
    turns_row (fun _ h => by cases h) (by kernel_rfl) (fun _ h => by cases h) shadowTurns_row_tie rfl ⟨rfl, rfl⟩ (by kernel_rfl) rfl
    (fun f fn hf hfn => by
      obtain rfl : f = 4 := Option.some.inj ((show Tryz.prog.funcNamed "keepsake/keepsakelaw07.ShadowTurns" = some 4 by kernel_rfl).symm.trans hf) |>.symm
      obtain rfl : fn = Tryz.f4 := (Option.some.inj (Tryz.func4.symm.trans hfn)).symm
      exact ⟨by kernel_rfl, fun j t ht => by
        rw [Tryz.params4] at ht
        have hm : t ∈ [23, 5, 56] := by simpa using Array.mem_of_getElem? ht
        have hall : ([23, 5, 56].all fun u => !Tryz.prog.wantsStandIn u) = true := by kernel_rfl
        exact (show Tryz.prog.wantsStandIn t = false by simpa using List.all_eq_true.1 hall t hm)⟩)
    (by kernel_rfl)
#print axioms shadowTurns_holds
end Go.Proofs.YtbpilaghemkdjaaGreatDoor
