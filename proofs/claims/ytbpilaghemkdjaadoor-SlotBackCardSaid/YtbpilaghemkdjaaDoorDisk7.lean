/- The disk: crashed. -/
import Derived.Test.YtbpilaghemkdjaaDoorPlain4
import Derived.Test.YtbpilaghemkdjaaDoorDisk6
namespace Go.Sep
open Go Go.Proofs
attribute [local irreducible] JO JC JE JA JQ JB JI Mid Inv Weak ownS Ru Do Fn Sat Pick Take arr pt star ex Holds bodyPost Post Exit.then Exit.inBlock Res
variable {σ : Sig} {F : List HP}
/-- The tears that a slice reads as. -/
def RdT (σ : Sig) (l : List HP) (v : Value) (ts : List TearN) : Prop :=
  ∃ p cap, v = .slice p ts.length cap ∧ ts.length ≤ cap ∧ (ts = [] ∨ ∃ b o, p = some ⟨b, o, none⟩ ∧ ∀ (i : Nat) (t : TearN), ts[i]? = some t → ∃ q c, t.bytes.length ≤ c ∧
    (∀ w, Sat σ w l → ∀ j u, ([int t.kind, .slice q t.bytes.length c] : List Value)[j]? = some u → w.cell? ⟨b, o + (i : Int).toNat * 2 + j, none⟩ = some u) ∧ RdS σ l (.slice q t.bytes.length c) (t.bytes.map byte))
theorem keys_nodup {D : DiskN} (h : D.WF) : D.keys.Nodup := (List.mergeSort_perm _ _).nodup_iff.2 h.nodup
theorem not_take {α : Type} {l : List α} (h : l.Nodup) {j : Nat} {k : α} (hk : l[j]? = some k) : k ∉ l.take j := by
  intro hm
  obtain ⟨h1, h2⟩ := List.getElem?_eq_some_iff.1 hk
  have e : l = l.take j ++ l.drop j := (List.take_append_drop j l).symm
  rw [e, List.nodup_append] at h
  exact h.2.2 k hm k (by rw [List.drop_eq_getElem_cons h1, h2]; exact List.mem_cons_self) rfl
theorem torn_cached {D : DiskN} (h : D.WF) (ts : List TearN) {j : Nat} {k : Int} (hk : D.keys[j]? = some k) : ∃ bs, lookI (torn D ts j).cached k = some bs := by
  have hj : j < D.keys.length := (List.getElem?_eq_some_iff.1 hk).1
  obtain ⟨_, _, _, _, _, _, a7⟩ := torn_facts h ts j (by omega)
  rw [a7, if_neg (not_take (keys_nodup h) hk)]
  exact lookI_some_of (mem_keys.1 (List.mem_of_getElem? hk))
theorem splice_bytes {data ys : List UInt8} {spare : List Value} {o : Nat} (h : o + ys.length ≤ data.length) : splice (data.map byte ++ spare) o (ys.map byte) = (data.take o ++ ys ++ data.drop (o + ys.length)).map byte ++ spare := by
  rw [splice_at _ _ _ (by simp only [List.length_append, List.length_map]; omega)]
  have e1 : o ≤ (data.map byte).length := by rw [List.length_map]; omega
  rw [List.take_append_of_le_length e1, List.drop_append_of_le_length (by simp only [List.length_map]; omega)]
  simp
theorem splice_sec {data bs : List UInt8} {spare : List Value} {size i : Nat} (h : i * size + bs.length ≤ data.length) : splice (data.map byte ++ spare) (i * size) (bs.map byte) = (setSec data size i bs).map byte ++ spare := splice_bytes h
theorem cut_three {T Z R : List UInt8} {a n : Nat} (hT : T.length = a) (hn : n ≤ Z.length) : (T ++ Z ++ R).take a = T ∧ (T ++ Z ++ R).drop (a + n) = Z.drop n ++ R := by
  subst hT
  refine ⟨by rw [List.append_assoc, List.take_left], ?_⟩
  rw [List.append_assoc, ← List.drop_drop, List.drop_left, List.drop_append_of_le_length hn]
theorem set_fit {data bs : List UInt8} {size i : Nat} (h : i * size + size ≤ data.length) :
    (setSec data size i (List.replicate size 0)).take (i * size) ++ bs.take size ++ (setSec data size i (List.replicate size 0)).drop (i * size + (bs.take size).length) = setSec data size i (fit bs size) := by
  have hl : (data.take (i * size)).length = i * size := by rw [List.length_take]; omega
  have hf := fit_length bs size
  have hm : (bs.take size).length ≤ size := by rw [List.length_take]; omega
  unfold setSec
  obtain ⟨e1, e2⟩ := cut_three (R := data.drop (i * size + (List.replicate size (0 : UInt8)).length)) hl (Z := List.replicate size 0) (n := (bs.take size).length) (by rw [List.length_replicate]; exact hm)
  rw [e1, e2, hf, List.drop_replicate]
  unfold fit padB
  simp only [List.length_replicate, List.append_assoc]
attribute [local irreducible] diskHP cacheHP planHP rowHP
set_option maxHeartbeats 4000000 in
theorem disk_Crash (d : Nat) (D : DiskN) (v : Value) (ts : List TearN) (hD : D.WF) (hw : D.writes ≤ 1000000) (hts : ts.length ≤ 1000000) (htb : ∀ t ∈ ts, t.bytes.length ≤ 1000000) {l : List HP} (hv : RdT σ l v ts) :
    Fn Tryd.prog σ 19 #[.pointer (some ⟨d, 0, none⟩), v] (diskHP d D :: l) (fun r l' => r = .tuple #[] ∧ l' = diskHP d (D.crash ts) :: l) := by
  obtain ⟨pv, cv, rfl, hcv, hrv⟩ := hv
  have hfew : D.cached.length ≤ 1000000 := Nat.le_trans hD.few hw
  have hkl := D.keys_length
  refine Fn.of Tryd.func19 rfl Tryd.ntmps19 rfl ?_
  repeat' (first | (first | (apply JO.ru; exact rfl; exact rfl; exact rfl; ((apply Ru.move; exact rfl))) | refine JC.seq ?_ | refine JC.region ?_) | (apply JO.do; exact rfl; exact rfl; exact rfl; (apply Do.call; exact rfl; exact disk_Unsynced d D hD hw); rintro v _ rfl))
  refine JO.ownR Pick.here fun _ _ hsh => ?_
  obtain ⟨p, c, rfl, hp⟩ : ∃ p c, v = .slice p D.keys.length c ∧ (p = none ∧ D.keys.length = 0 ∨ ∃ b, p = some ⟨b, 0, none⟩) := by
    rcases hsh with ⟨rfl, h⟩ | ⟨b, c, rfl, _⟩
    · exact ⟨none, 0, by rw [h], .inl ⟨rfl, h⟩⟩
    · exact ⟨_, c, rfl, .inr ⟨b, rfl⟩⟩
  clear hsh
  repeat' (first | (apply JO.ru; exact rfl; exact rfl; exact rfl; (first | (apply Ru.move; exact rfl) | (apply Ru.lenS; exact rfl))) | refine JO.nil ?_ | refine JE.thenN ?_ | refine JC.block ?_)
  refine JC.loop (fun j : Nat => [(0, .pointer (some ⟨d, 0, none⟩)), (1, .slice pv ts.length cv), (8, .slice p D.keys.length c), (9, int D.keys.length), (10, int j)]) (fun j => ownS (.slice p D.keys.length c) 3 1 D.keys.length (D.keys.map int) :: diskHP d (torn D ts j) :: l) (fun j => j ≤ D.keys.length) (fun j => D.keys.length - j) 0 (Nat.zero_le _) ⟨rfl, rfl, rfl, rfl, rfl, trivial⟩ (fun _ h => h) ?_
  intro j hj
  repeat' (first | (apply JO.ru; exact rfl; exact rfl; exact rfl; ((apply Ru.move; exact rfl))) | refine JC.seq ?_ | refine JC.region ?_ | refine JO.nil ?_ | refine JE.thenN ?_ | refine JE.thenE ?_ | refine JE.blockE ?_ | refine JC.block ?_ | refine JC.skip ?_ | refine JC.exit ?_ | refine JC.condT rfl ?_ | refine JC.condF rfl ?_ | (apply JO.split; exact rfl; exact rfl; exact rfl; ((apply Ru.lss; exact rfl; exact rfl; exact rfl)); all_goals intro _))
  · rename_i hlt
    obtain ⟨k, hk⟩ : ∃ k, D.keys[j]? = some k := ⟨_, List.getElem?_eq_getElem (by omega)⟩
    obtain ⟨hr0, hr1⟩ := keys_range hD hk
    obtain ⟨i, rfl⟩ := Int.eq_ofNat_of_zero_le hr0
    obtain ⟨b0, rfl⟩ : ∃ b, p = some ⟨b, 0, none⟩ := by
      rcases hp with ⟨_, h⟩ | h
      · omega
      · exact h
    refine JO.ownR Pick.here fun hrd _ _ => ?_
    obtain ⟨p', cap', e, _, hr2⟩ := hrd
    injection e with e1 e2 e3
    subst e1; clear e2 e3
    rcases hr2 with h | ⟨b', o', e4, hc⟩
    · have := congrArg List.length h
      rw [List.length_map, List.length_nil] at this
      omega
    cases e4
    repeat' ((apply JO.ru; exact rfl; exact rfl; exact rfl; ((apply Ru.indexAddr; exact rfl; exact rfl; omega; omega))))
    (apply JO.ru; exact rfl; exact rfl; exact rfl; (apply Ru.loadC; exact rfl; exact rd_row (i := j) (u := int i) hc (by rw [List.getElem?_map, hk]; rfl) _ (by simp)))
    iterate 12 (first | (apply JO.ru; exact rfl; exact rfl; exact rfl; (first | (apply Ru.assign; exact rfl) | (apply Ru.buildN; exact rfl; exact rfl))) | refine JC.seq ?_ | refine JC.region ?_ | refine JO.nil ?_ | refine JE.thenN ?_ | (apply JO.do; exact rfl; exact rfl; exact rfl; (first | (apply Do.allocN; exact rfl) | apply Do.alloc); rintro _ _ ⟨_, rfl, rfl⟩) | (apply JO.do0; exact rfl; exact rfl; (first | (apply Do.storeAN; exact rfl; exact rfl; (repeat (first | exact Pick.here | apply Pick.there)); exact rfl; exact rfl; exact rfl; exact rfl) | (apply Do.storeA; exact rfl; exact rfl; (repeat (first | exact Pick.here | apply Pick.there)); exact rfl; exact rfl; exact rfl)); rintro _ _ ⟨rfl, rfl⟩))
    obtain ⟨t, ht⟩ : ∃ t, ts.getD j .zero = t := ⟨_, rfl⟩
    refine JC.mid (fun q : Nat × Option Addr × Nat => [(0, .pointer (some ⟨d, 0, none⟩)), (1, .slice pv ts.length cv), (5, int i), (6, .pointer (some ⟨q.1, 0, none⟩)), (8, .slice (some ⟨b0, 0, none⟩) D.keys.length c), (9, int D.keys.length), (10, int j)])
      (fun q => arr q.1 81 [int t.kind, .slice q.2.1 t.bytes.length q.2.2] :: ownS (.slice (some ⟨b0, 0, none⟩) D.keys.length c) 3 1 D.keys.length (D.keys.map int) :: diskHP d (torn D ts j) :: l) (fun q => RdS σ l (.slice q.2.1 t.bytes.length q.2.2) (t.bytes.map byte)) ?_ ?_
    · rintro ⟨wb, q, cq⟩ hrt
      dsimp only at hrt ⊢
      have hss := torn_succ (ts := ts) hk
      obtain ⟨hEw, hEs, hEc, _⟩ := torn_facts hD ts j hj
      obtain ⟨bs, hbs⟩ := torn_cached hD ts hk
      have htl : t.bytes.length ≤ 1000000 := by
        rw [← ht, List.getD_eq_getElem?_getD]
        cases q : ts[j]? with
        | none => simp [TearN.zero]
        | some t' => exact htb t' (List.mem_of_getElem? q)
      rw [ht] at hss
      obtain ⟨E, hE⟩ : ∃ E, torn D ts j = E := ⟨_, rfl⟩
      rw [hE] at hss hEw hEs hEc hbs ⊢
      have hi : i < E.count := by omega
      have hroom := hEw.room hi
      have hsm := hEw.small
      have g0 : (i + 1) * E.size = i * E.size + E.size := Nat.succ_mul i E.size
      have hz := hEw.hz
      refine JC.disk (Pick.there (Pick.there Pick.here)) fun lv cm pm => ?_
      refine JC.cache (Pick.there (Pick.there Pick.here)) fun R hR => ?_
      refine JC.heap (Sat.weak (l' := bytesHP lv E.data :: mapI cm (R.map fun p => (p.1, p.2.1)) :: star (R.map rowHP) :: arr d 79 (diskCells E lv cm pm) :: planHP pm E.planned :: arr wb 81 [int t.kind, .slice q t.bytes.length cq] :: ownS (.slice (some ⟨b0, 0, none⟩) D.keys.length c) 3 1 D.keys.length (D.keys.map int) :: l) (by repeat (first | exact Weak.refl | (apply Weak.cons; (first | exact Pick.here | exact Pick.there Pick.here | exact Pick.there (Pick.there Pick.here) | exact Pick.there (Pick.there (Pick.there Pick.here)) | exact Pick.there (Pick.there (Pick.there (Pick.there Pick.here))) | exact Pick.there (Pick.there (Pick.there (Pick.there (Pick.there Pick.here)))) | exact Pick.there (Pick.there (Pick.there (Pick.there (Pick.there (Pick.there Pick.here))))) | exact Pick.there (Pick.there (Pick.there (Pick.there (Pick.there (Pick.there (Pick.there Pick.here)))))))) | apply Weak.drop))) ?_
      refine JC.own (fun _ h _ => (by omega)) ?_
      rintro b cap spare rfl hcap hxs hsp
      have hlk : lookI (R.map fun (p : Int × Value × List UInt8) => (p.1, p.2.1)) (i : Int) = (lookI R (i : Int)).map (·.1) := lookI_map (·.1) R i
      have hlc2 : lookI E.cached (i : Int) = (lookI R (i : Int)).map (·.2) := hR ▸ lookI_map (·.2) R i
      obtain ⟨u, hu⟩ : ∃ u, lookI R (i : Int) = some u := by
        rw [hbs] at hlc2
        cases q : lookI R (i : Int) with
        | none => rw [q] at hlc2; cases hlc2
        | some u => exact ⟨u, rfl⟩
      rw [hu] at hlk hlc2
      simp only [Option.map_some] at hlk hlc2
      have hul : u.2.length = E.size := (hEw.cach _ (lookI_mem hlc2)).2.2
      have hul' : (u.2.map byte).length = u.2.length := by simp
      have hcur : E.cur i = u.2 := by unfold DiskN.cur; rw [hlc2]; rfl
      have em : delI (R.map fun (p : Int × Value × List UInt8) => (p.1, p.2.1)) (i : Int) = (delI R (i : Int)).map fun p => (p.1, p.2.1) := delI_map (·.1) R i
      have ec : delI E.cached (i : Int) = (delI R (i : Int)).map fun p => (p.1, p.2.2) := by rw [hR]; exact delI_map (·.2) R i
      have fin2 : ∀ (data' : List UInt8), data'.length = E.data.length → E.tear (i : Int) t = { E with data := data', cached := delI E.cached (i : Int) } → ∀ w, Sat σ w (mapI cm (delI (R.map fun (p : Int × Value × List UInt8) => (p.1, p.2.1)) (i : Int)) :: arr b 5 (data'.map byte ++ spare) :: star (R.map rowHP) :: arr d 79 (diskCells E (.slice (some ⟨b, 0, none⟩) E.data.length cap) cm pm) :: planHP pm E.planned :: ownS (.slice (some ⟨b0, 0, none⟩) D.keys.length c) 3 1 D.keys.length (D.keys.map int) :: l) → Sat σ w (ownS (.slice (some ⟨b0, 0, none⟩) D.keys.length c) 3 1 D.keys.length (D.keys.map int) :: diskHP d (torn D ts (j + 1)) :: l) := by
        intro data' hsl hset w s
        rw [hss, hset]
        rw [em] at s
        have s0 := Sat.weak (l' := arr b 5 (data'.map byte ++ spare) :: star (R.map rowHP) :: mapI cm ((delI R (i : Int)).map fun p => (p.1, p.2.1)) :: arr d 79 (diskCells E (.slice (some ⟨b, 0, none⟩) E.data.length cap) cm pm) :: planHP pm E.planned :: ownS (.slice (some ⟨b0, 0, none⟩) D.keys.length c) 3 1 D.keys.length (D.keys.map int) :: l) (by repeat (first | exact Weak.refl | (apply Weak.cons; (first | exact Pick.here | exact Pick.there Pick.here | exact Pick.there (Pick.there Pick.here) | exact Pick.there (Pick.there (Pick.there Pick.here)) | exact Pick.there (Pick.there (Pick.there (Pick.there Pick.here))) | exact Pick.there (Pick.there (Pick.there (Pick.there (Pick.there Pick.here)))) | exact Pick.there (Pick.there (Pick.there (Pick.there (Pick.there (Pick.there Pick.here))))) | exact Pick.there (Pick.there (Pick.there (Pick.there (Pick.there (Pick.there (Pick.there Pick.here)))))))) | apply Weak.drop)) w s
        have s1 := Sat.ownS_arr (k := data'.length) (cap := cap) (z := 1) (by omega) (by rw [List.length_map]; omega) (by rw [List.length_append, List.length_map, hsl, ← List.length_map (f := byte), ← List.length_append]; exact hsp) s0
        rw [hsl] at s1
        have s2 := Sat.weak (l' := star (R.map rowHP) :: ownS (.slice (some ⟨b, 0, none⟩) E.data.length cap) 5 1 E.data.length (data'.map byte) :: mapI cm ((delI R (i : Int)).map fun p => (p.1, p.2.1)) :: arr d 79 (diskCells E (.slice (some ⟨b, 0, none⟩) E.data.length cap) cm pm) :: planHP pm E.planned :: ownS (.slice (some ⟨b0, 0, none⟩) D.keys.length c) 3 1 D.keys.length (D.keys.map int) :: l) (by repeat (first | exact Weak.refl | (apply Weak.cons; (first | exact Pick.here | exact Pick.there Pick.here | exact Pick.there (Pick.there Pick.here) | exact Pick.there (Pick.there (Pick.there Pick.here)) | exact Pick.there (Pick.there (Pick.there (Pick.there Pick.here))) | exact Pick.there (Pick.there (Pick.there (Pick.there (Pick.there Pick.here)))) | exact Pick.there (Pick.there (Pick.there (Pick.there (Pick.there (Pick.there Pick.here))))) | exact Pick.there (Pick.there (Pick.there (Pick.there (Pick.there (Pick.there (Pick.there Pick.here)))))))) | apply Weak.drop)) w s1
        have s3 := Sat.delRows (k := (i : Int)) s2
        have e9 : ownS (.slice (some ⟨b, 0, none⟩) E.data.length cap) 5 1 E.data.length (data'.map byte) = bytesHP (.slice (some ⟨b, 0, none⟩) E.data.length cap) data' := by rw [← hsl]
        rw [e9] at s3
        have s4 := Sat.weak (l' := opn2 d { E with data := data', cached := delI E.cached (i : Int) } (.slice (some ⟨b, 0, none⟩) E.data.length cap) cm pm (delI R (i : Int)) (ownS (.slice (some ⟨b0, 0, none⟩) D.keys.length c) 3 1 D.keys.length (D.keys.map int) :: l)) (by repeat (first | exact Weak.refl | (apply Weak.cons; (first | exact Pick.here | exact Pick.there Pick.here | exact Pick.there (Pick.there Pick.here) | exact Pick.there (Pick.there (Pick.there Pick.here)) | exact Pick.there (Pick.there (Pick.there (Pick.there Pick.here))) | exact Pick.there (Pick.there (Pick.there (Pick.there (Pick.there Pick.here)))) | exact Pick.there (Pick.there (Pick.there (Pick.there (Pick.there (Pick.there Pick.here))))) | exact Pick.there (Pick.there (Pick.there (Pick.there (Pick.there (Pick.there (Pick.there Pick.here)))))))) | apply Weak.drop)) w s3
        exact Sat.weak (by repeat (first | exact Weak.refl | (apply Weak.cons; (first | exact Pick.here | exact Pick.there Pick.here | exact Pick.there (Pick.there Pick.here) | exact Pick.there (Pick.there (Pick.there Pick.here)) | exact Pick.there (Pick.there (Pick.there (Pick.there Pick.here))) | exact Pick.there (Pick.there (Pick.there (Pick.there (Pick.there Pick.here)))) | exact Pick.there (Pick.there (Pick.there (Pick.there (Pick.there (Pick.there Pick.here))))) | exact Pick.there (Pick.there (Pick.there (Pick.there (Pick.there (Pick.there (Pick.there Pick.here)))))))) | apply Weak.drop)) w (Sat.close ec s4)
      refine JC.rowR (lookI_mem hu) (Pick.there (Pick.there Pick.here)) fun hrow => ?_
      by_cases k1 : t.kind = 1
      · repeat' (first | (apply JO.ru; exact rfl; exact rfl; exact rfl; (first | (apply Ru.loadN; exact rfl; (repeat (first | exact Pick.here | apply Pick.there)); exact rfl) | (apply Ru.fieldAddr; exact rfl) | (apply Ru.assign; exact rfl) | (apply Ru.eql; exact rfl; exact rfl; (first | exact decT (by omega) | exact decF (by omega))))) | refine JC.seq ?_ | refine JC.region ?_ | refine JO.nil ?_ | refine JE.thenN ?_ | refine JC.block ?_ | refine JC.condT rfl ?_)
        refine JC.regionB (mapI cm (R.map fun p => (p.1, p.2.1)) :: star (R.map rowHP) :: arr d 79 (diskCells E (.slice (some ⟨b, 0, none⟩) E.data.length cap) cm pm) :: planHP pm E.planned :: arr wb 81 [int t.kind, .slice q t.bytes.length cq] :: ownS (.slice (some ⟨b0, 0, none⟩) D.keys.length c) 3 1 D.keys.length (D.keys.map int) :: l) mixed ?_
        repeat' (first | ((apply JB.ru; exact rfl; exact rfl; exact rfl; exact rfl; (first | (apply Ru.move; exact rfl) | (apply Ru.loadN; exact rfl; (repeat (first | exact Pick.here | apply Pick.there)); exact rfl) | (apply Ru.fieldAddr; exact rfl) | (apply Ru.nilP; exact rfl)); decide +kernel; decide +kernel; (first | exact fun _ h => h | exact fun _ h => Sat.drop h | exact fun _ h => Sat.drop (Sat.drop h) | exact fun _ h => Sat.drop (Sat.drop (Sat.drop h)) | exact fun _ h => Sat.drop (Sat.drop (Sat.drop (Sat.drop h)))); (simp only [Nat.reduceAdd, Nat.reducePow, Nat.reduceMul, Nat.zero_or, Nat.or_zero, Nat.reduceXor, Nat.reduceOr]; try exact rfl))) | (apply JB.ru; exact rfl; exact rfl; exact rfl; exact rfl; (apply Ru.lookupO0; exact rfl; exact rfl; exact Pick.here; exact hlk); decide +kernel; decide +kernel; exact fun _ h => Sat.drop h; (simp only [Nat.reduceAdd, Nat.reducePow, Nat.reduceMul, Nat.zero_or, Nat.or_zero, Nat.reduceXor, Nat.reduceOr]; try exact rfl)))
        refine JB.one 2 (by decide +kernel) ?_
        (apply JI.do; exact rfl; exact rfl; exact rfl; exact rfl; (apply Do.call; exact rfl; exact disk_at d E.size i b E.data.length cap _ _ _ _ hz (by omega) hcap hroom (Pick.there (Pick.there (Pick.there Pick.here)))); (simp only [Nat.reduceAdd, Nat.reducePow, Nat.reduceMul, Nat.zero_or, Nat.or_zero, Nat.reduceXor, Nat.reduceOr]; try exact rfl); rintro _ _ ⟨rfl, hq⟩; obtain rfl := hq.symm; refine ⟨fun _ s => s.drop, ?_⟩)
        refine JB.one 9 (by decide +kernel) ?_
        obtain ⟨ku, pu, cu, hu1⟩ : ∃ k p c, u.1 = .slice p k c ∧ k = u.2.length := by
          obtain ⟨pp, cc, h1, _, _⟩ := hrow
          exact ⟨_, pp, cc, h1, hul'⟩
        obtain ⟨hu1, rfl⟩ := hu1
        dsimp only at hrow
        rw [hu1] at hrow ⊢
        (apply JI.do; exact rfl; exact rfl; exact rfl; exact rfl; (apply Do.copy (ys := u.2.map byte); exact rfl; exact rfl; exact Pick.here; exact hrow; (rw [List.length_append, List.length_map]; omega); exact byteOne _); (simp only [Nat.reduceAdd, Nat.reducePow, Nat.reduceMul, Nat.zero_or, Nat.or_zero, Nat.reduceXor, Nat.reduceOr]; try exact rfl); rintro _ _ ⟨rfl, rfl⟩; refine ⟨fun _ s => s.drop, ?_⟩)
        rw [List.take_of_length_le (by rw [hul']; omega), splice_sec (by omega)]
        repeat' ((apply JB.nil; exact rfl))
        repeat' (first | (apply JO.ru; exact rfl; exact rfl; exact rfl; (first | (apply Ru.move; exact rfl) | (apply Ru.loadN; exact rfl; (repeat (first | exact Pick.here | apply Pick.there)); exact rfl) | (apply Ru.fieldAddr; exact rfl) | (apply Ru.nilP; exact rfl))) | refine JC.region ?_ | refine JE.thenN ?_ | refine JE.blockN ?_)
        (apply JO.do0; exact rfl; exact rfl; (apply Do.deleteI; exact rfl; exact rfl; exact Pick.there Pick.here); rintro _ _ ⟨rfl, rfl⟩)
        repeat' (first | (apply JO.ru; exact rfl; exact rfl; exact rfl; (first | (apply Ru.move; exact rfl) | (apply Ru.add; exact rfl; exact rfl; (first | exact wrapI (by omega) (by omega) | exact rfl)))) | refine JC.region ?_ | refine JO.nil ?_ | refine JE.thenN ?_ | refine JE.blockN ?_)
        refine JE.round (j + 1) (by omega) (by omega) ⟨rfl, rfl, rfl, rfl, rfl, trivial⟩ ?_
        have hset : E.tear (i : Int) t = { E with data := setSec E.data E.size i u.2, cached := delI E.cached (i : Int) } := by unfold DiskN.tear; rw [if_pos k1, Int.toNat_natCast, hcur]
        intro w s
        exact fin2 _ (setSec_length (by omega)) hset w (Sat.weak (by repeat (first | exact Weak.refl | (apply Weak.cons; (first | exact Pick.here | exact Pick.there Pick.here | exact Pick.there (Pick.there Pick.here) | exact Pick.there (Pick.there (Pick.there Pick.here)) | exact Pick.there (Pick.there (Pick.there (Pick.there Pick.here))) | exact Pick.there (Pick.there (Pick.there (Pick.there (Pick.there Pick.here)))) | exact Pick.there (Pick.there (Pick.there (Pick.there (Pick.there (Pick.there Pick.here))))) | exact Pick.there (Pick.there (Pick.there (Pick.there (Pick.there (Pick.there (Pick.there Pick.here)))))))) | apply Weak.drop)) w s)
      by_cases k2 : t.kind = 2
      · repeat' (first | (apply JO.ru; exact rfl; exact rfl; exact rfl; (first | (apply Ru.move; exact rfl) | (apply Ru.loadN; exact rfl; (repeat (first | exact Pick.here | apply Pick.there)); exact rfl) | (apply Ru.fieldAddr; exact rfl) | (apply Ru.assign; exact rfl) | (apply Ru.eql; exact rfl; exact rfl; (first | exact decT (by omega) | exact decF (by omega))))) | refine JC.seq ?_ | refine JC.region ?_ | refine JO.nil ?_ | refine JE.thenN ?_ | refine JC.block ?_ | refine JC.condT rfl ?_ | refine JC.condF rfl ?_)
        (apply JO.do; exact rfl; exact rfl; exact rfl; (apply Do.call; exact rfl; exact disk_at d E.size i b E.data.length cap _ _ _ _ hz (by omega) hcap hroom (Pick.there (Pick.there (Pick.there Pick.here)))); rintro _ _ ⟨rfl, hq⟩; obtain rfl := hq.symm)
        (apply JO.do0; exact rfl; exact rfl; (apply Do.clear; exact rfl; exact Pick.here; (rw [List.length_append, List.length_map]; omega); exact rfl); rintro _ _ ⟨rfl, rfl⟩)
        have hzr : List.replicate E.size (Value.int .u8 0) = (List.replicate E.size (0 : UInt8)).map byte := by simp
        rw [hzr, splice_sec (by rw [List.length_replicate]; omega)]
        have hsl2 := setSec_length (data := E.data) (size := E.size) (i := i) (bs := List.replicate E.size 0) (by rw [List.length_replicate]; omega)
        repeat' (first | refine JO.nil ?_ | refine JE.thenN ?_)
        refine JC.regionB (mapI cm (R.map fun p => (p.1, p.2.1)) :: star (R.map rowHP) :: arr d 79 (diskCells E (.slice (some ⟨b, 0, none⟩) E.data.length cap) cm pm) :: planHP pm E.planned :: arr wb 81 [int t.kind, .slice q t.bytes.length cq] :: ownS (.slice (some ⟨b0, 0, none⟩) D.keys.length c) 3 1 D.keys.length (D.keys.map int) :: l) mixed ?_
        repeat' ((apply JB.ru; exact rfl; exact rfl; exact rfl; exact rfl; (first | (apply Ru.move; exact rfl) | (apply Ru.loadN; exact rfl; (repeat (first | exact Pick.here | apply Pick.there)); exact rfl) | (apply Ru.fieldAddr; exact rfl)); decide +kernel; decide +kernel; (first | exact fun _ h => h | exact fun _ h => Sat.drop h | exact fun _ h => Sat.drop (Sat.drop h) | exact fun _ h => Sat.drop (Sat.drop (Sat.drop h)) | exact fun _ h => Sat.drop (Sat.drop (Sat.drop (Sat.drop h)))); (simp only [Nat.reduceAdd, Nat.reducePow, Nat.reduceMul, Nat.zero_or, Nat.or_zero, Nat.reduceXor, Nat.reduceOr]; try exact rfl)))
        refine JB.one 2 (by decide +kernel) ?_
        (apply JI.do; exact rfl; exact rfl; exact rfl; exact rfl; (apply Do.call; exact rfl; exact disk_at d E.size i b E.data.length cap _ _ _ _ hz (by omega) hcap hroom (Pick.there (Pick.there (Pick.there Pick.here)))); (simp only [Nat.reduceAdd, Nat.reducePow, Nat.reduceMul, Nat.zero_or, Nat.or_zero, Nat.reduceXor, Nat.reduceOr]; try exact rfl); rintro _ _ ⟨rfl, hq⟩; obtain rfl := hq.symm; refine ⟨fun _ s => s.drop, ?_⟩)
        refine JB.one 5 (by decide +kernel) ?_
        (apply JI.do; exact rfl; exact rfl; exact rfl; exact rfl; (apply Do.copy (ys := t.bytes.map byte); exact rfl; exact rfl; exact Pick.here; exact hrt.cons.cons.cons.cons.cons.cons.cons; (rw [List.length_append, List.length_map]; omega); exact byteOne _); (simp only [Nat.reduceAdd, Nat.reducePow, Nat.reduceMul, Nat.zero_or, Nat.or_zero, Nat.reduceXor, Nat.reduceOr]; try exact rfl); rintro _ _ ⟨rfl, rfl⟩; refine ⟨fun _ s => s.drop, ?_⟩)
        have htk : (t.bytes.map byte).take (min t.bytes.length E.size) = (t.bytes.take E.size).map byte := by
          rw [List.map_take]
          exact List.take_eq_take_iff.2 (by rw [List.length_map]; omega)
        rw [htk, splice_bytes (by rw [List.length_take]; omega), set_fit (by omega)]
        repeat' ((apply JB.nil; exact rfl))
        repeat' (first | (apply JO.ru; exact rfl; exact rfl; exact rfl; (first | (apply Ru.move; exact rfl) | (apply Ru.loadN; exact rfl; (repeat (first | exact Pick.here | apply Pick.there)); exact rfl) | (apply Ru.fieldAddr; exact rfl) | (apply Ru.nilP; exact rfl))) | refine JC.region ?_ | refine JE.thenN ?_ | refine JE.blockN ?_)
        (apply JO.do0; exact rfl; exact rfl; (apply Do.deleteI; exact rfl; exact rfl; exact Pick.there Pick.here); rintro _ _ ⟨rfl, rfl⟩)
        repeat' (first | (apply JO.ru; exact rfl; exact rfl; exact rfl; (first | (apply Ru.move; exact rfl) | (apply Ru.add; exact rfl; exact rfl; (first | exact wrapI (by omega) (by omega) | exact rfl)))) | refine JC.region ?_ | refine JO.nil ?_ | refine JE.thenN ?_ | refine JE.blockN ?_)
        refine JE.round (j + 1) (by omega) (by omega) ⟨rfl, rfl, rfl, rfl, rfl, trivial⟩ ?_
        have hset : E.tear (i : Int) t = { E with data := setSec E.data E.size i (fit t.bytes E.size), cached := delI E.cached (i : Int) } := by unfold DiskN.tear; rw [if_neg k1, if_pos k2, Int.toNat_natCast]
        intro w s
        exact fin2 _ (setSec_length (by rw [fit_length]; omega)) hset w (Sat.weak (by repeat (first | exact Weak.refl | (apply Weak.cons; (first | exact Pick.here | exact Pick.there Pick.here | exact Pick.there (Pick.there Pick.here) | exact Pick.there (Pick.there (Pick.there Pick.here)) | exact Pick.there (Pick.there (Pick.there (Pick.there Pick.here))) | exact Pick.there (Pick.there (Pick.there (Pick.there (Pick.there Pick.here)))) | exact Pick.there (Pick.there (Pick.there (Pick.there (Pick.there (Pick.there Pick.here))))) | exact Pick.there (Pick.there (Pick.there (Pick.there (Pick.there (Pick.there (Pick.there Pick.here)))))))) | apply Weak.drop)) w s)
      · repeat' (first | (apply JO.ru; exact rfl; exact rfl; exact rfl; (first | (apply Ru.move; exact rfl) | (apply Ru.loadN; exact rfl; (repeat (first | exact Pick.here | apply Pick.there)); exact rfl) | (apply Ru.fieldAddr; exact rfl) | (apply Ru.nilP; exact rfl) | (apply Ru.assign; exact rfl) | (apply Ru.eql; exact rfl; exact rfl; (first | exact decT (by omega) | exact decF (by omega))))) | refine JC.seq ?_ | refine JC.region ?_ | refine JO.nil ?_ | refine JE.thenN ?_ | refine JE.blockN ?_ | refine JC.block ?_ | refine JC.skip ?_ | refine JC.condF rfl ?_)
        (apply JO.do0; exact rfl; exact rfl; (apply Do.deleteI; exact rfl; exact rfl; exact Pick.there Pick.here); rintro _ _ ⟨rfl, rfl⟩)
        repeat' (first | (apply JO.ru; exact rfl; exact rfl; exact rfl; (first | (apply Ru.move; exact rfl) | (apply Ru.add; exact rfl; exact rfl; (first | exact wrapI (by omega) (by omega) | exact rfl)))) | refine JC.region ?_ | refine JO.nil ?_ | refine JE.thenN ?_ | refine JE.blockN ?_)
        refine JE.round (j + 1) (by omega) (by omega) ⟨rfl, rfl, rfl, rfl, rfl, trivial⟩ ?_
        have hset : E.tear (i : Int) t = { E with data := E.data, cached := delI E.cached (i : Int) } := by unfold DiskN.tear; rw [if_neg k1, if_neg k2]
        intro w s
        exact fin2 _ rfl hset w (Sat.weak (by repeat (first | exact Weak.refl | (apply Weak.cons; (first | exact Pick.here | exact Pick.there Pick.here | exact Pick.there (Pick.there Pick.here) | exact Pick.there (Pick.there (Pick.there Pick.here)) | exact Pick.there (Pick.there (Pick.there (Pick.there Pick.here))) | exact Pick.there (Pick.there (Pick.there (Pick.there (Pick.there Pick.here)))) | exact Pick.there (Pick.there (Pick.there (Pick.there (Pick.there (Pick.there Pick.here))))) | exact Pick.there (Pick.there (Pick.there (Pick.there (Pick.there (Pick.there (Pick.there Pick.here)))))))) | apply Weak.drop)) w s)
    · repeat' (first | (apply JO.ru; exact rfl; exact rfl; exact rfl; (first | (apply Ru.move; exact rfl) | (apply Ru.lenS; exact rfl))) | refine JC.seq ?_ | refine JC.region ?_ | refine JO.nil ?_ | refine JE.thenN ?_ | refine JC.skip ?_ | refine JC.condT rfl ?_ | refine JC.condF rfl ?_ | (apply JO.split; exact rfl; exact rfl; exact rfl; ((apply Ru.lss; exact rfl; exact rfl; exact rfl)); all_goals intro _))
      · rename_i wb hjt
        have hjt' : j < ts.length := by omega
        rcases hrv with h | ⟨bt, ot, rfl, hct⟩
        · rw [h] at hjt'; exact absurd hjt' (Nat.not_lt_zero _)
        obtain ⟨q, cq, hqc, hcell, hrq⟩ := hct j t (by rw [← ht, List.getD_eq_getElem?_getD, List.getElem?_eq_getElem hjt']; rfl)
        repeat' ((apply JO.ru; exact rfl; exact rfl; exact rfl; ((apply Ru.indexAddr; exact rfl; exact rfl; omega; omega))))
        (apply JO.ru; exact rfl; exact rfl; exact rfl; (apply Ru.loadAC (vs := [int t.kind, .slice q t.bytes.length cq]); exact rfl; exact rfl; exact fun w s => hcell w (Sat.drop (Sat.drop (Sat.drop s)))))
        repeat' (first | refine JO.nil ?_ | (apply JO.do0; exact rfl; exact rfl; (first | (apply Do.storeAN; exact rfl; exact rfl; (repeat (first | exact Pick.here | apply Pick.there)); exact rfl; exact rfl; exact rfl; exact rfl) | (apply Do.storeA; exact rfl; exact rfl; (repeat (first | exact Pick.here | apply Pick.there)); exact rfl; exact rfl; exact rfl)); rintro _ _ ⟨rfl, rfl⟩))
        exact JE.mid (wb, q, cq) hrq ⟨rfl, rfl, rfl, rfl, rfl, rfl, rfl, trivial⟩ (fun _ h => h)
      · rename_i wb hjt
        have hz : t = .zero := by rw [← ht, List.getD_eq_getElem?_getD, List.getElem?_eq_none (by omega)]; rfl
        subst hz
        exact JE.mid (wb, none, 0) RdS.nil ⟨rfl, rfl, rfl, rfl, rfl, rfl, rfl, trivial⟩ (fun _ h => h)
  · obtain rfl : j = D.keys.length := by omega
    refine JE.done0N rfl ?_
    exact ⟨diskHP d (D.crash ts) :: l, Sat.weak (by repeat (first | exact Weak.refl | (apply Weak.cons; (first | exact Pick.here | exact Pick.there Pick.here | exact Pick.there (Pick.there Pick.here) | exact Pick.there (Pick.there (Pick.there Pick.here)) | exact Pick.there (Pick.there (Pick.there (Pick.there Pick.here))) | exact Pick.there (Pick.there (Pick.there (Pick.there (Pick.there Pick.here)))) | exact Pick.there (Pick.there (Pick.there (Pick.there (Pick.there (Pick.there Pick.here))))) | exact Pick.there (Pick.there (Pick.there (Pick.there (Pick.there (Pick.there (Pick.there Pick.here)))))))) | apply Weak.drop)), rfl, rfl⟩
end Go.Sep
