/- Part 4: Heads, and images in pieces: no program in sight; slot: wiped, sealed, laid: what each answers as a function of the disk; slot: read; slot: each call, where what it answers is known; A slot's calls on a disk on which nothing fails: no program in sight; What a crash leaves: no program in sight; The disk: crashed; The statements' own small functions: two lists of bytes the same; a fresh disk; What arguments read as; a statement's last step, out of a contract; A statement's post-condition, where nothing that was there has turned; the table; Tears among the arguments; What all cards of this seat lean on: the door's own heap meets the condition; The statements of layer 6: a fresh disk; the chapter's example; SlotBack: what was laid and sealed is read as good; The statements of layer 6: are operations of a size that is looked at?; What is done with one slot changes nothing of the other: no program in sight. -/
import Derived.Test.YtbpilaghemkdjaaDoorPa3
import Derived.ProofKit
import Derived.Carry
import Derived.Deep.Slices
import Derived.OpenShut
import Derived.Test.YtbpilaghemkdjaaDoorRows
import Derived.LaidMore
import Derived.Stop.Joined
import Derived.Test.YtbpilaghemkdjaaDoorCards
import Derived.Test.YtbpilaghemkdjaaDoorTie
import Derived.SevenTiedAt
set_option linter.all false
/- Heads, and images in pieces: no program in sight. -/
namespace Go.Sep
open Go Go.Proofs

/-! ### A head is read as it was laid -/
theorem leN_id {m : Nat} {n : Int} (h0 : 0 ≤ n) (h1 : n < 256 ^ m) : leNum (leBytes m n) = n := by
  rw [leNum_leBytes m n h0, Int.emod_eq_of_lt h0 h1]
theorem take24 (h : HeadN) (m : Nat) : (padB (enc h) m).take 24 = encBody h := rfl
theorem drop24 (h : HeadN) (m : Nat) : ((padB (enc h) m).drop 24).take 4 = leBytes 4 (crcSum (encBody h)) := rfl
theorem dropL (h : HeadN) (m : Nat) : ((padB (enc h) m).drop 8).take 4 = leBytes 4 (IntKind.u32.wrap h.len) := rfl
theorem dropS (h : HeadN) (m : Nat) : ((padB (enc h) m).drop 12).take 8 = leBytes 8 h.seq := rfl
theorem dropC (h : HeadN) (m : Nat) : ((padB (enc h) m).drop 20).take 4 = leBytes 4 h.sum := rfl
theorem enc_length (h : HeadN) : (enc h).length = 28 := rfl
theorem byteN {n : Int} (h0 : 0 ≤ n) (h1 : n < 256) : ((UInt8.ofNat (n % 256).toNat).toNat : Int) = n := by
  rw [UInt8.toNat_ofNat']; omega
theorem dec_enc {h : HeadN} (hr : h.right = true) (hq : 0 ≤ h.seq ∧ h.seq < 18446744073709551616) (hs : 0 ≤ h.sum ∧ h.sum < 4294967296) {m : Nat} (hm : 28 ≤ m) : decE (padB (enc h) m) = 0 ∧ decH (padB (enc h) m) = h := by
  have hb : rightG h.e h.f h.s = true ∧ h.len = totG h.e h.f h.s := by unfold HeadN.right at hr; simpa using hr
  have hb' : 0 ≤ h.e ∧ h.e ≤ 10 ∧ 0 ≤ h.f ∧ h.f ≤ 64 ∧ 0 ≤ h.s ∧ h.s ≤ 128 := by simpa [rightG] using hb.1
  have ht := totG_bd h.e h.f h.s
  have hc := crcSum_bd (encBody h)
  have hraw : decRaw (padB (enc h) m) = h := by
    have e5 : (padB (enc h) m).getD 5 0 = UInt8.ofNat (h.e % 256).toNat := rfl
    have e6 : (padB (enc h) m).getD 6 0 = UInt8.ofNat (h.f % 256).toNat := rfl
    have e7 : (padB (enc h) m).getD 7 0 = UInt8.ofNat (h.s % 256).toNat := rfl
    unfold decRaw
    rw [e5, e6, e7, dropL, dropS, dropC, byteN (by omega) (by omega), byteN (by omega) (by omega), byteN (by omega) (by omega), wrapU32 (by omega) (by omega), leN_id (by omega) (by omega), leN_id hq.1 (by omega), leN_id hs.1 (by omega)]
  have he : decE (padB (enc h) m) = 0 := by
    unfold decE
    have hl : ¬ (padB (enc h) m).length < 28 := by
      rw [padB_length (by rw [enc_length]; exact hm)]; omega
    have h4 : (padB (enc h) m).take 4 = [75, 69, 69, 80] := rfl
    have e4 : ((padB (enc h) m).getD 4 0).toNat = 1 := rfl
    rw [if_neg hl, if_neg (by rw [h4]; simp), if_neg (by rw [e4]; simp), take24, drop24, leN_id hc.1 (by omega), if_neg (by simp), hraw, if_pos hr]
  exact ⟨he, by unfold decH; rw [if_pos he]; exact hraw⟩
/-- Zeroes are no head. -/
theorem dec_zero {m : Nat} (hm : 28 ≤ m) : decE (padB [] m) = 6 := by
  obtain ⟨k, rfl⟩ : ∃ k, m = k + 28 := ⟨m - 28, by omega⟩
  unfold decE
  rw [if_neg (by simp [padB]), if_pos]
  simp [padB, List.replicate_succ]

/-! ### Pieces -/
theorem flat_pieces (L : List UInt8) (z : Nat) : ∀ n, n * z ≤ L.length → ((List.range n).map fun i => (L.drop (i * z)).take z).flatten = L.take (n * z)
  | 0, _ => by simp
  | n + 1, h => by
    rw [Nat.succ_mul] at h
    rw [List.range_succ, List.map_append, List.flatten_append, flat_pieces L z n (by omega)]
    simp only [List.map_cons, List.map_nil, List.flatten_cons, List.flatten_nil, List.append_nil]
    rw [Nat.succ_mul, List.take_add]
theorem pieces_length (bs : List UInt8) (z n : Nat) : (pieces bs z n).length = n := by simp [pieces]
theorem pieces_flat {bs : List UInt8} {z n : Nat} (h : bs.length ≤ n * z) : (pieces bs z n).flatten = padB bs (n * z) := by
  have hl := padB_length h
  unfold pieces
  rw [flat_pieces _ _ _ (by omega), List.take_of_length_le (by omega)]
theorem pieces_each {bs : List UInt8} {z n : Nat} (h : bs.length ≤ n * z) : ∀ x ∈ pieces bs z n, x.length = z := by
  intro x hx
  obtain ⟨i, hi, rfl⟩ := List.mem_map.1 hx
  have hi' := List.mem_range.1 hi
  have h2 : (i + 1) * z ≤ n * z := Nat.mul_le_mul_right _ hi'
  rw [Nat.succ_mul] at h2
  rw [List.length_take, List.length_drop, padB_length h]; omega
theorem padB_take {bs : List UInt8} {m : Nat} : (padB bs m).take bs.length = bs := by simp [padB]
/-- Enough sectors. -/
theorem secs_room {m z : Int} (h0 : 0 ≤ m) (h1 : 1 ≤ z) (h2 : z ≤ 4096) : 0 ≤ secs m z ∧ m ≤ secs m z * z := by
  unfold secs
  by_cases hm : m < 1
  · rw [if_pos (.inl hm)]; omega
  · rw [if_neg (by omega)]
    have h3 := Int.emod_nonneg (m - 1) (by omega : z ≠ 0)
    have h4 := Int.emod_lt_of_pos (m - 1) (by omega : 0 < z)
    have h5 := Int.mul_ediv_add_emod (m - 1) z
    have h6 : 0 ≤ (m - 1) / z := Int.ediv_nonneg (by omega) (by omega)
    refine ⟨by omega, ?_⟩
    rw [Int.add_mul, Int.one_mul, Int.mul_comm]
    omega
end Go.Sep
/- slot: wiped, sealed, laid: what each answers as a function of the disk. -/
namespace Go.Sep
open Go Go.Proofs
attribute [local irreducible] JO JC JE JA JQ JB JI Mid Inv Weak ownS Ru Do Fn Sat Pick Take arr pt star ex Holds bodyPost Post Exit.then Exit.inBlock Res
variable {σ : Sig} {F : List HP}
attribute [local irreducible] diskHP cacheHP planHP rowHP
theorem slot_WipeR (d : Nat) (D : DiskN) (which e f s : Int) (hD : D.WF) (ho : D.ops ≤ 1000000000000) (hw : D.writes ≤ 1000000000000) [hg : InG F] :
    Fn Tryd.prog σ 14 #[.pointer (some ⟨d, 0, none⟩), int which, geoV e f s] (diskHP d D :: F) (fun v l' => v = int (wipeR D which e f s).1 ∧ l' = diskHP d (wipeR D which e f s).2 :: F) := by
  refine (slot_Wipe d D which e f s hD ho hw).mono ?_
  rintro v l' (⟨h1, rfl, rfl⟩ | ⟨h1, (⟨h2, rfl, rfl⟩ | ⟨h2, rfl, rfl⟩)⟩) <;> unfold wipeR firstOf <;> simp [*]
theorem slot_SealR (d : Nat) (D : DiskN) (which e f s q : Int) (v : Value) (bs : List UInt8) (hq0 : 0 ≤ q) (hbl : bs.length ≤ 100000000) (hD : D.WF) (ho : D.ops ≤ 1000000000000) (hw : D.writes ≤ 1000000000000) {l : List HP} [hg : InG l] (hb : RdS σ l v (bs.map byte)) :
    Fn Tryd.prog σ 12 #[.pointer (some ⟨d, 0, none⟩), int which, geoV e f s, u64 q, v] (diskHP d D :: l) (fun r l' => r = int (sealR D which e f s q bs).1 ∧ l' = diskHP d (sealR D which e f s q bs).2 :: l) := by
  refine (slot_Seal d D which e f s q v bs hq0 hbl hD ho hw hb).mono ?_
  rintro v l' (⟨h1, rfl, rfl⟩ | ⟨h1, h3, rfl, rfl⟩ | ⟨h1, h3, (⟨h2, rfl, rfl⟩ | ⟨h2, rfl, rfl⟩)⟩) <;> unfold sealR firstOf <;> simp [*]
theorem writeE_zero {D : DiskN} {i : Int} {n : Nat} (h : D.writeE i n = 0) : 0 ≤ i ∧ i < D.count ∧ n = D.size := by
  unfold DiskN.writeE at h
  split at h
  · cases h
  · split at h
    · cases h
    · split at h
      · cases h
      · split at h
        · cases h
        · omega
theorem piece_at {bs : List UInt8} {z n i : Nat} (h : i < n) : (pieces bs z n)[i]? = some (((padB bs (n * z)).drop (i * z)).take z) := by
  unfold pieces; rw [List.getElem?_map, List.getElem?_range h]; rfl
set_option maxHeartbeats 4000000 in
theorem slot_Data (d : Nat) (D : DiskN) (which e f s : Int) (v : Value) (bs : List UInt8) (hbl : bs.length ≤ 100000000) (hD : D.WF) (ho : D.ops ≤ 100000000000) (hw : D.writes ≤ 100000000000) {l : List HP} [hg : InG l] (hb : RdS σ l v (bs.map byte)) :
    Fn Tryd.prog σ 10 #[.pointer (some ⟨d, 0, none⟩), int which, geoV e f s, v] (diskHP d D :: l) (fun r l' => r = int (dataR D which e f s bs).1 ∧ l' = diskHP d (dataR D which e f s bs).2 :: l) := by
  obtain ⟨pv, cv, rfl, hcv, hrv⟩ := id hb
  have hl : (bs.map byte).length = bs.length := by simp
  have hz := hD.hz
  have hz2 := hD.hz2
  refine Fn.of Tryd.func10 rfl Tryd.ntmps10 rfl ?_
  repeat' (first | (apply JO.ru; exact rfl; exact rfl; exact rfl; (first | (apply Ru.move; exact rfl) | (apply Ru.assign; exact rfl) | (apply Ru.loadAN; exact rfl; (repeat (first | exact Pick.here | apply Pick.there)); exact rfl; exact rfl))) | refine JC.seq ?_ | refine JC.region ?_ | refine JO.nil ?_ | refine JE.thenN ?_ | (apply JO.do; exact rfl; exact rfl; exact rfl; (first | (apply Do.boxN; exact rfl; exact rfl) | (apply Do.box; exact rfl)); rintro _ _ ⟨_, rfl, rfl⟩))
  rename_i gb
  refine JO.heap (Sat.weak (l' := diskHP d D :: arr gb 23 [int e, int f, int s] :: l) (by repeat (first | exact Weak.refl | (apply Weak.cons; (first | exact Pick.here | exact Pick.there Pick.here | exact Pick.there (Pick.there Pick.here) | exact Pick.there (Pick.there (Pick.there Pick.here)) | exact Pick.there (Pick.there (Pick.there (Pick.there Pick.here))) | exact Pick.there (Pick.there (Pick.there (Pick.there (Pick.there Pick.here)))) | exact Pick.there (Pick.there (Pick.there (Pick.there (Pick.there (Pick.there Pick.here))))) | exact Pick.there (Pick.there (Pick.there (Pick.there (Pick.there (Pick.there (Pick.there Pick.here)))))))) | apply Weak.drop))) ?_
  (apply JO.do; exact rfl; exact rfl; exact rfl; (apply Do.call; exact rfl; exact slot_at d D which e f s hD); rintro _ _ (⟨hE, db, fb, rfl, rfl⟩ | ⟨hE, rfl, rfl⟩))
  · have hfi := atE_first hE
    repeat' (first | (first | (apply JO.ru; exact rfl; exact rfl; exact rfl; (first | (apply Ru.move; exact rfl) | (apply Ru.loadN; exact rfl; (repeat (first | exact Pick.here | apply Pick.there)); exact rfl) | (apply Ru.fieldAddr; exact rfl) | (apply Ru.assign; exact rfl) | (apply Ru.lenS; exact rfl) | (apply Ru.neq; exact rfl; exact rfl; (first | exact ndecF (by omega) | exact ndecT (by omega))) | (apply Ru.extractN; exact rfl; exact rfl) | (apply Ru.loadAN; exact rfl; (repeat (first | exact Pick.here | apply Pick.there)); exact rfl; exact rfl))) | refine JC.seq ?_ | refine JC.region ?_ | refine JO.nil ?_ | refine JE.thenN ?_ | refine JE.thenR ?_ | refine JE.blockN ?_ | refine JE.blockR ?_ | refine JC.block ?_ | refine JC.ret ?_ | refine JC.skip ?_ | refine JC.condT rfl ?_ | refine JC.condF rfl ?_ | (apply JO.splitN; exact rfl; exact rfl; exact rfl; (apply Ru.neq; exact rfl; exact rfl; exact rfl); all_goals intro _) | (apply JO.do; exact rfl; exact rfl; exact rfl; (first | (apply Do.allocN; exact rfl) | apply Do.alloc); rintro _ _ ⟨_, rfl, rfl⟩) | (apply JO.do0; exact rfl; exact rfl; (first | (apply Do.storeAN; exact rfl; exact rfl; (repeat (first | exact Pick.here | apply Pick.there)); exact rfl; exact rfl; exact rfl; exact rfl) | (apply Do.storeA; exact rfl; exact rfl; (repeat (first | exact Pick.here | apply Pick.there)); exact rfl; exact rfl; exact rfl)); rintro _ _ ⟨rfl, rfl⟩) | (apply JE.done1; exact rfl; (first | (apply Res.tmp; exact rfl) | (apply Res.cell; exact rfl; (repeat (first | exact Pick.here | apply Pick.there)); exact rfl) | (apply Res.cellAN; exact rfl; (repeat (first | exact Pick.here | apply Pick.there)); exact rfl; exact rfl) | (apply Res.cellA; exact rfl; (repeat (first | exact Pick.here | apply Pick.there)); exact rfl; exact rfl)))) | (first | (apply JO.do; exact rfl; exact rfl; exact rfl; (apply Do.call; exact rfl; exact geo_Total _ _ _); rintro _ _ ⟨rfl, hq⟩; obtain rfl := hq.symm) | (apply JQ.call; exact rfl; exact rfl; exact rfl; exact geo_Total _ _ _; (rintro _ _ ⟨rfl, rfl⟩; exact ⟨rfl, rfl⟩))))
    · rename_i pb heq
      rw [hl] at heq
      have e0 : dataR D which e f s bs = dataGo (firstOf D which e f s) 0 D (pieces bs D.size (secs bs.length D.size).toNat) := by
        unfold dataR; rw [if_neg (by rw [hE]; simp), if_neg (by simpa using heq)]
      obtain ⟨n, hn⟩ : ∃ n, (secs bs.length D.size).toNat = n := ⟨_, rfl⟩
      have hns := secs_bd (m := (bs.length : Int)) (s := (D.size : Int)) (by omega)
      obtain ⟨ps, hps⟩ : ∃ ps, pieces bs D.size n = ps := ⟨_, rfl⟩
      obtain ⟨fi, hfe⟩ : ∃ fi, which * spanG D.size e f s = fi := ⟨_, rfl⟩
      have hfe2 : firstOf D which e f s = fi := hfe
      have hpl : ps.length = n := by rw [← hps]; simp [pieces]
      rw [hn, hps, hfe2] at e0
      rw [e0]
      rw [hfe] at hfi ⊢
      (apply JO.do; exact rfl; exact rfl; exact rfl; (apply Do.call; exact rfl; exact image_Cut _ bs D.size ⟨hz, hz2⟩ hbl hb.cons.cons.cons.cons.cons); rintro _ _ ⟨u, a, rfl, rfl⟩)
      rw [hn]
      refine JO.ownR Pick.here fun hrd _ hsh => ?_
      obtain ⟨p, c, rfl⟩ : ∃ p c, u = .slice p n c := by
        rcases hsh with ⟨rfl, h⟩ | ⟨b, c, rfl, _⟩
        · exact ⟨none, 0, by rw [h]⟩
        · exact ⟨_, c, rfl⟩
      clear hsh hrd
      repeat' (first | (apply JO.ru; exact rfl; exact rfl; exact rfl; (first | (apply Ru.move; exact rfl) | (apply Ru.assign; exact rfl) | (apply Ru.lenS; exact rfl) | (apply Ru.extractN; exact rfl; exact rfl))) | refine JC.seq ?_ | refine JC.region ?_ | refine JO.nil ?_ | refine JE.thenN ?_ | refine JC.block ?_)
      refine JC.loop (fun x : Nat × DiskN => [(9, .pointer (some ⟨pb, 0, none⟩)), (40, .slice p n c), (41, int n), (42, int x.1)])
        (fun x => slotL d x.2 db fb fi (ownS (.slice p n c) 24 1 n (cutRows a D.size n) :: arr a 5 ((padB bs (n * D.size)).map byte) :: arr pb 58 [int (spanG D.size e f s - 1), int D.size, rdV db fb, wrV db fb] :: l))
        (fun x => x.1 ≤ n ∧ dataGo fi 0 D ps = dataGo fi x.1 x.2 (ps.drop x.1) ∧ x.2.WF ∧ x.2.size = D.size ∧ x.2.ops = D.ops + x.1 ∧ x.2.writes = D.writes + x.1) (fun x => n - x.1) (0, D) ⟨Nat.zero_le _, rfl, hD, rfl, rfl, rfl⟩ ⟨rfl, rfl, rfl, rfl, trivial⟩ (Sat.weak (by repeat (first | exact Weak.refl | (apply Weak.cons; (first | exact Pick.here | exact Pick.there Pick.here | exact Pick.there (Pick.there Pick.here) | exact Pick.there (Pick.there (Pick.there Pick.here)) | exact Pick.there (Pick.there (Pick.there (Pick.there Pick.here))) | exact Pick.there (Pick.there (Pick.there (Pick.there (Pick.there Pick.here)))) | exact Pick.there (Pick.there (Pick.there (Pick.there (Pick.there (Pick.there Pick.here))))) | exact Pick.there (Pick.there (Pick.there (Pick.there (Pick.there (Pick.there (Pick.there Pick.here)))))))) | apply Weak.drop))) ?_
      rintro ⟨i, E⟩ ⟨hi, hgo, hE1, hE2, hE3, hE4⟩
      dsimp only at hi hgo hE1 hE2 hE3 hE4 ⊢
      repeat' (first | (apply JO.ru; exact rfl; exact rfl; exact rfl; (first | (apply Ru.move; exact rfl) | (apply Ru.assign; exact rfl))) | refine JC.seq ?_ | refine JC.region ?_ | refine JO.nil ?_ | refine JE.thenN ?_ | refine JE.thenE ?_ | refine JE.blockE ?_ | refine JC.block ?_ | refine JC.ret ?_ | refine JC.skip ?_ | refine JC.exit ?_ | refine JC.condT rfl ?_ | refine JC.condF rfl ?_ | (apply JO.split; exact rfl; exact rfl; exact rfl; ((apply Ru.lss; exact rfl; exact rfl; exact rfl)); all_goals intro _) | (apply JE.done1; exact rfl; (first | (apply Res.tmp; exact rfl) | (apply Res.cell; exact rfl; (repeat (first | exact Pick.here | apply Pick.there)); exact rfl) | (apply Res.cellAN; exact rfl; (repeat (first | exact Pick.here | apply Pick.there)); exact rfl; exact rfl) | (apply Res.cellA; exact rfl; (repeat (first | exact Pick.here | apply Pick.there)); exact rfl; exact rfl))))
      · rename_i hlt
        have hlt' : i < n := by omega
        have hpi : ps[i]? = some (((padB bs (n * D.size)).drop (i * D.size)).take D.size) := by rw [← hps]; exact piece_at hlt'
        have hroom : bs.length ≤ n * D.size := by
          have := (secs_room (m := (bs.length : Int)) (z := (D.size : Int)) (by omega) (by omega) (by omega)).2
          have e9 : secs (bs.length : Int) (D.size : Int) = (n : Int) := by omega
          rw [e9, ← Int.natCast_mul] at this
          omega
        have hpl2 := pieces_each (z := D.size) hroom
        have hPB := padB_length hroom
        have hsm : (i + 1) * D.size ≤ n * D.size := Nat.mul_le_mul_right _ hlt'
        rw [Nat.succ_mul] at hsm
        obtain ⟨x, hx⟩ : ∃ x, ((padB bs (n * D.size)).drop (i * D.size)).take D.size = x := ⟨_, rfl⟩
        rw [hx] at hpi
        have hxl : x.length = D.size := hpl2 x (by rw [hps]; exact List.mem_of_getElem? hpi)
        have hdr : ps.drop i = x :: ps.drop (i + 1) := by
          obtain ⟨h1, h2⟩ := List.getElem?_eq_some_iff.1 hpi
          rw [List.drop_eq_getElem_cons h1, h2]
        rw [hdr, dataGo, hxl] at hgo
        refine JO.ownR (Pick.there (Pick.there (Pick.there Pick.here))) fun hrd2 _ _ => ?_
        obtain ⟨p', cap', e, _, hr2⟩ := hrd2
        injection e with e1 e2 e3
        subst e1; clear e2 e3
        rcases hr2 with h | ⟨b', o', e4, hc⟩
        · have := congrArg List.length h
          simp [cutRows] at this
          omega
        cases e4
        repeat' ((apply JO.ru; exact rfl; exact rfl; exact rfl; ((apply Ru.indexAddr; exact rfl; exact rfl; omega; omega))))
        (apply JO.ru; exact rfl; exact rfl; exact rfl; (apply Ru.loadC; exact rfl; exact rd_row (i := i) (u := .slice (some ⟨a, i * D.size, none⟩) D.size D.size) hc (by unfold cutRows; rw [List.getElem?_map, List.getElem?_range hlt']; rfl) _ (by simp)))
        repeat' (first | (apply JO.ru; exact rfl; exact rfl; exact rfl; (first | (apply Ru.move; exact rfl) | (apply Ru.loadN; exact rfl; (repeat (first | exact Pick.here | apply Pick.there)); exact rfl) | (apply Ru.fieldAddr; exact rfl) | (apply Ru.assign; exact rfl) | (apply Ru.add; exact rfl; exact rfl; (first | exact wrapI (by omega) (by omega) | exact rfl)))) | refine JC.seq ?_ | refine JC.region ?_ | refine JO.nil ?_ | refine JE.thenN ?_)
        have hrd3 : RdS σ (ownS (.slice (some ⟨b', o', none⟩) n c) 24 1 n (cutRows a D.size n) :: arr a 5 ((padB bs (n * D.size)).map byte) :: arr pb 58 [int (spanG D.size e f s - 1), int D.size, rdV db fb, wrV db fb] :: l) (.slice (some ⟨a, i * D.size, none⟩) D.size D.size) (x.map byte) := by
          have := RdS.arr (σ := σ) (l := ownS (.slice (some ⟨b', o', none⟩) n c) 24 1 n (cutRows a D.size n) :: arr a 5 ((padB bs (n * D.size)).map byte) :: arr pb 58 [int (spanG D.size e f s - 1), int D.size, rdV db fb, wrV db fb] :: l) (Pick.there Pick.here) (i * D.size) D.size D.size (by rw [List.length_map]; omega) (Nat.le_refl _)
          rwa [← List.map_drop, ← List.map_take, hx] at this
        have hwr := slot_wr (σ := σ) d E db fb fi (1 + (i : Int)) (.slice (some ⟨a, i * D.size, none⟩) D.size D.size) x hE1 (by omega) (by omega) (by omega) (by omega) hrd3
        rw [hxl] at hwr
        (apply JO.do; exact rfl; exact rfl; exact rfl; (apply Do.callV (f := 45); exact rfl; exact rfl; exact hwr); rintro _ _ (⟨hW, rfl, rfl⟩ | ⟨hW, rfl, rfl⟩))
        · rw [if_neg (by simpa using hW)] at hgo
          repeat' (first | (apply JO.ru; exact rfl; exact rfl; exact rfl; (first | (apply Ru.move; exact rfl) | (apply Ru.assign; exact rfl) | (apply Ru.neq; exact rfl; exact rfl; (first | exact ndecF (by omega) | exact ndecT (by omega))) | (apply Ru.add; exact rfl; exact rfl; (first | exact wrapI (by omega) (by omega) | exact rfl)))) | refine JC.seq ?_ | refine JC.region ?_ | refine JO.nil ?_ | refine JE.thenN ?_ | refine JE.blockN ?_ | refine JC.skip ?_ | refine JC.condF rfl ?_)
          have hwz := writeE_zero hW
          exact JE.round (i + 1, E.put (fi + (1 + (i : Int))) x) ⟨hlt', hgo, hE1.put hwz.1 hwz.2.1 (by omega), hE2, by show E.ops + 1 = _; omega, by show E.writes + 1 = _; omega⟩ (by show n - (i + 1) < n - i; omega) ⟨rfl, rfl, rfl, rfl, trivial⟩ (fun _ h => h)
        · rw [if_pos (by simpa using hW)] at hgo
          rw [hgo]
          repeat' (first | (apply JO.ru; exact rfl; exact rfl; exact rfl; (first | (apply Ru.move; exact rfl) | (apply Ru.assign; exact rfl) | (apply Ru.neq; exact rfl; exact rfl; (first | exact ndecF (by omega) | exact ndecT (by omega))))) | refine JC.seq ?_ | refine JC.region ?_ | refine JO.nil ?_ | refine JE.thenN ?_ | refine JE.thenR ?_ | refine JE.blockR ?_ | refine JC.ret ?_ | refine JC.condT rfl ?_ | (apply JE.done1; exact rfl; (first | (apply Res.tmp; exact rfl) | (apply Res.cell; exact rfl; (repeat (first | exact Pick.here | apply Pick.there)); exact rfl) | (apply Res.cellAN; exact rfl; (repeat (first | exact Pick.here | apply Pick.there)); exact rfl; exact rfl) | (apply Res.cellA; exact rfl; (repeat (first | exact Pick.here | apply Pick.there)); exact rfl; exact rfl))))
          exact ⟨diskHP d E.tick :: l, Sat.weak (by repeat (first | exact Weak.refl | (apply Weak.cons; (first | exact Pick.here | exact Pick.there Pick.here | exact Pick.there (Pick.there Pick.here) | exact Pick.there (Pick.there (Pick.there Pick.here)) | exact Pick.there (Pick.there (Pick.there (Pick.there Pick.here))) | exact Pick.there (Pick.there (Pick.there (Pick.there (Pick.there Pick.here)))) | exact Pick.there (Pick.there (Pick.there (Pick.there (Pick.there (Pick.there Pick.here))))) | exact Pick.there (Pick.there (Pick.there (Pick.there (Pick.there (Pick.there (Pick.there Pick.here)))))))) | apply Weak.drop)), rfl, rfl⟩
      · obtain rfl : i = n := by omega
        rw [List.drop_eq_nil_of_le (by omega), dataGo] at hgo
        rw [hgo]
        exact ⟨diskHP d E :: l, Sat.weak (by repeat (first | exact Weak.refl | (apply Weak.cons; (first | exact Pick.here | exact Pick.there Pick.here | exact Pick.there (Pick.there Pick.here) | exact Pick.there (Pick.there (Pick.there Pick.here)) | exact Pick.there (Pick.there (Pick.there (Pick.there Pick.here))) | exact Pick.there (Pick.there (Pick.there (Pick.there (Pick.there Pick.here)))) | exact Pick.there (Pick.there (Pick.there (Pick.there (Pick.there (Pick.there Pick.here))))) | exact Pick.there (Pick.there (Pick.there (Pick.there (Pick.there (Pick.there (Pick.there Pick.here)))))))) | apply Weak.drop)), rfl, rfl⟩
    · rename_i heq
      rw [hl] at heq
      have e0 : dataR D which e f s bs = (1, D) := by
        unfold dataR; rw [if_neg (by rw [hE]; simp), if_pos heq]
      rw [e0]
      exact ⟨diskHP d D :: l, Sat.weak (by repeat (first | exact Weak.refl | (apply Weak.cons; (first | exact Pick.here | exact Pick.there Pick.here | exact Pick.there (Pick.there Pick.here) | exact Pick.there (Pick.there (Pick.there Pick.here)) | exact Pick.there (Pick.there (Pick.there (Pick.there Pick.here))) | exact Pick.there (Pick.there (Pick.there (Pick.there (Pick.there Pick.here)))) | exact Pick.there (Pick.there (Pick.there (Pick.there (Pick.there (Pick.there Pick.here))))) | exact Pick.there (Pick.there (Pick.there (Pick.there (Pick.there (Pick.there (Pick.there Pick.here)))))))) | apply Weak.drop)), rfl, rfl⟩
  · have e0 : dataR D which e f s bs = (atE D which e f s, D) := by
      unfold dataR; rw [if_pos hE]
    rw [e0]
    repeat' (first | (apply JO.ru; exact rfl; exact rfl; exact rfl; (first | (apply Ru.move; exact rfl) | (apply Ru.assign; exact rfl) | (apply Ru.neq; exact rfl; exact rfl; (first | exact ndecF (by omega) | exact ndecT (by omega))) | (apply Ru.extractN; exact rfl; exact rfl))) | refine JC.seq ?_ | refine JC.region ?_ | refine JO.nil ?_ | refine JE.thenN ?_ | refine JE.thenR ?_ | refine JE.blockR ?_ | refine JC.block ?_ | refine JC.ret ?_ | refine JC.condT rfl ?_ | (apply JO.do; exact rfl; exact rfl; exact rfl; (first | (apply Do.allocN; exact rfl) | apply Do.alloc); rintro _ _ ⟨_, rfl, rfl⟩) | (apply JO.do0; exact rfl; exact rfl; (first | (apply Do.storeAN; exact rfl; exact rfl; (repeat (first | exact Pick.here | apply Pick.there)); exact rfl; exact rfl; exact rfl; exact rfl) | (apply Do.storeA; exact rfl; exact rfl; (repeat (first | exact Pick.here | apply Pick.there)); exact rfl; exact rfl; exact rfl)); rintro _ _ ⟨rfl, rfl⟩) | (apply JE.done1; exact rfl; (first | (apply Res.tmp; exact rfl) | (apply Res.cell; exact rfl; (repeat (first | exact Pick.here | apply Pick.there)); exact rfl) | (apply Res.cellAN; exact rfl; (repeat (first | exact Pick.here | apply Pick.there)); exact rfl; exact rfl) | (apply Res.cellA; exact rfl; (repeat (first | exact Pick.here | apply Pick.there)); exact rfl; exact rfl))))
    exact ⟨diskHP d D :: l, Sat.weak (by repeat (first | exact Weak.refl | (apply Weak.cons; (first | exact Pick.here | exact Pick.there Pick.here | exact Pick.there (Pick.there Pick.here) | exact Pick.there (Pick.there (Pick.there Pick.here)) | exact Pick.there (Pick.there (Pick.there (Pick.there Pick.here))) | exact Pick.there (Pick.there (Pick.there (Pick.there (Pick.there Pick.here)))) | exact Pick.there (Pick.there (Pick.there (Pick.there (Pick.there (Pick.there Pick.here))))) | exact Pick.there (Pick.there (Pick.there (Pick.there (Pick.there (Pick.there (Pick.there Pick.here)))))))) | apply Weak.drop)), rfl, rfl⟩
end Go.Sep
/- slot: read. -/
namespace Go.Sep
open Go Go.Proofs
attribute [local irreducible] JO JC JE JA JQ JB JI Mid Inv Weak ownS Ru Do Fn Sat Pick Take arr pt star ex Holds bodyPost Post Exit.then Exit.inBlock Res
variable {σ : Sig} {F : List HP}
attribute [local irreducible] diskHP cacheHP planHP rowHP
abbrev slotV (s : SlotN) (u : Value) : Value := .agg #[int s.state, int s.why, u64 s.seq, u]
theorem atE_span {D : DiskN} {which e f s : Int} (hD : D.WF) (h : atE D which e f s = 0) : ∃ m : Nat, spanG D.size e f s - 1 = m ∧ manyOf D e f s = m ∧ m ≤ 4096 := by
  have hr := atE_right h
  have hsp := spanG_bd D.size e f s
  unfold atE at h
  rw [if_neg (by rw [hr]; simp)] at h
  split at h
  · cases h
  · rename_i h2
    split at h
    · cases h
    · rename_i h3
      have h1 : 1 ≤ spanG D.size e f s := by
        have hz := hD.hz2
        unfold spanG
        have := secs_bd (m := totG e f s) (s := (D.size : Int)) (totG_bd e f s).1
        rw [if_pos ⟨hr, by omega, by omega⟩]; omega
      have hc := hD.cnt
      exact ⟨(spanG D.size e f s - 1).toNat, by omega, rfl, by omega⟩
theorem finU0 {post : Value → List HP → Prop} {v : Value} {l l' : List HP} (k : Weak l l') (h : post v (bytesHP (.slice none 0 0) [] :: l')) : fin post v l σ :=
  ⟨_, fun w s => Sat.ownS_nil (Sat.weak k w s), h⟩
theorem readE_zero {D : DiskN} {i : Int} (h : D.readE i = 0) : 0 ≤ i ∧ i < D.count := by
  unfold DiskN.readE at h
  split at h
  · cases h
  · split at h
    · cases h
    · omega
set_option maxHeartbeats 4000000 in
theorem slot_Read (d : Nat) (D : DiskN) (which e f s : Int) (hD : D.WF) (ho : D.ops ≤ 100000000000) [hg : InG F] :
    Fn Tryd.prog σ 11 #[.pointer (some ⟨d, 0, none⟩), int which, geoV e f s] (diskHP d D :: F)
      (fun v l' => ∃ u, v = .tuple #[slotV (readR D which e f s).2.2 u, int (readR D which e f s).1] ∧ l' = bytesHP u (readR D which e f s).2.2.image :: diskHP d (readR D which e f s).2.1 :: F) := by
  refine Fn.of Tryd.func11 rfl Tryd.ntmps11 rfl ?_
  repeat' (first | (apply JO.ru; exact rfl; exact rfl; exact rfl; (first | (apply Ru.move; exact rfl) | (apply Ru.assign; exact rfl) | (apply Ru.loadAN; exact rfl; (repeat (first | exact Pick.here | apply Pick.there)); exact rfl; exact rfl))) | refine JC.seq ?_ | refine JC.region ?_ | refine JO.nil ?_ | refine JE.thenN ?_ | (apply JO.do; exact rfl; exact rfl; exact rfl; (first | (apply Do.allocN; exact rfl) | apply Do.alloc); rintro _ _ ⟨_, rfl, rfl⟩) | (apply JO.do; exact rfl; exact rfl; exact rfl; (first | (apply Do.boxN; exact rfl; exact rfl) | (apply Do.box; exact rfl)); rintro _ _ ⟨_, rfl, rfl⟩))
  rename_i gb ob
  refine JO.heap (Sat.weak (l' := diskHP d D :: arr ob 34 [int 0, int 0, u64 0, .slice none 0 0] :: arr gb 23 [int e, int f, int s] :: F) (by repeat (first | exact Weak.refl | (apply Weak.cons; (first | exact Pick.here | exact Pick.there Pick.here | exact Pick.there (Pick.there Pick.here) | exact Pick.there (Pick.there (Pick.there Pick.here)) | exact Pick.there (Pick.there (Pick.there (Pick.there Pick.here))) | exact Pick.there (Pick.there (Pick.there (Pick.there (Pick.there Pick.here)))) | exact Pick.there (Pick.there (Pick.there (Pick.there (Pick.there (Pick.there Pick.here))))) | exact Pick.there (Pick.there (Pick.there (Pick.there (Pick.there (Pick.there (Pick.there Pick.here)))))))) | apply Weak.drop))) ?_
  (apply JO.do; exact rfl; exact rfl; exact rfl; (apply Do.call; exact rfl; exact slot_at d D which e f s hD); rintro _ _ (⟨hE, db, fb, rfl, rfl⟩ | ⟨hE, rfl, rfl⟩))
  · have hfi := atE_first hE
    obtain ⟨m, hm1, hm2, hm3⟩ := atE_span hD hE
    obtain ⟨fi, hfe⟩ : ∃ fi, which * spanG D.size e f s = fi := ⟨_, rfl⟩
    have hfe2 : firstOf D which e f s = fi := hfe
    rw [hfe] at hfi ⊢
    rw [hm1]
    repeat' (first | (apply JO.ru; exact rfl; exact rfl; exact rfl; (first | (apply Ru.move; exact rfl) | (apply Ru.loadN; exact rfl; (repeat (first | exact Pick.here | apply Pick.there)); exact rfl) | (apply Ru.fieldAddr; exact rfl) | (apply Ru.assign; exact rfl) | (apply Ru.neq; exact rfl; exact rfl; (first | exact ndecF (by omega) | exact ndecT (by omega))) | (apply Ru.extractN; exact rfl; exact rfl))) | refine JC.seq ?_ | refine JC.region ?_ | refine JO.nil ?_ | refine JE.thenN ?_ | refine JC.skip ?_ | refine JC.condF rfl ?_ | (apply JO.do; exact rfl; exact rfl; exact rfl; (first | (apply Do.allocN; exact rfl) | apply Do.alloc); rintro _ _ ⟨_, rfl, rfl⟩) | (apply JO.do0; exact rfl; exact rfl; (first | (apply Do.storeAN; exact rfl; exact rfl; (repeat (first | exact Pick.here | apply Pick.there)); exact rfl; exact rfl; exact rfl; exact rfl) | (apply Do.storeA; exact rfl; exact rfl; (repeat (first | exact Pick.here | apply Pick.there)); exact rfl; exact rfl; exact rfl)); rintro _ _ ⟨rfl, rfl⟩))
    rename_i pb
    refine JO.heap (Sat.weak (l' := slotL d D db fb fi (arr pb 58 [int m, int D.size, rdV db fb, wrV db fb] :: arr ob 34 [int 0, int 0, u64 0, .slice none 0 0] :: arr gb 23 [int e, int f, int s] :: F)) (by repeat (first | exact Weak.refl | (apply Weak.cons; (first | exact Pick.here | exact Pick.there Pick.here | exact Pick.there (Pick.there Pick.here) | exact Pick.there (Pick.there (Pick.there Pick.here)) | exact Pick.there (Pick.there (Pick.there (Pick.there Pick.here))) | exact Pick.there (Pick.there (Pick.there (Pick.there (Pick.there Pick.here)))) | exact Pick.there (Pick.there (Pick.there (Pick.there (Pick.there (Pick.there Pick.here))))) | exact Pick.there (Pick.there (Pick.there (Pick.there (Pick.there (Pick.there (Pick.there Pick.here)))))))) | apply Weak.drop))) ?_
    have hrd := slot_rd (σ := σ) d D db fb fi 0 hD (by omega) (by omega) (F := arr pb 58 [int m, int D.size, rdV db fb, wrV db fb] :: arr ob 34 [int 0, int 0, u64 0, .slice none 0 0] :: arr gb 23 [int e, int f, int s] :: F)
    rw [Int.add_zero] at hrd
    (apply JO.do; exact rfl; exact rfl; exact rfl; (apply Do.callV (f := 43); exact rfl; exact rfl; exact hrd); rintro _ _ (⟨hR, u, rfl, rfl⟩ | ⟨hR, rfl, rfl⟩))
    · refine JO.ownR Pick.here fun hru _ _ => ?_
      repeat' (first | (apply JO.ru; exact rfl; exact rfl; exact rfl; (first | (apply Ru.move; exact rfl) | (apply Ru.assign; exact rfl) | (apply Ru.neq; exact rfl; exact rfl; (first | exact ndecF (by omega) | exact ndecT (by omega))) | (apply Ru.extractN; exact rfl; exact rfl))) | refine JC.seq ?_ | refine JC.region ?_ | refine JO.nil ?_ | refine JE.thenN ?_ | refine JC.skip ?_ | refine JC.condF rfl ?_)
      obtain ⟨bs, hbs⟩ : ∃ bs, D.cur fi.toNat = bs := ⟨_, rfl⟩
      rw [hbs] at hru ⊢
      have hbl : bs.length ≤ 100000000 := by
        have h1 := readE_zero hR
        have h2 := hD.cur (i := fi.toNat) (by omega)
        have h3 := hD.hz2
        rw [hbs] at h2; omega
      (apply JO.do; exact rfl; exact rfl; exact rfl; (apply Do.call; exact rfl; exact head_Decode u bs hbl hru); rintro _ _ ⟨rfl, rfl⟩)
      obtain ⟨H, hH⟩ : ∃ H, decH bs = H := ⟨_, rfl⟩
      rw [hH]
      obtain ⟨he, hf, hs, hlen, hq, hsum⟩ := H
      unfold HeadN.val
      dsimp only
      repeat' (first | (apply JO.ru; exact rfl; exact rfl; exact rfl; (first | (apply Ru.move; exact rfl) | (apply Ru.fieldAddr; exact rfl) | (apply Ru.assign; exact rfl) | (apply Ru.extractN; exact rfl; exact rfl) | (apply Ru.loadAN; exact rfl; (repeat (first | exact Pick.here | apply Pick.there)); exact rfl; exact rfl) | (apply Ru.buildN; exact rfl; exact rfl))) | refine JC.seq ?_ | refine JC.region ?_ | refine JO.nil ?_ | refine JE.thenN ?_ | refine JE.thenR ?_ | refine JE.blockR ?_ | refine JC.block ?_ | refine JC.ret ?_ | refine JC.condT rfl ?_ | refine JC.condF rfl ?_ | (apply JO.splitN; exact rfl; exact rfl; exact rfl; (apply Ru.neq; exact rfl; exact rfl; exact rfl); all_goals intro _) | (apply JO.do; exact rfl; exact rfl; exact rfl; (first | (apply Do.allocN; exact rfl) | apply Do.alloc); rintro _ _ ⟨_, rfl, rfl⟩) | (apply JO.do0; exact rfl; exact rfl; (first | (apply Do.storeAN; exact rfl; exact rfl; (repeat (first | exact Pick.here | apply Pick.there)); exact rfl; exact rfl; exact rfl; exact rfl) | (apply Do.storeA; exact rfl; exact rfl; (repeat (first | exact Pick.here | apply Pick.there)); exact rfl; exact rfl; exact rfl)); rintro _ _ ⟨rfl, rfl⟩) | (apply JE.done2; exact rfl; (first | (apply Res.tmp; exact rfl) | (apply Res.cell; exact rfl; (repeat (first | exact Pick.here | apply Pick.there)); exact rfl) | (apply Res.cellAN; exact rfl; (repeat (first | exact Pick.here | apply Pick.there)); exact rfl; exact rfl) | (apply Res.cellA; exact rfl; (repeat (first | exact Pick.here | apply Pick.there)); exact rfl; exact rfl)); (first | (apply Res.tmp; exact rfl) | (apply Res.cell; exact rfl; (repeat (first | exact Pick.here | apply Pick.there)); exact rfl) | (apply Res.cellAN; exact rfl; (repeat (first | exact Pick.here | apply Pick.there)); exact rfl; exact rfl) | (apply Res.cellA; exact rfl; (repeat (first | exact Pick.here | apply Pick.there)); exact rfl; exact rfl))))
      · rename_i hb heq
        by_cases hG : he = e ∧ hf = f ∧ hs = s
        · obtain ⟨rfl, rfl, rfl⟩ := hG
          (apply JO.ru; exact rfl; exact rfl; exact rfl; (apply Ru.neqF (b := true); exact rfl; exact rfl; simp [eqVs, eqV]))
          repeat' (first | (apply JO.ru; exact rfl; exact rfl; exact rfl; (first | (apply Ru.loadN; exact rfl; (repeat (first | exact Pick.here | apply Pick.there)); exact rfl) | (apply Ru.fieldAddr; exact rfl) | (apply Ru.assign; exact rfl) | (apply Ru.loadAN; exact rfl; (repeat (first | exact Pick.here | apply Pick.there)); exact rfl; exact rfl))) | refine JC.seq ?_ | refine JC.region ?_ | refine JO.nil ?_ | refine JE.thenN ?_ | refine JE.blockN ?_ | refine JC.skip ?_ | refine JC.condF rfl ?_)
          have e0 : readR D which he hf hs = bodyR D.tick fi m ⟨he, hf, hs, hlen, hq, hsum⟩ := by
            unfold readR
            rw [if_neg (by rw [hE]; simp), hfe2, if_neg (by simpa using hR), hbs, if_neg (by simpa using heq), hH, if_pos ⟨rfl, rfl, rfl⟩, hm2]
          rw [e0]
          refine JO.heap (Sat.weak (l' := slotL d D.tick db fb fi (arr hb 67 [int he, int hf, int hs, int hlen, u64 hq, u32 hsum] :: arr ob 34 [int 0, int 0, u64 0, .slice none 0 0] :: F)) (by repeat (first | exact Weak.refl | (apply Weak.cons; (first | exact Pick.here | exact Pick.there Pick.here | exact Pick.there (Pick.there Pick.here) | exact Pick.there (Pick.there (Pick.there Pick.here)) | exact Pick.there (Pick.there (Pick.there (Pick.there Pick.here))) | exact Pick.there (Pick.there (Pick.there (Pick.there (Pick.there Pick.here)))) | exact Pick.there (Pick.there (Pick.there (Pick.there (Pick.there (Pick.there Pick.here))))) | exact Pick.there (Pick.there (Pick.there (Pick.there (Pick.there (Pick.there (Pick.there Pick.here)))))))) | apply Weak.drop))) ?_
          have hwh := place_whole (σ := σ) d D.tick db fb fi hlen m hD.tick (by show D.ops + 1 + m ≤ _; omega) hm3 hfi (F := arr hb 67 [int he, int hf, int hs, int hlen, u64 hq, u32 hsum] :: arr ob 34 [int 0, int 0, u64 0, .slice none 0 0] :: F)
          (apply JO.do; exact rfl; exact rfl; exact rfl; (apply Do.call; exact rfl; exact hwh); rintro _ _ (⟨k, hk1, hk2, hk3, rfl, rfl⟩ | ⟨hk, (⟨hl0, hl1, u2, rfl, rfl⟩ | ⟨hl, rfl, rfl⟩)⟩))
          · have e1 : bodyR D.tick fi m ⟨he, hf, hs, hlen, hq, hsum⟩ = (bodyE D.tick fi k, D.tick.ticks (k + 1), .zero) := by
              unfold bodyR; rw [badK_some hk1 hk2 hk3]
            rw [e1]
            repeat' (first | (apply JO.ru; exact rfl; exact rfl; exact rfl; (first | (apply Ru.move; exact rfl) | (apply Ru.assign; exact rfl) | (apply Ru.neq; exact rfl; exact rfl; (first | exact ndecF (by omega) | exact ndecT (by omega))) | (apply Ru.extractN; exact rfl; exact rfl) | (apply Ru.buildN; exact rfl; exact rfl))) | refine JC.seq ?_ | refine JC.region ?_ | refine JO.nil ?_ | refine JE.thenN ?_ | refine JE.thenR ?_ | refine JE.blockR ?_ | refine JC.block ?_ | refine JC.ret ?_ | refine JC.condT rfl ?_ | (apply JO.do0; exact rfl; exact rfl; (first | (apply Do.storeAN; exact rfl; exact rfl; (repeat (first | exact Pick.here | apply Pick.there)); exact rfl; exact rfl; exact rfl; exact rfl) | (apply Do.storeA; exact rfl; exact rfl; (repeat (first | exact Pick.here | apply Pick.there)); exact rfl; exact rfl; exact rfl)); rintro _ _ ⟨rfl, rfl⟩) | (apply JE.done2; exact rfl; (first | (apply Res.tmp; exact rfl) | (apply Res.cell; exact rfl; (repeat (first | exact Pick.here | apply Pick.there)); exact rfl) | (apply Res.cellAN; exact rfl; (repeat (first | exact Pick.here | apply Pick.there)); exact rfl; exact rfl) | (apply Res.cellA; exact rfl; (repeat (first | exact Pick.here | apply Pick.there)); exact rfl; exact rfl)); (first | (apply Res.tmp; exact rfl) | (apply Res.cell; exact rfl; (repeat (first | exact Pick.here | apply Pick.there)); exact rfl) | (apply Res.cellAN; exact rfl; (repeat (first | exact Pick.here | apply Pick.there)); exact rfl; exact rfl) | (apply Res.cellA; exact rfl; (repeat (first | exact Pick.here | apply Pick.there)); exact rfl; exact rfl))))
            exact finU0 (l' := diskHP d (D.tick.ticks (k + 1)) :: F) (by repeat (first | exact Weak.refl | (apply Weak.cons; (first | exact Pick.here | exact Pick.there Pick.here | exact Pick.there (Pick.there Pick.here) | exact Pick.there (Pick.there (Pick.there Pick.here)) | exact Pick.there (Pick.there (Pick.there (Pick.there Pick.here))) | exact Pick.there (Pick.there (Pick.there (Pick.there (Pick.there Pick.here)))) | exact Pick.there (Pick.there (Pick.there (Pick.there (Pick.there (Pick.there Pick.here))))) | exact Pick.there (Pick.there (Pick.there (Pick.there (Pick.there (Pick.there (Pick.there Pick.here)))))))) | apply Weak.drop)) ⟨_, rfl, rfl⟩
          · have hbl2 := body_len hD.tick hfi.1 m hk
            have hms : m * D.tick.size ≤ 4096 * 4096 := Nat.mul_le_mul hm3 hD.hz2
            obtain ⟨img, himg⟩ : ∃ img, (D.tick.body fi m).take hlen.toNat = img := ⟨_, rfl⟩
            have hil : img.length = hlen.toNat := by rw [← himg, List.length_take]; omega
            have e1 : bodyR D.tick fi m ⟨he, hf, hs, hlen, hq, hsum⟩ = if crcSum img = hsum then (0, D.tick.ticks m, ⟨2, 0, hq, img⟩) else (0, D.tick.ticks m, ⟨0, 8, 0, []⟩) := by
              unfold bodyR; rw [badK_none hk]; dsimp only; rw [if_pos ⟨hl0, hl1⟩, himg]
            rw [himg, ← hil]
            refine JO.ownR Pick.here fun hri _ hsh => ?_
            rcases hsh with ⟨rfl, _⟩ | ⟨bu, cu, rfl, _⟩
            all_goals
              repeat' (first | (first | (apply JO.ru; exact rfl; exact rfl; exact rfl; (first | (apply Ru.move; exact rfl) | (apply Ru.loadN; exact rfl; (repeat (first | exact Pick.here | apply Pick.there)); exact rfl) | (apply Ru.fieldAddr; exact rfl) | (apply Ru.assign; exact rfl) | (apply Ru.neq; exact rfl; exact rfl; (first | exact ndecF (by omega) | exact ndecT (by omega))) | (apply Ru.extractN; exact rfl; exact rfl) | (apply Ru.buildN; exact rfl; exact rfl))) | refine JC.seq ?_ | refine JC.region ?_ | refine JO.nil ?_ | refine JE.thenN ?_ | refine JE.thenR ?_ | refine JE.blockN ?_ | refine JE.blockR ?_ | refine JC.block ?_ | refine JC.ret ?_ | refine JC.skip ?_ | refine JC.condT rfl ?_ | refine JC.condF rfl ?_ | (apply JQ.ru; exact rfl; exact rfl; exact rfl; (first | (apply Ru.move; exact rfl) | (apply Ru.loadN; exact rfl; (repeat (first | exact Pick.here | apply Pick.there)); exact rfl) | (apply Ru.fieldAddr; exact rfl) | (apply Ru.assign; exact rfl))) | (apply JQ.splitN; exact rfl; exact rfl; exact rfl; (apply Ru.neq; exact rfl; exact rfl; exact rfl); all_goals intro _) | refine JQ.nil ?_ | (apply JO.do0; exact rfl; exact rfl; (first | (apply Do.storeAN; exact rfl; exact rfl; (repeat (first | exact Pick.here | apply Pick.there)); exact rfl; exact rfl; exact rfl; exact rfl) | (apply Do.storeA; exact rfl; exact rfl; (repeat (first | exact Pick.here | apply Pick.there)); exact rfl; exact rfl; exact rfl)); rintro _ _ ⟨rfl, rfl⟩) | refine JC.regionQ mixed (by decide +kernel) ?_ | (apply JE.done2; exact rfl; (first | (apply Res.tmp; exact rfl) | (apply Res.cell; exact rfl; (repeat (first | exact Pick.here | apply Pick.there)); exact rfl) | (apply Res.cellAN; exact rfl; (repeat (first | exact Pick.here | apply Pick.there)); exact rfl; exact rfl) | (apply Res.cellA; exact rfl; (repeat (first | exact Pick.here | apply Pick.there)); exact rfl; exact rfl)); (first | (apply Res.tmp; exact rfl) | (apply Res.cell; exact rfl; (repeat (first | exact Pick.here | apply Pick.there)); exact rfl) | (apply Res.cellAN; exact rfl; (repeat (first | exact Pick.here | apply Pick.there)); exact rfl; exact rfl) | (apply Res.cellA; exact rfl; (repeat (first | exact Pick.here | apply Pick.there)); exact rfl; exact rfl)))) | (apply JQ.call; exact rfl; exact rfl; exact rfl; exact crc_Sum _ img (by omega) hri; (rintro _ _ ⟨rfl, rfl⟩; exact ⟨rfl, rfl⟩)))
              · rename_i hc
                rw [if_pos hc] at e1
                rw [e1]
                exact ⟨bytesHP _ img :: diskHP d (D.tick.ticks m) :: F, Sat.weak (by repeat (first | exact Weak.refl | (apply Weak.cons; (first | exact Pick.here | exact Pick.there Pick.here | exact Pick.there (Pick.there Pick.here) | exact Pick.there (Pick.there (Pick.there Pick.here)) | exact Pick.there (Pick.there (Pick.there (Pick.there Pick.here))) | exact Pick.there (Pick.there (Pick.there (Pick.there (Pick.there Pick.here)))) | exact Pick.there (Pick.there (Pick.there (Pick.there (Pick.there (Pick.there Pick.here))))) | exact Pick.there (Pick.there (Pick.there (Pick.there (Pick.there (Pick.there (Pick.there Pick.here)))))))) | apply Weak.drop)), _, rfl, rfl⟩
              · rename_i hc
                rw [if_neg hc] at e1
                rw [e1]
                exact finU0 (l' := diskHP d (D.tick.ticks m) :: F) (by repeat (first | exact Weak.refl | (apply Weak.cons; (first | exact Pick.here | exact Pick.there Pick.here | exact Pick.there (Pick.there Pick.here) | exact Pick.there (Pick.there (Pick.there Pick.here)) | exact Pick.there (Pick.there (Pick.there (Pick.there Pick.here))) | exact Pick.there (Pick.there (Pick.there (Pick.there (Pick.there Pick.here)))) | exact Pick.there (Pick.there (Pick.there (Pick.there (Pick.there (Pick.there Pick.here))))) | exact Pick.there (Pick.there (Pick.there (Pick.there (Pick.there (Pick.there (Pick.there Pick.here)))))))) | apply Weak.drop)) ⟨_, rfl, rfl⟩
          · have e1 : bodyR D.tick fi m ⟨he, hf, hs, hlen, hq, hsum⟩ = (1, D.tick.ticks m, .zero) := by
              unfold bodyR; rw [badK_none hk]; dsimp only; rw [if_neg hl]
            rw [e1]
            repeat' (first | (apply JO.ru; exact rfl; exact rfl; exact rfl; (first | (apply Ru.move; exact rfl) | (apply Ru.assign; exact rfl) | (apply Ru.neq; exact rfl; exact rfl; (first | exact ndecF (by omega) | exact ndecT (by omega))) | (apply Ru.extractN; exact rfl; exact rfl) | (apply Ru.buildN; exact rfl; exact rfl))) | refine JC.seq ?_ | refine JC.region ?_ | refine JO.nil ?_ | refine JE.thenN ?_ | refine JE.thenR ?_ | refine JE.blockR ?_ | refine JC.block ?_ | refine JC.ret ?_ | refine JC.condT rfl ?_ | (apply JO.do0; exact rfl; exact rfl; (first | (apply Do.storeAN; exact rfl; exact rfl; (repeat (first | exact Pick.here | apply Pick.there)); exact rfl; exact rfl; exact rfl; exact rfl) | (apply Do.storeA; exact rfl; exact rfl; (repeat (first | exact Pick.here | apply Pick.there)); exact rfl; exact rfl; exact rfl)); rintro _ _ ⟨rfl, rfl⟩) | (apply JE.done2; exact rfl; (first | (apply Res.tmp; exact rfl) | (apply Res.cell; exact rfl; (repeat (first | exact Pick.here | apply Pick.there)); exact rfl) | (apply Res.cellAN; exact rfl; (repeat (first | exact Pick.here | apply Pick.there)); exact rfl; exact rfl) | (apply Res.cellA; exact rfl; (repeat (first | exact Pick.here | apply Pick.there)); exact rfl; exact rfl)); (first | (apply Res.tmp; exact rfl) | (apply Res.cell; exact rfl; (repeat (first | exact Pick.here | apply Pick.there)); exact rfl) | (apply Res.cellAN; exact rfl; (repeat (first | exact Pick.here | apply Pick.there)); exact rfl; exact rfl) | (apply Res.cellA; exact rfl; (repeat (first | exact Pick.here | apply Pick.there)); exact rfl; exact rfl))))
            exact finU0 (l' := diskHP d (D.tick.ticks m) :: F) (by repeat (first | exact Weak.refl | (apply Weak.cons; (first | exact Pick.here | exact Pick.there Pick.here | exact Pick.there (Pick.there Pick.here) | exact Pick.there (Pick.there (Pick.there Pick.here)) | exact Pick.there (Pick.there (Pick.there (Pick.there Pick.here))) | exact Pick.there (Pick.there (Pick.there (Pick.there (Pick.there Pick.here)))) | exact Pick.there (Pick.there (Pick.there (Pick.there (Pick.there (Pick.there Pick.here))))) | exact Pick.there (Pick.there (Pick.there (Pick.there (Pick.there (Pick.there (Pick.there Pick.here)))))))) | apply Weak.drop)) ⟨_, rfl, rfl⟩
        · (apply JO.ru; exact rfl; exact rfl; exact rfl; (apply Ru.neqF (b := false); exact rfl; exact rfl; (simp [eqVs, eqV]; omega)))
          repeat' (first | (apply JO.ru; exact rfl; exact rfl; exact rfl; (first | (apply Ru.assign; exact rfl) | (apply Ru.buildN; exact rfl; exact rfl))) | refine JC.seq ?_ | refine JC.region ?_ | refine JO.nil ?_ | refine JE.thenN ?_ | refine JE.thenR ?_ | refine JE.blockR ?_ | refine JC.ret ?_ | refine JC.condT rfl ?_ | (apply JO.do0; exact rfl; exact rfl; (first | (apply Do.storeAN; exact rfl; exact rfl; (repeat (first | exact Pick.here | apply Pick.there)); exact rfl; exact rfl; exact rfl; exact rfl) | (apply Do.storeA; exact rfl; exact rfl; (repeat (first | exact Pick.here | apply Pick.there)); exact rfl; exact rfl; exact rfl)); rintro _ _ ⟨rfl, rfl⟩) | (apply JE.done2; exact rfl; (first | (apply Res.tmp; exact rfl) | (apply Res.cell; exact rfl; (repeat (first | exact Pick.here | apply Pick.there)); exact rfl) | (apply Res.cellAN; exact rfl; (repeat (first | exact Pick.here | apply Pick.there)); exact rfl; exact rfl) | (apply Res.cellA; exact rfl; (repeat (first | exact Pick.here | apply Pick.there)); exact rfl; exact rfl)); (first | (apply Res.tmp; exact rfl) | (apply Res.cell; exact rfl; (repeat (first | exact Pick.here | apply Pick.there)); exact rfl) | (apply Res.cellAN; exact rfl; (repeat (first | exact Pick.here | apply Pick.there)); exact rfl; exact rfl) | (apply Res.cellA; exact rfl; (repeat (first | exact Pick.here | apply Pick.there)); exact rfl; exact rfl))))
          have e0 : readR D which e f s = (0, D.tick, ⟨1, 0, 0, []⟩) := by
            unfold readR
            rw [if_neg (by rw [hE]; simp), hfe2, if_neg (by simpa using hR), hbs, if_neg (by simpa using heq), hH, if_neg hG]
          rw [e0]
          exact finU0 (l' := diskHP d D.tick :: F) (by repeat (first | exact Weak.refl | (apply Weak.cons; (first | exact Pick.here | exact Pick.there Pick.here | exact Pick.there (Pick.there Pick.here) | exact Pick.there (Pick.there (Pick.there Pick.here)) | exact Pick.there (Pick.there (Pick.there (Pick.there Pick.here))) | exact Pick.there (Pick.there (Pick.there (Pick.there (Pick.there Pick.here)))) | exact Pick.there (Pick.there (Pick.there (Pick.there (Pick.there (Pick.there Pick.here))))) | exact Pick.there (Pick.there (Pick.there (Pick.there (Pick.there (Pick.there (Pick.there Pick.here)))))))) | apply Weak.drop)) ⟨_, rfl, rfl⟩
      · rename_i hb heq
        have e0 : readR D which e f s = (0, D.tick, ⟨0, decE bs, 0, []⟩) := by
          unfold readR
          rw [if_neg (by rw [hE]; simp), hfe2, if_neg (by simpa using hR), hbs, if_pos heq]
        rw [e0]
        exact finU0 (l' := diskHP d D.tick :: F) (by repeat (first | exact Weak.refl | (apply Weak.cons; (first | exact Pick.here | exact Pick.there Pick.here | exact Pick.there (Pick.there Pick.here) | exact Pick.there (Pick.there (Pick.there Pick.here)) | exact Pick.there (Pick.there (Pick.there (Pick.there Pick.here))) | exact Pick.there (Pick.there (Pick.there (Pick.there (Pick.there Pick.here)))) | exact Pick.there (Pick.there (Pick.there (Pick.there (Pick.there (Pick.there Pick.here))))) | exact Pick.there (Pick.there (Pick.there (Pick.there (Pick.there (Pick.there (Pick.there Pick.here)))))))) | apply Weak.drop)) ⟨_, rfl, rfl⟩
    · have e0 : readR D which e f s = (D.readE fi, D.tick, .zero) := by
        unfold readR; rw [if_neg (by rw [hE]; simp), hfe2, if_pos hR]
      rw [e0]
      repeat' (first | (apply JO.ru; exact rfl; exact rfl; exact rfl; (first | (apply Ru.move; exact rfl) | (apply Ru.assign; exact rfl) | (apply Ru.neq; exact rfl; exact rfl; (first | exact ndecF (by omega) | exact ndecT (by omega))) | (apply Ru.extractN; exact rfl; exact rfl) | (apply Ru.buildN; exact rfl; exact rfl))) | refine JC.seq ?_ | refine JC.region ?_ | refine JO.nil ?_ | refine JE.thenN ?_ | refine JE.thenR ?_ | refine JC.ret ?_ | refine JC.condT rfl ?_ | (apply JO.do0; exact rfl; exact rfl; (first | (apply Do.storeAN; exact rfl; exact rfl; (repeat (first | exact Pick.here | apply Pick.there)); exact rfl; exact rfl; exact rfl; exact rfl) | (apply Do.storeA; exact rfl; exact rfl; (repeat (first | exact Pick.here | apply Pick.there)); exact rfl; exact rfl; exact rfl)); rintro _ _ ⟨rfl, rfl⟩) | (apply JE.done2; exact rfl; (first | (apply Res.tmp; exact rfl) | (apply Res.cell; exact rfl; (repeat (first | exact Pick.here | apply Pick.there)); exact rfl) | (apply Res.cellAN; exact rfl; (repeat (first | exact Pick.here | apply Pick.there)); exact rfl; exact rfl) | (apply Res.cellA; exact rfl; (repeat (first | exact Pick.here | apply Pick.there)); exact rfl; exact rfl)); (first | (apply Res.tmp; exact rfl) | (apply Res.cell; exact rfl; (repeat (first | exact Pick.here | apply Pick.there)); exact rfl) | (apply Res.cellAN; exact rfl; (repeat (first | exact Pick.here | apply Pick.there)); exact rfl; exact rfl) | (apply Res.cellA; exact rfl; (repeat (first | exact Pick.here | apply Pick.there)); exact rfl; exact rfl))))
      exact finU0 (l' := diskHP d D.tick :: F) (by repeat (first | exact Weak.refl | (apply Weak.cons; (first | exact Pick.here | exact Pick.there Pick.here | exact Pick.there (Pick.there Pick.here) | exact Pick.there (Pick.there (Pick.there Pick.here)) | exact Pick.there (Pick.there (Pick.there (Pick.there Pick.here))) | exact Pick.there (Pick.there (Pick.there (Pick.there (Pick.there Pick.here)))) | exact Pick.there (Pick.there (Pick.there (Pick.there (Pick.there (Pick.there Pick.here))))) | exact Pick.there (Pick.there (Pick.there (Pick.there (Pick.there (Pick.there (Pick.there Pick.here)))))))) | apply Weak.drop)) ⟨_, rfl, rfl⟩
  · have e0 : readR D which e f s = (atE D which e f s, D, .zero) := by
      unfold readR; rw [if_pos hE]
    rw [e0]
    repeat' (first | (apply JO.ru; exact rfl; exact rfl; exact rfl; (first | (apply Ru.move; exact rfl) | (apply Ru.assign; exact rfl) | (apply Ru.neq; exact rfl; exact rfl; (first | exact ndecF (by omega) | exact ndecT (by omega))) | (apply Ru.extractN; exact rfl; exact rfl) | (apply Ru.buildN; exact rfl; exact rfl))) | refine JC.seq ?_ | refine JC.region ?_ | refine JO.nil ?_ | refine JE.thenN ?_ | refine JE.thenR ?_ | refine JC.ret ?_ | refine JC.condT rfl ?_ | (apply JO.do; exact rfl; exact rfl; exact rfl; (first | (apply Do.allocN; exact rfl) | apply Do.alloc); rintro _ _ ⟨_, rfl, rfl⟩) | (apply JO.do0; exact rfl; exact rfl; (first | (apply Do.storeAN; exact rfl; exact rfl; (repeat (first | exact Pick.here | apply Pick.there)); exact rfl; exact rfl; exact rfl; exact rfl) | (apply Do.storeA; exact rfl; exact rfl; (repeat (first | exact Pick.here | apply Pick.there)); exact rfl; exact rfl; exact rfl)); rintro _ _ ⟨rfl, rfl⟩) | (apply JE.done2; exact rfl; (first | (apply Res.tmp; exact rfl) | (apply Res.cell; exact rfl; (repeat (first | exact Pick.here | apply Pick.there)); exact rfl) | (apply Res.cellAN; exact rfl; (repeat (first | exact Pick.here | apply Pick.there)); exact rfl; exact rfl) | (apply Res.cellA; exact rfl; (repeat (first | exact Pick.here | apply Pick.there)); exact rfl; exact rfl)); (first | (apply Res.tmp; exact rfl) | (apply Res.cell; exact rfl; (repeat (first | exact Pick.here | apply Pick.there)); exact rfl) | (apply Res.cellAN; exact rfl; (repeat (first | exact Pick.here | apply Pick.there)); exact rfl; exact rfl) | (apply Res.cellA; exact rfl; (repeat (first | exact Pick.here | apply Pick.there)); exact rfl; exact rfl))))
    exact finU0 (l' := diskHP d D :: F) (by repeat (first | exact Weak.refl | (apply Weak.cons; (first | exact Pick.here | exact Pick.there Pick.here | exact Pick.there (Pick.there Pick.here) | exact Pick.there (Pick.there (Pick.there Pick.here)) | exact Pick.there (Pick.there (Pick.there (Pick.there Pick.here))) | exact Pick.there (Pick.there (Pick.there (Pick.there (Pick.there Pick.here)))) | exact Pick.there (Pick.there (Pick.there (Pick.there (Pick.there (Pick.there Pick.here))))) | exact Pick.there (Pick.there (Pick.there (Pick.there (Pick.there (Pick.there (Pick.there Pick.here)))))))) | apply Weak.drop)) ⟨_, rfl, rfl⟩
end Go.Sep
/- slot: each call, where what it answers is known. -/
namespace Go.Sep
open Go Go.Proofs
attribute [local irreducible] JO JC JE JA JQ JB JI Mid Inv Weak ownS Ru Do Fn Sat Pick Take arr pt star ex Holds bodyPost Post Exit.then Exit.inBlock Res
variable {σ : Sig} {F : List HP}
attribute [local irreducible] diskHP cacheHP planHP rowHP
theorem slot_ReadE {d : Nat} {D D' : DiskN} {which e f s er st why sq : Int} {img : List UInt8} (h : readR D which e f s = (er, D', ⟨st, why, sq, img⟩)) (hD : D.WF) (ho : D.ops ≤ 100000000000) [hg : InG F] :
    Fn Tryd.prog σ 11 #[.pointer (some ⟨d, 0, none⟩), int which, geoV e f s] (diskHP d D :: F)
      (fun v l' => ∃ u, v = .tuple #[.agg #[int st, int why, u64 sq, u], int er] ∧ l' = bytesHP u img :: diskHP d D' :: F) := by
  have := slot_Read (σ := σ) (F := F) d D which e f s hD ho
  rw [h] at this; exact this
theorem slot_WipeE {d : Nat} {D D' : DiskN} {which e f s er : Int} (h : wipeR D which e f s = (er, D')) (hD : D.WF) (ho : D.ops ≤ 1000000000000) (hw : D.writes ≤ 1000000000000) [hg : InG F] :
    Fn Tryd.prog σ 14 #[.pointer (some ⟨d, 0, none⟩), int which, geoV e f s] (diskHP d D :: F) (fun v l' => v = int er ∧ l' = diskHP d D' :: F) := by
  have := slot_WipeR (σ := σ) (F := F) d D which e f s hD ho hw
  rw [h] at this; exact this
theorem slot_SealE {d : Nat} {D D' : DiskN} {which e f s q er : Int} {v : Value} {bs : List UInt8} (h : sealR D which e f s q bs = (er, D')) (hq0 : 0 ≤ q) (hbl : bs.length ≤ 100000000) (hD : D.WF) (ho : D.ops ≤ 1000000000000) (hw : D.writes ≤ 1000000000000) {l : List HP} [hg : InG l] (hb : RdS σ l v (bs.map byte)) :
    Fn Tryd.prog σ 12 #[.pointer (some ⟨d, 0, none⟩), int which, geoV e f s, u64 q, v] (diskHP d D :: l) (fun r l' => r = int er ∧ l' = diskHP d D' :: l) := by
  have := slot_SealR (σ := σ) d D which e f s q v bs hq0 hbl hD ho hw hb
  rw [h] at this; exact this
theorem slot_DataE {d : Nat} {D D' : DiskN} {which e f s er : Int} {v : Value} {bs : List UInt8} (h : dataR D which e f s bs = (er, D')) (hbl : bs.length ≤ 100000000) (hD : D.WF) (ho : D.ops ≤ 100000000000) (hw : D.writes ≤ 100000000000) {l : List HP} [hg : InG l] (hb : RdS σ l v (bs.map byte)) :
    Fn Tryd.prog σ 10 #[.pointer (some ⟨d, 0, none⟩), int which, geoV e f s, v] (diskHP d D :: l) (fun r l' => r = int er ∧ l' = diskHP d D' :: l) := by
  have := slot_Data (σ := σ) d D which e f s v bs hbl hD ho hw hb
  rw [h] at this; exact this
end Go.Sep
/- A slot's calls on a disk on which nothing fails: no program in sight. -/
namespace Go.Sep
open Go Go.Proofs

structure Okd (D : DiskN) (z k : Nat) : Prop where
  wf : D.WF
  size : D.size = z
  count : D.count = k
  plan : D.planned = []
theorem Okd.failing {D : DiskN} {z k : Nat} (h : Okd D z k) : D.failing = false := by simp [DiskN.failing, h.plan]
theorem Okd.tick {D : DiskN} {z k : Nat} (h : Okd D z k) : Okd D.tick z k := ⟨h.wf.tick, h.size, h.count, h.plan⟩
theorem Okd.ticks {D : DiskN} {z k : Nat} (h : Okd D z k) (n : Nat) : Okd (D.ticks n) z k := ⟨h.wf.ticks n, h.size, h.count, h.plan⟩
theorem Okd.put {D : DiskN} {z k : Nat} (h : Okd D z k) {i : Nat} {bs : List UInt8} (hi : i < k) (hb : bs.length = z) : Okd (D.put (i : Int) bs) z k :=
  ⟨h.wf.put (by omega) (by rw [h.count]; omega) (by rw [h.size]; exact hb), h.size, h.count, h.plan⟩
theorem Okd.sync {D : DiskN} {z k : Nat} (h : Okd D z k) : Okd D.sync z k := by
  obtain ⟨a, b, c⟩ := sync_wf h.wf
  exact ⟨a, b.trans h.size, c.trans h.count, (settled_rest h.wf _).2.2.trans h.plan⟩
theorem Okd.readE {D : DiskN} {z k : Nat} (h : Okd D z k) {i : Nat} (hi : i < k) : D.readE (i : Int) = 0 := by
  unfold DiskN.readE
  rw [if_neg (by rw [h.failing]; decide), if_neg (by rw [h.count]; omega)]
theorem Okd.writeE {D : DiskN} {z k : Nat} (h : Okd D z k) {i : Nat} (hi : i < k) : D.writeE (i : Int) z = 0 := by
  unfold DiskN.writeE
  rw [if_neg (by rw [h.failing]; decide), if_neg (by omega), if_neg (by rw [h.count]; omega), if_neg (by rw [h.size]; simp)]
theorem freshN_ok {k z : Nat} (hk : k ≤ 4096) (hz : 1 ≤ z) (hz2 : z ≤ 4096) : Okd (freshN k z) z k := by
  have hl : (freshN k z).data.length = k * z := List.length_replicate
  have hc : (freshN k z).count = k := by unfold DiskN.count; rw [hl]; exact Nat.mul_div_cancel _ hz
  refine ⟨⟨hz, hz2, by rw [hl, hc]; rfl, by rw [hc]; exact hk, by intro p hp; simp [freshN] at hp, by simp [freshN], by simp [freshN]⟩, rfl, hc, rfl⟩
theorem fresh_cur {k z i : Nat} (hi : i < k) : (freshN k z).cur i = List.replicate z 0 := by
  have h2 : (i + 1) * z ≤ k * z := Nat.mul_le_mul_right _ hi
  rw [Nat.succ_mul] at h2
  show ((List.replicate (k * z) (0 : UInt8)).drop (i * z)).take z = _
  rw [List.drop_replicate, List.take_replicate]
  congr 1
  omega

/-- A slot that there is: which of the two, the sector's size, the slot's first sector, how many follow. -/
structure Here (z k : Nat) (which : Int) (e f s : Int) (fst many : Nat) : Prop where
  hright : rightG e f s = true
  hwhich : which = 0 ∨ which = 1
  hsize : 32 ≤ z ∧ z ≤ 4096
  hspan : spanG z e f s = 1 + (many : Int)
  hsecs : secs (totG e f s) z = (many : Int)
  hfirst : (fst : Int) = which * spanG z e f s
  hroom : 2 * spanG z e f s ≤ (k : Int)
theorem Here.of {z k : Nat} {which e f s : Int} (h1 : rightG e f s = true) (h2 : which = 0 ∨ which = 1) (h3 : 32 ≤ z ∧ z ≤ 4096) (h4 : 2 * spanG z e f s ≤ (k : Int)) :
    Here z k which e f s (which * spanG z e f s).toNat (secs (totG e f s) z).toNat := by
  have ht := totG_bd e f s
  have hs := secs_bd (m := totG e f s) (s := (z : Int)) ht.1
  have hsp : spanG z e f s = 1 + secs (totG e f s) z := by unfold spanG; rw [if_pos ⟨h1, by omega, by omega⟩]
  refine ⟨h1, h2, h3, by rw [hsp]; omega, by omega, ?_, h4⟩
  have : 0 ≤ which * spanG z e f s := by
    rcases h2 with rfl | rfl <;> omega
  omega
section
variable {D : DiskN} {z k fst many : Nat} {which e f s : Int}
theorem Here.lt (h : Here z k which e f s fst many) {j : Nat} (hj : j ≤ many) : fst + j < k := by
  have h1 := h.hspan; have h2 := h.hfirst; have h3 := h.hroom
  rcases h.hwhich with w | w <;> rw [w] at h2 <;> omega
theorem Here.atE (h : Here z k which e f s fst many) (hz : D.size = z) (hk : D.count = k) : atE D which e f s = 0 := by
  have h3 := h.hroom; have h4 := h.hsize
  unfold Go.Sep.atE
  rw [if_neg (by rw [h.hright]; simp), if_neg, if_neg]
  · rw [hk, hz]; omega
  · rw [hz]
    rcases h.hwhich with w | w <;> omega
theorem Here.firstOf (h : Here z k which e f s fst many) (hz : D.size = z) : firstOf D which e f s = (fst : Int) := by
  unfold Go.Sep.firstOf; rw [hz, h.hfirst]
theorem Here.manyOf (h : Here z k which e f s fst many) (hz : D.size = z) : manyOf D e f s = many := by
  unfold Go.Sep.manyOf; rw [hz, h.hspan]; omega
theorem Here.room' (h : Here z k which e f s fst many) : totG e f s ≤ (many : Int) * z := by
  have ht := totG_bd e f s
  have h1 := h.hsize
  have := (secs_room (m := totG e f s) (z := (z : Int)) ht.1 (by omega) (by omega)).2
  rw [h.hsecs] at this
  exact this

/-! ### Data -/
theorem dataGo_ok : ∀ (ps : List (List UInt8)) (D : DiskN) (i : Nat), Okd D z k → (∀ x ∈ ps, x.length = z) → fst + 1 + i + ps.length ≤ k →
    (dataGo (fst : Int) i D ps).1 = 0 ∧ Okd (dataGo (fst : Int) i D ps).2 z k ∧ (dataGo (fst : Int) i D ps).2.ops = D.ops + ps.length ∧ (dataGo (fst : Int) i D ps).2.writes = D.writes + ps.length ∧
      ∀ j, (dataGo (fst : Int) i D ps).2.cur j = if fst + 1 + i ≤ j ∧ j < fst + 1 + i + ps.length then ps.getD (j - (fst + 1 + i)) [] else D.cur j
  | [], D, i, h, _, _ => by
    refine ⟨rfl, h, rfl, rfl, fun j => ?_⟩
    rw [if_neg (by simp only [List.length_nil]; omega)]; rfl
  | x :: r, D, i, h, hx, hr => by
    have hxl := hx x List.mem_cons_self
    have hlt : fst + (1 + i) < k := by rw [List.length_cons] at hr; omega
    have e0 : (fst : Int) + (1 + (i : Int)) = ((fst + (1 + i) : Nat) : Int) := by omega
    have hw : D.writeE ((fst : Int) + (1 + (i : Int))) x.length = 0 := by rw [e0, hxl]; exact h.writeE hlt
    have e1 : dataGo (fst : Int) i D (x :: r) = dataGo (fst : Int) (i + 1) (D.put ((fst + (1 + i) : Nat) : Int) x) r := by
      rw [dataGo, if_neg (by rw [hw]; simp), e0]
    have hp := h.put (bs := x) hlt hxl
    obtain ⟨a1, a2, a3, a4, a5⟩ := dataGo_ok r (D.put ((fst + (1 + i) : Nat) : Int) x) (i + 1) hp (fun y hy => hx y (List.mem_cons_of_mem _ hy)) (by rw [List.length_cons] at hr; omega)
    rw [e1]
    refine ⟨a1, a2, by rw [a3, List.length_cons]; show D.ops + 1 + _ = _; omega, by rw [a4, List.length_cons]; show D.writes + 1 + _ = _; omega, fun j => ?_⟩
    rw [a5 j, List.length_cons]
    by_cases c1 : j = fst + (1 + i)
    · subst c1
      rw [if_neg (by omega), if_pos (by omega), cur_put, if_pos rfl]
      have : fst + (1 + i) - (fst + 1 + i) = 0 := by omega
      rw [this]; rfl
    · by_cases c2 : fst + 1 + (i + 1) ≤ j ∧ j < fst + 1 + (i + 1) + r.length
      · rw [if_pos c2, if_pos (by omega)]
        have : j - (fst + 1 + i) = (j - (fst + 1 + (i + 1))) + 1 := by omega
        rw [this, List.getD_cons_succ]
      · rw [if_neg c2, if_neg (by omega), cur_put, if_neg c1]
/-- The sectors of a slot's image. -/
def ImgIs (D : DiskN) (fst many : Nat) (bs : List UInt8) : Prop := ∀ j, j < many → D.cur (fst + 1 + j) = (pieces bs D.size many).getD j []
theorem data_ok (hh : Here z k which e f s fst many) (h : Okd D z k) {bs : List UInt8} (hb : (bs.length : Int) = totG e f s) :
    (dataR D which e f s bs).1 = 0 ∧ Okd (dataR D which e f s bs).2 z k ∧ (dataR D which e f s bs).2.ops = D.ops + many ∧ (dataR D which e f s bs).2.writes = D.writes + many ∧ ImgIs (dataR D which e f s bs).2 fst many bs ∧
      ∀ j, ¬ (fst + 1 ≤ j ∧ j < fst + 1 + many) → (dataR D which e f s bs).2.cur j = D.cur j := by
  have hn : (secs bs.length D.size).toNat = many := by rw [hb, h.size, hh.hsecs]; omega
  have e0 : dataR D which e f s bs = dataGo (fst : Int) 0 D (pieces bs z many) := by
    unfold dataR
    rw [if_neg (by rw [hh.atE h.size h.count]; simp), if_neg (by rw [hb]; simp), hh.firstOf h.size, hn, h.size]
  have hroom : bs.length ≤ many * z := by
    have := hh.room'
    rw [← hb, ← Int.natCast_mul] at this
    omega
  have hlt := hh.lt (Nat.le_refl many)
  obtain ⟨a1, a2, a3, a4, a5⟩ := dataGo_ok (fst := fst) (pieces bs z many) D 0 h (pieces_each hroom) (by rw [pieces_length]; omega)
  rw [pieces_length] at a3 a4 a5
  rw [e0]
  refine ⟨a1, a2, a3, a4, fun j hj => ?_, fun j hj => ?_⟩
  · rw [a5, if_pos (by omega), a2.size]
    congr 1; omega
  · rw [a5, if_neg (by omega)]

/-! ### Seal, Wipe -/
theorem seal_ok (hh : Here z k which e f s fst many) (h : Okd D z k) {bs : List UInt8} (hb : (bs.length : Int) = totG e f s) (q : Int) :
    sealR D which e f s q bs = (0, D.put (fst : Int) (padB (enc (sealHead bs e f s q)) z)) := by
  unfold sealR
  rw [if_neg (by rw [hh.atE h.size h.count]; simp), if_neg (by rw [hb]; simp), hh.firstOf h.size, h.size, if_neg]
  rw [h.writeE (by have := hh.lt (j := 0) (by omega); omega)]; simp
theorem wipe_ok (hh : Here z k which e f s fst many) (h : Okd D z k) : wipeR D which e f s = (0, D.put (fst : Int) (padB [] z)) := by
  unfold wipeR
  rw [if_neg (by rw [hh.atE h.size h.count]; simp), hh.firstOf h.size, h.size, if_neg]
  rw [h.writeE (by have := hh.lt (j := 0) (by omega); omega)]; simp

/-! ### Read -/
theorem body_of (hh : Here z k which e f s fst many) (hz : D.size = z) {bs : List UInt8} (hb : (bs.length : Int) = totG e f s) (hi : ImgIs D fst many bs) : D.body (fst : Int) many = padB bs (many * z) := by
  have hroom : bs.length ≤ many * z := by
    have := hh.room'
    rw [← hb, ← Int.natCast_mul] at this
    omega
  rw [← pieces_flat hroom]
  unfold DiskN.body DiskN.rows
  rw [List.map_map]
  congr 1
  apply List.ext_getElem
  · simp [pieces]
  · intro j h1 h2
    rw [List.length_map, List.length_range] at h1
    have e1 : ((fst : Int) + (1 + (j : Int))).toNat = fst + 1 + j := by omega
    simp only [List.getElem_map, List.getElem_range, Function.comp, e1]
    rw [hi j h1, hz, List.getD_eq_getElem?_getD, List.getElem?_eq_getElem h2]; rfl
theorem read_magic (hh : Here z k which e f s fst many) (h : Okd D z k) (hc : D.cur fst = padB [] z) : readR D which e f s = (0, D.tick, ⟨0, 6, 0, []⟩) := by
  have hl := hh.lt (j := 0) (by omega)
  have hd := dec_zero (m := z) (by have := hh.hsize; omega)
  unfold readR
  rw [if_neg (by rw [hh.atE h.size h.count]; simp), hh.firstOf h.size, if_neg (by rw [h.readE (by omega)]; simp), Int.toNat_natCast, hc, hd, if_pos (by decide)]
theorem read_good (hh : Here z k which e f s fst many) (h : Okd D z k) {bs : List UInt8} {q : Int} (hq : 0 ≤ q ∧ q < 18446744073709551616) (hb : (bs.length : Int) = totG e f s)
    (hc : D.cur fst = padB (enc (sealHead bs e f s q)) z) (hi : ImgIs D fst many bs) : readR D which e f s = (0, D.ticks (1 + many), ⟨2, 0, q, bs⟩) := by
  have hl := hh.lt (j := 0) (by omega)
  have hsz := hh.hsize
  have hcs := crcSum_bd bs
  have hright : (sealHead bs e f s q).right = true := by simp [HeadN.right, sealHead, hh.hright, hb]
  obtain ⟨d1, d2⟩ := dec_enc hright hq hcs (m := z) (by omega)
  have hbody := body_of hh h.size hb hi
  have hroom : bs.length ≤ many * z := by
    have := hh.room'
    rw [← hb, ← Int.natCast_mul] at this
    omega
  have hbad : badK D.tick (fst : Int) many = none := badK_none fun j hj => by
    have := hh.lt (j := 1 + j) (by omega)
    have e1 : (fst : Int) + (1 + (j : Int)) = ((fst + (1 + j) : Nat) : Int) := by omega
    unfold bodyE
    rw [e1]
    exact (h.tick.ticks j).readE this
  unfold readR
  rw [if_neg (by rw [hh.atE h.size h.count]; simp), hh.firstOf h.size, if_neg (by rw [h.readE (by omega)]; simp), Int.toNat_natCast, hc, d1, d2, if_neg (by simp), if_pos ⟨rfl, rfl, rfl⟩, hh.manyOf h.size]
  unfold bodyR
  rw [hbad]
  have hb2 : D.tick.body (fst : Int) many = padB bs (many * z) := hbody
  have hlen : (sealHead bs e f s q).len = (bs.length : Int) := rfl
  have hsum : (sealHead bs e f s q).sum = crcSum bs := rfl
  have hsq : (sealHead bs e f s q).seq = q := rfl
  dsimp only
  rw [hb2, hlen, hsum, hsq, padB_length hroom, if_pos ⟨by omega, by omega⟩, Int.toNat_natCast, padB_take, if_pos rfl]
  show (_, ({ D with ops := D.ops + 1 + many } : DiskN), _) = (_, ({ D with ops := D.ops + (1 + many) } : DiskN), _)
  rw [Nat.add_assoc]
theorem ImgIs.of_cur {bs : List UInt8} {D' : DiskN} (h : ImgIs D fst many bs) (hs : D'.size = D.size) (hc : ∀ j, j < many → D'.cur (fst + 1 + j) = D.cur (fst + 1 + j)) : ImgIs D' fst many bs := fun j hj => by rw [hc j hj, h j hj, hs]
end
end Go.Sep
/- What a crash leaves: no program in sight. -/
namespace Go.Sep
open Go Go.Proofs

structure TearN where
  kind : Int
  bytes : List UInt8
def TearN.zero : TearN := ⟨0, []⟩
/-- A sector of so many bytes, out of any. -/
def fit (bs : List UInt8) (m : Nat) : List UInt8 := padB (bs.take m) m
theorem fit_length (bs : List UInt8) (m : Nat) : (fit bs m).length = m := padB_length (by rw [List.length_take]; omega)
def DiskN.tear (D : DiskN) (i : Int) (t : TearN) : DiskN :=
  { D with
    data := if t.kind = 1 then setSec D.data D.size i.toNat (D.cur i.toNat) else if t.kind = 2 then setSec D.data D.size i.toNat (fit t.bytes D.size) else D.data
    cached := delI D.cached i }
def tornGo : Nat → List Int → List TearN → DiskN → DiskN
  | _, [], _, D => D
  | j, i :: r, ts, D => tornGo (j + 1) r ts (D.tear i (ts.getD j .zero))
/-- The first j of the sectors that are cached are torn. -/
def torn (D : DiskN) (ts : List TearN) (j : Nat) : DiskN := ((D.keys.take j).zipIdx).foldl (fun E p => E.tear p.1 (ts.getD p.2 .zero)) D
theorem torn_succ {D : DiskN} {ts : List TearN} {j : Nat} {i : Int} (h : D.keys[j]? = some i) : torn D ts (j + 1) = (torn D ts j).tear i (ts.getD j .zero) := by
  have hj : j < D.keys.length := by
    rcases Nat.lt_or_ge j D.keys.length with q | q
    · exact q
    · rw [List.getElem?_eq_none q] at h; cases h
  unfold torn
  rw [List.take_add_one, h, List.zipIdx_append, List.foldl_append]
  have : (D.keys.take j).length = j := by rw [List.length_take]; omega
  simp [this]
section
variable {D : DiskN}
theorem tear_wf (h : D.WF) {i : Nat} (hi : i < D.count) (t : TearN) : (D.tear (i : Int) t).WF ∧ (D.tear (i : Int) t).size = D.size ∧ (D.tear (i : Int) t).count = D.count := by
  have hr := h.room hi
  rw [Nat.succ_mul] at hr
  have hl : (D.tear (i : Int) t).data.length = D.data.length := by
    unfold DiskN.tear
    dsimp only
    rw [Int.toNat_natCast]
    split
    · exact setSec_length (by rw [h.cur hi]; omega)
    · split
      · exact setSec_length (by rw [fit_length]; omega)
      · rfl
  have hc : (D.tear (i : Int) t).count = D.count := by
    unfold DiskN.count
    rw [hl]; rfl
  refine ⟨⟨h.hz, h.hz2, by rw [hc, hl]; exact h.len, by rw [hc]; exact h.cnt, fun p hp => ?_, List.Nodup.sublist ((delI_sub _ _).map _) h.nodup, Nat.le_trans (delI_len _ _) h.few⟩, rfl, hc⟩
  have := h.cach p ((delI_sub _ _).mem hp)
  rw [hc]; exact this
theorem tear_rest (i : Int) (t : TearN) : (D.tear i t).ops = D.ops ∧ (D.tear i t).writes = D.writes ∧ (D.tear i t).planned = D.planned := ⟨rfl, rfl, rfl⟩
theorem tear_look (h : D.WF) (i j : Int) (t : TearN) : lookI (D.tear i t).cached j = if j = i then none else lookI D.cached j := lookI_delI _ _ _ h.nodup
/-- What lasts of a sector. -/
def leftOf (t : TearN) (size : Nat) (old next : List UInt8) : List UInt8 := if t.kind = 1 then next else if t.kind = 2 then fit t.bytes size else old
theorem tear_sector (h : D.WF) {i j : Nat} (hi : i < D.count) (hj : j < D.count) (t : TearN) : (D.tear (i : Int) t).sector j = if j = i then leftOf t D.size (D.sector i) (D.cur i) else D.sector j := by
  unfold DiskN.tear DiskN.sector leftOf
  dsimp only
  rw [Int.toNat_natCast]
  by_cases c1 : t.kind = 1
  · rw [if_pos c1, if_pos c1, sec_set (h.cur hi) (h.room hi) (h.room hj)]
  · rw [if_neg c1, if_neg c1]
    by_cases c2 : t.kind = 2
    · rw [if_pos c2, if_pos c2, sec_set (fit_length _ _) (h.room hi) (h.room hj)]
    · rw [if_neg c2, if_neg c2]
      by_cases e : j = i
      · subst e; rw [if_pos rfl]
      · rw [if_neg e]
theorem torn_facts (h : D.WF) (ts : List TearN) : ∀ n, n ≤ D.keys.length → (torn D ts n).WF ∧ (torn D ts n).size = D.size ∧ (torn D ts n).count = D.count ∧ (torn D ts n).ops = D.ops ∧ (torn D ts n).writes = D.writes ∧ (torn D ts n).planned = D.planned ∧
    ∀ j : Int, lookI (torn D ts n).cached j = if j ∈ D.keys.take n then none else lookI D.cached j
  | 0, _ => ⟨h, rfl, rfl, rfl, rfl, rfl, fun j => by simp [torn]⟩
  | n + 1, hn => by
    obtain ⟨a1, a2, a3, a4, a5, a6, a7⟩ := torn_facts h ts n (by omega)
    obtain ⟨i, hi⟩ : ∃ i, D.keys[n]? = some i := ⟨_, List.getElem?_eq_getElem (by omega)⟩
    obtain ⟨h0, h1⟩ := keys_range h hi
    obtain ⟨m, rfl⟩ := Int.eq_ofNat_of_zero_le h0
    have hm : m < (torn D ts n).count := by rw [a3]; omega
    obtain ⟨b1, b2, b3⟩ := tear_wf a1 hm (ts.getD n .zero)
    rw [torn_succ hi]
    refine ⟨b1, b2.trans a2, b3.trans a3, a4, a5, a6, fun j => ?_⟩
    rw [tear_look a1, a7, List.take_add_one, hi]
    by_cases e : j = (m : Int)
    · subst e; simp
    · simp [e]
def DiskN.crash (D : DiskN) (ts : List TearN) : DiskN := torn D ts D.keys.length
theorem crash_facts (h : D.WF) (ts : List TearN) : (D.crash ts).WF ∧ (D.crash ts).size = D.size ∧ (D.crash ts).count = D.count ∧ (D.crash ts).ops = D.ops ∧ (D.crash ts).writes = D.writes ∧ (D.crash ts).planned = D.planned ∧ (D.crash ts).cached = [] := by
  obtain ⟨a1, a2, a3, a4, a5, a6, a7⟩ := torn_facts h ts D.keys.length (Nat.le_refl _)
  refine ⟨a1, a2, a3, a4, a5, a6, look_none fun j => ?_⟩
  unfold DiskN.crash
  rw [a7, List.take_of_length_le (Nat.le_refl _)]
  split
  · rfl
  · rename_i hj
    rw [mem_keys] at hj
    exact lookI_none_of hj
/-- What isn't cached stays as it is. -/
theorem torn_sector (h : D.WF) (ts : List TearN) {j : Nat} (hj : j < D.count) : ∀ n, n ≤ D.keys.length → (j : Int) ∉ D.keys.take n → (torn D ts n).sector j = D.sector j
  | 0, _, _ => rfl
  | n + 1, hn, hk => by
    obtain ⟨a1, a2, a3, _⟩ := torn_facts h ts n (by omega)
    obtain ⟨i, hi⟩ : ∃ i, D.keys[n]? = some i := ⟨_, List.getElem?_eq_getElem (by omega)⟩
    obtain ⟨h0, h1⟩ := keys_range h hi
    obtain ⟨m, rfl⟩ := Int.eq_ofNat_of_zero_le h0
    rw [List.take_add_one, hi] at hk
    simp only [List.mem_append, Option.toList_some, List.mem_singleton, not_or] at hk
    rw [torn_succ hi, tear_sector a1 (by rw [a3]; omega) (by rw [a3]; exact hj), if_neg (by omega)]
    exact torn_sector h ts hj n (by omega) hk.1
theorem crash_sector (h : D.WF) (ts : List TearN) {j : Nat} (hj : j < D.count) (hk : lookI D.cached (j : Int) = none) : (D.crash ts).sector j = D.sector j := by
  refine torn_sector h ts hj _ (Nat.le_refl _) ?_
  rw [List.take_of_length_le (Nat.le_refl _), mem_keys]
  intro hm
  obtain ⟨v, hv⟩ := lookI_some_of hm
  rw [hk] at hv; cases hv
theorem crash_cur (h : D.WF) (ts : List TearN) {j : Nat} (hj : j < D.count) (hk : lookI D.cached (j : Int) = none) : (D.crash ts).cur j = D.cur j := by
  unfold DiskN.cur
  rw [(crash_facts h ts).2.2.2.2.2.2, hk]
  exact crash_sector h ts hj hk
end
end Go.Sep
/- The disk: crashed. -/
namespace Go.Sep
open Go Go.Proofs
attribute [local irreducible] JO JC JE JA JQ JB JI Mid Inv Weak ownS Ru Do Fn Sat Pick Take arr pt star ex Holds bodyPost Post Exit.then Exit.inBlock Res
variable {σ : Sig} {F : List HP}
/-- The tears that a slice reads as. -/
def RdT (σ : Sig) (l : List HP) (v : Value) (ts : List TearN) : Prop :=
  ∃ p cap, v = .slice p ts.length cap ∧ ts.length ≤ cap ∧ (ts = [] ∨ ∃ b o, p = some ⟨b, o, none⟩ ∧ ∀ (i : Nat) (t : TearN), ts[i]? = some t → ∃ q c, t.bytes.length ≤ c ∧
    (∀ w, Sat σ w l → ∀ j u, ([int t.kind, .slice q t.bytes.length c] : List Value)[j]? = some u → w.cell? ⟨b, o + (i : Int).toNat * 2 + j, none⟩ = some u) ∧ RdS σ l (.slice q t.bytes.length c) (t.bytes.map byte))
theorem keys_nodup {D : DiskN} (h : D.WF) : D.keys.Nodup := (List.mergeSort_perm _ _).nodup_iff.2 h.nodup
theorem not_take {α : Type} {l : List α} (h : l.Nodup) {j : Nat} {k : α} (hk : l[j]? = some k) : k ∉ l.take j := by
  intro hm
  obtain ⟨h1, h2⟩ := List.getElem?_eq_some_iff.1 hk
  have e : l = l.take j ++ l.drop j := (List.take_append_drop j l).symm
  rw [e, List.nodup_append] at h
  exact h.2.2 k hm k (by rw [List.drop_eq_getElem_cons h1, h2]; exact List.mem_cons_self) rfl
theorem torn_cached {D : DiskN} (h : D.WF) (ts : List TearN) {j : Nat} {k : Int} (hk : D.keys[j]? = some k) : ∃ bs, lookI (torn D ts j).cached k = some bs := by
  have hj : j < D.keys.length := (List.getElem?_eq_some_iff.1 hk).1
  obtain ⟨_, _, _, _, _, _, a7⟩ := torn_facts h ts j (by omega)
  rw [a7, if_neg (not_take (keys_nodup h) hk)]
  exact lookI_some_of (mem_keys.1 (List.mem_of_getElem? hk))
theorem splice_bytes {data ys : List UInt8} {spare : List Value} {o : Nat} (h : o + ys.length ≤ data.length) : splice (data.map byte ++ spare) o (ys.map byte) = (data.take o ++ ys ++ data.drop (o + ys.length)).map byte ++ spare := by
  rw [splice_at _ _ _ (by simp only [List.length_append, List.length_map]; omega)]
  have e1 : o ≤ (data.map byte).length := by rw [List.length_map]; omega
  rw [List.take_append_of_le_length e1, List.drop_append_of_le_length (by simp only [List.length_map]; omega)]
  simp
theorem splice_sec {data bs : List UInt8} {spare : List Value} {size i : Nat} (h : i * size + bs.length ≤ data.length) : splice (data.map byte ++ spare) (i * size) (bs.map byte) = (setSec data size i bs).map byte ++ spare := splice_bytes h
theorem cut_three {T Z R : List UInt8} {a n : Nat} (hT : T.length = a) (hn : n ≤ Z.length) : (T ++ Z ++ R).take a = T ∧ (T ++ Z ++ R).drop (a + n) = Z.drop n ++ R := by
  subst hT
  refine ⟨by rw [List.append_assoc, List.take_left], ?_⟩
  rw [List.append_assoc, ← List.drop_drop, List.drop_left, List.drop_append_of_le_length hn]
theorem set_fit {data bs : List UInt8} {size i : Nat} (h : i * size + size ≤ data.length) :
    (setSec data size i (List.replicate size 0)).take (i * size) ++ bs.take size ++ (setSec data size i (List.replicate size 0)).drop (i * size + (bs.take size).length) = setSec data size i (fit bs size) := by
  have hl : (data.take (i * size)).length = i * size := by rw [List.length_take]; omega
  have hf := fit_length bs size
  have hm : (bs.take size).length ≤ size := by rw [List.length_take]; omega
  unfold setSec
  obtain ⟨e1, e2⟩ := cut_three (R := data.drop (i * size + (List.replicate size (0 : UInt8)).length)) hl (Z := List.replicate size 0) (n := (bs.take size).length) (by rw [List.length_replicate]; exact hm)
  rw [e1, e2, hf, List.drop_replicate]
  unfold fit padB
  simp only [List.length_replicate, List.append_assoc]
attribute [local irreducible] diskHP cacheHP planHP rowHP
set_option maxHeartbeats 4000000 in
theorem disk_Crash (d : Nat) (D : DiskN) (v : Value) (ts : List TearN) (hD : D.WF) (hw : D.writes ≤ 1000000) (hts : ts.length ≤ 1000000) (htb : ∀ t ∈ ts, t.bytes.length ≤ 1000000) {l : List HP} (hv : RdT σ l v ts) :
    Fn Tryd.prog σ 19 #[.pointer (some ⟨d, 0, none⟩), v] (diskHP d D :: l) (fun r l' => r = .tuple #[] ∧ l' = diskHP d (D.crash ts) :: l) := by
  obtain ⟨pv, cv, rfl, hcv, hrv⟩ := hv
  have hfew : D.cached.length ≤ 1000000 := Nat.le_trans hD.few hw
  have hkl := D.keys_length
  refine Fn.of Tryd.func19 rfl Tryd.ntmps19 rfl ?_
  repeat' (first | (first | (apply JO.ru; exact rfl; exact rfl; exact rfl; ((apply Ru.move; exact rfl))) | refine JC.seq ?_ | refine JC.region ?_) | (apply JO.do; exact rfl; exact rfl; exact rfl; (apply Do.call; exact rfl; exact disk_Unsynced d D hD hw); rintro v _ rfl))
  refine JO.ownR Pick.here fun _ _ hsh => ?_
  obtain ⟨p, c, rfl, hp⟩ : ∃ p c, v = .slice p D.keys.length c ∧ (p = none ∧ D.keys.length = 0 ∨ ∃ b, p = some ⟨b, 0, none⟩) := by
    rcases hsh with ⟨rfl, h⟩ | ⟨b, c, rfl, _⟩
    · exact ⟨none, 0, by rw [h], .inl ⟨rfl, h⟩⟩
    · exact ⟨_, c, rfl, .inr ⟨b, rfl⟩⟩
  clear hsh
  repeat' (first | (apply JO.ru; exact rfl; exact rfl; exact rfl; (first | (apply Ru.move; exact rfl) | (apply Ru.lenS; exact rfl))) | refine JO.nil ?_ | refine JE.thenN ?_ | refine JC.block ?_)
  refine JC.loop (fun j : Nat => [(0, .pointer (some ⟨d, 0, none⟩)), (1, .slice pv ts.length cv), (8, .slice p D.keys.length c), (9, int D.keys.length), (10, int j)]) (fun j => ownS (.slice p D.keys.length c) 3 1 D.keys.length (D.keys.map int) :: diskHP d (torn D ts j) :: l) (fun j => j ≤ D.keys.length) (fun j => D.keys.length - j) 0 (Nat.zero_le _) ⟨rfl, rfl, rfl, rfl, rfl, trivial⟩ (fun _ h => h) ?_
  intro j hj
  repeat' (first | (apply JO.ru; exact rfl; exact rfl; exact rfl; ((apply Ru.move; exact rfl))) | refine JC.seq ?_ | refine JC.region ?_ | refine JO.nil ?_ | refine JE.thenN ?_ | refine JE.thenE ?_ | refine JE.blockE ?_ | refine JC.block ?_ | refine JC.skip ?_ | refine JC.exit ?_ | refine JC.condT rfl ?_ | refine JC.condF rfl ?_ | (apply JO.split; exact rfl; exact rfl; exact rfl; ((apply Ru.lss; exact rfl; exact rfl; exact rfl)); all_goals intro _))
  · rename_i hlt
    obtain ⟨k, hk⟩ : ∃ k, D.keys[j]? = some k := ⟨_, List.getElem?_eq_getElem (by omega)⟩
    obtain ⟨hr0, hr1⟩ := keys_range hD hk
    obtain ⟨i, rfl⟩ := Int.eq_ofNat_of_zero_le hr0
    obtain ⟨b0, rfl⟩ : ∃ b, p = some ⟨b, 0, none⟩ := by
      rcases hp with ⟨_, h⟩ | h
      · omega
      · exact h
    refine JO.ownR Pick.here fun hrd _ _ => ?_
    obtain ⟨p', cap', e, _, hr2⟩ := hrd
    injection e with e1 e2 e3
    subst e1; clear e2 e3
    rcases hr2 with h | ⟨b', o', e4, hc⟩
    · have := congrArg List.length h
      rw [List.length_map, List.length_nil] at this
      omega
    cases e4
    repeat' ((apply JO.ru; exact rfl; exact rfl; exact rfl; ((apply Ru.indexAddr; exact rfl; exact rfl; omega; omega))))
    (apply JO.ru; exact rfl; exact rfl; exact rfl; (apply Ru.loadC; exact rfl; exact rd_row (i := j) (u := int i) hc (by rw [List.getElem?_map, hk]; rfl) _ (by simp)))
    iterate 12 (first | (apply JO.ru; exact rfl; exact rfl; exact rfl; (first | (apply Ru.assign; exact rfl) | (apply Ru.buildN; exact rfl; exact rfl))) | refine JC.seq ?_ | refine JC.region ?_ | refine JO.nil ?_ | refine JE.thenN ?_ | (apply JO.do; exact rfl; exact rfl; exact rfl; (first | (apply Do.allocN; exact rfl) | apply Do.alloc); rintro _ _ ⟨_, rfl, rfl⟩) | (apply JO.do0; exact rfl; exact rfl; (first | (apply Do.storeAN; exact rfl; exact rfl; (repeat (first | exact Pick.here | apply Pick.there)); exact rfl; exact rfl; exact rfl; exact rfl) | (apply Do.storeA; exact rfl; exact rfl; (repeat (first | exact Pick.here | apply Pick.there)); exact rfl; exact rfl; exact rfl)); rintro _ _ ⟨rfl, rfl⟩))
    obtain ⟨t, ht⟩ : ∃ t, ts.getD j .zero = t := ⟨_, rfl⟩
    refine JC.mid (fun q : Nat × Option Addr × Nat => [(0, .pointer (some ⟨d, 0, none⟩)), (1, .slice pv ts.length cv), (5, int i), (6, .pointer (some ⟨q.1, 0, none⟩)), (8, .slice (some ⟨b0, 0, none⟩) D.keys.length c), (9, int D.keys.length), (10, int j)])
      (fun q => arr q.1 81 [int t.kind, .slice q.2.1 t.bytes.length q.2.2] :: ownS (.slice (some ⟨b0, 0, none⟩) D.keys.length c) 3 1 D.keys.length (D.keys.map int) :: diskHP d (torn D ts j) :: l) (fun q => RdS σ l (.slice q.2.1 t.bytes.length q.2.2) (t.bytes.map byte)) ?_ ?_
    · rintro ⟨wb, q, cq⟩ hrt
      dsimp only at hrt ⊢
      have hss := torn_succ (ts := ts) hk
      obtain ⟨hEw, hEs, hEc, _⟩ := torn_facts hD ts j hj
      obtain ⟨bs, hbs⟩ := torn_cached hD ts hk
      have htl : t.bytes.length ≤ 1000000 := by
        rw [← ht, List.getD_eq_getElem?_getD]
        cases q : ts[j]? with
        | none => simp [TearN.zero]
        | some t' => exact htb t' (List.mem_of_getElem? q)
      rw [ht] at hss
      obtain ⟨E, hE⟩ : ∃ E, torn D ts j = E := ⟨_, rfl⟩
      rw [hE] at hss hEw hEs hEc hbs ⊢
      have hi : i < E.count := by omega
      have hroom := hEw.room hi
      have hsm := hEw.small
      have g0 : (i + 1) * E.size = i * E.size + E.size := Nat.succ_mul i E.size
      have hz := hEw.hz
      refine JC.disk (Pick.there (Pick.there Pick.here)) fun lv cm pm => ?_
      refine JC.cache (Pick.there (Pick.there Pick.here)) fun R hR => ?_
      refine JC.heap (Sat.weak (l' := bytesHP lv E.data :: mapI cm (R.map fun p => (p.1, p.2.1)) :: star (R.map rowHP) :: arr d 79 (diskCells E lv cm pm) :: planHP pm E.planned :: arr wb 81 [int t.kind, .slice q t.bytes.length cq] :: ownS (.slice (some ⟨b0, 0, none⟩) D.keys.length c) 3 1 D.keys.length (D.keys.map int) :: l) (by repeat (first | exact Weak.refl | (apply Weak.cons; (first | exact Pick.here | exact Pick.there Pick.here | exact Pick.there (Pick.there Pick.here) | exact Pick.there (Pick.there (Pick.there Pick.here)) | exact Pick.there (Pick.there (Pick.there (Pick.there Pick.here))) | exact Pick.there (Pick.there (Pick.there (Pick.there (Pick.there Pick.here)))) | exact Pick.there (Pick.there (Pick.there (Pick.there (Pick.there (Pick.there Pick.here))))) | exact Pick.there (Pick.there (Pick.there (Pick.there (Pick.there (Pick.there (Pick.there Pick.here)))))))) | apply Weak.drop))) ?_
      refine JC.own (fun _ h _ => (by omega)) ?_
      rintro b cap spare rfl hcap hxs hsp
      have hlk : lookI (R.map fun (p : Int × Value × List UInt8) => (p.1, p.2.1)) (i : Int) = (lookI R (i : Int)).map (·.1) := lookI_map (·.1) R i
      have hlc2 : lookI E.cached (i : Int) = (lookI R (i : Int)).map (·.2) := hR ▸ lookI_map (·.2) R i
      obtain ⟨u, hu⟩ : ∃ u, lookI R (i : Int) = some u := by
        rw [hbs] at hlc2
        cases q : lookI R (i : Int) with
        | none => rw [q] at hlc2; cases hlc2
        | some u => exact ⟨u, rfl⟩
      rw [hu] at hlk hlc2
      simp only [Option.map_some] at hlk hlc2
      have hul : u.2.length = E.size := (hEw.cach _ (lookI_mem hlc2)).2.2
      have hul' : (u.2.map byte).length = u.2.length := by simp
      have hcur : E.cur i = u.2 := by unfold DiskN.cur; rw [hlc2]; rfl
      have em : delI (R.map fun (p : Int × Value × List UInt8) => (p.1, p.2.1)) (i : Int) = (delI R (i : Int)).map fun p => (p.1, p.2.1) := delI_map (·.1) R i
      have ec : delI E.cached (i : Int) = (delI R (i : Int)).map fun p => (p.1, p.2.2) := by rw [hR]; exact delI_map (·.2) R i
      have fin2 : ∀ (data' : List UInt8), data'.length = E.data.length → E.tear (i : Int) t = { E with data := data', cached := delI E.cached (i : Int) } → ∀ w, Sat σ w (mapI cm (delI (R.map fun (p : Int × Value × List UInt8) => (p.1, p.2.1)) (i : Int)) :: arr b 5 (data'.map byte ++ spare) :: star (R.map rowHP) :: arr d 79 (diskCells E (.slice (some ⟨b, 0, none⟩) E.data.length cap) cm pm) :: planHP pm E.planned :: ownS (.slice (some ⟨b0, 0, none⟩) D.keys.length c) 3 1 D.keys.length (D.keys.map int) :: l) → Sat σ w (ownS (.slice (some ⟨b0, 0, none⟩) D.keys.length c) 3 1 D.keys.length (D.keys.map int) :: diskHP d (torn D ts (j + 1)) :: l) := by
        intro data' hsl hset w s
        rw [hss, hset]
        rw [em] at s
        have s0 := Sat.weak (l' := arr b 5 (data'.map byte ++ spare) :: star (R.map rowHP) :: mapI cm ((delI R (i : Int)).map fun p => (p.1, p.2.1)) :: arr d 79 (diskCells E (.slice (some ⟨b, 0, none⟩) E.data.length cap) cm pm) :: planHP pm E.planned :: ownS (.slice (some ⟨b0, 0, none⟩) D.keys.length c) 3 1 D.keys.length (D.keys.map int) :: l) (by repeat (first | exact Weak.refl | (apply Weak.cons; (first | exact Pick.here | exact Pick.there Pick.here | exact Pick.there (Pick.there Pick.here) | exact Pick.there (Pick.there (Pick.there Pick.here)) | exact Pick.there (Pick.there (Pick.there (Pick.there Pick.here))) | exact Pick.there (Pick.there (Pick.there (Pick.there (Pick.there Pick.here)))) | exact Pick.there (Pick.there (Pick.there (Pick.there (Pick.there (Pick.there Pick.here))))) | exact Pick.there (Pick.there (Pick.there (Pick.there (Pick.there (Pick.there (Pick.there Pick.here)))))))) | apply Weak.drop)) w s
        have s1 := Sat.ownS_arr (k := data'.length) (cap := cap) (z := 1) (by omega) (by rw [List.length_map]; omega) (by rw [List.length_append, List.length_map, hsl, ← List.length_map (f := byte), ← List.length_append]; exact hsp) s0
        rw [hsl] at s1
        have s2 := Sat.weak (l' := star (R.map rowHP) :: ownS (.slice (some ⟨b, 0, none⟩) E.data.length cap) 5 1 E.data.length (data'.map byte) :: mapI cm ((delI R (i : Int)).map fun p => (p.1, p.2.1)) :: arr d 79 (diskCells E (.slice (some ⟨b, 0, none⟩) E.data.length cap) cm pm) :: planHP pm E.planned :: ownS (.slice (some ⟨b0, 0, none⟩) D.keys.length c) 3 1 D.keys.length (D.keys.map int) :: l) (by repeat (first | exact Weak.refl | (apply Weak.cons; (first | exact Pick.here | exact Pick.there Pick.here | exact Pick.there (Pick.there Pick.here) | exact Pick.there (Pick.there (Pick.there Pick.here)) | exact Pick.there (Pick.there (Pick.there (Pick.there Pick.here))) | exact Pick.there (Pick.there (Pick.there (Pick.there (Pick.there Pick.here)))) | exact Pick.there (Pick.there (Pick.there (Pick.there (Pick.there (Pick.there Pick.here))))) | exact Pick.there (Pick.there (Pick.there (Pick.there (Pick.there (Pick.there (Pick.there Pick.here)))))))) | apply Weak.drop)) w s1
        have s3 := Sat.delRows (k := (i : Int)) s2
        have e9 : ownS (.slice (some ⟨b, 0, none⟩) E.data.length cap) 5 1 E.data.length (data'.map byte) = bytesHP (.slice (some ⟨b, 0, none⟩) E.data.length cap) data' := by rw [← hsl]
        rw [e9] at s3
        have s4 := Sat.weak (l' := opn2 d { E with data := data', cached := delI E.cached (i : Int) } (.slice (some ⟨b, 0, none⟩) E.data.length cap) cm pm (delI R (i : Int)) (ownS (.slice (some ⟨b0, 0, none⟩) D.keys.length c) 3 1 D.keys.length (D.keys.map int) :: l)) (by repeat (first | exact Weak.refl | (apply Weak.cons; (first | exact Pick.here | exact Pick.there Pick.here | exact Pick.there (Pick.there Pick.here) | exact Pick.there (Pick.there (Pick.there Pick.here)) | exact Pick.there (Pick.there (Pick.there (Pick.there Pick.here))) | exact Pick.there (Pick.there (Pick.there (Pick.there (Pick.there Pick.here)))) | exact Pick.there (Pick.there (Pick.there (Pick.there (Pick.there (Pick.there Pick.here))))) | exact Pick.there (Pick.there (Pick.there (Pick.there (Pick.there (Pick.there (Pick.there Pick.here)))))))) | apply Weak.drop)) w s3
        exact Sat.weak (by repeat (first | exact Weak.refl | (apply Weak.cons; (first | exact Pick.here | exact Pick.there Pick.here | exact Pick.there (Pick.there Pick.here) | exact Pick.there (Pick.there (Pick.there Pick.here)) | exact Pick.there (Pick.there (Pick.there (Pick.there Pick.here))) | exact Pick.there (Pick.there (Pick.there (Pick.there (Pick.there Pick.here)))) | exact Pick.there (Pick.there (Pick.there (Pick.there (Pick.there (Pick.there Pick.here))))) | exact Pick.there (Pick.there (Pick.there (Pick.there (Pick.there (Pick.there (Pick.there Pick.here)))))))) | apply Weak.drop)) w (Sat.close ec s4)
      refine JC.rowR (lookI_mem hu) (Pick.there (Pick.there Pick.here)) fun hrow => ?_
      by_cases k1 : t.kind = 1
      · repeat' (first | (apply JO.ru; exact rfl; exact rfl; exact rfl; (first | (apply Ru.loadN; exact rfl; (repeat (first | exact Pick.here | apply Pick.there)); exact rfl) | (apply Ru.fieldAddr; exact rfl) | (apply Ru.assign; exact rfl) | (apply Ru.eql; exact rfl; exact rfl; (first | exact decT (by omega) | exact decF (by omega))))) | refine JC.seq ?_ | refine JC.region ?_ | refine JO.nil ?_ | refine JE.thenN ?_ | refine JC.block ?_ | refine JC.condT rfl ?_)
        refine JC.regionB (mapI cm (R.map fun p => (p.1, p.2.1)) :: star (R.map rowHP) :: arr d 79 (diskCells E (.slice (some ⟨b, 0, none⟩) E.data.length cap) cm pm) :: planHP pm E.planned :: arr wb 81 [int t.kind, .slice q t.bytes.length cq] :: ownS (.slice (some ⟨b0, 0, none⟩) D.keys.length c) 3 1 D.keys.length (D.keys.map int) :: l) mixed ?_
        repeat' (first | ((apply JB.ru; exact rfl; exact rfl; exact rfl; exact rfl; (first | (apply Ru.move; exact rfl) | (apply Ru.loadN; exact rfl; (repeat (first | exact Pick.here | apply Pick.there)); exact rfl) | (apply Ru.fieldAddr; exact rfl) | (apply Ru.nilP; exact rfl)); decide +kernel; decide +kernel; (first | exact fun _ h => h | exact fun _ h => Sat.drop h | exact fun _ h => Sat.drop (Sat.drop h) | exact fun _ h => Sat.drop (Sat.drop (Sat.drop h)) | exact fun _ h => Sat.drop (Sat.drop (Sat.drop (Sat.drop h)))); (simp only [Nat.reduceAdd, Nat.reducePow, Nat.reduceMul, Nat.zero_or, Nat.or_zero, Nat.reduceXor, Nat.reduceOr]; try exact rfl))) | (apply JB.ru; exact rfl; exact rfl; exact rfl; exact rfl; (apply Ru.lookupO0; exact rfl; exact rfl; exact Pick.here; exact hlk); decide +kernel; decide +kernel; exact fun _ h => Sat.drop h; (simp only [Nat.reduceAdd, Nat.reducePow, Nat.reduceMul, Nat.zero_or, Nat.or_zero, Nat.reduceXor, Nat.reduceOr]; try exact rfl)))
        refine JB.one 2 (by decide +kernel) ?_
        (apply JI.do; exact rfl; exact rfl; exact rfl; exact rfl; (apply Do.call; exact rfl; exact disk_at d E.size i b E.data.length cap _ _ _ _ hz (by omega) hcap hroom (Pick.there (Pick.there (Pick.there Pick.here)))); (simp only [Nat.reduceAdd, Nat.reducePow, Nat.reduceMul, Nat.zero_or, Nat.or_zero, Nat.reduceXor, Nat.reduceOr]; try exact rfl); rintro _ _ ⟨rfl, hq⟩; obtain rfl := hq.symm; refine ⟨fun _ s => s.drop, ?_⟩)
        refine JB.one 9 (by decide +kernel) ?_
        obtain ⟨ku, pu, cu, hu1⟩ : ∃ k p c, u.1 = .slice p k c ∧ k = u.2.length := by
          obtain ⟨pp, cc, h1, _, _⟩ := hrow
          exact ⟨_, pp, cc, h1, hul'⟩
        obtain ⟨hu1, rfl⟩ := hu1
        dsimp only at hrow
        rw [hu1] at hrow ⊢
        (apply JI.do; exact rfl; exact rfl; exact rfl; exact rfl; (apply Do.copy (ys := u.2.map byte); exact rfl; exact rfl; exact Pick.here; exact hrow; (rw [List.length_append, List.length_map]; omega); exact byteOne _); (simp only [Nat.reduceAdd, Nat.reducePow, Nat.reduceMul, Nat.zero_or, Nat.or_zero, Nat.reduceXor, Nat.reduceOr]; try exact rfl); rintro _ _ ⟨rfl, rfl⟩; refine ⟨fun _ s => s.drop, ?_⟩)
        rw [List.take_of_length_le (by rw [hul']; omega), splice_sec (by omega)]
        repeat' ((apply JB.nil; exact rfl))
        repeat' (first | (apply JO.ru; exact rfl; exact rfl; exact rfl; (first | (apply Ru.move; exact rfl) | (apply Ru.loadN; exact rfl; (repeat (first | exact Pick.here | apply Pick.there)); exact rfl) | (apply Ru.fieldAddr; exact rfl) | (apply Ru.nilP; exact rfl))) | refine JC.region ?_ | refine JE.thenN ?_ | refine JE.blockN ?_)
        (apply JO.do0; exact rfl; exact rfl; (apply Do.deleteI; exact rfl; exact rfl; exact Pick.there Pick.here); rintro _ _ ⟨rfl, rfl⟩)
        repeat' (first | (apply JO.ru; exact rfl; exact rfl; exact rfl; (first | (apply Ru.move; exact rfl) | (apply Ru.add; exact rfl; exact rfl; (first | exact wrapI (by omega) (by omega) | exact rfl)))) | refine JC.region ?_ | refine JO.nil ?_ | refine JE.thenN ?_ | refine JE.blockN ?_)
        refine JE.round (j + 1) (by omega) (by omega) ⟨rfl, rfl, rfl, rfl, rfl, trivial⟩ ?_
        have hset : E.tear (i : Int) t = { E with data := setSec E.data E.size i u.2, cached := delI E.cached (i : Int) } := by unfold DiskN.tear; rw [if_pos k1, Int.toNat_natCast, hcur]
        intro w s
        exact fin2 _ (setSec_length (by omega)) hset w (Sat.weak (by repeat (first | exact Weak.refl | (apply Weak.cons; (first | exact Pick.here | exact Pick.there Pick.here | exact Pick.there (Pick.there Pick.here) | exact Pick.there (Pick.there (Pick.there Pick.here)) | exact Pick.there (Pick.there (Pick.there (Pick.there Pick.here))) | exact Pick.there (Pick.there (Pick.there (Pick.there (Pick.there Pick.here)))) | exact Pick.there (Pick.there (Pick.there (Pick.there (Pick.there (Pick.there Pick.here))))) | exact Pick.there (Pick.there (Pick.there (Pick.there (Pick.there (Pick.there (Pick.there Pick.here)))))))) | apply Weak.drop)) w s)
      by_cases k2 : t.kind = 2
      · repeat' (first | (apply JO.ru; exact rfl; exact rfl; exact rfl; (first | (apply Ru.move; exact rfl) | (apply Ru.loadN; exact rfl; (repeat (first | exact Pick.here | apply Pick.there)); exact rfl) | (apply Ru.fieldAddr; exact rfl) | (apply Ru.assign; exact rfl) | (apply Ru.eql; exact rfl; exact rfl; (first | exact decT (by omega) | exact decF (by omega))))) | refine JC.seq ?_ | refine JC.region ?_ | refine JO.nil ?_ | refine JE.thenN ?_ | refine JC.block ?_ | refine JC.condT rfl ?_ | refine JC.condF rfl ?_)
        (apply JO.do; exact rfl; exact rfl; exact rfl; (apply Do.call; exact rfl; exact disk_at d E.size i b E.data.length cap _ _ _ _ hz (by omega) hcap hroom (Pick.there (Pick.there (Pick.there Pick.here)))); rintro _ _ ⟨rfl, hq⟩; obtain rfl := hq.symm)
        (apply JO.do0; exact rfl; exact rfl; (apply Do.clear; exact rfl; exact Pick.here; (rw [List.length_append, List.length_map]; omega); exact rfl); rintro _ _ ⟨rfl, rfl⟩)
        have hzr : List.replicate E.size (Value.int .u8 0) = (List.replicate E.size (0 : UInt8)).map byte := by simp
        rw [hzr, splice_sec (by rw [List.length_replicate]; omega)]
        have hsl2 := setSec_length (data := E.data) (size := E.size) (i := i) (bs := List.replicate E.size 0) (by rw [List.length_replicate]; omega)
        repeat' (first | refine JO.nil ?_ | refine JE.thenN ?_)
        refine JC.regionB (mapI cm (R.map fun p => (p.1, p.2.1)) :: star (R.map rowHP) :: arr d 79 (diskCells E (.slice (some ⟨b, 0, none⟩) E.data.length cap) cm pm) :: planHP pm E.planned :: arr wb 81 [int t.kind, .slice q t.bytes.length cq] :: ownS (.slice (some ⟨b0, 0, none⟩) D.keys.length c) 3 1 D.keys.length (D.keys.map int) :: l) mixed ?_
        repeat' ((apply JB.ru; exact rfl; exact rfl; exact rfl; exact rfl; (first | (apply Ru.move; exact rfl) | (apply Ru.loadN; exact rfl; (repeat (first | exact Pick.here | apply Pick.there)); exact rfl) | (apply Ru.fieldAddr; exact rfl)); decide +kernel; decide +kernel; (first | exact fun _ h => h | exact fun _ h => Sat.drop h | exact fun _ h => Sat.drop (Sat.drop h) | exact fun _ h => Sat.drop (Sat.drop (Sat.drop h)) | exact fun _ h => Sat.drop (Sat.drop (Sat.drop (Sat.drop h)))); (simp only [Nat.reduceAdd, Nat.reducePow, Nat.reduceMul, Nat.zero_or, Nat.or_zero, Nat.reduceXor, Nat.reduceOr]; try exact rfl)))
        refine JB.one 2 (by decide +kernel) ?_
        (apply JI.do; exact rfl; exact rfl; exact rfl; exact rfl; (apply Do.call; exact rfl; exact disk_at d E.size i b E.data.length cap _ _ _ _ hz (by omega) hcap hroom (Pick.there (Pick.there (Pick.there Pick.here)))); (simp only [Nat.reduceAdd, Nat.reducePow, Nat.reduceMul, Nat.zero_or, Nat.or_zero, Nat.reduceXor, Nat.reduceOr]; try exact rfl); rintro _ _ ⟨rfl, hq⟩; obtain rfl := hq.symm; refine ⟨fun _ s => s.drop, ?_⟩)
        refine JB.one 5 (by decide +kernel) ?_
        (apply JI.do; exact rfl; exact rfl; exact rfl; exact rfl; (apply Do.copy (ys := t.bytes.map byte); exact rfl; exact rfl; exact Pick.here; exact hrt.cons.cons.cons.cons.cons.cons.cons; (rw [List.length_append, List.length_map]; omega); exact byteOne _); (simp only [Nat.reduceAdd, Nat.reducePow, Nat.reduceMul, Nat.zero_or, Nat.or_zero, Nat.reduceXor, Nat.reduceOr]; try exact rfl); rintro _ _ ⟨rfl, rfl⟩; refine ⟨fun _ s => s.drop, ?_⟩)
        have htk : (t.bytes.map byte).take (min t.bytes.length E.size) = (t.bytes.take E.size).map byte := by
          rw [List.map_take]
          exact List.take_eq_take_iff.2 (by rw [List.length_map]; omega)
        rw [htk, splice_bytes (by rw [List.length_take]; omega), set_fit (by omega)]
        repeat' ((apply JB.nil; exact rfl))
        repeat' (first | (apply JO.ru; exact rfl; exact rfl; exact rfl; (first | (apply Ru.move; exact rfl) | (apply Ru.loadN; exact rfl; (repeat (first | exact Pick.here | apply Pick.there)); exact rfl) | (apply Ru.fieldAddr; exact rfl) | (apply Ru.nilP; exact rfl))) | refine JC.region ?_ | refine JE.thenN ?_ | refine JE.blockN ?_)
        (apply JO.do0; exact rfl; exact rfl; (apply Do.deleteI; exact rfl; exact rfl; exact Pick.there Pick.here); rintro _ _ ⟨rfl, rfl⟩)
        repeat' (first | (apply JO.ru; exact rfl; exact rfl; exact rfl; (first | (apply Ru.move; exact rfl) | (apply Ru.add; exact rfl; exact rfl; (first | exact wrapI (by omega) (by omega) | exact rfl)))) | refine JC.region ?_ | refine JO.nil ?_ | refine JE.thenN ?_ | refine JE.blockN ?_)
        refine JE.round (j + 1) (by omega) (by omega) ⟨rfl, rfl, rfl, rfl, rfl, trivial⟩ ?_
        have hset : E.tear (i : Int) t = { E with data := setSec E.data E.size i (fit t.bytes E.size), cached := delI E.cached (i : Int) } := by unfold DiskN.tear; rw [if_neg k1, if_pos k2, Int.toNat_natCast]
        intro w s
        exact fin2 _ (setSec_length (by rw [fit_length]; omega)) hset w (Sat.weak (by repeat (first | exact Weak.refl | (apply Weak.cons; (first | exact Pick.here | exact Pick.there Pick.here | exact Pick.there (Pick.there Pick.here) | exact Pick.there (Pick.there (Pick.there Pick.here)) | exact Pick.there (Pick.there (Pick.there (Pick.there Pick.here))) | exact Pick.there (Pick.there (Pick.there (Pick.there (Pick.there Pick.here)))) | exact Pick.there (Pick.there (Pick.there (Pick.there (Pick.there (Pick.there Pick.here))))) | exact Pick.there (Pick.there (Pick.there (Pick.there (Pick.there (Pick.there (Pick.there Pick.here)))))))) | apply Weak.drop)) w s)
      · repeat' (first | (apply JO.ru; exact rfl; exact rfl; exact rfl; (first | (apply Ru.move; exact rfl) | (apply Ru.loadN; exact rfl; (repeat (first | exact Pick.here | apply Pick.there)); exact rfl) | (apply Ru.fieldAddr; exact rfl) | (apply Ru.nilP; exact rfl) | (apply Ru.assign; exact rfl) | (apply Ru.eql; exact rfl; exact rfl; (first | exact decT (by omega) | exact decF (by omega))))) | refine JC.seq ?_ | refine JC.region ?_ | refine JO.nil ?_ | refine JE.thenN ?_ | refine JE.blockN ?_ | refine JC.block ?_ | refine JC.skip ?_ | refine JC.condF rfl ?_)
        (apply JO.do0; exact rfl; exact rfl; (apply Do.deleteI; exact rfl; exact rfl; exact Pick.there Pick.here); rintro _ _ ⟨rfl, rfl⟩)
        repeat' (first | (apply JO.ru; exact rfl; exact rfl; exact rfl; (first | (apply Ru.move; exact rfl) | (apply Ru.add; exact rfl; exact rfl; (first | exact wrapI (by omega) (by omega) | exact rfl)))) | refine JC.region ?_ | refine JO.nil ?_ | refine JE.thenN ?_ | refine JE.blockN ?_)
        refine JE.round (j + 1) (by omega) (by omega) ⟨rfl, rfl, rfl, rfl, rfl, trivial⟩ ?_
        have hset : E.tear (i : Int) t = { E with data := E.data, cached := delI E.cached (i : Int) } := by unfold DiskN.tear; rw [if_neg k1, if_neg k2]
        intro w s
        exact fin2 _ rfl hset w (Sat.weak (by repeat (first | exact Weak.refl | (apply Weak.cons; (first | exact Pick.here | exact Pick.there Pick.here | exact Pick.there (Pick.there Pick.here) | exact Pick.there (Pick.there (Pick.there Pick.here)) | exact Pick.there (Pick.there (Pick.there (Pick.there Pick.here))) | exact Pick.there (Pick.there (Pick.there (Pick.there (Pick.there Pick.here)))) | exact Pick.there (Pick.there (Pick.there (Pick.there (Pick.there (Pick.there Pick.here))))) | exact Pick.there (Pick.there (Pick.there (Pick.there (Pick.there (Pick.there (Pick.there Pick.here)))))))) | apply Weak.drop)) w s)
    · repeat' (first | (apply JO.ru; exact rfl; exact rfl; exact rfl; (first | (apply Ru.move; exact rfl) | (apply Ru.lenS; exact rfl))) | refine JC.seq ?_ | refine JC.region ?_ | refine JO.nil ?_ | refine JE.thenN ?_ | refine JC.skip ?_ | refine JC.condT rfl ?_ | refine JC.condF rfl ?_ | (apply JO.split; exact rfl; exact rfl; exact rfl; ((apply Ru.lss; exact rfl; exact rfl; exact rfl)); all_goals intro _))
      · rename_i wb hjt
        have hjt' : j < ts.length := by omega
        rcases hrv with h | ⟨bt, ot, rfl, hct⟩
        · rw [h] at hjt'; exact absurd hjt' (Nat.not_lt_zero _)
        obtain ⟨q, cq, hqc, hcell, hrq⟩ := hct j t (by rw [← ht, List.getD_eq_getElem?_getD, List.getElem?_eq_getElem hjt']; rfl)
        repeat' ((apply JO.ru; exact rfl; exact rfl; exact rfl; ((apply Ru.indexAddr; exact rfl; exact rfl; omega; omega))))
        (apply JO.ru; exact rfl; exact rfl; exact rfl; (apply Ru.loadAC (vs := [int t.kind, .slice q t.bytes.length cq]); exact rfl; exact rfl; exact fun w s => hcell w (Sat.drop (Sat.drop (Sat.drop s)))))
        repeat' (first | refine JO.nil ?_ | (apply JO.do0; exact rfl; exact rfl; (first | (apply Do.storeAN; exact rfl; exact rfl; (repeat (first | exact Pick.here | apply Pick.there)); exact rfl; exact rfl; exact rfl; exact rfl) | (apply Do.storeA; exact rfl; exact rfl; (repeat (first | exact Pick.here | apply Pick.there)); exact rfl; exact rfl; exact rfl)); rintro _ _ ⟨rfl, rfl⟩))
        exact JE.mid (wb, q, cq) hrq ⟨rfl, rfl, rfl, rfl, rfl, rfl, rfl, trivial⟩ (fun _ h => h)
      · rename_i wb hjt
        have hz : t = .zero := by rw [← ht, List.getD_eq_getElem?_getD, List.getElem?_eq_none (by omega)]; rfl
        subst hz
        exact JE.mid (wb, none, 0) RdS.nil ⟨rfl, rfl, rfl, rfl, rfl, rfl, rfl, trivial⟩ (fun _ h => h)
  · obtain rfl : j = D.keys.length := by omega
    refine JE.done0N rfl ?_
    exact ⟨diskHP d (D.crash ts) :: l, Sat.weak (by repeat (first | exact Weak.refl | (apply Weak.cons; (first | exact Pick.here | exact Pick.there Pick.here | exact Pick.there (Pick.there Pick.here) | exact Pick.there (Pick.there (Pick.there Pick.here)) | exact Pick.there (Pick.there (Pick.there (Pick.there Pick.here))) | exact Pick.there (Pick.there (Pick.there (Pick.there (Pick.there Pick.here)))) | exact Pick.there (Pick.there (Pick.there (Pick.there (Pick.there (Pick.there Pick.here))))) | exact Pick.there (Pick.there (Pick.there (Pick.there (Pick.there (Pick.there (Pick.there Pick.here)))))))) | apply Weak.drop)), rfl, rfl⟩
end Go.Sep
/- The statements' own small functions: two lists of bytes the same; a fresh disk. -/
namespace Go.Sep
open Go Go.Proofs
attribute [local irreducible] JO JC JE JA JQ JB JI Mid Inv Weak ownS Ru Do Fn Sat Pick Take arr pt star ex Holds bodyPost Post Exit.then Exit.inBlock Res
variable {σ : Sig} {F : List HP}
attribute [local irreducible] diskHP cacheHP planHP rowHP
theorem byte_inj {a b : UInt8} (h : (a.toNat : Int) = b.toNat) : a = b := UInt8.toNat_inj.1 (by omega)
set_option maxHeartbeats 1000000 in
theorem ref_Same (va vb : Value) (xs ys : List UInt8) (hx : xs.length ≤ 100000000) {l : List HP} (ha : RdS σ l va (xs.map byte)) (hb : RdS σ l vb (ys.map byte)) :
    Fn Tryd.prog σ 15 #[va, vb] l (fun v l' => v = .bool (decide (xs = ys)) ∧ l' = l) := by
  obtain ⟨pa, ca, rfl, hca, hra⟩ := ha
  obtain ⟨pb, cb, rfl, hcb, hrb⟩ := hb
  have hl : (xs.map byte).length = xs.length := by simp
  have hm : (ys.map byte).length = ys.length := by simp
  refine Fn.of Tryd.func15 rfl Tryd.ntmps15 rfl ?_
  repeat' (first | (apply JO.ru; exact rfl; exact rfl; exact rfl; (first | (apply Ru.move; exact rfl) | (apply Ru.assign; exact rfl) | (apply Ru.lenS; exact rfl))) | refine JC.seq ?_ | refine JC.region ?_ | refine JO.nil ?_ | refine JE.thenN ?_ | refine JE.thenR ?_ | refine JC.block ?_ | refine JC.ret ?_ | refine JC.skip ?_ | refine JC.condT rfl ?_ | refine JC.condF rfl ?_ | (apply JO.splitN; exact rfl; exact rfl; exact rfl; (apply Ru.neq; exact rfl; exact rfl; exact rfl); all_goals intro _) | (apply JE.done1; exact rfl; (first | (apply Res.tmp; exact rfl) | (apply Res.cell; exact rfl; (repeat (first | exact Pick.here | apply Pick.there)); exact rfl) | (apply Res.cellAN; exact rfl; (repeat (first | exact Pick.here | apply Pick.there)); exact rfl; exact rfl) | (apply Res.cellA; exact rfl; (repeat (first | exact Pick.here | apply Pick.there)); exact rfl; exact rfl))))
  · rename_i hne
    refine JC.loop (fun i : Nat => [(0, .slice pa (xs.map byte).length ca), (1, .slice pb (ys.map byte).length cb), (5, int i)]) (fun _ => l) (fun i => i ≤ xs.length ∧ xs.take i = ys.take i) (fun i => xs.length - i) 0 ⟨Nat.zero_le _, rfl⟩ ⟨rfl, rfl, rfl, trivial⟩ (fun _ h => h) ?_
    rintro i ⟨hi, hs⟩
    repeat' (first | (apply JO.ru; exact rfl; exact rfl; exact rfl; (first | (apply Ru.move; exact rfl) | (apply Ru.assign; exact rfl) | (apply Ru.lenS; exact rfl))) | refine JC.seq ?_ | refine JC.region ?_ | refine JO.nil ?_ | refine JE.thenN ?_ | refine JE.thenE ?_ | refine JE.blockE ?_ | refine JC.block ?_ | refine JC.ret ?_ | refine JC.skip ?_ | refine JC.exit ?_ | refine JC.condT rfl ?_ | refine JC.condF rfl ?_ | (apply JQ.ru; exact rfl; exact rfl; exact rfl; ((apply Ru.move; exact rfl))) | (apply JO.split; exact rfl; exact rfl; exact rfl; ((apply Ru.lss; exact rfl; exact rfl; exact rfl)); all_goals intro _) | refine JC.regionQ mixed (by decide +kernel) ?_ | (apply JE.done1; exact rfl; (first | (apply Res.tmp; exact rfl) | (apply Res.cell; exact rfl; (repeat (first | exact Pick.here | apply Pick.there)); exact rfl) | (apply Res.cellAN; exact rfl; (repeat (first | exact Pick.here | apply Pick.there)); exact rfl; exact rfl) | (apply Res.cellA; exact rfl; (repeat (first | exact Pick.here | apply Pick.there)); exact rfl; exact rfl))))
    · rename_i hlt
      have hlt' : i < xs.length := by omega
      have hlt2 : i < ys.length := by omega
      rcases hra with h0 | ⟨b1, o1, rfl, hc1⟩
      · rw [h0] at hl; simp at hl; omega
      rcases hrb with h0 | ⟨b2, o2, rfl, hc2⟩
      · rw [h0] at hm; simp at hm; omega
      have hsucc : ∀ (h : xs[i] = ys[i]), xs.take (i + 1) = ys.take (i + 1) := fun h => by
        rw [List.take_succ_eq_append_getElem hlt', List.take_succ_eq_append_getElem hlt2, hs, h]
      repeat' (first | (first | (apply JO.ru; exact rfl; exact rfl; exact rfl; (first | (apply Ru.move; exact rfl) | (apply Ru.assign; exact rfl) | (apply Ru.add; exact rfl; exact rfl; (first | exact wrapI (by omega) (by omega) | exact rfl)))) | refine JC.seq ?_ | refine JC.region ?_ | refine JO.nil ?_ | refine JE.thenN ?_ | refine JE.thenR ?_ | refine JE.blockN ?_ | refine JE.blockR ?_ | refine JC.ret ?_ | refine JC.skip ?_ | refine JC.condT rfl ?_ | refine JC.condF rfl ?_ | (apply JQ.ru; exact rfl; exact rfl; exact rfl; (first | (apply Ru.move; exact rfl) | (apply Ru.indexAddr; exact rfl; exact rfl; omega; omega))) | (apply JQ.splitN; exact rfl; exact rfl; exact rfl; (apply Ru.neq; exact rfl; exact rfl; exact rfl); all_goals intro _) | refine JQ.nil ?_ | (apply JE.done1; exact rfl; (first | (apply Res.tmp; exact rfl) | (apply Res.cell; exact rfl; (repeat (first | exact Pick.here | apply Pick.there)); exact rfl) | (apply Res.cellAN; exact rfl; (repeat (first | exact Pick.here | apply Pick.there)); exact rfl; exact rfl) | (apply Res.cellA; exact rfl; (repeat (first | exact Pick.here | apply Pick.there)); exact rfl; exact rfl)))) | (apply JQ.ru; exact rfl; exact rfl; exact rfl; (apply Ru.loadC; exact rfl; exact rd_cell hc1 hlt' (by omega))) | (apply JQ.ru; exact rfl; exact rfl; exact rfl; (apply Ru.loadC; exact rfl; exact rd_cell hc2 hlt2 (by omega))))
      · rename_i he
        refine JE.round (i + 1) ⟨by omega, hsucc (byte_inj he)⟩ (by omega) ⟨rfl, rfl, rfl, trivial⟩ (fun _ h => h)
      · rename_i he
        refine finS ?_
        refine ⟨?_, rfl⟩
        have : ¬ xs = ys := by rintro rfl; exact he rfl
        rw [decide_eq_false this]
    · rename_i hge
      refine finS ?_
      have : xs = ys := by
        have h1 : xs.take i = xs := List.take_of_length_le (by omega)
        have h2 : ys.take i = ys := List.take_of_length_le (by omega)
        rw [← h1, ← h2, hs]
      exact ⟨by rw [decide_eq_true this], rfl⟩
  · rename_i hne
    refine finS ?_
    have : ¬ xs = ys := by rintro rfl; exact hne rfl
    exact ⟨by rw [decide_eq_false this], rfl⟩
end Go.Sep
/- What arguments read as; a statement's last step, out of a contract. -/
namespace Go.Sep
open Go Go.Proofs Go.ChangeShapes Go.WideShapes Go.ChangeAt Go.RowKit
/-- How data lie in cells. -/
inductive Lay where
  | int (k : IntKind)
  | bool
  | slice (l : Lay)
  | nil
  | cons (h r : Lay)
def Lay.cells : Lay → Nat
  | .int _ => 1
  | .bool => 1
  | .slice _ => 1
  | .nil => 0
  | .cons h r => h.cells + r.cells
/-- A type lies so; fields from a place on do. -/
def Lay.is (P : Program) : Lay → Option TypeId → Nat → List Field → Prop
  | .int k, some t, _, _ => P.underlying t = some (.int k)
  | .bool, some t, _, _ => P.underlying t = some .bool
  | .slice l, some t, _, _ => ∃ e, P.underlying t = some (.slice e) ∧ P.cellsOf e = l.cells ∧ l.is P (some e) 0 []
  | .nil, none, _, fs => fs = []
  | .cons h r, none, o, fs => ∃ f fs', fs = f :: fs' ∧ f.offset = o ∧ P.cellsOf f.type = h.cells ∧ h.is P (some f.type) 0 [] ∧ r.is P none (o + h.cells) fs'
  | .cons h r, some t, _, _ => ∃ (fs : Array Field) (f : Field) (fs' : List Field), P.underlying t = some (.struct fs) ∧ fs.toList = f :: fs' ∧ f.offset = 0 ∧ P.cellsOf f.type = h.cells ∧ h.is P (some f.type) 0 [] ∧ r.is P none h.cells fs' ∧ P.cellsOf t = h.cells + r.cells
  | _, _, _, _ => False
section
variable {P : Program} {t e : TypeId} {l h r : Lay} {fs : Array Field} {f : Field} {fs' fs1 : List Field} {o o' : Nat}
theorem Lay.isI {k : IntKind} (h : P.underlying t = some (.int k)) : (Lay.int k).is P (some t) 0 [] := h
theorem Lay.isB (h : P.underlying t = some .bool) : Lay.bool.is P (some t) 0 [] := h
theorem Lay.isS (h : P.underlying t = some (.slice e)) (hc : P.cellsOf e = l.cells) (hl : l.is P (some e) 0 []) : (Lay.slice l).is P (some t) 0 [] := ⟨e, h, hc, hl⟩
theorem Lay.isN : Lay.nil.is P none o [] := rfl
theorem Lay.isF (ho : f.offset = o) (hc : P.cellsOf f.type = h.cells) (hh : h.is P (some f.type) 0 []) (e : o + h.cells = o') (hr : r.is P none o' fs') : (Lay.cons h r).is P none o (f :: fs') := ⟨f, fs', rfl, ho, hc, hh, e ▸ hr⟩
theorem Lay.isT (hu : P.underlying t = some (.struct fs)) (he : fs.toList = f :: fs') (ho : f.offset = 0) (hc : P.cellsOf f.type = h.cells) (hh : h.is P (some f.type) 0 []) (e : h.cells = o') (hr : r.is P none o' fs') (ht : P.cellsOf t = h.cells + r.cells) : (Lay.cons h r).is P (some t) 0 [] :=
  ⟨fs, f, fs', hu, he, ho, hc, hh, e ▸ hr, ht⟩
end
def Lay.rd (W : World) : Lay → List Value → Prop
  | .int k, cs => ∃ n, cs = [.int k n] ∧ (Lit.int k n).wf = true
  | .bool, cs => ∃ b, cs = [.bool b]
  | .slice l, cs => cs = [.slice none 0 0] ∨ ∃ a len cap, cs = [.slice (some a) len cap] ∧ len ≤ cap ∧ cap ≤ maxLen ∧ ∀ i, i < len → ∃ cs', W.cells? 0 (a.add (i * l.cells)) l.cells = some cs' ∧ l.rd W cs'
  | .nil, cs => cs = []
  | .cons h r, cs => ∃ c1 c2, cs = c1 ++ c2 ∧ c1.length = h.cells ∧ h.rd W c1 ∧ r.rd W c2
section
variable {H : Type} {enc : TypeId × Value → H} {P : Program} {W : World} {sp : Nat → Bool} {hd : Bool}
theorem Lay.of_trod : ∀ (l : Lay) (ot : Option TypeId) (o : Nat) (fs : List Field), l.is P ot o fs →
    (∀ t, ot = some t → ∀ n cs x, DataW.trod enc P W 0 sp hd n t cs = some x → l.rd W cs) ∧
    (ot = none → ∀ n (cs : List Value), (∀ f ∈ fs, ∃ x, DataW.trod enc P W 0 sp hd n f.type ((cs.drop f.offset).take (P.cellsOf f.type)) = some x) → o + l.cells ≤ cs.length → l.rd W ((cs.drop o).take l.cells))
  | .int k, some t, o, fs, h => by
    refine ⟨fun t' ht n cs x hx => ?_, fun h => by cases h⟩
    cases ht
    obtain ⟨m, h1, _, h3⟩ := DataW.trod_int h hx
    exact ⟨m, h1, h3⟩
  | .bool, some t, o, fs, h => by
    refine ⟨fun t' ht n cs x hx => ?_, fun h => by cases h⟩
    cases ht
    obtain ⟨m, h1, _⟩ := DataW.trod_bool h hx
    exact ⟨m, h1⟩
  | .slice l, some t, o, fs, h => by
    refine ⟨fun t' ht n cs x hx => ?_, fun h => by cases h⟩
    cases ht
    obtain ⟨e, he, hc, hl⟩ := h
    rcases DataW.trod_slice he hx with ⟨h0, _⟩ | ⟨a, len, cap, elems, rest, m, _, rfl, _, hb, h1, h2, h3, h4, _⟩
    · exact .inl h0
    · refine .inr ⟨a, len, cap, rfl, h1, h2, fun i hi => ?_⟩
      have := h4 i hi
      rw [List.getElem?_eq_getElem (by omega), hc] at this
      obtain ⟨cs', g1, g2⟩ := Option.bind_eq_some_iff.1 this
      exact ⟨cs', g1, (Lay.of_trod l (some e) 0 [] hl).1 e rfl _ _ _ g2⟩
  | .nil, none, o, fs, h => by
    refine ⟨fun t' ht => (by cases ht), fun _ n cs _ _ => ?_⟩
    show (cs.drop o).take 0 = []
    simp
  | .cons h r, none, o, fs, hi => by
    refine ⟨fun t' ht => (by cases ht), fun _ n cs hf hlen => ?_⟩
    obtain ⟨f, fs', rfl, h1, h2, h3, h4⟩ := hi
    obtain ⟨x, hx⟩ := hf f List.mem_cons_self
    rw [h1, h2] at hx
    simp only [Lay.cells] at hlen
    refine ⟨(cs.drop o).take h.cells, (cs.drop (o + h.cells)).take r.cells, ?_, by rw [List.length_take, List.length_drop]; omega, (Lay.of_trod h (some f.type) 0 [] h3).1 _ rfl _ _ _ hx, ?_⟩
    · show (cs.drop o).take (h.cells + r.cells) = _
      rw [List.take_add, List.drop_drop]
    · exact (Lay.of_trod r none (o + h.cells) fs' h4).2 rfl n cs (fun g hg => hf g (List.mem_cons_of_mem _ hg)) (by omega)
  | .cons h r, some t, o, fs, hi => by
    refine ⟨fun t' ht n cs x hx => ?_, fun h => by cases h⟩
    cases ht
    obtain ⟨fa, f, fs', hu, h0, h1, h2, h3, h4, h5⟩ := hi
    obtain ⟨xs, m, _, _, hl, hxl, hf⟩ := DataW.trod_struct hu hx
    have hsz : fa.size = fs'.length + 1 := by rw [← Array.length_toList, h0]; rfl
    have each : ∀ g ∈ f :: fs', ∃ x, DataW.trod enc P W 0 sp hd m g.type ((cs.drop g.offset).take (P.cellsOf g.type)) = some x := fun g hg => by
      obtain ⟨i, hi, rfl⟩ := List.getElem_of_mem hg
      have := hf i (f :: fs')[i] (by rw [← Array.getElem?_toList, h0, List.getElem?_eq_getElem hi])
      rw [List.getElem?_eq_getElem (by rw [hxl, hsz]; simpa using hi)] at this
      exact ⟨_, this⟩
    obtain ⟨x0, hx0⟩ := each f List.mem_cons_self
    rw [h1, h2] at hx0
    refine ⟨cs.take h.cells, cs.drop h.cells, (List.take_append_drop _ _).symm, by rw [List.length_take]; omega, (Lay.of_trod h (some f.type) 0 [] h3).1 _ rfl _ _ _ (by simpa using hx0), ?_⟩
    have := (Lay.of_trod r none h.cells fs' h4).2 rfl m cs (fun g hg => each g (List.mem_cons_of_mem _ hg)) (by omega)
    rwa [List.take_of_length_le (by rw [List.length_drop]; omega)] at this
  | .int _, none, _, _, h => h.elim
  | .bool, none, _, _, h => h.elim
  | .slice _, none, _, _, h => h.elim
  | .nil, some _, _, _, h => h.elim
theorem Lay.of_Trod {l : Lay} {t : TypeId} (hl : l.is P (some t) 0 []) {v : Value} {d : DataW H} {ps : List MemPlace} (h : DataW.Trod enc P W 0 sp hd t v d ps) : l.rd W v.cells.toList :=
  let ⟨n, hn⟩ := h
  (Lay.of_trod l (some t) 0 [] hl).1 t rfl n _ _ hn
end

/-! ### Bytes -/
theorem choose_list {α : Type} {p : Nat → α → Prop} : ∀ (n : Nat), (∀ i, i < n → ∃ x, p i x) → ∃ l : List α, l.length = n ∧ ∀ i x, l[i]? = some x → p i x
  | 0, _ => ⟨[], rfl, fun i x h => by cases h⟩
  | n + 1, h => by
    obtain ⟨l, hl, hp⟩ := choose_list n fun i hi => h i (by omega)
    obtain ⟨x, hx⟩ := h n (by omega)
    refine ⟨l ++ [x], by simp [hl], fun i y hy => ?_⟩
    by_cases hi : i < l.length
    · rw [List.getElem?_append_left hi] at hy; exact hp i y hy
    · rw [List.getElem?_append_right (by omega)] at hy
      have h0 : i - l.length = 0 := by
        rcases Nat.eq_zero_or_pos (i - l.length) with q | q
        · exact q
        · rw [List.getElem?_eq_none (by simp; omega)] at hy; cases hy
      rw [h0] at hy
      obtain rfl : x = y := by simpa using hy
      have : i = n := by omega
      rw [this]; exact hx
/-- The slice v holds these bytes in the world W. -/
def RdC (W : World) (v : Value) (bs : List UInt8) : Prop :=
  ∃ p cap, v = .slice p bs.length cap ∧ bs.length ≤ cap ∧ (bs = [] ∨ ∃ b o, p = some ⟨b, o, none⟩ ∧ ∀ i u, (bs.map byte)[i]? = some u → W.cell? ⟨b, o + i, none⟩ = some u)
theorem byte_of {n : Int} (h : (Lit.int .u8 n).wf = true) : ∃ x : UInt8, Value.int .u8 n = byte x := by
  have := bounds_u8 h
  refine ⟨UInt8.ofNat n.toNat, ?_⟩
  simp only [byte]
  congr 1
  rw [UInt8.toNat_ofNat']
  omega
theorem cells_one {W : World} {a : Addr} {cs : List Value} (h : W.cells? 0 a 1 = some cs) : ∃ v, cs = [v] ∧ W.cell? a = some v := by
  obtain ⟨_, hlen, _⟩ := World.cells?_some h
  match cs, hlen with
  | [v], _ => exact ⟨v, rfl, cell_of_cells?_one h⟩
theorem rd_bytes {W : World} {v : Value} (h : (Lay.slice (.int .u8)).rd W [v]) : ∃ bs, RdC W v bs := by
  rcases h with h | ⟨a, len, cap, h, h1, _, h3⟩
  · obtain rfl : v = .slice none 0 0 := by simpa using h
    exact ⟨[], none, 0, rfl, Nat.le_refl _, .inl rfl⟩
  · obtain rfl : v = .slice (some a) len cap := by simpa using h
    obtain ⟨bs, hl, hb⟩ := choose_list (p := fun i (x : UInt8) => W.cell? (a.add i) = some (byte x)) len fun i hi => by
      obtain ⟨cs', g1, n, rfl, g2⟩ := h3 i hi
      obtain ⟨x, hx⟩ := byte_of g2
      obtain ⟨u, hu, g3⟩ := cells_one g1
      refine ⟨x, ?_⟩
      have e : i * (Lay.int .u8).cells = i := by simp [Lay.cells]
      rw [e] at g3
      rw [g3, ← hx]
      simpa using hu.symm
    subst hl
    refine ⟨bs, some a, cap, rfl, h1, ?_⟩
    cases bs with
    | nil => exact .inl rfl
    | cons x r =>
      right
      have h0 := hb 0 x rfl
      have hs := World.cell?_spot h0
      obtain ⟨b, o, s⟩ := a
      have hs' : s = none := hs
      subst hs'
      refine ⟨b, o, rfl, fun i u hu => ?_⟩
      rw [List.getElem?_map] at hu
      obtain ⟨y, hy, rfl⟩ := Option.map_eq_some_iff.1 hu
      have := hb i y hy
      have e : Addr.add ⟨b, o, none⟩ i = ⟨b, o + i, none⟩ := by simp [Addr.add]
      rwa [e] at this

/-! ### The memory that was there -/
/-- All that the world W has. -/
def memHP (W : World) : HP := fun h => ∀ b o, W.heap[b]? = some o → h b = some o
theorem mem_heap {σ : Sig} {W w : World} {l : List HP} (s : Sat σ w (memHP W :: l)) {b : Nat} {o : Obj} (h : W.heap[b]? = some o) : w.heap[b]? = some o := by
  obtain ⟨_, h1, h2, a, _, _, d, _⟩ := s
  exact a b o (d b o h)
theorem mem_cell {σ : Sig} {W w : World} {l : List HP} (s : Sat σ w (memHP W :: l)) {a : Addr} {v : Value} (h : W.cell? a = some v) : w.cell? a = some v := by
  unfold World.cell? at h ⊢
  split at h
  · rename_i c t f hb
    rw [mem_heap s hb]; exact h
  · cases h
theorem mem_start (W : World) : Sat (sigOf W) W [memHP W] :=
  ⟨rfl, heapOf W, fun _ => none, sub_refl _, fun _ _ e => (by cases e), fun _ => .inr rfl, fun _ _ h => h, trivial⟩
theorem mem_below {W w : World} {l : List HP} (s : Sat (sigOf W) w (memHP W :: l)) : Below W.heap.size W w := by
  have hs := s.1
  have e1 : w.os = W.os := congrArg Sig.os hs
  have e2 : w.tape = W.tape := congrArg Sig.tape hs
  have e3 : w.output = W.output := congrArg Sig.output hs
  have hb : ∀ k, k < W.heap.size → w.heap[k]? = W.heap[k]? := fun k hk => by
    have h1 := Array.getElem?_eq_getElem hk
    rw [h1]; exact mem_heap s h1
  refine ⟨e1, e2, e3, ?_, hb⟩
  rcases Nat.eq_zero_or_pos W.heap.size with q | q
  · omega
  · have h1 := mem_heap s (Array.getElem?_eq_getElem (show W.heap.size - 1 < W.heap.size by omega))
    obtain ⟨h2, _⟩ := Array.getElem?_eq_some_iff.1 h1
    exact Nat.le_of_pred_lt h2
theorem RdS.ofC {σ : Sig} {W : World} {v : Value} {bs : List UInt8} (h : RdC W v bs) : RdS σ [memHP W] v (bs.map byte) := by
  obtain ⟨p, cap, rfl, h1, h2⟩ := h
  have hl : (bs.map byte).length = bs.length := by simp
  refine ⟨p, cap, by rw [hl], by rw [hl]; exact h1, ?_⟩
  rcases h2 with rfl | ⟨b, o, rfl, h2⟩
  · exact .inl rfl
  · exact .inr ⟨b, o, rfl, fun w s i u hu => mem_cell s (h2 i u hu)⟩

theorem mem_arr {W : World} {b T : Nat} {cs : Array Value} {vs : List Value} (h : W.heap[b]? = some (.cells cs T (0, 0))) (hv : cs.toList = vs) : Weak [memHP W] [arr b T vs] := fun g ⟨h1, _, a, _, _, d, _⟩ =>
  ⟨g, fun _ => none, sub_refl _, fun _ _ e => (by cases e), fun _ => .inr rfl, ⟨0, 0, by rw [← hv]; exact a b _ (d b _ h), .inl rfl⟩, trivial⟩
/-! ### A table of whole numbers -/
section
variable {H : Type} {enc : TypeId × Value → H} {P : Program} {W : World} {sp : Nat → Bool} {hd : Bool}
theorem trod_ints {t e : TypeId} {k : IntKind} {n : Nat} {m : Nat} {cs : List Value} {ns : List Int} {ps : List MemPlace} (ht : P.underlying t = some (.array n e)) (he : P.underlying e = some (.int k)) (hc : P.cellsOf e = 1) (hct : P.cellsOf t = n)
    (h : DataW.trod enc P W 0 sp hd m t cs = some (.agg (ns.map fun z => .lit (.int k z)), ps)) : cs = ns.map (Value.int k) := by
  obtain ⟨xs, m', _, hx, hl, hxl, hf⟩ := DataW.trod_array ht h
  have hns : ns.map (fun z => (DataW.lit (.int k z) : DataW H)) = xs.map (·.1) := by simpa using congrArg Prod.fst hx
  have hnl : ns.length = n := by
    have := congrArg List.length hns
    simp at this; omega
  apply List.ext_getElem
  · simp; omega
  · intro i h1 h2
    have hi : i < n := by omega
    have hfi := hf i hi
    rw [hc, Nat.mul_one, List.getElem?_eq_getElem (by omega)] at hfi
    obtain ⟨z, hz, hz2, _⟩ := DataW.trod_int he hfi
    have hd0 : (cs.drop i).take 1 = [cs[i]] := by rw [List.drop_eq_getElem_cons h1]; rfl
    rw [hd0] at hz
    have hz3 : cs[i] = .int k z := by simpa using hz
    have hz4 : (ns.map (fun z => (DataW.lit (.int k z) : DataW H)))[i]'(by simp; omega) = (xs.map (·.1))[i]'(by simp; omega) := by simp only [hns]
    simp only [List.getElem_map] at hz4
    rw [hz2] at hz4
    simp only [DataW.lit.injEq, Lit.int.injEq, true_and] at hz4
    rw [hz3, List.getElem_map, hz4]
theorem trod_ints2 {t e d : TypeId} {k : IntKind} {n q : Nat} {m : Nat} {cs : List Value} {nss : List (List Int)} {ps : List MemPlace} (ht : P.underlying t = some (.array n e)) (he : P.underlying e = some (.array q d)) (hd' : P.underlying d = some (.int k)) (hc : P.cellsOf d = 1) (hce : P.cellsOf e = q) (hct : P.cellsOf t = n * q)
    (h : DataW.trod enc P W 0 sp hd m t cs = some (.agg (nss.map fun ns => .agg (ns.map fun z => .lit (.int k z))), ps)) : cs = nss.flatten.map (Value.int k) := by
  obtain ⟨xs, m', _, hx, hl, hxl, hf⟩ := DataW.trod_array ht h
  have hns : nss.map (fun ns => (DataW.agg (ns.map fun z => .lit (.int k z)) : DataW H)) = xs.map (·.1) := by simpa using congrArg Prod.fst hx
  have hnl : nss.length = n := by
    have := congrArg List.length hns
    simp at this; omega
  have row : ∀ i (hi : i < n), (cs.drop (i * q)).take q = (nss[i]'(by omega)).map (Value.int k) := fun i hi => by
    have hfi := hf i hi
    rw [hce, List.getElem?_eq_getElem (by omega)] at hfi
    have hz4 : (nss.map (fun ns => (DataW.agg (ns.map fun z => .lit (.int k z)) : DataW H)))[i]'(by simp; omega) = (xs.map (·.1))[i]'(by simp; omega) := by simp only [hns]
    simp only [List.getElem_map] at hz4
    have : xs[i] = (.agg ((nss[i]'(by omega)).map fun z => .lit (.int k z)), xs[i].2) := Prod.ext hz4.symm rfl
    rw [this] at hfi
    exact trod_ints he hd' hc hce hfi
  have key : ∀ j, j ≤ n → cs.take (j * q) = (nss.take j).flatten.map (Value.int k) := by
    intro j
    induction j with
    | zero => intro _; simp
    | succ j ih =>
      intro hj
      rw [Nat.succ_mul, List.take_add, ih (by omega), row j (by omega), List.take_succ_eq_append_getElem (by omega), List.flatten_append, List.map_append]
      simp only [List.flatten_cons, List.flatten_nil, List.append_nil]
  have := key n (Nat.le_refl _)
  rwa [List.take_of_length_le (by omega), List.take_of_length_le (by omega)] at this
end
end Go.Sep
/- A statement's post-condition, where nothing that was there has turned; the table of the kinds, as the door lays it. -/
namespace Go.Sep
open Go Go.Proofs Go.ChangeShapes Go.WideShapes Go.ChangeAt Go.RowKit Go.WideElems
section
variable {H : Type} {enc : TypeId × Value → H} {P : Program}
theorem trodAll_stays (hlo : laidOutB P = true) {W W' : World} {sp' : Nat → Bool} : ∀ {ts : List TypeId} {vs : List Value} {ds : List (DataW H)} {ps : List MemPlace},
    (∀ t ∈ ts, P.readableRec t = true ∧ t < P.types.size) → DataW.TrodAll enc P W 0 (fun _ => true) true ts vs ds ps → (∀ p ∈ ps, W.sameAt W' p) → (∀ p ∈ ps, sp' p.block = true) → DataW.TrodAll enc P W' 0 sp' true ts vs ds ps
  | [], [], [], ps, _, h, _, _ => h
  | t :: ts, v :: vs, d :: ds, ps, ht, ⟨p, q, h1, h2, e⟩, hs, hb => by
    subst e
    have h0 := ht t List.mem_cons_self
    exact ⟨p, q, Trod_stays hlo h0.1 h0.2 h1 (fun x hx => hs x (List.mem_append_left _ hx)) (fun x hx => hb x (List.mem_append_left _ hx)),
      trodAll_stays hlo (fun u hu => ht u (List.mem_cons_of_mem _ hu)) h2 (fun x hx => hs x (List.mem_append_right _ hx)) (fun x hx => hb x (List.mem_append_right _ hx)), rfl⟩
  | [], [], _ :: _, _, _, h, _, _ => h.elim
  | [], _ :: _, _, _, _, h, _, _ => h.elim
  | _ :: _, [], _, _, _, h, _, _ => h.elim
  | _ :: _, _ :: _, [], _, _, h, _, _ => h.elim
theorem trodAll_len {W : World} {b : Nat} {sp : Nat → Bool} {hd : Bool} : ∀ {ts : List TypeId} {vs : List Value} {ds : List (DataW H)} {ps : List MemPlace}, DataW.TrodAll enc P W b sp hd ts vs ds ps → ds.length = ts.length ∧ vs.length = ts.length
  | [], [], [], _, _ => ⟨rfl, rfl⟩
  | _ :: _, _ :: _, _ :: _, _, ⟨_, _, _, h2, _⟩ => by have := trodAll_len h2; exact ⟨congrArg (· + 1) this.1, congrArg (· + 1) this.2⟩
  | [], [], _ :: _, _, h => h.elim
  | [], _ :: _, _, _, h => h.elim
  | _ :: _, [], _, _, h => h.elim
  | _ :: _, _ :: _, [], _, h => h.elim
theorem post_true (hlo : laidOutB P = true) {f : Func} {s : ChangeSpec} {apart fresh handsOn : Bool} {W W' : World} {args : Array Value} {ds : List (DataW H)} {before : List MemPlace} {tb : TypeId}
    (hW : DataW.Whole enc P f.params.toList s.vars apart W args.toList ds [] before) (hvars : s.vars = []) (hfn : (s.fn H ds).results = [.lit (.bool true)] ∧ (s.fn H ds).args = ds ∧ (s.fn H ds).vars = []) (hres : f.resultTypes = #[tb]) (htb : P.underlying tb = some .bool)
    (ht : ∀ t ∈ f.params.toList, P.readableRec t = true ∧ t < P.types.size) (hb : Below W.heap.size W W') : s.post enc P f apart fresh handsOn false W args (.bool true) W' := by
  have hlt := hW.lt
  obtain ⟨p, q, hA, hV, hpq, _⟩ := id hW
  rw [hvars] at hV
  have hq : q = [] := hV
  subst hq
  rw [List.append_nil] at hpq
  subst hpq
  have hfn1 : (s.fn H (ds ++ [])).results = [.lit (.bool true)] := by rw [List.append_nil]; exact hfn.1
  have hfn2 : (s.fn H (ds ++ [])).args = ds := by rw [List.append_nil]; exact hfn.2.1
  have hfn3 : (s.fn H (ds ++ [])).vars = [] := by rw [List.append_nil]; exact hfn.2.2
  refine ⟨ds, [], before, [], before, [], hW, ?_, ?_, ?_, World.keptBut_mono (fun x hx => ⟨hx, .inr (.inl hx)⟩) (hb.frame (· ∈ before)), fun h => by cases h⟩
  · rw [hfn1, hres]
    exact trodAll_mk1 ⟨1, by simp [DataW.trod, Value.cells, htb]⟩
  · rw [hfn2]
    exact trodAll_stays hlo ht hA (fun x hx => hb.same (hlt x hx)) (fun x hx => by simpa using hlt x hx)
  · rw [hfn3, hvars]; rfl
end
section
variable {H : Type} {enc : TypeId × Value → H} {P : Program} {W : World} {base : Nat} {t : TypeId} {v : Value} {d : DataW H} {ps : List MemPlace}
theorem arg_one (ht : (∃ k, P.underlying t = some (.int k)) ∨ P.underlying t = some .bool ∨ ∃ e, P.underlying t = some (.slice e)) (hok : Value.okWide P W .any base t v) : v.cells = #[v] := by
  cases v with
  | agg cs =>
    exfalso
    rcases ht with ⟨k, ht⟩ | ht | ⟨e, ht⟩ <;> simp [Value.okWide, Cell.okWide, Cell.ok, ht] at hok
  | _ => rfl
theorem arg_int {k : IntKind} (ht : P.underlying t = some (.int k)) (hok : Value.okWide P W .any base t v) (h : DataW.Trod enc P W 0 (fun _ => true) true t v d ps) : ∃ n, v = .int k n ∧ (Lit.int k n).wf = true := by
  obtain ⟨n, h1, h2⟩ := Lay.of_Trod (l := .int k) ht h
  refine ⟨n, ?_, h2⟩
  rw [arg_one (by simp [ht]) hok] at h1
  simpa using h1
theorem arg_bool (ht : P.underlying t = some .bool) (hok : Value.okWide P W .any base t v) (h : DataW.Trod enc P W 0 (fun _ => true) true t v d ps) : ∃ b, v = .bool b := by
  obtain ⟨n, h1⟩ := Lay.of_Trod (l := .bool) ht h
  refine ⟨n, ?_⟩
  rw [arg_one (by simp [ht]) hok] at h1
  simpa using h1
theorem arg_slice {e : TypeId} {l : Lay} (ht : P.underlying t = some (.slice e)) (hc : P.cellsOf e = l.cells) (hl : l.is P (some e) 0 []) (hok : Value.okWide P W .any base t v) (h : DataW.Trod enc P W 0 (fun _ => true) true t v d ps) : (Lay.slice l).rd W [v] := by
  have h1 := Lay.of_Trod (l := .slice l) ⟨e, ht, hc, hl⟩ h
  rw [arg_one (by simp [ht]) hok] at h1
  exact h1
theorem arg_struct {fs : Array Field} {l : Lay} (ht : P.underlying t = some (.struct fs)) (hl : l.is P (some t) 0 []) (hok : Value.okWide P W .any base t v) (h : DataW.Trod enc P W 0 (fun _ => true) true t v d ps) : ∃ cs : List Value, v = .agg cs.toArray ∧ l.rd W cs := by
  have h1 := Lay.of_Trod hl h
  unfold Value.okWide at hok
  rw [ht] at hok
  obtain ⟨cs, rfl, _⟩ := hok
  exact ⟨cs.toList, rfl, h1⟩
theorem arg_bytes {e : TypeId} (ht : P.underlying t = some (.slice e)) (he : P.underlying e = some (.int .u8)) (hc : P.cellsOf e = 1) (hok : Value.okWide P W .any base t v) (h : DataW.Trod enc P W 0 (fun _ => true) true t v d ps) : ∃ bs, RdC W v bs :=
  rd_bytes (arg_slice (l := .int .u8) ht hc he hok h)
theorem rd_cons {h r : Lay} {cs : List Value} (x : (Lay.cons h r).rd W cs) : ∃ c1 c2, cs = c1 ++ c2 ∧ h.rd W c1 ∧ r.rd W c2 := let ⟨c1, c2, e, _, a, b⟩ := x; ⟨c1, c2, e, a, b⟩
end
abbrev layGeo : Lay := .cons (.int .i64) (.cons (.int .i64) (.cons (.int .i64) .nil))
theorem rd_geo {W : World} {cs : List Value} (h : layGeo.rd W cs) : ∃ e f s : Int, cs = [int e, int f, int s] := by
  obtain ⟨_, _, rfl, ⟨e, rfl, _⟩, h1⟩ := rd_cons h
  obtain ⟨_, _, rfl, ⟨f, rfl, _⟩, h2⟩ := rd_cons h1
  obtain ⟨_, _, rfl, ⟨s, rfl, _⟩, h3⟩ := rd_cons h2
  obtain rfl : _ = [] := h3
  exact ⟨e, f, s, rfl⟩
set_option maxRecDepth 100000 in
theorem geo_is : layGeo.is Tryd.prog (some 23) 0 [] :=
  Lay.isT Tryd.underlying23 rfl rfl (by kernel_rfl) (Lay.isI Tryd.underlying3) rfl (Lay.isF rfl (by kernel_rfl) (Lay.isI Tryd.underlying3) rfl (Lay.isF rfl (by kernel_rfl) (Lay.isI Tryd.underlying3) rfl Lay.isN)) (by kernel_rfl)
set_option maxRecDepth 100000 in
theorem arg_geo {H : Type} {enc : TypeId × Value → H} {W : World} {base : Nat} {v : Value} {d : DataW H} {ps : List MemPlace} (hok : Value.okWide Tryd.prog W .any base 23 v) (h : DataW.Trod enc Tryd.prog W 0 (fun _ => true) true 23 v d ps) : ∃ e f s : Int, v = geoV e f s := by
  have h0 := arg_struct (l := layGeo) Tryd.underlying23 geo_is hok h
  obtain ⟨cs, hv, h1⟩ := h0
  obtain ⟨e, f, s, hcs⟩ := rd_geo h1
  exact ⟨e, f, s, by rw [hv, hcs]⟩
/-- The table, as the door lays it, is there to be read. -/
def rowsT : List (List Int) := [[0, 0, 0, 0], [7, 3, 1, 0], [8, 3, 1, 0], [9, 4, 1, 1], [10, 4, 1, 2], [11, 4, 1, 3], [12, 5, 2, 0], [13, 5, 2, 0], [14, 6, 2, 0], [15, 6, 2, 0], [16, 7, 2, 0]]
theorem gRows : Tryd.prog.globalNamed "keepsake/geo.rows" = some 0 := by kernel_rfl
theorem inG_mem {W : World} (h : laidMetH Tryd.prog [("keepsake/geo.rows", YtbpilaghemkdjaaDoor.Rows.laid_keepsake_geo_rows)] W) : InG [memHP W] := by
  rw [MakeChecks.laidMetH_plain _ _ _ (by kernel_rfl)] at h
  obtain ⟨ps, ⟨g0, t0, cs0, f0, p0, q0, hg0, ht0, hv0, hd0, _, hps⟩, _, hcell⟩ := h
  obtain rfl := Option.some.inj (gRows.symm.trans hg0)
  have tR : (Tryd.prog.globals[0]?).map (·.type) = some 112 := by kernel_rfl
  obtain rfl := Option.some.inj (tR.symm.trans ht0)
  have hcs := trod_ints2 (nss := rowsT) Tryd.underlying112 Tryd.underlying106 Tryd.underlying3 (by kernel_rfl) (by kernel_rfl) (by kernel_rfl) hd0
  have hl : cs0.size = 44 := by rw [← Array.length_toList, hcs]; rfl
  obtain ⟨⟨c, t, hc⟩, _⟩ := hcell 0 0 (by rw [hps, hl]; exact List.mem_append_left _ (List.mem_append_left _ (List.mem_map.2 ⟨0, by simp, rfl⟩)))
  have hv := hv0
  unfold World.var? at hv
  rw [gRows, Option.bind_some, hc] at hv
  obtain rfl : c = cs0 := by simpa using hv
  exact ⟨t, [], mem_arr hc hcs⟩
end Go.Sep
/- Tears among the arguments. -/
namespace Go.Sep
open Go Go.Proofs Go.ChangeShapes Go.WideShapes Go.ChangeAt Go.RowKit Go.WideElems
theorem add_none (b o i : Nat) : Addr.add ⟨b, o, none⟩ i = ⟨b, o + i, none⟩ := by simp [Addr.add]
/-- Elements of several cells each, one by one. -/
theorem rd_elems {α : Type} {W : World} {l : Lay} {v : Value} {p : α → List Value → Prop} (hz : l.cells ≠ 0) (h : (Lay.slice l).rd W [v]) (hp : ∀ cs, l.rd W cs → ∃ x, p x cs ∧ cs.length = l.cells) :
    ∃ xs : List α, ∃ q cap, v = .slice q xs.length cap ∧ xs.length ≤ cap ∧ cap ≤ maxLen ∧ (xs = [] ∨ ∃ b o, q = some ⟨b, o, none⟩ ∧ ∀ (i : Nat) (x : α), xs[i]? = some x → ∃ cs, p x cs ∧ ∀ j u, cs[j]? = some u → W.cell? ⟨b, o + i * l.cells + j, none⟩ = some u) := by
  rcases h with h | ⟨a, len, cap, h, h1, h2, h3⟩
  · obtain rfl : v = .slice none 0 0 := by simpa using h
    exact ⟨[], none, 0, rfl, Nat.le_refl _, by decide, .inl rfl⟩
  · obtain rfl : v = .slice (some a) len cap := by simpa using h
    obtain ⟨xs, hl, hx⟩ := choose_list (p := fun i (x : α) => ∃ cs, p x cs ∧ cs.length = l.cells ∧ ∀ j u, cs[j]? = some u → W.cell? ((a.add (i * l.cells)).add j) = some u) len fun i hi => by
      obtain ⟨cs, g1, g2⟩ := h3 i hi
      obtain ⟨x, g3, g4⟩ := hp cs g2
      obtain ⟨_, _, g5⟩ := World.cells?_some g1
      refine ⟨x, cs, g3, g4, fun j u hu => ?_⟩
      have hj : j < cs.length := (List.getElem?_eq_some_iff.1 hu).1
      rw [g5 j (by omega), hu]
    subst hl
    refine ⟨xs, some a, cap, rfl, h1, h2, ?_⟩
    cases xs with
    | nil => exact .inl rfl
    | cons x r =>
      right
      obtain ⟨cs0, _, hl0, h0⟩ := hx 0 x rfl
      have h00 := h0 0 (cs0[0]'(by omega)) (List.getElem?_eq_getElem _)
      have hs := World.cell?_spot h00
      obtain ⟨b, o, s⟩ := a
      have hs' : s = none := by simpa [Addr.add] using hs
      subst hs'
      refine ⟨b, o, rfl, fun i y hy => ?_⟩
      obtain ⟨cs, g1, _, g2⟩ := hx i y hy
      refine ⟨cs, g1, fun j u hu => ?_⟩
      have := g2 j u hu
      rwa [add_none, add_none] at this
abbrev layTear : Lay := .cons (.int .i64) (.cons (.slice (.int .u8)) .nil)
def RdTC (W : World) (v : Value) (ts : List TearN) : Prop :=
  ∃ p cap, v = .slice p ts.length cap ∧ ts.length ≤ cap ∧ (ts = [] ∨ ∃ b o, p = some ⟨b, o, none⟩ ∧ ∀ (i : Nat) (t : TearN), ts[i]? = some t → ∃ u, (∀ j x, ([int t.kind, u] : List Value)[j]? = some x → W.cell? ⟨b, o + i * 2 + j, none⟩ = some x) ∧ RdC W u t.bytes)
theorem rd_tears {W : World} {v : Value} (h : (Lay.slice layTear).rd W [v]) : ∃ ts, RdTC W v ts ∧ ts.length ≤ 9223372036854775807 := by
  obtain ⟨ts, q, cap, rfl, h1, h2, h3⟩ := rd_elems (p := fun (t : TearN) cs => ∃ u, cs = [int t.kind, u] ∧ RdC W u t.bytes) (by decide) h fun cs hc => by
    obtain ⟨_, _, rfl, ⟨k, rfl, _⟩, h1⟩ := rd_cons hc
    obtain ⟨c1, _, rfl, h2, h3⟩ := rd_cons h1
    obtain rfl : _ = [] := h3
    obtain ⟨u, rfl⟩ : ∃ u, c1 = [u] := by
      rcases h2 with e | ⟨_, _, _, e, _⟩ <;> exact ⟨_, e⟩
    obtain ⟨bs, hb⟩ := rd_bytes h2
    exact ⟨⟨k, bs⟩, ⟨u, rfl, hb⟩, rfl⟩
  refine ⟨ts, ⟨q, cap, rfl, h1, h3.imp id ?_⟩, Nat.le_trans h1 (Nat.le_trans h2 (by decide))⟩
  rintro ⟨b, o, rfl, h4⟩
  refine ⟨b, o, rfl, fun i t ht => ?_⟩
  obtain ⟨cs, ⟨u, rfl, hb⟩, hc⟩ := h4 i t ht
  exact ⟨u, hc, hb⟩
theorem RdT.ofC {σ : Sig} {W : World} {v : Value} {ts : List TearN} (h : RdTC W v ts) : RdT σ [memHP W] v ts := by
  obtain ⟨p, cap, rfl, h1, h2⟩ := h
  refine ⟨p, cap, rfl, h1, h2.imp id ?_⟩
  rintro ⟨b, o, rfl, h3⟩
  refine ⟨b, o, rfl, fun i t ht => ?_⟩
  obtain ⟨u, hc, hu⟩ := h3 i t ht
  have hr := RdS.ofC (σ := σ) hu
  obtain ⟨q, c, rfl, h4, _⟩ := hu
  exact ⟨q, c, h4, fun w s j x hx => mem_cell s (by have := hc j x hx; rwa [Int.toNat_natCast]), hr⟩
section
variable {H : Type} {enc : TypeId × Value → H} {W : World} {base : Nat} {v : Value} {d : DataW H} {ps : List MemPlace}
set_option maxRecDepth 100000 in
theorem arg_u8 (hok : Value.okWide Tryd.prog W .any base 5 v) (h : DataW.Trod enc Tryd.prog W 0 (fun _ => true) true 5 v d ps) : ∃ x : UInt8, v = .int .u8 x.toNat := by
  obtain ⟨n, rfl, h1⟩ := arg_int Tryd.underlying5 hok h
  exact byte_of h1
set_option maxRecDepth 100000 in
theorem arg_u64 (hok : Value.okWide Tryd.prog W .any base 25 v) (h : DataW.Trod enc Tryd.prog W 0 (fun _ => true) true 25 v d ps) : ∃ n : Int, v = .int .u64 n ∧ 0 ≤ n ∧ n < 18446744073709551616 := by
  obtain ⟨n, rfl, h1⟩ := arg_int Tryd.underlying25 hok h
  have := bounds_u64 h1
  exact ⟨n, rfl, by omega, by omega⟩
set_option maxRecDepth 100000 in
theorem arg_b (hok : Value.okWide Tryd.prog W .any base 4 v) (h : DataW.Trod enc Tryd.prog W 0 (fun _ => true) true 4 v d ps) : ∃ b, v = .bool b := arg_bool Tryd.underlying4 hok h
set_option maxRecDepth 100000 in
theorem arg_bs (hok : Value.okWide Tryd.prog W .any base 24 v) (h : DataW.Trod enc Tryd.prog W 0 (fun _ => true) true 24 v d ps) : ∃ bs, RdC W v bs := arg_bytes Tryd.underlying24 Tryd.underlying5 (by kernel_rfl) hok h
end
set_option maxRecDepth 100000 in
theorem tear_is : layTear.is Tryd.prog (some 81) 0 [] :=
  Lay.isT Tryd.underlying81 rfl rfl (by kernel_rfl) (Lay.isI Tryd.underlying3) rfl (Lay.isF rfl (by kernel_rfl) (Lay.isS Tryd.underlying24 (by kernel_rfl) (Lay.isI Tryd.underlying5)) rfl Lay.isN) (by kernel_rfl)
set_option maxRecDepth 100000 in
theorem arg_tears {H : Type} {enc : TypeId × Value → H} {W : World} {base : Nat} {v : Value} {d : DataW H} {ps : List MemPlace} (hok : Value.okWide Tryd.prog W .any base 42 v) (h : DataW.Trod enc Tryd.prog W 0 (fun _ => true) true 42 v d ps) : ∃ ts, RdTC W v ts ∧ ts.length ≤ 9223372036854775807 :=
  rd_tears (arg_slice (l := layTear) Tryd.underlying42 (by kernel_rfl) tear_is hok h)
end Go.Sep
/- What all cards of this seat lean on: the door's own heap meets the condition. -/
namespace Go.Proofs.YtbpilaghemkdjaaDoor
open Go Go.Sep Go.ChangeShapes Go.WideShapes Go.ChangeAt Go.WideMaps Go.WideElems Go.RowKit
theorem own0 : ownKnob Tryd.prog.godebug = none := by kernel_rfl
theorem lo0 : laidOutB Tryd.prog = true := by kernel_rfl
theorem door0 (os : Os) (args : Array Value) : laidMetH Tryd.prog [("keepsake/geo.rows", Rows.laid_keepsake_geo_rows)] ((World.doorLaid Tryd.prog 25 os).forCall (fun _ _ => 0) ⟨#[], args, []⟩).memory :=
  laidMetH_of_parts3 (fuel := 8) (laidMet_of_run' 8 (by kernel_rfl) (by kernel_rfl)) (by kernel_rfl) (by kernel_rfl)
end Go.Proofs.YtbpilaghemkdjaaDoor
/- The statements of layer 6: a fresh disk; the chapter's example. -/
namespace Go.Sep
open Go Go.Proofs
attribute [local irreducible] JO JC JE JA JQ JB JI Mid Inv Weak ownS Ru Do Fn Sat Pick Take arr pt star ex Holds bodyPost Post Exit.then Exit.inBlock Res
variable {σ : Sig} {F : List HP}
attribute [local irreducible] diskHP cacheHP planHP rowHP
def sizeOfU (z : UInt8) : Nat := 32 + z.toNat % 100
theorem sizeOfU_bd (z : UInt8) : 32 ≤ sizeOfU z ∧ sizeOfU z ≤ 131 := by unfold sizeOfU; omega
theorem span_few {z : Nat} {e f s : Int} (ht : totG e f s ≤ 500) : 0 ≤ spanG z e f s ∧ spanG z e f s ≤ 501 := by
  have h1 := totG_bd e f s
  have h2 := secs_bd (m := totG e f s) (s := (z : Int)) h1.1
  unfold spanG
  split <;> omega
set_option maxHeartbeats 1000000 in
theorem law06_fresh (z : UInt8) (e f s : Int) (ht : totG e f s ≤ 500) [hg : InG F] :
    Fn Tryd.prog σ 9 #[.int .u8 z.toNat, geoV e f s] F (fun v l => ∃ d, v = .pointer (some ⟨d, 0, none⟩) ∧ l = diskHP d (freshN (2 * spanG (sizeOfU z) e f s).toNat (sizeOfU z)) :: F) := by
  have hz := sizeOfU_bd z
  have hsp := span_few (z := sizeOfU z) ht
  have hzu := UInt8.toNat_lt z
  have e1 : IntKind.i64.wrap ((z.toNat : Int) % 100) = (z.toNat : Int) % 100 := wrapI (by omega) (by omega)
  have e2 : IntKind.i64.wrap (32 + (z.toNat : Int) % 100) = (sizeOfU z : Int) := by
    rw [wrapI (by omega) (by omega)]; unfold sizeOfU; omega
  refine Fn.of Tryd.func9 rfl Tryd.ntmps9 rfl ?_
  iterate 11 (first | (apply JO.ru; exact rfl; exact rfl; exact rfl; (first | (apply Ru.move; exact rfl) | (apply Ru.assign; exact rfl) | (apply Ru.remN; exact rfl; exact rfl; omega; omega) | (apply Ru.conv; exact rfl; exact rfl))) | refine JC.seq ?_ | refine JC.region ?_ | refine JO.nil ?_ | refine JE.thenN ?_ | (apply JO.do; exact rfl; exact rfl; exact rfl; (first | (apply Do.boxN; exact rfl; exact rfl) | (apply Do.box; exact rfl)); rintro _ _ ⟨_, rfl, rfl⟩))
  rw [e1]
  (apply JO.ru; exact rfl; exact rfl; exact rfl; (apply Ru.add; exact rfl; exact rfl; exact e2))
  repeat' (first | (first | (apply JO.ru; exact rfl; exact rfl; exact rfl; (first | (apply Ru.move; exact rfl) | (apply Ru.assign; exact rfl) | (apply Ru.loadAN; exact rfl; (repeat (first | exact Pick.here | apply Pick.there)); exact rfl; exact rfl))) | refine JC.seq ?_ | refine JC.region ?_ | refine JO.nil ?_ | refine JE.thenN ?_) | (first | (apply JO.do; exact rfl; exact rfl; exact rfl; (apply Do.call; exact rfl; exact slot_Room _ _ _ _); rintro _ _ ⟨rfl, hq⟩; obtain rfl := hq.symm) | (apply JQ.call; exact rfl; exact rfl; exact rfl; exact slot_Room _ _ _ _; (rintro _ _ ⟨rfl, rfl⟩; exact ⟨rfl, rfl⟩))))
  have e3 : (2 * spanG (sizeOfU z) e f s) = (((2 * spanG (sizeOfU z) e f s).toNat : Nat) : Int) := by omega
  (apply JO.do; exact rfl; exact rfl; exact rfl; (apply Do.call; exact rfl; rw [e3]; exact disk_New _ (sizeOfU z) (by omega) (by omega) (by omega)); rintro _ _ ⟨d, rfl, rfl⟩)
  repeat' (first | (apply JO.ru; exact rfl; exact rfl; exact rfl; (first | (apply Ru.move; exact rfl) | (apply Ru.assign; exact rfl) | (apply Ru.neq; exact rfl; exact rfl; (first | exact ndecF (by omega) | exact ndecT (by omega))) | (apply Ru.extractN; exact rfl; exact rfl))) | refine JC.seq ?_ | refine JC.region ?_ | refine JO.nil ?_ | refine JE.thenN ?_ | refine JC.ret ?_ | refine JC.skip ?_ | refine JC.condF rfl ?_ | (apply JE.done1; exact rfl; (first | (apply Res.tmp; exact rfl) | (apply Res.cell; exact rfl; (repeat (first | exact Pick.here | apply Pick.there)); exact rfl) | (apply Res.cellAN; exact rfl; (repeat (first | exact Pick.here | apply Pick.there)); exact rfl; exact rfl) | (apply Res.cellA; exact rfl; (repeat (first | exact Pick.here | apply Pick.there)); exact rfl; exact rfl))))
  exact ⟨_, Sat.weak (by repeat (first | exact Weak.refl | (apply Weak.cons; (first | exact Pick.here | exact Pick.there Pick.here | exact Pick.there (Pick.there Pick.here) | exact Pick.there (Pick.there (Pick.there Pick.here)) | exact Pick.there (Pick.there (Pick.there (Pick.there Pick.here))) | exact Pick.there (Pick.there (Pick.there (Pick.there (Pick.there Pick.here)))) | exact Pick.there (Pick.there (Pick.there (Pick.there (Pick.there (Pick.there Pick.here))))) | exact Pick.there (Pick.there (Pick.there (Pick.there (Pick.there (Pick.there (Pick.there Pick.here)))))))) | apply Weak.drop)), d, rfl, rfl⟩
theorem JB.heap2 {P : Program} {n : Nat} {ds : List Deferred} {ops : Array Oper} {Q : Exit → Act → World → Prop} {env : Env} {l l' l0 : List HP} {mask fuel : Nat} (k : Weak l l') (h : JB P σ n ds ops Q l0 mask fuel env l') : JB P σ n ds ops Q l0 mask fuel env l := JB.heap (Sat.weak k) h
def bs64 : List UInt8 := List.replicate 64 0
theorem here6 : Here 32 6 1 0 0 1 3 2 := Here.of (z := 32) (k := 6) (which := 1) (e := 0) (f := 0) (s := 1) (by decide) (.inr rfl) (by decide) (by decide)
set_option maxHeartbeats 4000000 in
theorem law06_awake [hg : InG F] : Fn Tryd.prog σ 5 #[] F (fun v l => v = .bool true ∧ l = F) := by
  have h0 := freshN_ok (k := 6) (z := 32) (by omega) (by omega) (by omega)
  obtain ⟨D0, hD0⟩ : ∃ D0, freshN 6 32 = D0 := ⟨_, rfl⟩
  rw [hD0] at h0
  have ho : D0.ops = 0 := by rw [← hD0]; rfl
  have hw : D0.writes = 0 := by rw [← hD0]; rfl
  have hb : (bs64.length : Int) = totG 0 0 1 := by decide
  obtain ⟨a1, a2, a3, a4, a5, a6⟩ := data_ok here6 h0 hb
  obtain ⟨D1, hD1⟩ : ∃ D1, (dataR D0 1 0 0 1 bs64).2 = D1 := ⟨_, rfl⟩
  rw [hD1] at a2 a3 a4 a5 a6
  have b1 := seal_ok here6 a2 hb 9
  obtain ⟨D2, hD2⟩ : ∃ D2, D1.put ((3 : Nat) : Int) (padB (enc (sealHead bs64 0 0 1 9)) 32) = D2 := ⟨_, rfl⟩
  rw [hD2] at b1
  have hpl : (padB (enc (sealHead bs64 0 0 1 9)) 32).length = 32 := padB_length (by rw [enc_length]; omega)
  have b2 : Okd D2 32 6 := hD2 ▸ a2.put (i := 3) (by omega) hpl
  have c1 := read_good here6 b2 (bs := bs64) (q := 9) (by omega) hb (by rw [← hD2, cur_put, if_pos rfl]) (a5.of_cur (by rw [← hD2]; rfl) fun j hj => by rw [← hD2, cur_put, if_neg (by omega)])
  have hdata : (dataR D0 1 0 0 1 bs64) = (0, D1) := Prod.ext a1 hD1
  refine Fn.of Tryd.func5 rfl Tryd.ntmps5 rfl ?_
  repeat' (first | (apply JO.ru; exact rfl; exact rfl; exact rfl; (first | (apply Ru.assign; exact rfl) | (apply Ru.buildN; exact rfl; exact rfl))) | refine JC.seq ?_ | refine JC.region ?_ | refine JO.nil ?_ | refine JE.thenN ?_ | (apply JO.do; exact rfl; exact rfl; exact rfl; (first | (apply Do.allocN; exact rfl) | apply Do.alloc); rintro _ _ ⟨_, rfl, rfl⟩) | (apply JO.do0; exact rfl; exact rfl; (first | (apply Do.storeAN; exact rfl; exact rfl; (repeat (first | exact Pick.here | apply Pick.there)); exact rfl; exact rfl; exact rfl; exact rfl) | (apply Do.storeA; exact rfl; exact rfl; (repeat (first | exact Pick.here | apply Pick.there)); exact rfl; exact rfl; exact rfl)); rintro _ _ ⟨rfl, rfl⟩))
  rename_i gb
  (apply JO.do; exact rfl; exact rfl; exact rfl; (apply Do.call; exact rfl; exact disk_New 6 32 (by omega) (by omega) (by omega)); rintro _ _ ⟨d, rfl, rfl⟩)
  rw [hD0]
  repeat' (first | (apply JO.ru; exact rfl; exact rfl; exact rfl; (first | (apply Ru.move; exact rfl) | (apply Ru.assign; exact rfl) | (apply Ru.neq; exact rfl; exact rfl; (first | exact ndecF (by omega) | exact ndecT (by omega))) | (apply Ru.pickF; exact rfl; exact rfl) | (apply Ru.extractN; exact rfl; exact rfl) | (apply Ru.eqlPN; exact rfl; exact rfl))) | refine JC.seq ?_ | refine JC.region ?_ | refine JO.nil ?_ | refine JE.thenN ?_ | refine JC.skip ?_ | refine JC.condF rfl ?_ | refine JO.guardT rfl rfl rfl rfl ?_)
  have hz : List.replicate 64 (Value.int .u8 0) = bs64.map byte := by simp [bs64]
  have hrd : ∀ (x : Nat) (r : List HP), RdS σ (arr x 5 (bs64.map byte) :: r) (.slice (some ⟨x, 0, none⟩) 64 64) (bs64.map byte) := fun x r => RdS.arr0 (spare := []) (by rw [List.append_nil]; exact Pick.here) (by rfl) (Nat.le_refl _)
  refine JC.regionB (arr gb 23 [int 0, int 0, int 1] :: F) mixed ?_
  repeat' ((apply JB.ru; exact rfl; exact rfl; exact rfl; exact rfl; (first | (apply Ru.move; exact rfl) | (apply Ru.loadAN; exact rfl; (repeat (first | exact Pick.here | apply Pick.there)); exact rfl; exact rfl)); decide +kernel; decide +kernel; (first | exact fun _ h => h | exact fun _ h => Sat.drop h | exact fun _ h => Sat.drop (Sat.drop h) | exact fun _ h => Sat.drop (Sat.drop (Sat.drop h)) | exact fun _ h => Sat.drop (Sat.drop (Sat.drop (Sat.drop h)))); (simp only [Nat.reduceAdd, Nat.reducePow, Nat.reduceMul, Nat.zero_or, Nat.or_zero, Nat.reduceXor, Nat.reduceOr]; try exact rfl)))
  refine JB.one 2 (by decide +kernel) ?_
  (apply JI.do; exact rfl; exact rfl; exact rfl; exact rfl; (apply Do.makeSlice (k := 64) (c := 64); exact rfl; exact rfl; exact Nat.le_refl _; (show 64 * 1 ≤ _; omega); omega); (simp only [Nat.reduceAdd, Nat.reducePow, Nat.reduceMul, Nat.zero_or, Nat.or_zero, Nat.reduceXor, Nat.reduceOr]; try exact rfl); rintro _ _ ⟨x, rfl, rfl⟩; refine ⟨Sat.weak (by repeat (first | exact Weak.refl | (apply Weak.cons; (first | exact Pick.here | exact Pick.there Pick.here | exact Pick.there (Pick.there Pick.here) | exact Pick.there (Pick.there (Pick.there Pick.here)) | exact Pick.there (Pick.there (Pick.there (Pick.there Pick.here))) | exact Pick.there (Pick.there (Pick.there (Pick.there (Pick.there Pick.here)))) | exact Pick.there (Pick.there (Pick.there (Pick.there (Pick.there (Pick.there Pick.here))))) | exact Pick.there (Pick.there (Pick.there (Pick.there (Pick.there (Pick.there (Pick.there Pick.here)))))))) | apply Weak.drop)), ?_⟩)
  rw [hz]
  refine JB.heap2 (l' := diskHP d D0 :: arr x 5 (bs64.map byte) :: arr gb 23 [int 0, int 0, int 1] :: F) (by repeat (first | exact Weak.refl | (apply Weak.cons; (first | exact Pick.here | exact Pick.there Pick.here | exact Pick.there (Pick.there Pick.here) | exact Pick.there (Pick.there (Pick.there Pick.here)) | exact Pick.there (Pick.there (Pick.there (Pick.there Pick.here))) | exact Pick.there (Pick.there (Pick.there (Pick.there (Pick.there Pick.here)))) | exact Pick.there (Pick.there (Pick.there (Pick.there (Pick.there (Pick.there Pick.here))))) | exact Pick.there (Pick.there (Pick.there (Pick.there (Pick.there (Pick.there (Pick.there Pick.here)))))))) | apply Weak.drop)) ?_
  have k1 := slot_DataE (σ := σ) (d := d) hdata (by decide) h0.wf (by omega) (by omega) (hrd x (arr gb 23 [int 0, int 0, int 1] :: F))
  refine JB.one 3 (by decide +kernel) ?_
  (apply JI.do; exact rfl; exact rfl; exact rfl; exact rfl; (apply Do.call; exact rfl; exact k1); (simp only [Nat.reduceAdd, Nat.reducePow, Nat.reduceMul, Nat.zero_or, Nat.or_zero, Nat.reduceXor, Nat.reduceOr]; try exact rfl); rintro _ _ ⟨rfl, rfl⟩; refine ⟨Sat.weak (by repeat (first | exact Weak.refl | (apply Weak.cons; (first | exact Pick.here | exact Pick.there Pick.here | exact Pick.there (Pick.there Pick.here) | exact Pick.there (Pick.there (Pick.there Pick.here)) | exact Pick.there (Pick.there (Pick.there (Pick.there Pick.here))) | exact Pick.there (Pick.there (Pick.there (Pick.there (Pick.there Pick.here)))) | exact Pick.there (Pick.there (Pick.there (Pick.there (Pick.there (Pick.there Pick.here))))) | exact Pick.there (Pick.there (Pick.there (Pick.there (Pick.there (Pick.there (Pick.there Pick.here)))))))) | apply Weak.drop)), ?_⟩)
  repeat' (first | (apply JB.ru; exact rfl; exact rfl; exact rfl; exact rfl; ((apply Ru.assign; exact rfl)); decide +kernel; decide +kernel; (first | exact fun _ h => h | exact fun _ h => Sat.drop h | exact fun _ h => Sat.drop (Sat.drop h) | exact fun _ h => Sat.drop (Sat.drop (Sat.drop h)) | exact fun _ h => Sat.drop (Sat.drop (Sat.drop (Sat.drop h)))); (simp only [Nat.reduceAdd, Nat.reducePow, Nat.reduceMul, Nat.zero_or, Nat.or_zero, Nat.reduceXor, Nat.reduceOr]; try exact rfl)) | (apply JB.nil; exact rfl))
  repeat' (first | refine JC.seq ?_ | refine JE.thenN ?_)
  refine JC.regionB (arr gb 23 [int 0, int 0, int 1] :: F) mixed ?_
  repeat' ((apply JB.ru; exact rfl; exact rfl; exact rfl; exact rfl; (first | (apply Ru.move; exact rfl) | (apply Ru.loadAN; exact rfl; (repeat (first | exact Pick.here | apply Pick.there)); exact rfl; exact rfl)); decide +kernel; decide +kernel; (first | exact fun _ h => h | exact fun _ h => Sat.drop h | exact fun _ h => Sat.drop (Sat.drop h) | exact fun _ h => Sat.drop (Sat.drop (Sat.drop h)) | exact fun _ h => Sat.drop (Sat.drop (Sat.drop (Sat.drop h)))); (simp only [Nat.reduceAdd, Nat.reducePow, Nat.reduceMul, Nat.zero_or, Nat.or_zero, Nat.reduceXor, Nat.reduceOr]; try exact rfl)))
  refine JB.one 2 (by decide +kernel) ?_
  (apply JI.do; exact rfl; exact rfl; exact rfl; exact rfl; (apply Do.makeSlice (k := 64) (c := 64); exact rfl; exact rfl; exact Nat.le_refl _; (show 64 * 1 ≤ _; omega); omega); (simp only [Nat.reduceAdd, Nat.reducePow, Nat.reduceMul, Nat.zero_or, Nat.or_zero, Nat.reduceXor, Nat.reduceOr]; try exact rfl); rintro _ _ ⟨y, rfl, rfl⟩; refine ⟨Sat.weak (by repeat (first | exact Weak.refl | (apply Weak.cons; (first | exact Pick.here | exact Pick.there Pick.here | exact Pick.there (Pick.there Pick.here) | exact Pick.there (Pick.there (Pick.there Pick.here)) | exact Pick.there (Pick.there (Pick.there (Pick.there Pick.here))) | exact Pick.there (Pick.there (Pick.there (Pick.there (Pick.there Pick.here)))) | exact Pick.there (Pick.there (Pick.there (Pick.there (Pick.there (Pick.there Pick.here))))) | exact Pick.there (Pick.there (Pick.there (Pick.there (Pick.there (Pick.there (Pick.there Pick.here)))))))) | apply Weak.drop)), ?_⟩)
  rw [hz]
  refine JB.heap2 (l' := diskHP d D1 :: arr y 5 (bs64.map byte) :: arr x 5 (bs64.map byte) :: arr gb 23 [int 0, int 0, int 1] :: F) (by repeat (first | exact Weak.refl | (apply Weak.cons; (first | exact Pick.here | exact Pick.there Pick.here | exact Pick.there (Pick.there Pick.here) | exact Pick.there (Pick.there (Pick.there Pick.here)) | exact Pick.there (Pick.there (Pick.there (Pick.there Pick.here))) | exact Pick.there (Pick.there (Pick.there (Pick.there (Pick.there Pick.here)))) | exact Pick.there (Pick.there (Pick.there (Pick.there (Pick.there (Pick.there Pick.here))))) | exact Pick.there (Pick.there (Pick.there (Pick.there (Pick.there (Pick.there (Pick.there Pick.here)))))))) | apply Weak.drop)) ?_
  have k2 := slot_SealE (σ := σ) (d := d) b1 (by decide) (by decide) a2.wf (by omega) (by omega) (hrd y (arr x 5 (bs64.map byte) :: arr gb 23 [int 0, int 0, int 1] :: F))
  refine JB.one 3 (by decide +kernel) ?_
  (apply JI.do; exact rfl; exact rfl; exact rfl; exact rfl; (apply Do.call; exact rfl; exact k2); (simp only [Nat.reduceAdd, Nat.reducePow, Nat.reduceMul, Nat.zero_or, Nat.or_zero, Nat.reduceXor, Nat.reduceOr]; try exact rfl); rintro _ _ ⟨rfl, rfl⟩; refine ⟨Sat.weak (by repeat (first | exact Weak.refl | (apply Weak.cons; (first | exact Pick.here | exact Pick.there Pick.here | exact Pick.there (Pick.there Pick.here) | exact Pick.there (Pick.there (Pick.there Pick.here)) | exact Pick.there (Pick.there (Pick.there (Pick.there Pick.here))) | exact Pick.there (Pick.there (Pick.there (Pick.there (Pick.there Pick.here)))) | exact Pick.there (Pick.there (Pick.there (Pick.there (Pick.there (Pick.there Pick.here))))) | exact Pick.there (Pick.there (Pick.there (Pick.there (Pick.there (Pick.there (Pick.there Pick.here)))))))) | apply Weak.drop)), ?_⟩)
  repeat' (first | (apply JB.ru; exact rfl; exact rfl; exact rfl; exact rfl; ((apply Ru.assign; exact rfl)); decide +kernel; decide +kernel; (first | exact fun _ h => h | exact fun _ h => Sat.drop h | exact fun _ h => Sat.drop (Sat.drop h) | exact fun _ h => Sat.drop (Sat.drop (Sat.drop h)) | exact fun _ h => Sat.drop (Sat.drop (Sat.drop (Sat.drop h)))); (simp only [Nat.reduceAdd, Nat.reducePow, Nat.reduceMul, Nat.zero_or, Nat.or_zero, Nat.reduceXor, Nat.reduceOr]; try exact rfl)) | (apply JB.nil; exact rfl))
  have ho2 : D2.ops = D1.ops + 1 := by rw [← hD2]; rfl
  have k3 := slot_ReadE (σ := σ) (d := d) c1 b2.wf (by omega) (F := arr y 5 (bs64.map byte) :: arr x 5 (bs64.map byte) :: arr gb 23 [int 0, int 0, int 1] :: F)
  repeat' (first | (first | (apply JO.ru; exact rfl; exact rfl; exact rfl; (first | (apply Ru.move; exact rfl) | (apply Ru.extractN; exact rfl; exact rfl) | (apply Ru.loadAN; exact rfl; (repeat (first | exact Pick.here | apply Pick.there)); exact rfl; exact rfl))) | refine JC.seq ?_ | refine JC.region ?_ | refine JE.thenN ?_ | (apply JO.do; exact rfl; exact rfl; exact rfl; (first | (apply Do.allocN; exact rfl) | apply Do.alloc); rintro _ _ ⟨_, rfl, rfl⟩)) | (apply JO.do; exact rfl; exact rfl; exact rfl; (apply Do.call; exact rfl; exact k3); rintro _ _ ⟨u, rfl, rfl⟩))
  refine JO.ownR (Pick.there Pick.here) fun _ _ hsh => ?_
  have hs1 : spanG 32 0 0 1 = 3 := by decide
  have hsp := fun G [InG G] => slot_Span (σ := σ) (F := G) 32 0 0 1
  have hro := fun G [InG G] => slot_Room (σ := σ) (F := G) 32 0 0 1
  simp only [hs1] at hsp hro
  rcases hsh with ⟨rfl, _⟩ | ⟨bu, cu, rfl, _⟩
  all_goals
    repeat' (first | (first | (apply JO.ru; exact rfl; exact rfl; exact rfl; (first | (apply Ru.move; exact rfl) | (apply Ru.loadN; exact rfl; (repeat (first | exact Pick.here | apply Pick.there)); exact rfl) | (apply Ru.fieldAddr; exact rfl) | (apply Ru.assign; exact rfl) | (apply Ru.eql; exact rfl; exact rfl; (first | exact decT (by omega) | exact decF (by omega))) | (apply Ru.pickT; exact rfl; exact rfl) | (apply Ru.loadAN; exact rfl; (repeat (first | exact Pick.here | apply Pick.there)); exact rfl; exact rfl))) | refine JC.seq ?_ | refine JC.region ?_ | refine JO.nil ?_ | refine JE.thenN ?_ | refine JC.ret ?_ | refine JO.guardT rfl rfl rfl rfl ?_ | (apply JO.do0; exact rfl; exact rfl; (first | (apply Do.storeAN; exact rfl; exact rfl; (repeat (first | exact Pick.here | apply Pick.there)); exact rfl; exact rfl; exact rfl; exact rfl) | (apply Do.storeA; exact rfl; exact rfl; (repeat (first | exact Pick.here | apply Pick.there)); exact rfl; exact rfl; exact rfl)); rintro _ _ ⟨rfl, rfl⟩) | (apply JE.done1; exact rfl; (first | (apply Res.tmp; exact rfl) | (apply Res.cell; exact rfl; (repeat (first | exact Pick.here | apply Pick.there)); exact rfl) | (apply Res.cellAN; exact rfl; (repeat (first | exact Pick.here | apply Pick.there)); exact rfl; exact rfl) | (apply Res.cellA; exact rfl; (repeat (first | exact Pick.here | apply Pick.there)); exact rfl; exact rfl)))) | (first | (apply JO.do; exact rfl; exact rfl; exact rfl; (apply Do.call; exact rfl; exact hsp _); rintro _ _ ⟨rfl, hq⟩; obtain rfl := hq.symm) | (apply JQ.call; exact rfl; exact rfl; exact rfl; exact hsp _; (rintro _ _ ⟨rfl, rfl⟩; exact ⟨rfl, rfl⟩))) | (first | (apply JO.do; exact rfl; exact rfl; exact rfl; (apply Do.call; exact rfl; exact hro _); rintro _ _ ⟨rfl, hq⟩; obtain rfl := hq.symm) | (apply JQ.call; exact rfl; exact rfl; exact rfl; exact hro _; (rintro _ _ ⟨rfl, rfl⟩; exact ⟨rfl, rfl⟩))))
    all_goals exact ⟨F, Sat.weak (by repeat (first | exact Weak.refl | (apply Weak.cons; (first | exact Pick.here | exact Pick.there Pick.here | exact Pick.there (Pick.there Pick.here) | exact Pick.there (Pick.there (Pick.there Pick.here)) | exact Pick.there (Pick.there (Pick.there (Pick.there Pick.here))) | exact Pick.there (Pick.there (Pick.there (Pick.there (Pick.there Pick.here)))) | exact Pick.there (Pick.there (Pick.there (Pick.there (Pick.there (Pick.there Pick.here))))) | exact Pick.there (Pick.there (Pick.there (Pick.there (Pick.there (Pick.there (Pick.there Pick.here)))))))) | apply Weak.drop)), rfl, rfl⟩
end Go.Sep
/- SlotBack: what was laid and sealed is read as good. -/
namespace Go.Sep
open Go Go.Proofs
attribute [local irreducible] JO JC JE JA JQ JB JI Mid Inv Weak ownS Ru Do Fn Sat Pick Take arr pt star ex Holds bodyPost Post Exit.then Exit.inBlock Res
variable {σ : Sig} {F : List HP}
attribute [local irreducible] diskHP cacheHP planHP rowHP
theorem disk_SyncE {d : Nat} {D : DiskN} {z k : Nat} (h : Okd D z k) (ho : D.ops ≤ 1000000000000) (hw : D.writes ≤ 1000000) :
    Fn Tryd.prog σ 13 #[.pointer (some ⟨d, 0, none⟩)] (diskHP d D :: F) (fun v l => v = int 0 ∧ l = diskHP d D.tick.sync :: F) := by
  refine (disk_Sync d D h.wf ho hw).mono ?_
  rintro v l' (⟨h1, _, _⟩ | ⟨_, rfl, rfl⟩)
  · rw [h.failing] at h1; cases h1
  · exact ⟨rfl, rfl⟩
theorem padB_nil (m : Nat) : padB [] m = List.replicate m 0 := by simp [padB]
theorem few_tot {e f s : Int} (h : fewG e f s = true) (hr : rightG e f s = true) : totG e f s ≤ 500 := by
  unfold fewG at h; rw [hr] at h; simpa using h
/-- What SlotBack's calls come to. -/
theorem back_plain {z k fst many : Nat} {which e f s : Int} (hh : Here z k which e f s fst many) (hk : k ≤ 4096) {bs : List UInt8} {q : Int} (hq : 0 ≤ q ∧ q < 18446744073709551616) (hb : (bs.length : Int) = totG e f s) (sync : Bool) :
    ∃ D1 D2 D4 D5 D6 D7 : DiskN, dataR (freshN k z) which e f s bs = (0, D1) ∧ readR D1 which e f s = (0, D2, ⟨0, 6, 0, []⟩) ∧ ∃ D3, sealR D2 which e f s q bs = (0, D3) ∧ D4 = (if sync = true then D3.tick.sync else D3) ∧ Okd D3 z k ∧ Okd D4 z k ∧
      readR D4 which e f s = (0, D5, ⟨2, 0, q, bs⟩) ∧ wipeR D5 which e f s = (0, D6) ∧ readR D6 which e f s = (0, D7, ⟨0, 6, 0, []⟩) ∧ Okd (freshN k z) z k ∧ Okd D1 z k ∧ Okd D2 z k ∧ Okd D5 z k ∧ Okd D6 z k ∧
      D1.ops = many ∧ D1.writes = many ∧ D2.ops = many + 1 ∧ D2.writes = many ∧ D3.ops = many + 2 ∧ D3.writes = many + 1 ∧ D4.ops ≤ many + 3 ∧ D4.writes = many + 1 ∧ D5.ops ≤ 2 * many + 4 ∧ D5.writes = many + 1 ∧ D6.ops ≤ 2 * many + 5 ∧ D6.writes = many + 2 := by
  have hsz := hh.hsize
  have h0 := freshN_ok (k := k) (z := z) hk (by omega) (by omega)
  have hl := hh.lt (j := 0) (by omega)
  obtain ⟨a1, a2, a3, a4, a5, a6⟩ := data_ok hh h0 hb
  obtain ⟨D1, hD1⟩ : ∃ D1, (dataR (freshN k z) which e f s bs).2 = D1 := ⟨_, rfl⟩
  rw [hD1] at a2 a3 a4 a5 a6
  have hdata : dataR (freshN k z) which e f s bs = (0, D1) := Prod.ext a1 hD1
  have hc1 : D1.cur fst = padB [] z := by rw [a6 fst (by omega), fresh_cur (by omega), padB_nil]
  have c0 := read_magic hh a2 hc1
  have b1 := seal_ok hh a2.tick hb q
  have hpl : (padB (enc (sealHead bs e f s q)) z).length = z := padB_length (by rw [enc_length]; omega)
  obtain ⟨D3, hD3⟩ : ∃ D3, D1.tick.put (fst : Int) (padB (enc (sealHead bs e f s q)) z) = D3 := ⟨_, rfl⟩
  rw [hD3] at b1
  have k3 : Okd D3 z k := hD3 ▸ a2.tick.put (i := fst) (by omega) hpl
  have ho3 : D3.ops = D1.ops + 1 + 1 := by rw [← hD3]; rfl
  have hw3 : D3.writes = D1.writes + 1 := by rw [← hD3]; rfl
  have hcur3 : D3.cur fst = padB (enc (sealHead bs e f s q)) z := by rw [← hD3, cur_put, if_pos rfl]
  have himg3 : ImgIs D3 fst many bs := a5.of_cur (by rw [← hD3]; rfl) fun j hj => by rw [← hD3, cur_put, if_neg (by omega)]; rfl
  obtain ⟨D4, hD4⟩ : ∃ D4, (if sync = true then D3.tick.sync else D3) = D4 := ⟨_, rfl⟩
  have key : Okd D4 z k ∧ D4.cur fst = padB (enc (sealHead bs e f s q)) z ∧ ImgIs D4 fst many bs ∧ D4.ops ≤ D3.ops + 1 ∧ D4.writes = D3.writes := by
    cases sync with
    | false =>
      rw [if_neg (by decide)] at hD4
      subst hD4
      exact ⟨k3, hcur3, himg3, by omega, rfl⟩
    | true =>
      rw [if_pos rfl] at hD4
      subst hD4
      have hr := settled_rest k3.tick.wf D3.tick.keys.length
      refine ⟨k3.tick.sync, ?_, ?_, Nat.le_of_eq hr.1, hr.2.1⟩
      · rw [sync_cur k3.tick.wf (by rw [k3.tick.count]; omega)]; exact hcur3
      · refine himg3.of_cur (k3.tick.sync.size.trans k3.size.symm) fun j hj => ?_
        have := hh.lt (j := 1 + j) (by omega)
        rw [sync_cur k3.tick.wf (by rw [k3.tick.count]; omega)]; rfl
  obtain ⟨k4, hcur4, himg4, ho4, hw4⟩ := key
  have c1 := read_good hh k4 hq hb hcur4 himg4
  have k5 := k4.ticks (1 + many)
  have b2 := wipe_ok hh k5
  have hpl0 : (padB [] z).length = z := padB_length (by simp)
  have k6 : Okd ((D4.ticks (1 + many)).put (fst : Int) (padB [] z)) z k := k5.put (i := fst) (by omega) hpl0
  have c2 := read_magic hh k6 (by rw [cur_put, if_pos rfl])
  have hf0 : (freshN k z).ops = 0 ∧ (freshN k z).writes = 0 := ⟨rfl, rfl⟩
  refine ⟨D1, D1.tick, D4, D4.ticks (1 + many), _, _, hdata, c0, D3, b1, hD4.symm, k3, k4, c1, b2, c2, h0, a2, a2.tick, k5, k6, by omega, by omega, ?_, ?_, by omega, by omega, by omega, by omega, ?_, hw4.trans (by omega), ?_, ?_⟩
  · show D1.ops + 1 = _; omega
  · show D1.writes = _; omega
  · show D4.ops + (1 + many) ≤ _; omega
  · show D4.ops + (1 + many) + 1 ≤ _; omega
  · show D4.writes + 1 = _; omega
set_option maxHeartbeats 8000000 in
theorem law06_SlotBack (e f s : Int) (v : Value) (bs : List UInt8) (z : UInt8) (second : Bool) (q : Int) (sync : Bool) (hq : 0 ≤ q ∧ q < 18446744073709551616) (hb : RdS σ F v (bs.map byte)) [hg : InG F] :
    Fn Tryd.prog σ 3 #[geoV e f s, v, .int .u8 z.toNat, .bool second, u64 q, .bool sync] F (fun r l' => r = .bool true ∧ l' = F) := by
  obtain ⟨pv, cv, rfl, hcv, hrv⟩ := id hb
  have hl : (bs.map byte).length = bs.length := by simp
  have haw := fun G [InG G] => law06_awake (σ := σ) (F := G)
  by_cases h1 : fewG e f s = true
  case neg =>
    simp only [Bool.not_eq_true] at h1
    refine Fn.of Tryd.func3 rfl Tryd.ntmps3 rfl ?_
    repeat' (first | (first | (apply JO.ru; exact rfl; exact rfl; exact rfl; (first | (apply Ru.move; exact rfl) | (apply Ru.assign; exact rfl) | (apply Ru.pickT; exact rfl; exact rfl) | (apply Ru.not; exact rfl) | (apply Ru.loadAN; exact rfl; (repeat (first | exact Pick.here | apply Pick.there)); exact rfl; exact rfl))) | refine JC.seq ?_ | refine JC.region ?_ | refine JO.nil ?_ | refine JE.thenN ?_ | refine JE.thenR ?_ | refine JC.ret ?_ | refine JC.condT rfl ?_ | refine JO.guardF rfl rfl rfl rfl rfl rfl rfl ?_ | (apply JO.do; exact rfl; exact rfl; exact rfl; (first | (apply Do.boxN; exact rfl; exact rfl) | (apply Do.box; exact rfl)); rintro _ _ ⟨_, rfl, rfl⟩) | (apply JE.done1; exact rfl; (first | (apply Res.tmp; exact rfl) | (apply Res.cell; exact rfl; (repeat (first | exact Pick.here | apply Pick.there)); exact rfl) | (apply Res.cellAN; exact rfl; (repeat (first | exact Pick.here | apply Pick.there)); exact rfl; exact rfl) | (apply Res.cellA; exact rfl; (repeat (first | exact Pick.here | apply Pick.there)); exact rfl; exact rfl)))) | (first | (apply JO.do; exact rfl; exact rfl; exact rfl; (apply Do.call; exact rfl; exact haw _); rintro _ _ ⟨rfl, hq⟩; obtain rfl := hq.symm) | (apply JQ.call; exact rfl; exact rfl; exact rfl; exact haw _; (rintro _ _ ⟨rfl, rfl⟩; exact ⟨rfl, rfl⟩))) | ((first | (apply JO.do; exact rfl; exact rfl; exact rfl; (apply Do.call; exact rfl; exact ref_Few _ _ _); rintro _ _ ⟨rfl, hq⟩; obtain rfl := hq.symm) | (apply JQ.call; exact rfl; exact rfl; exact rfl; exact ref_Few _ _ _; (rintro _ _ ⟨rfl, rfl⟩; exact ⟨rfl, rfl⟩))); rw [h1]) | (first | (apply JO.do; exact rfl; exact rfl; exact rfl; (apply Do.call; exact rfl; exact ref_Right _ _ _); rintro _ _ ⟨rfl, hq⟩; obtain rfl := hq.symm) | (apply JQ.call; exact rfl; exact rfl; exact rfl; exact ref_Right _ _ _; (rintro _ _ ⟨rfl, rfl⟩; exact ⟨rfl, rfl⟩))))
    all_goals exact ⟨F, Sat.weak (by repeat (first | exact Weak.refl | (apply Weak.cons; (first | exact Pick.here | exact Pick.there Pick.here | exact Pick.there (Pick.there Pick.here) | exact Pick.there (Pick.there (Pick.there Pick.here)) | exact Pick.there (Pick.there (Pick.there (Pick.there Pick.here))) | exact Pick.there (Pick.there (Pick.there (Pick.there (Pick.there Pick.here)))) | exact Pick.there (Pick.there (Pick.there (Pick.there (Pick.there (Pick.there Pick.here))))) | exact Pick.there (Pick.there (Pick.there (Pick.there (Pick.there (Pick.there (Pick.there Pick.here)))))))) | apply Weak.drop)), rfl, rfl⟩
  by_cases h2 : rightG e f s = true
  case neg =>
    simp only [Bool.not_eq_true] at h2
    refine Fn.of Tryd.func3 rfl Tryd.ntmps3 rfl ?_
    repeat' (first | (first | (apply JO.ru; exact rfl; exact rfl; exact rfl; (first | (apply Ru.move; exact rfl) | (apply Ru.assign; exact rfl) | (apply Ru.pickT; exact rfl; exact rfl) | (apply Ru.pickF; exact rfl; exact rfl) | (apply Ru.not; exact rfl) | (apply Ru.loadAN; exact rfl; (repeat (first | exact Pick.here | apply Pick.there)); exact rfl; exact rfl))) | refine JC.seq ?_ | refine JC.region ?_ | refine JO.nil ?_ | refine JE.thenN ?_ | refine JE.thenR ?_ | refine JC.ret ?_ | refine JC.condT rfl ?_ | refine JO.guardF rfl rfl rfl rfl rfl rfl rfl ?_ | refine JO.guardT rfl rfl rfl rfl ?_ | (apply JO.do; exact rfl; exact rfl; exact rfl; (first | (apply Do.boxN; exact rfl; exact rfl) | (apply Do.box; exact rfl)); rintro _ _ ⟨_, rfl, rfl⟩) | (apply JE.done1; exact rfl; (first | (apply Res.tmp; exact rfl) | (apply Res.cell; exact rfl; (repeat (first | exact Pick.here | apply Pick.there)); exact rfl) | (apply Res.cellAN; exact rfl; (repeat (first | exact Pick.here | apply Pick.there)); exact rfl; exact rfl) | (apply Res.cellA; exact rfl; (repeat (first | exact Pick.here | apply Pick.there)); exact rfl; exact rfl)))) | (first | (apply JO.do; exact rfl; exact rfl; exact rfl; (apply Do.call; exact rfl; exact haw _); rintro _ _ ⟨rfl, hq⟩; obtain rfl := hq.symm) | (apply JQ.call; exact rfl; exact rfl; exact rfl; exact haw _; (rintro _ _ ⟨rfl, rfl⟩; exact ⟨rfl, rfl⟩))) | ((first | (apply JO.do; exact rfl; exact rfl; exact rfl; (apply Do.call; exact rfl; exact ref_Few _ _ _); rintro _ _ ⟨rfl, hq⟩; obtain rfl := hq.symm) | (apply JQ.call; exact rfl; exact rfl; exact rfl; exact ref_Few _ _ _; (rintro _ _ ⟨rfl, rfl⟩; exact ⟨rfl, rfl⟩))); rw [h1]) | ((first | (apply JO.do; exact rfl; exact rfl; exact rfl; (apply Do.call; exact rfl; exact ref_Right _ _ _); rintro _ _ ⟨rfl, hq⟩; obtain rfl := hq.symm) | (apply JQ.call; exact rfl; exact rfl; exact rfl; exact ref_Right _ _ _; (rintro _ _ ⟨rfl, rfl⟩; exact ⟨rfl, rfl⟩))); rw [h2]))
    all_goals exact ⟨F, Sat.weak (by repeat (first | exact Weak.refl | (apply Weak.cons; (first | exact Pick.here | exact Pick.there Pick.here | exact Pick.there (Pick.there Pick.here) | exact Pick.there (Pick.there (Pick.there Pick.here)) | exact Pick.there (Pick.there (Pick.there (Pick.there Pick.here))) | exact Pick.there (Pick.there (Pick.there (Pick.there (Pick.there Pick.here)))) | exact Pick.there (Pick.there (Pick.there (Pick.there (Pick.there (Pick.there Pick.here))))) | exact Pick.there (Pick.there (Pick.there (Pick.there (Pick.there (Pick.there (Pick.there Pick.here)))))))) | apply Weak.drop)), rfl, rfl⟩
  by_cases h3 : (bs.length : Int) = totG e f s
  case neg =>
    refine Fn.of Tryd.func3 rfl Tryd.ntmps3 rfl ?_
    repeat' (first | (first | (apply JO.ru; exact rfl; exact rfl; exact rfl; (first | (apply Ru.move; exact rfl) | (apply Ru.assign; exact rfl) | (apply Ru.lenS; exact rfl) | (apply Ru.neq; exact rfl; exact rfl; (first | exact ndecF (by omega) | exact ndecT (by omega))) | (apply Ru.pickF; exact rfl; exact rfl) | (apply Ru.not; exact rfl) | (apply Ru.loadAN; exact rfl; (repeat (first | exact Pick.here | apply Pick.there)); exact rfl; exact rfl))) | refine JC.seq ?_ | refine JC.region ?_ | refine JO.nil ?_ | refine JE.thenN ?_ | refine JE.thenR ?_ | refine JC.ret ?_ | refine JC.condT rfl ?_ | refine JO.guardT rfl rfl rfl rfl ?_ | (apply JO.do; exact rfl; exact rfl; exact rfl; (first | (apply Do.boxN; exact rfl; exact rfl) | (apply Do.box; exact rfl)); rintro _ _ ⟨_, rfl, rfl⟩) | (apply JE.done1; exact rfl; (first | (apply Res.tmp; exact rfl) | (apply Res.cell; exact rfl; (repeat (first | exact Pick.here | apply Pick.there)); exact rfl) | (apply Res.cellAN; exact rfl; (repeat (first | exact Pick.here | apply Pick.there)); exact rfl; exact rfl) | (apply Res.cellA; exact rfl; (repeat (first | exact Pick.here | apply Pick.there)); exact rfl; exact rfl)))) | (first | (apply JO.do; exact rfl; exact rfl; exact rfl; (apply Do.call; exact rfl; exact haw _); rintro _ _ ⟨rfl, hq⟩; obtain rfl := hq.symm) | (apply JQ.call; exact rfl; exact rfl; exact rfl; exact haw _; (rintro _ _ ⟨rfl, rfl⟩; exact ⟨rfl, rfl⟩))) | ((first | (apply JO.do; exact rfl; exact rfl; exact rfl; (apply Do.call; exact rfl; exact ref_Few _ _ _); rintro _ _ ⟨rfl, hq⟩; obtain rfl := hq.symm) | (apply JQ.call; exact rfl; exact rfl; exact rfl; exact ref_Few _ _ _; (rintro _ _ ⟨rfl, rfl⟩; exact ⟨rfl, rfl⟩))); rw [h1]) | ((first | (apply JO.do; exact rfl; exact rfl; exact rfl; (apply Do.call; exact rfl; exact ref_Right _ _ _); rintro _ _ ⟨rfl, hq⟩; obtain rfl := hq.symm) | (apply JQ.call; exact rfl; exact rfl; exact rfl; exact ref_Right _ _ _; (rintro _ _ ⟨rfl, rfl⟩; exact ⟨rfl, rfl⟩))); rw [h2]) | (first | (apply JO.do; exact rfl; exact rfl; exact rfl; (apply Do.call; exact rfl; exact ref_Total _ _ _); rintro _ _ ⟨rfl, hq⟩; obtain rfl := hq.symm) | (apply JQ.call; exact rfl; exact rfl; exact rfl; exact ref_Total _ _ _; (rintro _ _ ⟨rfl, rfl⟩; exact ⟨rfl, rfl⟩))))
    all_goals exact ⟨F, Sat.weak (by repeat (first | exact Weak.refl | (apply Weak.cons; (first | exact Pick.here | exact Pick.there Pick.here | exact Pick.there (Pick.there Pick.here) | exact Pick.there (Pick.there (Pick.there Pick.here)) | exact Pick.there (Pick.there (Pick.there (Pick.there Pick.here))) | exact Pick.there (Pick.there (Pick.there (Pick.there (Pick.there Pick.here)))) | exact Pick.there (Pick.there (Pick.there (Pick.there (Pick.there (Pick.there Pick.here))))) | exact Pick.there (Pick.there (Pick.there (Pick.there (Pick.there (Pick.there (Pick.there Pick.here)))))))) | apply Weak.drop)), rfl, rfl⟩
  have ht := few_tot h1 h2
  have hm := sizeOfU_bd z
  have hsp := span_few (z := sizeOfU z) ht
  obtain ⟨m, hm0⟩ : ∃ m, sizeOfU z = m := ⟨_, rfl⟩
  obtain ⟨k, hk0⟩ : ∃ k, (2 * spanG m e f s).toNat = k := ⟨_, rfl⟩
  have hfr := fun G [InG G] => law06_fresh (σ := σ) (F := G) z e f s ht
  simp only [hm0, hk0] at hfr
  rw [hm0] at hm hsp
  have hw0 : ∃ w : Int, (if second = true then 1 else 0) = w ∧ (w = 0 ∨ w = 1) := by cases second <;> exact ⟨_, rfl, by simp⟩
  obtain ⟨w, hw, hw1⟩ := hw0
  have hh := Here.of (k := k) h2 hw1 (by omega : 32 ≤ m ∧ m ≤ 4096) (by omega)
  obtain ⟨fst, hfst⟩ : ∃ x, (w * spanG m e f s).toNat = x := ⟨_, rfl⟩
  obtain ⟨many, hmany⟩ : ∃ x, (secs (totG e f s) m).toNat = x := ⟨_, rfl⟩
  rw [hfst, hmany] at hh
  have hml : many ≤ 500 := by
    have := secs_bd (m := totG e f s) (s := (m : Int)) (totG_bd e f s).1
    omega
  obtain ⟨D1, D2, D4, D5, D6, D7, p1, p2, D3, p3, p4, q3, q4, p5, p6, p7, q0, q1, q2, q5, q6, o1, w1, o2, w2, o3, w3, o4, w4, o5, w5, o6, w6⟩ := back_plain hh (by omega) hq h3 sync
  have hbl : bs.length ≤ 100000000 := by omega
  have hf0 : (freshN k m).ops = 0 ∧ (freshN k m).writes = 0 := ⟨rfl, rfl⟩
  have csy := fun (d : Nat) (G : List HP) => disk_SyncE (σ := σ) (F := G) (d := d) q3 (by omega) (by omega)
  have c1 := fun (d gb : Nat) => slot_DataE (σ := σ) (d := d) p1 hbl q0.wf (by omega) (by omega) (l := arr gb 23 [int e, int f, int s] :: F) hb.cons
  have c2 := fun (d : Nat) (G : List HP) [InG G] => slot_ReadE (σ := σ) (d := d) p2 q1.wf (by omega) (F := G)
  have c3 := fun (d : Nat) (G : List HP) [InG G] (hv : RdS σ G (.slice pv (bs.map byte).length cv) (bs.map byte)) => slot_SealE (σ := σ) (d := d) p3 hq.1 hbl q2.wf (by omega) (by omega) (l := G) hv
  have c5 := fun (d : Nat) (G : List HP) [InG G] => slot_ReadE (σ := σ) (d := d) p5 q4.wf (by omega) (F := G)
  have c6 := fun (d : Nat) (G : List HP) [InG G] => slot_WipeE (σ := σ) (d := d) p6 q5.wf (by omega) (by omega) (F := G)
  have c7 := fun (d : Nat) (G : List HP) [InG G] => slot_ReadE (σ := σ) (d := d) p7 q6.wf (by omega) (F := G)
  refine Fn.of Tryd.func3 rfl Tryd.ntmps3 rfl ?_
  repeat' (first | (first | (apply JO.ru; exact rfl; exact rfl; exact rfl; (first | (apply Ru.move; exact rfl) | (apply Ru.assign; exact rfl) | (apply Ru.lenS; exact rfl) | (apply Ru.neq; exact rfl; exact rfl; (first | exact ndecF (by omega) | exact ndecT (by omega))) | (apply Ru.pickF; exact rfl; exact rfl) | (apply Ru.not; exact rfl) | (apply Ru.loadAN; exact rfl; (repeat (first | exact Pick.here | apply Pick.there)); exact rfl; exact rfl) | (apply Ru.eqlPN; exact rfl; exact rfl))) | refine JC.seq ?_ | refine JC.region ?_ | refine JO.nil ?_ | refine JE.thenN ?_ | refine JC.skip ?_ | refine JC.condF rfl ?_ | refine JO.guardT rfl rfl rfl rfl ?_ | (apply JO.do; exact rfl; exact rfl; exact rfl; (first | (apply Do.boxN; exact rfl; exact rfl) | (apply Do.box; exact rfl)); rintro _ _ ⟨_, rfl, rfl⟩)) | (first | (apply JO.do; exact rfl; exact rfl; exact rfl; (apply Do.call; exact rfl; exact haw _); rintro _ _ ⟨rfl, hq⟩; obtain rfl := hq.symm) | (apply JQ.call; exact rfl; exact rfl; exact rfl; exact haw _; (rintro _ _ ⟨rfl, rfl⟩; exact ⟨rfl, rfl⟩))) | ((first | (apply JO.do; exact rfl; exact rfl; exact rfl; (apply Do.call; exact rfl; exact ref_Few _ _ _); rintro _ _ ⟨rfl, hq⟩; obtain rfl := hq.symm) | (apply JQ.call; exact rfl; exact rfl; exact rfl; exact ref_Few _ _ _; (rintro _ _ ⟨rfl, rfl⟩; exact ⟨rfl, rfl⟩))); rw [h1]) | ((first | (apply JO.do; exact rfl; exact rfl; exact rfl; (apply Do.call; exact rfl; exact ref_Right _ _ _); rintro _ _ ⟨rfl, hq⟩; obtain rfl := hq.symm) | (apply JQ.call; exact rfl; exact rfl; exact rfl; exact ref_Right _ _ _; (rintro _ _ ⟨rfl, rfl⟩; exact ⟨rfl, rfl⟩))); rw [h2]) | (first | (apply JO.do; exact rfl; exact rfl; exact rfl; (apply Do.call; exact rfl; exact ref_Total _ _ _); rintro _ _ ⟨rfl, hq⟩; obtain rfl := hq.symm) | (apply JQ.call; exact rfl; exact rfl; exact rfl; exact ref_Total _ _ _; (rintro _ _ ⟨rfl, rfl⟩; exact ⟨rfl, rfl⟩))) | (apply JO.do; exact rfl; exact rfl; exact rfl; (apply Do.call; exact rfl; exact hfr _); rintro _ _ ⟨d, rfl, rfl⟩))
  rename_i gb d
  have hcase : ∀ (b : Bool), second = b → (if b = true then (1 : Int) else 0) = w := fun b h => h ▸ hw
  cases second
  all_goals
    have hw2 := hcase _ rfl
    clear hcase
    simp only [Bool.false_eq_true, if_true, if_false] at hw2
    subst hw2
    repeat' (first | (first | (apply JO.ru; exact rfl; exact rfl; exact rfl; (first | (apply Ru.move; exact rfl) | (apply Ru.assign; exact rfl) | (apply Ru.extractN; exact rfl; exact rfl) | (apply Ru.loadAN; exact rfl; (repeat (first | exact Pick.here | apply Pick.there)); exact rfl; exact rfl))) | refine JC.seq ?_ | refine JC.region ?_ | refine JO.nil ?_ | refine JE.thenN ?_ | refine JC.skip ?_ | refine JC.condT rfl ?_ | refine JC.condF rfl ?_ | (apply JO.do; exact rfl; exact rfl; exact rfl; (first | (apply Do.allocN; exact rfl) | apply Do.alloc); rintro _ _ ⟨_, rfl, rfl⟩)) | (apply JO.do; exact rfl; exact rfl; exact rfl; (apply Do.call; exact rfl; exact c1 _ _); rintro _ _ ⟨rfl, rfl⟩) | (apply JO.do; exact rfl; exact rfl; exact rfl; (apply Do.call; exact rfl; exact c2 _ _); rintro _ _ ⟨u, rfl, rfl⟩))
    refine JO.ownR (Pick.there Pick.here) fun _ _ hsh => ?_
    obtain ⟨p1, n1, m1, rfl⟩ : ∃ p n c, u = .slice p n c := by
      rcases hsh with ⟨rfl, _⟩ | ⟨b, c, rfl, _⟩ <;> exact ⟨_, _, _, rfl⟩
    clear hsh
    repeat' (first | (apply JO.ru; exact rfl; exact rfl; exact rfl; (first | (apply Ru.move; exact rfl) | (apply Ru.assign; exact rfl) | (apply Ru.loadAN; exact rfl; (repeat (first | exact Pick.here | apply Pick.there)); exact rfl; exact rfl))) | refine JC.seq ?_ | refine JC.region ?_ | refine JO.nil ?_ | refine JE.thenN ?_ | (apply JO.do0; exact rfl; exact rfl; (first | (apply Do.storeAN; exact rfl; exact rfl; (repeat (first | exact Pick.here | apply Pick.there)); exact rfl; exact rfl; exact rfl; exact rfl) | (apply Do.storeA; exact rfl; exact rfl; (repeat (first | exact Pick.here | apply Pick.there)); exact rfl; exact rfl; exact rfl)); rintro _ _ ⟨rfl, rfl⟩))
    refine JO.pick (Pick.there (Pick.there Pick.here)) ?_
    repeat' (first | (first | (apply JO.ru; exact rfl; exact rfl; exact rfl; (first | (apply Ru.move; exact rfl) | (apply Ru.assign; exact rfl))) | refine JC.seq ?_ | refine JC.region ?_ | refine JO.nil ?_ | refine JE.thenN ?_) | (apply JO.do; exact rfl; exact rfl; exact rfl; (apply Do.call; exact rfl; exact c3 _ _ hb.cons.cons.cons); rintro _ _ ⟨rfl, rfl⟩))
    have hcase2 : ∀ (b : Bool), sync = b → D4 = (if b = true then D3.tick.sync else D3) := fun b h => h ▸ p4
    cases sync
    all_goals
      have hsy2 := hcase2 _ rfl
      clear hcase2
      simp only [Bool.false_eq_true, if_true, if_false] at hsy2
      subst hsy2
      repeat' (first | (first | (apply JO.ru; exact rfl; exact rfl; exact rfl; (first | (apply Ru.move; exact rfl) | (apply Ru.assign; exact rfl) | (apply Ru.extractN; exact rfl; exact rfl) | (apply Ru.loadAN; exact rfl; (repeat (first | exact Pick.here | apply Pick.there)); exact rfl; exact rfl))) | refine JC.seq ?_ | refine JC.region ?_ | refine JO.nil ?_ | refine JE.thenN ?_ | refine JC.skip ?_ | refine JC.condT rfl ?_ | refine JC.condF rfl ?_ | (apply JO.do; exact rfl; exact rfl; exact rfl; (first | (apply Do.allocN; exact rfl) | apply Do.alloc); rintro _ _ ⟨_, rfl, rfl⟩)) | (apply JO.do; exact rfl; exact rfl; exact rfl; (apply Do.call; exact rfl; exact csy _ _); rintro _ _ ⟨rfl, rfl⟩) | (apply JO.do; exact rfl; exact rfl; exact rfl; (apply Do.call; exact rfl; exact c5 _ _); rintro _ _ ⟨u, rfl, rfl⟩))
      refine JO.ownR (Pick.there Pick.here) fun _ _ hsh => ?_
      obtain ⟨p2, n2, m2, rfl⟩ : ∃ p n c, u = .slice p n c := by
        rcases hsh with ⟨rfl, _⟩ | ⟨b, c, rfl, _⟩ <;> exact ⟨_, _, _, rfl⟩
      clear hsh
      repeat' (first | (apply JO.ru; exact rfl; exact rfl; exact rfl; (first | (apply Ru.move; exact rfl) | (apply Ru.assign; exact rfl) | (apply Ru.loadAN; exact rfl; (repeat (first | exact Pick.here | apply Pick.there)); exact rfl; exact rfl))) | refine JC.seq ?_ | refine JC.region ?_ | refine JO.nil ?_ | refine JE.thenN ?_ | (apply JO.do0; exact rfl; exact rfl; (first | (apply Do.storeAN; exact rfl; exact rfl; (repeat (first | exact Pick.here | apply Pick.there)); exact rfl; exact rfl; exact rfl; exact rfl) | (apply Do.storeA; exact rfl; exact rfl; (repeat (first | exact Pick.here | apply Pick.there)); exact rfl; exact rfl; exact rfl)); rintro _ _ ⟨rfl, rfl⟩))
      refine JO.pick (Pick.there (Pick.there Pick.here)) ?_
      repeat' (first | (first | (apply JO.ru; exact rfl; exact rfl; exact rfl; (first | (apply Ru.move; exact rfl) | (apply Ru.assign; exact rfl) | (apply Ru.extractN; exact rfl; exact rfl) | (apply Ru.loadAN; exact rfl; (repeat (first | exact Pick.here | apply Pick.there)); exact rfl; exact rfl))) | refine JC.seq ?_ | refine JC.region ?_ | refine JO.nil ?_ | refine JE.thenN ?_ | (apply JO.do; exact rfl; exact rfl; exact rfl; (first | (apply Do.allocN; exact rfl) | apply Do.alloc); rintro _ _ ⟨_, rfl, rfl⟩)) | (apply JO.do; exact rfl; exact rfl; exact rfl; (apply Do.call; exact rfl; exact c6 _ _); rintro _ _ ⟨rfl, rfl⟩) | (apply JO.do; exact rfl; exact rfl; exact rfl; (apply Do.call; exact rfl; exact c7 _ _); rintro _ _ ⟨u, rfl, rfl⟩))
      refine JO.ownR (Pick.there Pick.here) fun _ _ hsh => ?_
      obtain ⟨p3, n3, m3, rfl⟩ : ∃ p n c, u = .slice p n c := by
        rcases hsh with ⟨rfl, _⟩ | ⟨b, c, rfl, _⟩ <;> exact ⟨_, _, _, rfl⟩
      clear hsh
      repeat' (first | (apply JO.ru; exact rfl; exact rfl; exact rfl; (first | (apply Ru.move; exact rfl) | (apply Ru.loadN; exact rfl; (repeat (first | exact Pick.here | apply Pick.there)); exact rfl) | (apply Ru.fieldAddr; exact rfl) | (apply Ru.assign; exact rfl) | (apply Ru.eql; exact rfl; exact rfl; (first | exact decT (by omega) | exact decF (by omega))) | (apply Ru.neq; exact rfl; exact rfl; (first | exact ndecF (by omega) | exact ndecT (by omega))) | (apply Ru.pickT; exact rfl; exact rfl) | (apply Ru.pickF; exact rfl; exact rfl))) | refine JC.seq ?_ | refine JC.region ?_ | refine JO.nil ?_ | refine JE.thenN ?_ | refine JC.skip ?_ | refine JC.condF rfl ?_ | refine JO.guardT rfl rfl rfl rfl ?_ | (apply JO.do0; exact rfl; exact rfl; (first | (apply Do.storeAN; exact rfl; exact rfl; (repeat (first | exact Pick.here | apply Pick.there)); exact rfl; exact rfl; exact rfl; exact rfl) | (apply Do.storeA; exact rfl; exact rfl; (repeat (first | exact Pick.here | apply Pick.there)); exact rfl; exact rfl; exact rfl)); rintro _ _ ⟨rfl, rfl⟩))
      refine JO.ownR (Pick.there (Pick.there (Pick.there (Pick.there Pick.here)))) fun hri _ _ => ?_
      (apply JO.do; exact rfl; exact rfl; exact rfl; (apply Do.call; exact rfl; exact ref_Same _ _ bs bs (by omega) hri hb.cons.cons.cons.cons.cons.cons.cons.cons); rintro _ _ ⟨rfl, rfl⟩)
      rw [decide_eq_true (rfl : bs = bs)]
      repeat' (first | (apply JO.ru; exact rfl; exact rfl; exact rfl; (first | (apply Ru.move; exact rfl) | (apply Ru.loadN; exact rfl; (repeat (first | exact Pick.here | apply Pick.there)); exact rfl) | (apply Ru.fieldAddr; exact rfl) | (apply Ru.assign; exact rfl) | (apply Ru.eql; exact rfl; exact rfl; (first | exact decT (by omega) | exact decF (by omega))) | (apply Ru.pickT; exact rfl; exact rfl))) | refine JO.nil ?_ | refine JE.thenN ?_ | refine JC.ret ?_ | refine JO.guardT rfl rfl rfl rfl ?_ | (apply JE.done1; exact rfl; (first | (apply Res.tmp; exact rfl) | (apply Res.cell; exact rfl; (repeat (first | exact Pick.here | apply Pick.there)); exact rfl) | (apply Res.cellAN; exact rfl; (repeat (first | exact Pick.here | apply Pick.there)); exact rfl; exact rfl) | (apply Res.cellA; exact rfl; (repeat (first | exact Pick.here | apply Pick.there)); exact rfl; exact rfl))))
      exact ⟨F, Sat.weak (by repeat (first | exact Weak.refl | (apply Weak.cons; (first | exact Pick.here | exact Pick.there Pick.here | exact Pick.there (Pick.there Pick.here) | exact Pick.there (Pick.there (Pick.there Pick.here)) | exact Pick.there (Pick.there (Pick.there (Pick.there Pick.here))) | exact Pick.there (Pick.there (Pick.there (Pick.there (Pick.there Pick.here)))) | exact Pick.there (Pick.there (Pick.there (Pick.there (Pick.there (Pick.there Pick.here))))) | exact Pick.there (Pick.there (Pick.there (Pick.there (Pick.there (Pick.there (Pick.there Pick.here)))))))) | apply Weak.drop)), rfl, rfl⟩
end Go.Sep
/- The statements of layer 6: are operations of a size that is looked at? -/
namespace Go.Sep
open Go Go.Proofs
attribute [local irreducible] JO JC JE JA JQ JB JI Mid Inv Weak ownS Ru Do Fn Sat Pick Take arr pt star ex Holds bodyPost Post Exit.then Exit.inBlock Res
variable {σ : Sig} {F : List HP}
attribute [local irreducible] diskHP cacheHP planHP rowHP
structure OpN where
  (kind which seq n : Int)
  b : List UInt8
  tears : List TearN
def tearsOk (ts : List TearN) : Bool := decide (ts.length ≤ 40) && ts.all fun t => decide (t.bytes.length ≤ 100)
def opOk (o : OpN) : Bool := decide (o.b.length ≤ 600) && tearsOk o.tears
def fewOps (l : List OpN) : Bool := l.all opOk && decide (l.length ≤ 12)
/-- The operations that a slice reads as. -/
def RdO (σ : Sig) (l : List HP) (v : Value) (os : List OpN) : Prop :=
  ∃ p cap, v = .slice p os.length cap ∧ os.length ≤ cap ∧ (os = [] ∨ ∃ b o, p = some ⟨b, o, none⟩ ∧ ∀ (i : Nat) (x : OpN), os[i]? = some x → ∃ vb vt,
    (∀ w, Sat σ w l → ∀ j u, ([u8 x.kind, int x.which, u64 x.seq, vb, u8 x.n, vt] : List Value)[j]? = some u → w.cell? ⟨b, o + (i : Int).toNat * 6 + j, none⟩ = some u) ∧ RdS σ l vb (x.b.map byte) ∧ RdT σ l vt x.tears)
theorem all_take {α : Type} {p : α → Bool} {l : List α} {i : Nat} {x : α} (h : (l.take i).all p = true) (hx : l[i]? = some x) (hp : p x = true) : (l.take (i + 1)).all p = true := by
  rw [List.take_add_one, hx, List.all_append, h]
  simp [hp]
theorem all_not {α : Type} {p : α → Bool} {l : List α} {i : Nat} {x : α} (hx : l[i]? = some x) (hp : p x = false) : l.all p = false := by
  rw [List.all_eq_false]
  exact ⟨x, List.mem_of_getElem? hx, by simp [hp]⟩
set_option maxHeartbeats 4000000 in
theorem law06_few (v : Value) (os : List OpN) {l : List HP} (hv : RdO σ l v os) (hos : os.length ≤ 140737488355328) : Fn Tryd.prog σ 16 #[v] l (fun r l' => r = .bool (fewOps os) ∧ l' = l) := by
  obtain ⟨p, cap, rfl, hcap, hr⟩ := hv
  refine Fn.of Tryd.func16 rfl Tryd.ntmps16 rfl ?_
  repeat' (first | (apply JO.ru; exact rfl; exact rfl; exact rfl; ((apply Ru.assign; exact rfl))) | refine JC.seq ?_ | refine JC.region ?_ | refine JO.nil ?_ | refine JE.thenN ?_ | refine JC.block ?_)
  refine JC.loop (fun i : Nat => [(0, .slice p os.length cap), (3, int i)]) (fun _ => l) (fun i => i ≤ os.length ∧ (os.take i).all opOk = true) (fun i => os.length - i) 0 ⟨Nat.zero_le _, by simp⟩ ⟨rfl, rfl, trivial⟩ (fun _ h => h) ?_
  rintro i ⟨hi, hok⟩
  repeat' (first | (apply JO.ru; exact rfl; exact rfl; exact rfl; (first | (apply Ru.move; exact rfl) | (apply Ru.assign; exact rfl) | (apply Ru.lenS; exact rfl))) | refine JC.seq ?_ | refine JC.region ?_ | refine JO.nil ?_ | refine JE.thenN ?_ | refine JE.thenE ?_ | refine JE.blockE ?_ | refine JC.block ?_ | refine JC.ret ?_ | refine JC.skip ?_ | refine JC.exit ?_ | refine JC.condT rfl ?_ | refine JC.condF rfl ?_ | (apply JO.split; exact rfl; exact rfl; exact rfl; (first | (apply Ru.lss; exact rfl; exact rfl; exact rfl) | (apply Ru.leq; exact rfl; exact rfl; exact rfl)); all_goals intro _) | (apply JE.done1; exact rfl; (first | (apply Res.tmp; exact rfl) | (apply Res.cell; exact rfl; (repeat (first | exact Pick.here | apply Pick.there)); exact rfl) | (apply Res.cellAN; exact rfl; (repeat (first | exact Pick.here | apply Pick.there)); exact rfl; exact rfl) | (apply Res.cellA; exact rfl; (repeat (first | exact Pick.here | apply Pick.there)); exact rfl; exact rfl))))
  · rename_i hlt
    have hlt' : i < os.length := by omega
    obtain ⟨x, hx⟩ : ∃ x, os[i]? = some x := ⟨_, List.getElem?_eq_getElem hlt'⟩
    rcases hr with h0 | ⟨b, o, rfl, hc⟩
    · subst h0; simp at hlt'
    obtain ⟨vb, vt, hcell, hvb, hvt⟩ := hc i x hx
    obtain ⟨pb, cb, rfl, hcb, hrb⟩ := hvb
    obtain ⟨pt', ct, rfl, hct, hrt⟩ := hvt
    have hl : (x.b.map byte).length = x.b.length := by simp
    repeat' (first | (first | (apply JO.ru; exact rfl; exact rfl; exact rfl; (first | (apply Ru.move; exact rfl) | (apply Ru.fieldAddr; exact rfl) | (apply Ru.assign; exact rfl) | (apply Ru.lenS; exact rfl) | (apply Ru.pickT; exact rfl; exact rfl) | (apply Ru.pickF; exact rfl; exact rfl) | (apply Ru.indexAddr; exact rfl; exact rfl; omega; omega))) | refine JC.seq ?_ | refine JC.region ?_ | refine JO.nil ?_ | refine JE.thenN ?_ | refine JE.thenR ?_ | refine JE.blockR ?_ | refine JC.block ?_ | refine JC.ret ?_ | refine JC.skip ?_ | refine JC.condT rfl ?_ | refine JC.condF rfl ?_ | (apply JO.split; exact rfl; exact rfl; exact rfl; ((apply Ru.gtr; exact rfl; exact rfl; exact rfl)); all_goals intro _) | refine JO.guardF rfl rfl rfl rfl rfl rfl rfl ?_ | refine JO.guardT rfl rfl rfl rfl ?_ | (apply JE.done1; exact rfl; (first | (apply Res.tmp; exact rfl) | (apply Res.cell; exact rfl; (repeat (first | exact Pick.here | apply Pick.there)); exact rfl) | (apply Res.cellAN; exact rfl; (repeat (first | exact Pick.here | apply Pick.there)); exact rfl; exact rfl) | (apply Res.cellA; exact rfl; (repeat (first | exact Pick.here | apply Pick.there)); exact rfl; exact rfl)))) | (apply JO.ru; exact rfl; exact rfl; exact rfl; (apply Ru.loadC; exact rfl; exact fun w s => hcell w s 3 _ rfl)) | (apply JO.ru; exact rfl; exact rfl; exact rfl; (apply Ru.loadC; exact rfl; exact fun w s => hcell w s 5 _ rfl)))
    · rename_i h6
      refine finS ?_
      have hp : opOk x = false := by unfold opOk; rw [decide_eq_false (by omega)]; rfl
      exact ⟨by unfold fewOps; rw [all_not hx hp]; rfl, rfl⟩
    · rename_i h6 h4
      refine finS ?_
      have hp : opOk x = false := by unfold opOk tearsOk; rw [decide_eq_false (p := x.tears.length ≤ 40) (by omega)]; simp
      exact ⟨by unfold fewOps; rw [all_not hx hp]; rfl, rfl⟩
    · rename_i h6 h4
      refine JC.loop (fun j : Nat => [(0, .slice (some ⟨b, o, none⟩) os.length cap), (3, int i), (4, int j)]) (fun _ => l) (fun j => j ≤ x.tears.length ∧ (x.tears.take j).all (fun t => decide (t.bytes.length ≤ 100)) = true) (fun j => x.tears.length - j) 0 ⟨Nat.zero_le _, by simp⟩ ⟨rfl, rfl, rfl, trivial⟩ (fun _ h => h) ?_
      rintro j ⟨hj, hjok⟩
      repeat' (first | (first | (apply JO.ru; exact rfl; exact rfl; exact rfl; (first | (apply Ru.move; exact rfl) | (apply Ru.fieldAddr; exact rfl) | (apply Ru.assign; exact rfl) | (apply Ru.lenS; exact rfl) | (apply Ru.add; exact rfl; exact rfl; (first | exact wrapI (by omega) (by omega) | exact rfl)) | (apply Ru.indexAddr; exact rfl; exact rfl; omega; omega))) | refine JC.seq ?_ | refine JC.region ?_ | refine JO.nil ?_ | refine JE.thenN ?_ | refine JE.thenE ?_ | refine JE.blockN ?_ | refine JE.blockE ?_ | refine JC.block ?_ | refine JC.skip ?_ | refine JC.exit ?_ | refine JC.condT rfl ?_ | refine JC.condF rfl ?_ | (apply JO.split; exact rfl; exact rfl; exact rfl; ((apply Ru.lss; exact rfl; exact rfl; exact rfl)); all_goals intro _)) | (apply JO.ru; exact rfl; exact rfl; exact rfl; (apply Ru.loadC; exact rfl; exact fun w s => hcell w s 5 _ rfl)))
      · rename_i hlt2
        have hlt2' : j < x.tears.length := by omega
        obtain ⟨t, ht⟩ : ∃ t, x.tears[j]? = some t := ⟨_, List.getElem?_eq_getElem hlt2'⟩
        rcases hrt with h0 | ⟨b2, o2, rfl, hc2⟩
        · rw [h0] at hlt2'; exact absurd hlt2' (Nat.not_lt_zero _)
        obtain ⟨q, cq, _, hcell2, _⟩ := hc2 j t ht
        repeat' (first | (first | (apply JO.ru; exact rfl; exact rfl; exact rfl; (first | (apply Ru.move; exact rfl) | (apply Ru.fieldAddr; exact rfl) | (apply Ru.assign; exact rfl) | (apply Ru.lenS; exact rfl) | (apply Ru.add; exact rfl; exact rfl; (first | exact wrapI (by omega) (by omega) | exact rfl)) | (apply Ru.indexAddr; exact rfl; exact rfl; omega; omega))) | refine JC.seq ?_ | refine JC.region ?_ | refine JO.nil ?_ | refine JE.thenN ?_ | refine JE.thenR ?_ | refine JE.blockN ?_ | refine JE.blockR ?_ | refine JC.ret ?_ | refine JC.skip ?_ | refine JC.condT rfl ?_ | refine JC.condF rfl ?_ | (apply JO.split; exact rfl; exact rfl; exact rfl; ((apply Ru.gtr; exact rfl; exact rfl; exact rfl)); all_goals intro _) | (apply JE.done1; exact rfl; (first | (apply Res.tmp; exact rfl) | (apply Res.cell; exact rfl; (repeat (first | exact Pick.here | apply Pick.there)); exact rfl) | (apply Res.cellAN; exact rfl; (repeat (first | exact Pick.here | apply Pick.there)); exact rfl; exact rfl) | (apply Res.cellA; exact rfl; (repeat (first | exact Pick.here | apply Pick.there)); exact rfl; exact rfl)))) | (apply JO.ru; exact rfl; exact rfl; exact rfl; (apply Ru.loadC; exact rfl; exact fun w s => hcell w s 5 _ rfl)) | (apply JO.ru; exact rfl; exact rfl; exact rfl; (apply Ru.loadC; exact rfl; exact fun w s => hcell2 w s 1 _ rfl)))
        · rename_i h100
          refine finS ?_
          have hp : opOk x = false := by
            unfold opOk tearsOk
            rw [all_not (p := fun t : TearN => decide (t.bytes.length ≤ 100)) ht (by simp; omega)]
            simp
          exact ⟨by unfold fewOps; rw [all_not hx hp]; rfl, rfl⟩
        · rename_i h100
          exact JE.round (j + 1) ⟨hlt2', all_take hjok ht (by simp; omega)⟩ (by omega) ⟨rfl, rfl, rfl, trivial⟩ (fun _ h => h)
      · rename_i hge
        have hjl : j = x.tears.length := by omega
        have hp : opOk x = true := by
          rw [hjl, List.take_length] at hjok
          unfold opOk tearsOk
          rw [hjok, decide_eq_true (by omega), decide_eq_true (by omega)]
          rfl
        exact JE.round (i + 1) ⟨hlt', all_take hok hx hp⟩ (by omega) ⟨rfl, rfl, trivial⟩ (fun _ h => h)
  · rename_i hge h12
    refine finS ?_
    rw [show i = os.length by omega, List.take_length] at hok
    exact ⟨by unfold fewOps; rw [hok, decide_eq_true (by omega)]; rfl, rfl⟩
  · rename_i hge h12
    refine finS ?_
    exact ⟨by unfold fewOps; rw [decide_eq_false (p := os.length ≤ 12) (by omega)]; simp, rfl⟩
theorem RdT.heap {σ : Sig} {l l' : List HP} {v : Value} {ts : List TearN} (h : RdT σ l v ts) (k : ∀ w, Sat σ w l' → Sat σ w l) : RdT σ l' v ts := by
  obtain ⟨p, cap, rfl, h1, h2⟩ := h
  refine ⟨p, cap, rfl, h1, h2.imp id ?_⟩
  rintro ⟨b, o, rfl, h3⟩
  refine ⟨b, o, rfl, fun i t ht => ?_⟩
  obtain ⟨q, c, g1, g2, g3⟩ := h3 i t ht
  exact ⟨q, c, g1, fun w s => g2 w (k w s), g3.heap k⟩
theorem RdT.cons {σ : Sig} {l : List HP} {p : HP} {v : Value} {ts : List TearN} (h : RdT σ l v ts) : RdT σ (p :: l) v ts := h.heap fun _ s => Sat.drop s
theorem few_one (kind which seq n : Int) (bs : List UInt8) (ts : List TearN) (h : bs.length ≤ 600) : fewOps [⟨kind, which, seq, n, bs, ts⟩] = tearsOk ts := by
  simp [fewOps, opOk, h]
end Go.Sep
/- What is done with one slot changes nothing of the other: no program in sight. -/
namespace Go.Sep
open Go Go.Proofs
/-- All that a disk has of the sectors in S stays as it is; none of them is cached. -/
structure Kept (S : Nat → Prop) (D E : DiskN) : Prop where
  wf : E.WF
  size : E.size = D.size
  count : E.count = D.count
  plan : E.planned = D.planned
  look : ∀ j, S j → j < D.count → lookI E.cached (j : Int) = none
  sec : ∀ j, S j → j < D.count → E.sector j = D.sector j
  ops : D.ops ≤ E.ops
section
variable {S : Nat → Prop} {D E : DiskN}
theorem Kept.tick (h : Kept S D E) : Kept S D E.tick := ⟨h.wf.tick, h.size, h.count, h.plan, h.look, h.sec, Nat.le_succ_of_le h.ops⟩
theorem Kept.put (h : Kept S D E) {i : Nat} {bs : List UInt8} (hi : i < E.count) (hb : bs.length = E.size) (hs : ¬ S i) : Kept S D (E.put (i : Int) bs) := by
  refine ⟨h.wf.put (by omega) (by omega) hb, h.size, h.count, h.plan, fun j hj hc => ?_, h.sec, Nat.le_succ_of_le h.ops⟩
  show lookI (updI E.cached (i : Int) bs) (j : Int) = none
  rw [lookI_updI, if_neg, h.look j hj hc]
  intro e
  have : j = i := by omega
  subst this; exact hs hj
theorem Kept.crash (h : Kept S D E) (ts : List TearN) : Kept S D (E.crash ts) := by
  obtain ⟨a1, a2, a3, a4, a5, a6, a7⟩ := crash_facts h.wf ts
  refine ⟨a1, a2.trans h.size, a3.trans h.count, a6.trans h.plan, fun j _ _ => by rw [a7]; rfl, fun j hj hc => ?_, by rw [a4]; exact h.ops⟩
  rw [crash_sector h.wf ts (by rw [h.count]; exact hc) (h.look j hj hc), h.sec j hj hc]
theorem Kept.cur (h : Kept S D E) {j : Nat} (hs : S j) (hc : j < D.count) : E.cur j = D.sector j := by
  unfold DiskN.cur; rw [h.look j hs hc]; exact h.sec j hs hc
theorem Kept.refl (h : D.WF) (hc : D.cached = []) : Kept S D D := ⟨h, rfl, rfl, rfl, fun j _ _ => by rw [hc]; rfl, fun _ _ _ => rfl, Nat.le_refl _⟩
end
section
variable {S : Nat → Prop} {D E : DiskN} {z k fst many : Nat} {which e f s : Int}
theorem dataGo_kept : ∀ (ps : List (List UInt8)) (E : DiskN) (i : Nat), Kept S D E → (∀ j, i ≤ j → j < i + ps.length → ¬ S (fst + (1 + j))) → Kept S D (dataGo (fst : Int) i E ps).2 ∧ (dataGo (fst : Int) i E ps).2.ops ≤ E.ops + ps.length ∧ (dataGo (fst : Int) i E ps).2.writes ≤ E.writes + ps.length
  | [], E, i, h, _ => ⟨h, Nat.le_refl _, Nat.le_refl _⟩
  | x :: r, E, i, h, hs => by
    have e0 : (fst : Int) + (1 + (i : Int)) = ((fst + (1 + i) : Nat) : Int) := by omega
    rw [dataGo]
    split
    · exact ⟨h.tick, by show E.ops + 1 ≤ _; rw [List.length_cons]; omega, by show E.writes ≤ _; omega⟩
    · rename_i hw
      have hw' : E.writeE ((fst : Int) + (1 + (i : Int))) x.length = 0 := by omega
      have hz := writeE_zero hw'
      rw [e0] at hz ⊢
      obtain ⟨a1, a2, a3⟩ := dataGo_kept r (E.put ((fst + (1 + i) : Nat) : Int) x) (i + 1) (h.put (by omega) hz.2.2 (hs i (Nat.le_refl _) (by rw [List.length_cons]; omega))) (fun j h1 h2 => hs j (by omega) (by rw [List.length_cons]; omega))
      refine ⟨a1, Nat.le_trans a2 ?_, Nat.le_trans a3 ?_⟩
      · show E.ops + 1 + r.length ≤ _; rw [List.length_cons]; omega
      · show E.writes + 1 + r.length ≤ _; rw [List.length_cons]; omega
theorem data_kept (hh : Here z k which e f s fst many) (hz : D.size = z) (hk : D.count = k) (h : Kept S D E) {bs : List UInt8} (hb : (bs.length : Int) = totG e f s) (hs : ∀ j, j < many → ¬ S (fst + (1 + j))) :
    Kept S D (dataR E which e f s bs).2 ∧ (dataR E which e f s bs).2.ops ≤ E.ops + many ∧ (dataR E which e f s bs).2.writes ≤ E.writes + many := by
  have hez : E.size = z := h.size.trans hz
  have hek : E.count = k := h.count.trans hk
  have hn : (secs bs.length E.size).toNat = many := by rw [hb, hez, hh.hsecs]; omega
  unfold dataR
  rw [if_neg (by rw [hh.atE hez hek]; simp), if_neg (by rw [hb]; simp), hh.firstOf hez, hn]
  have := dataGo_kept (S := S) (D := D) (fst := fst) (pieces bs E.size many) E 0 h (fun j _ h2 => hs j (by rw [pieces_length] at h2; omega))
  rw [pieces_length] at this
  exact this
theorem seal_kept (hh : Here z k which e f s fst many) (hz : D.size = z) (hk : D.count = k) (h : Kept S D E) {bs : List UInt8} (q : Int) (hs : ¬ S fst) :
    Kept S D (sealR E which e f s q bs).2 ∧ (sealR E which e f s q bs).2.ops ≤ E.ops + 1 ∧ (sealR E which e f s q bs).2.writes ≤ E.writes + 1 := by
  have hez : E.size = z := h.size.trans hz
  have hek : E.count = k := h.count.trans hk
  have hsz := hh.hsize
  unfold sealR
  rw [if_neg (by rw [hh.atE hez hek]; simp), hh.firstOf hez]
  split
  · exact ⟨h, by simp, by simp⟩
  · split
    · exact ⟨h.tick, Nat.le_refl _, Nat.le_succ _⟩
    · refine ⟨h.put ?_ (padB_length (by rw [enc_length]; omega)) hs, Nat.le_refl _, Nat.le_refl _⟩
      have := hh.lt (j := 0) (by omega); omega
theorem wipe_kept (hh : Here z k which e f s fst many) (hz : D.size = z) (hk : D.count = k) (h : Kept S D E) (hs : ¬ S fst) :
    Kept S D (wipeR E which e f s).2 ∧ (wipeR E which e f s).2.ops ≤ E.ops + 1 ∧ (wipeR E which e f s).2.writes ≤ E.writes + 1 := by
  have hez : E.size = z := h.size.trans hz
  have hek : E.count = k := h.count.trans hk
  unfold wipeR
  rw [if_neg (by rw [hh.atE hez hek]; simp), hh.firstOf hez]
  split
  · exact ⟨h.tick, Nat.le_refl _, Nat.le_succ _⟩
  · refine ⟨h.put ?_ (padB_length (by simp)) hs, Nat.le_refl _, Nat.le_refl _⟩
    have := hh.lt (j := 0) (by omega); omega
end
/-! ### A disk on which one operation fails at most -/
theorem fail_none {D : DiskN} {n : Int} (hp : D.planned = [n]) (h : n ≤ (D.ops : Int)) (k : Nat) : (D.ticks k).failing = false := by
  unfold DiskN.failing
  show D.planned.contains (((D.ops + k : Nat) : Int) + 1) = false
  rw [hp]
  simp
  omega
theorem readE_cases {D : DiskN} {z k : Nat} (hk : D.count = k) {i : Nat} (hi : i < k) : (D.readE (i : Int) = 0 ∧ D.failing = false) ∨ (D.readE (i : Int) = 3 ∧ D.failing = true) := by
  unfold DiskN.readE
  by_cases h : D.failing = true
  · rw [if_pos h]; exact .inr ⟨rfl, h⟩
  · rw [if_neg h, if_neg (by omega)]; exact .inl ⟨rfl, by simpa using h⟩
theorem fail_at {D : DiskN} {n : Int} (hp : D.planned = [n]) (h : D.failing = true) : n = (D.ops : Int) + 1 := by
  unfold DiskN.failing at h
  rw [hp] at h
  simp at h
  omega
/-- A slot that is good is read as it is, or the operation fails. -/
theorem read_maybe {D : DiskN} {z k fst many : Nat} {which e f s : Int} (hh : Here z k which e f s fst many) (hwf : D.WF) (hz : D.size = z) (hk : D.count = k) {n : Int} (hp : D.planned = [n]) {bs : List UInt8} {q : Int} (hq : 0 ≤ q ∧ q < 18446744073709551616) (hb : (bs.length : Int) = totG e f s)
    (hc : D.cur fst = padB (enc (sealHead bs e f s q)) z) (hi : ImgIs D fst many bs) :
    readR D which e f s = (0, D.ticks (1 + many), ⟨2, 0, q, bs⟩) ∨ (∃ j, j ≤ 1 + many ∧ readR D which e f s = (3, D.ticks j, .zero) ∧ n ≤ ((D.ticks j).ops : Int)) ∧ (D.ops : Int) < n := by
  have hl := hh.lt (j := 0) (by omega)
  have hsz := hh.hsize
  have hcs := crcSum_bd bs
  have hright : (sealHead bs e f s q).right = true := by simp [HeadN.right, sealHead, hh.hright, hb]
  obtain ⟨d1, d2⟩ := dec_enc hright hq hcs (m := z) (by omega)
  have hbody := body_of hh hz hb hi
  have hroom : bs.length ≤ many * z := by
    have := hh.room'
    rw [← hb, ← Int.natCast_mul] at this
    omega
  have ht : D.tick = D.ticks 1 := rfl
  rcases readE_cases (z := z) hk (i := fst) (by omega) with ⟨r1, _⟩ | ⟨r1, r2⟩
  · have e0 : readR D which e f s = bodyR D.tick (fst : Int) many (sealHead bs e f s q) := by
      unfold readR
      rw [if_neg (by rw [hh.atE hz hk]; simp), hh.firstOf hz, if_neg (by rw [r1]; simp), Int.toNat_natCast, hc, d1, d2, if_neg (by simp), if_pos ⟨rfl, rfl, rfl⟩, hh.manyOf hz]
    rw [e0]
    unfold bodyR
    rcases badK_cases D.tick (fst : Int) many with ⟨b1, _⟩ | ⟨j, b1, b2, b3, b4⟩
    · left
      rw [b1]
      have hb2 : D.tick.body (fst : Int) many = padB bs (many * z) := hbody
      have hlen : (sealHead bs e f s q).len = (bs.length : Int) := rfl
      have hsum : (sealHead bs e f s q).sum = crcSum bs := rfl
      have hsq : (sealHead bs e f s q).seq = q := rfl
      dsimp only
      rw [hb2, hlen, hsum, hsq, padB_length hroom, if_pos ⟨by omega, by omega⟩, Int.toNat_natCast, padB_take, if_pos rfl]
      show (_, ({ D with ops := D.ops + 1 + many } : DiskN), _) = (_, ({ D with ops := D.ops + (1 + many) } : DiskN), _)
      rw [Nat.add_assoc]
    · right
      rw [b1]
      have hlt := hh.lt (j := 1 + j) (by omega)
      have e1 : (fst : Int) + (1 + (j : Int)) = ((fst + (1 + j) : Nat) : Int) := by omega
      have b5 : bodyE D.tick (fst : Int) j = (D.tick.ticks j).readE ((fst + (1 + j) : Nat) : Int) := by unfold bodyE; rw [e1]
      rcases readE_cases (z := z) (D := D.tick.ticks j) hk hlt with ⟨r3, _⟩ | ⟨r3, r4⟩
      · rw [b5, r3] at b4; exact absurd rfl b4
      · have hn := fail_at (D := D.tick.ticks j) hp r4
        have hn' : n = ((D.ops + 1 + j : Nat) : Int) + 1 := hn
        refine ⟨⟨1 + (j + 1), by omega, ?_, ?_⟩, by omega⟩
        · dsimp only
          rw [b5, r3]
          show (_, ({ D with ops := D.ops + 1 + (j + 1) } : DiskN), _) = (_, ({ D with ops := D.ops + (1 + (j + 1)) } : DiskN), _)
          rw [Nat.add_assoc]
        · show n ≤ ((D.ops + (1 + (j + 1)) : Nat) : Int)
          omega
  · right
    have hn := fail_at hp r2
    refine ⟨⟨1, by omega, ?_, ?_⟩, by omega⟩
    · unfold readR
      rw [if_neg (by rw [hh.atE hz hk]; simp), hh.firstOf hz, if_pos (by rw [r1]; simp), r1]; rfl
    · show n ≤ ((D.ops + 1 : Nat) : Int); omega
end Go.Sep
