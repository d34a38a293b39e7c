/- Part 4: head: what any bytes are; What is one's own, behind three others; slot: sealed; The shelf's contracts on a map's keys, sorted, at this dump; A map's keys, sorted, as the heap logic has it; The disk: what isn't synced yet; The disk: synced; What lies on a disk, sector by sector: no program in sight; slot: what its calls answer, as functions of the disk; Heads, and images in pieces: no program in sight; A slot's calls on a disk on which nothing fails: no program in sight; What a crash leaves: no program in sight; slot: wiped, sealed, laid: what each answers as a function of the disk; What is done with one slot changes nothing of the other: no program in sight; slot: read; slot: each call, where what it answers is known; Calls that may panic; what is deferred; shadow: what gives up, and what is tried; shadow: an image laid, so that it lasts ahead of its head; append of made bytes. -/
import Derived.Test.YtbpilaghemkdjaaGreatDoorPs3
import Derived.Shelf.SlIterI.Nil
import Derived.Shelf.SortM.Plain
import Derived.Shelf.SortM.SortNone
import Derived.Ground.GgzProg
import Derived.Ground.SlgmProg
import Derived.Recover
set_option linter.all false
/- head: what any bytes are. -/
namespace Go.Sep
open Go Go.Proofs
attribute [local irreducible] JO JC JE JA JQ JB JI Mid Inv Weak ownS Ru Do Fn Sat Pick Take arr pt star ex Holds bodyPost Post Exit.then Exit.inBlock Res
variable {σ : Sig} {F : List HP}
def decRaw (bs : List UInt8) : HeadN := ⟨(bs.getD 5 0).toNat, (bs.getD 6 0).toNat, (bs.getD 7 0).toNat, leNum ((bs.drop 8).take 4), leNum ((bs.drop 12).take 8), leNum ((bs.drop 20).take 4)⟩
def decE (bs : List UInt8) : Int :=
  if bs.length < 28 then 5
  else if bs.take 4 ≠ [75, 69, 69, 80] then 6
  else if (bs.getD 4 0).toNat ≠ 1 then 7
  else if crcSum (bs.take 24) ≠ leNum ((bs.drop 24).take 4) then 8
  else if (decRaw bs).right = true then 0 else 9
def decH (bs : List UInt8) : HeadN := if decE bs = 0 then decRaw bs else .zero

theorem rd_part {l : List HP} {b o len cap : Nat} {bs : List UInt8} (h : RdS σ l (.slice (some ⟨b, o, none⟩) len cap) (bs.map byte)) (i j m : Int) (h0 : 0 ≤ i) (hij : i ≤ j) (hj : j ≤ len) (hm : j ≤ m) :
    RdS σ l (.slice (some ⟨b, o + i.toNat * 1, none⟩) (j - i).toNat (m - i).toNat) (((bs.drop i.toNat).take (j - i).toNat).map byte) := by
  have := h.part i.toNat (j - i).toNat (m - i).toNat (by omega) (by omega)
  rwa [← List.map_drop, ← List.map_take] at this
theorem rd_cell' {l : List HP} {bs : List UInt8} {b o : Nat} (hc : ∀ w, Sat σ w l → ∀ i u, (bs.map byte)[i]? = some u → w.cell? ⟨b, o + i, none⟩ = some u) (i : Nat) (hi : i < bs.length) :
    ∀ w, Sat σ w l → w.cell? ⟨b, o + (i : Int).toNat * 1, none⟩ = some (byte (bs.getD i 0)) := by
  have := rd_cell (σ := σ) hc hi (k := (i : Int)) (by omega)
  rw [List.getD_eq_getElem?_getD, List.getElem?_eq_getElem hi]
  exact this

set_option maxHeartbeats 2000000 in
theorem head_Decode (v : Value) (bs : List UInt8) (hlen : bs.length ≤ 100000000) {l : List HP} (hb : RdS σ l v (bs.map byte)) [hg : InG l] : Fn Tryz.prog σ 74 #[v] l (fun v l' => v = .tuple #[(decH bs).val, int (decE bs)] ∧ l' = l) := by
  have hb0 := hb
  obtain ⟨p, cap, rfl, hcap, hr⟩ := hb
  have hl : (bs.map byte).length = bs.length := by simp
  unfold decH
  by_cases c1 : bs.length < 28
  · have e : decE bs = 5 := by unfold decE; rw [if_pos c1]
    rw [e]
    refine Fn.of Tryz.func74 rfl Tryz.ntmps74 rfl ?_
    repeat' (first | (apply JO.ru; exact rfl; exact rfl; exact rfl; (first | (apply Ru.move; exact rfl) | (apply Ru.assign; exact rfl) | (apply Ru.lenS; exact rfl) | (apply Ru.lss; exact rfl; exact rfl; (first | exact decT (by omega) | exact decF (by omega))) | (apply Ru.buildN; exact rfl; exact rfl))) | refine JC.seq ?_ | refine JC.region ?_ | refine JO.nil ?_ | refine JE.thenN ?_ | refine JE.thenR ?_ | refine JE.blockR ?_ | refine JC.block ?_ | refine JC.ret ?_ | refine JC.condT rfl ?_ | (apply JO.do; exact rfl; exact rfl; exact rfl; (first | (apply Do.allocN; exact rfl) | apply Do.alloc); rintro _ _ ⟨_, rfl, rfl⟩) | (apply JO.do0; exact rfl; exact rfl; (first | (apply Do.storeAN; exact rfl; exact rfl; (repeat (first | exact Pick.here | apply Pick.there)); exact rfl; exact rfl; exact rfl; exact rfl) | (apply Do.storeA; exact rfl; exact rfl; (repeat (first | exact Pick.here | apply Pick.there)); exact rfl; exact rfl; exact rfl)); rintro _ _ ⟨rfl, rfl⟩) | (apply JE.done2; exact rfl; (first | (apply Res.tmp; exact rfl) | (apply Res.cell; exact rfl; (repeat (first | exact Pick.here | apply Pick.there)); exact rfl) | (apply Res.cellAN; exact rfl; (repeat (first | exact Pick.here | apply Pick.there)); exact rfl; exact rfl) | (apply Res.cellA; exact rfl; (repeat (first | exact Pick.here | apply Pick.there)); exact rfl; exact rfl)); (first | (apply Res.tmp; exact rfl) | (apply Res.cell; exact rfl; (repeat (first | exact Pick.here | apply Pick.there)); exact rfl) | (apply Res.cellAN; exact rfl; (repeat (first | exact Pick.here | apply Pick.there)); exact rfl; exact rfl) | (apply Res.cellA; exact rfl; (repeat (first | exact Pick.here | apply Pick.there)); exact rfl; exact rfl))))
    refine finD (finS ?_); exact ⟨rfl, rfl⟩
  have hx : ∃ b o, p = some ⟨b, o, none⟩ ∧ ∀ w, Sat σ w l → ∀ i u, (bs.map byte)[i]? = some u → w.cell? ⟨b, o + i, none⟩ = some u := by
    rcases hr with h | h
    · rw [h] at hl; simp at hl; omega
    · exact h
  obtain ⟨b, o, rfl, hc⟩ := hx
  by_cases c2 : bs.take 4 = [75, 69, 69, 80]
  case neg =>
    have e : decE bs = 6 := by unfold decE; rw [if_neg c1, if_pos c2]
    rw [e]
    refine Fn.of Tryz.func74 rfl Tryz.ntmps74 rfl ?_
    repeat' (first | (apply JO.ru; exact rfl; exact rfl; exact rfl; (first | (apply Ru.move; exact rfl) | (apply Ru.assign; exact rfl) | (apply Ru.lenS; exact rfl) | (apply Ru.lss; exact rfl; exact rfl; (first | exact decT (by omega) | exact decF (by omega))) | (apply Ru.sliceS; exact rfl; exact rfl; exact rfl; exact rfl; (first | exact fun _ => rfl | exact fun h => nomatch h); omega; omega; omega))) | refine JC.seq ?_ | refine JC.region ?_ | refine JO.nil ?_ | refine JE.thenN ?_ | refine JC.block ?_ | refine JC.condF rfl ?_ | (apply JO.do; exact rfl; exact rfl; exact rfl; (first | (apply Do.allocN; exact rfl) | apply Do.alloc); rintro _ _ ⟨_, rfl, rfl⟩))
    (apply JO.ru; exact rfl; exact rfl; exact rfl; (apply Ru.bytesStr; exact rfl; exact (rd_part hb0 0 4 cap (by omega) (by omega) (by omega) (by omega)).cons))
    (apply JO.ru; exact rfl; exact rfl; exact rfl; (apply Ru.neqS (r := true); exact rfl; exact rfl; (rw [ByteArray.toList_eq, ByteArray.toList_eq]; simpa using c2)))
    repeat' (first | (apply JO.ru; exact rfl; exact rfl; exact rfl; (first | (apply Ru.assign; exact rfl) | (apply Ru.buildN; exact rfl; exact rfl))) | refine JC.seq ?_ | refine JC.region ?_ | refine JO.nil ?_ | refine JE.thenN ?_ | refine JE.thenR ?_ | refine JE.blockR ?_ | refine JC.ret ?_ | refine JC.condT rfl ?_ | (apply JO.do0; exact rfl; exact rfl; (first | (apply Do.storeAN; exact rfl; exact rfl; (repeat (first | exact Pick.here | apply Pick.there)); exact rfl; exact rfl; exact rfl; exact rfl) | (apply Do.storeA; exact rfl; exact rfl; (repeat (first | exact Pick.here | apply Pick.there)); exact rfl; exact rfl; exact rfl)); rintro _ _ ⟨rfl, rfl⟩) | (apply JE.done2; exact rfl; (first | (apply Res.tmp; exact rfl) | (apply Res.cell; exact rfl; (repeat (first | exact Pick.here | apply Pick.there)); exact rfl) | (apply Res.cellAN; exact rfl; (repeat (first | exact Pick.here | apply Pick.there)); exact rfl; exact rfl) | (apply Res.cellA; exact rfl; (repeat (first | exact Pick.here | apply Pick.there)); exact rfl; exact rfl)); (first | (apply Res.tmp; exact rfl) | (apply Res.cell; exact rfl; (repeat (first | exact Pick.here | apply Pick.there)); exact rfl) | (apply Res.cellAN; exact rfl; (repeat (first | exact Pick.here | apply Pick.there)); exact rfl; exact rfl) | (apply Res.cellA; exact rfl; (repeat (first | exact Pick.here | apply Pick.there)); exact rfl; exact rfl))))
    refine finD (finS ?_); exact ⟨rfl, rfl⟩
  by_cases c3 : (bs.getD 4 0).toNat = 1
  case neg =>
    have e : decE bs = 7 := by unfold decE; rw [if_neg c1, if_neg (by simpa using c2), if_pos c3]
    rw [e]
    refine Fn.of Tryz.func74 rfl Tryz.ntmps74 rfl ?_
    repeat' (first | (apply JO.ru; exact rfl; exact rfl; exact rfl; (first | (apply Ru.move; exact rfl) | (apply Ru.assign; exact rfl) | (apply Ru.lenS; exact rfl) | (apply Ru.lss; exact rfl; exact rfl; (first | exact decT (by omega) | exact decF (by omega))) | (apply Ru.sliceS; exact rfl; exact rfl; exact rfl; exact rfl; (first | exact fun _ => rfl | exact fun h => nomatch h); omega; omega; omega))) | refine JC.seq ?_ | refine JC.region ?_ | refine JO.nil ?_ | refine JE.thenN ?_ | refine JC.block ?_ | refine JC.condF rfl ?_ | (apply JO.do; exact rfl; exact rfl; exact rfl; (first | (apply Do.allocN; exact rfl) | apply Do.alloc); rintro _ _ ⟨_, rfl, rfl⟩))
    (apply JO.ru; exact rfl; exact rfl; exact rfl; (apply Ru.bytesStr; exact rfl; exact (rd_part hb0 0 4 cap (by omega) (by omega) (by omega) (by omega)).cons))
    (apply JO.ru; exact rfl; exact rfl; exact rfl; (apply Ru.neqS (r := false); exact rfl; exact rfl; (rw [ByteArray.toList_eq, ByteArray.toList_eq]; simpa using c2)))
    repeat' (first | (apply JO.ru; exact rfl; exact rfl; exact rfl; (first | (apply Ru.move; exact rfl) | (apply Ru.assign; exact rfl) | (apply Ru.indexAddr; exact rfl; exact rfl; omega; omega))) | refine JC.seq ?_ | refine JC.region ?_ | refine JO.nil ?_ | refine JE.thenN ?_ | refine JC.condF rfl ?_)
    (apply JO.ru; exact rfl; exact rfl; exact rfl; (apply Ru.loadC; exact rfl; exact fun w s => rd_cell' hc 4 (by omega) w (Sat.drop s)))
    repeat' (first | (apply JO.ru; exact rfl; exact rfl; exact rfl; (first | (apply Ru.assign; exact rfl) | (apply Ru.neq; exact rfl; exact rfl; (first | exact ndecF (by omega) | exact ndecT (by omega))) | (apply Ru.buildN; exact rfl; exact rfl))) | refine JC.seq ?_ | refine JC.region ?_ | refine JO.nil ?_ | refine JE.thenN ?_ | refine JE.thenR ?_ | refine JE.blockR ?_ | refine JC.ret ?_ | refine JC.condT rfl ?_ | (apply JO.do0; exact rfl; exact rfl; (first | (apply Do.storeAN; exact rfl; exact rfl; (repeat (first | exact Pick.here | apply Pick.there)); exact rfl; exact rfl; exact rfl; exact rfl) | (apply Do.storeA; exact rfl; exact rfl; (repeat (first | exact Pick.here | apply Pick.there)); exact rfl; exact rfl; exact rfl)); rintro _ _ ⟨rfl, rfl⟩) | (apply JE.done2; exact rfl; (first | (apply Res.tmp; exact rfl) | (apply Res.cell; exact rfl; (repeat (first | exact Pick.here | apply Pick.there)); exact rfl) | (apply Res.cellAN; exact rfl; (repeat (first | exact Pick.here | apply Pick.there)); exact rfl; exact rfl) | (apply Res.cellA; exact rfl; (repeat (first | exact Pick.here | apply Pick.there)); exact rfl; exact rfl)); (first | (apply Res.tmp; exact rfl) | (apply Res.cell; exact rfl; (repeat (first | exact Pick.here | apply Pick.there)); exact rfl) | (apply Res.cellAN; exact rfl; (repeat (first | exact Pick.here | apply Pick.there)); exact rfl; exact rfl) | (apply Res.cellA; exact rfl; (repeat (first | exact Pick.here | apply Pick.there)); exact rfl; exact rfl))))
    refine finD (finS ?_); exact ⟨rfl, rfl⟩
  by_cases c4 : crcSum (bs.take 24) = leNum ((bs.drop 24).take 4)
  case neg =>
    have e : decE bs = 8 := by unfold decE; rw [if_neg c1, if_neg (by simpa using c2), if_neg (by simpa using c3), if_pos c4]
    rw [e]
    refine Fn.of Tryz.func74 rfl Tryz.ntmps74 rfl ?_
    repeat' (first | (apply JO.ru; exact rfl; exact rfl; exact rfl; (first | (apply Ru.move; exact rfl) | (apply Ru.assign; exact rfl) | (apply Ru.lenS; exact rfl) | (apply Ru.lss; exact rfl; exact rfl; (first | exact decT (by omega) | exact decF (by omega))) | (apply Ru.sliceS; exact rfl; exact rfl; exact rfl; exact rfl; (first | exact fun _ => rfl | exact fun h => nomatch h); omega; omega; omega))) | refine JC.seq ?_ | refine JC.region ?_ | refine JO.nil ?_ | refine JE.thenN ?_ | refine JC.block ?_ | refine JC.condF rfl ?_ | (apply JO.do; exact rfl; exact rfl; exact rfl; (first | (apply Do.allocN; exact rfl) | apply Do.alloc); rintro _ _ ⟨_, rfl, rfl⟩))
    (apply JO.ru; exact rfl; exact rfl; exact rfl; (apply Ru.bytesStr; exact rfl; exact (rd_part hb0 0 4 cap (by omega) (by omega) (by omega) (by omega)).cons))
    (apply JO.ru; exact rfl; exact rfl; exact rfl; (apply Ru.neqS (r := false); exact rfl; exact rfl; (rw [ByteArray.toList_eq, ByteArray.toList_eq]; simpa using c2)))
    repeat' (first | (apply JO.ru; exact rfl; exact rfl; exact rfl; (first | (apply Ru.move; exact rfl) | (apply Ru.assign; exact rfl) | (apply Ru.indexAddr; exact rfl; exact rfl; omega; omega))) | refine JC.seq ?_ | refine JC.region ?_ | refine JO.nil ?_ | refine JE.thenN ?_ | refine JC.condF rfl ?_)
    (apply JO.ru; exact rfl; exact rfl; exact rfl; (apply Ru.loadC; exact rfl; exact fun w s => rd_cell' hc 4 (by omega) w (Sat.drop s)))
    repeat' (first | (apply JO.ru; exact rfl; exact rfl; exact rfl; (first | (apply Ru.assign; exact rfl) | (apply Ru.neq; exact rfl; exact rfl; (first | exact ndecF (by omega) | exact ndecT (by omega))))) | refine JC.seq ?_ | refine JO.nil ?_ | refine JE.thenN ?_ | refine JC.condF rfl ?_ | (apply JQ.ru; exact rfl; exact rfl; exact rfl; (first | (apply Ru.move; exact rfl) | (apply Ru.sliceS; exact rfl; exact rfl; exact rfl; exact rfl; (first | exact fun _ => rfl | exact fun h => nomatch h); omega; omega; omega))) | refine JC.regionQ mixed (by decide +kernel) ?_)
    (apply JQ.call; exact rfl; exact rfl; exact rfl; exact crc_Sum _ (bs.take 24) (by rw [List.length_take]; omega) (rd_part hb0 0 24 cap (by omega) (by omega) (by omega) (by omega)).cons; (rintro _ _ ⟨rfl, rfl⟩; exact ⟨rfl, rfl⟩))
    repeat' ((apply JQ.ru; exact rfl; exact rfl; exact rfl; (first | (apply Ru.move; exact rfl) | (apply Ru.sliceS; exact rfl; exact rfl; exact rfl; exact rfl; (first | exact fun _ => rfl | exact fun h => nomatch h); omega; omega; omega))))
    (apply JQ.call; exact rfl; exact rfl; exact rfl; exact head_take32 _ ((bs.drop 24).take 4) (by rw [List.length_take]; omega) (rd_part hb0 24 28 cap (by omega) (by omega) (by omega) (by omega)).cons; (rintro _ _ ⟨rfl, rfl⟩; exact ⟨rfl, rfl⟩))
    (apply JQ.ru; exact rfl; exact rfl; exact rfl; (apply Ru.neq; exact rfl; exact rfl; exact ndecT c4))
    repeat' (first | (apply JO.ru; exact rfl; exact rfl; exact rfl; (first | (apply Ru.assign; exact rfl) | (apply Ru.buildN; exact rfl; exact rfl))) | refine JC.seq ?_ | refine JC.region ?_ | refine JO.nil ?_ | refine JE.thenN ?_ | refine JE.thenR ?_ | refine JE.blockR ?_ | refine JC.ret ?_ | refine JC.condT rfl ?_ | (apply JQ.ru; exact rfl; exact rfl; exact rfl; ((apply Ru.assign; exact rfl))) | refine JQ.nil ?_ | (apply JO.do0; exact rfl; exact rfl; (first | (apply Do.storeAN; exact rfl; exact rfl; (repeat (first | exact Pick.here | apply Pick.there)); exact rfl; exact rfl; exact rfl; exact rfl) | (apply Do.storeA; exact rfl; exact rfl; (repeat (first | exact Pick.here | apply Pick.there)); exact rfl; exact rfl; exact rfl)); rintro _ _ ⟨rfl, rfl⟩) | (apply JE.done2; exact rfl; (first | (apply Res.tmp; exact rfl) | (apply Res.cell; exact rfl; (repeat (first | exact Pick.here | apply Pick.there)); exact rfl) | (apply Res.cellAN; exact rfl; (repeat (first | exact Pick.here | apply Pick.there)); exact rfl; exact rfl) | (apply Res.cellA; exact rfl; (repeat (first | exact Pick.here | apply Pick.there)); exact rfl; exact rfl)); (first | (apply Res.tmp; exact rfl) | (apply Res.cell; exact rfl; (repeat (first | exact Pick.here | apply Pick.there)); exact rfl) | (apply Res.cellAN; exact rfl; (repeat (first | exact Pick.here | apply Pick.there)); exact rfl; exact rfl) | (apply Res.cellA; exact rfl; (repeat (first | exact Pick.here | apply Pick.there)); exact rfl; exact rfl))))
    refine finD (finS ?_); exact ⟨rfl, rfl⟩
  refine Fn.of Tryz.func74 rfl Tryz.ntmps74 rfl ?_
  repeat' (first | (apply JO.ru; exact rfl; exact rfl; exact rfl; (first | (apply Ru.move; exact rfl) | (apply Ru.assign; exact rfl) | (apply Ru.lenS; exact rfl) | (apply Ru.lss; exact rfl; exact rfl; (first | exact decT (by omega) | exact decF (by omega))) | (apply Ru.sliceS; exact rfl; exact rfl; exact rfl; exact rfl; (first | exact fun _ => rfl | exact fun h => nomatch h); omega; omega; omega))) | refine JC.seq ?_ | refine JC.region ?_ | refine JO.nil ?_ | refine JE.thenN ?_ | refine JC.block ?_ | refine JC.condF rfl ?_ | (apply JO.do; exact rfl; exact rfl; exact rfl; (first | (apply Do.allocN; exact rfl) | apply Do.alloc); rintro _ _ ⟨_, rfl, rfl⟩))
  (apply JO.ru; exact rfl; exact rfl; exact rfl; (apply Ru.bytesStr; exact rfl; exact (rd_part hb0 0 4 cap (by omega) (by omega) (by omega) (by omega)).cons))
  (apply JO.ru; exact rfl; exact rfl; exact rfl; (apply Ru.neqS (r := false); exact rfl; exact rfl; (rw [ByteArray.toList_eq, ByteArray.toList_eq]; simpa using c2)))
  repeat' (first | (apply JO.ru; exact rfl; exact rfl; exact rfl; (first | (apply Ru.move; exact rfl) | (apply Ru.assign; exact rfl) | (apply Ru.indexAddr; exact rfl; exact rfl; omega; omega))) | refine JC.seq ?_ | refine JC.region ?_ | refine JO.nil ?_ | refine JE.thenN ?_ | refine JC.condF rfl ?_)
  (apply JO.ru; exact rfl; exact rfl; exact rfl; (apply Ru.loadC; exact rfl; exact fun w s => rd_cell' hc 4 (by omega) w (Sat.drop s)))
  repeat' (first | (apply JO.ru; exact rfl; exact rfl; exact rfl; (first | (apply Ru.assign; exact rfl) | (apply Ru.neq; exact rfl; exact rfl; (first | exact ndecF (by omega) | exact ndecT (by omega))))) | refine JC.seq ?_ | refine JO.nil ?_ | refine JE.thenN ?_ | refine JC.condF rfl ?_ | (apply JQ.ru; exact rfl; exact rfl; exact rfl; (first | (apply Ru.move; exact rfl) | (apply Ru.sliceS; exact rfl; exact rfl; exact rfl; exact rfl; (first | exact fun _ => rfl | exact fun h => nomatch h); omega; omega; omega))) | refine JC.regionQ mixed (by decide +kernel) ?_)
  (apply JQ.call; exact rfl; exact rfl; exact rfl; exact crc_Sum _ (bs.take 24) (by rw [List.length_take]; omega) (rd_part hb0 0 24 cap (by omega) (by omega) (by omega) (by omega)).cons; (rintro _ _ ⟨rfl, rfl⟩; exact ⟨rfl, rfl⟩))
  repeat' ((apply JQ.ru; exact rfl; exact rfl; exact rfl; (first | (apply Ru.move; exact rfl) | (apply Ru.sliceS; exact rfl; exact rfl; exact rfl; exact rfl; (first | exact fun _ => rfl | exact fun h => nomatch h); omega; omega; omega))))
  (apply JQ.call; exact rfl; exact rfl; exact rfl; exact head_take32 _ ((bs.drop 24).take 4) (by rw [List.length_take]; omega) (rd_part hb0 24 28 cap (by omega) (by omega) (by omega) (by omega)).cons; (rintro _ _ ⟨rfl, rfl⟩; exact ⟨rfl, rfl⟩))
  (apply JQ.ru; exact rfl; exact rfl; exact rfl; (apply Ru.neq; exact rfl; exact rfl; exact ndecF c4))
  repeat' (first | refine JC.seq ?_ | refine JE.thenN ?_ | refine JE.blockN ?_ | refine JC.skip ?_ | refine JC.condF rfl ?_ | (apply JQ.ru; exact rfl; exact rfl; exact rfl; ((apply Ru.assign; exact rfl))) | refine JQ.nil ?_)
  refine JC.mid (fun q : Nat × Nat => [(2, .pointer (some ⟨q.1, 0, none⟩)), (3, int 0), (4, .pointer (some ⟨q.2, 0, none⟩))]) (fun q => arr q.2 114 (decRaw bs).val.cells.toList :: arr q.1 114 HeadN.zero.val.cells.toList :: l) (fun _ => True) ?_ ?_
  · rintro ⟨q1, q2⟩ _
    dsimp only
    by_cases c5 : (decRaw bs).right = true
    · have e : decE bs = 0 := by unfold decE; rw [if_neg c1, if_neg (by simpa using c2), if_neg (by simpa using c3), if_neg (by simpa using c4), if_pos c5]
      rw [e]
      repeat' (first | (first | (apply JO.ru; exact rfl; exact rfl; exact rfl; (first | (apply Ru.assign; exact rfl) | (apply Ru.not; exact rfl) | (apply Ru.loadAN; exact rfl; (repeat (first | exact Pick.here | apply Pick.there)); exact rfl; exact rfl))) | refine JC.seq ?_ | refine JC.region ?_ | refine JO.nil ?_ | refine JE.thenN ?_ | refine JC.ret ?_ | refine JC.skip ?_ | refine JC.condF rfl ?_ | (apply JO.do0; exact rfl; exact rfl; (first | (apply Do.storeAN; exact rfl; exact rfl; (repeat (first | exact Pick.here | apply Pick.there)); exact rfl; exact rfl; exact rfl; exact rfl) | (apply Do.storeA; exact rfl; exact rfl; (repeat (first | exact Pick.here | apply Pick.there)); exact rfl; exact rfl; exact rfl)); rintro _ _ ⟨rfl, rfl⟩) | (apply JE.done2; exact rfl; (first | (apply Res.tmp; exact rfl) | (apply Res.cell; exact rfl; (repeat (first | exact Pick.here | apply Pick.there)); exact rfl) | (apply Res.cellAN; exact rfl; (repeat (first | exact Pick.here | apply Pick.there)); exact rfl; exact rfl) | (apply Res.cellA; exact rfl; (repeat (first | exact Pick.here | apply Pick.there)); exact rfl; exact rfl)); (first | (apply Res.tmp; exact rfl) | (apply Res.cell; exact rfl; (repeat (first | exact Pick.here | apply Pick.there)); exact rfl) | (apply Res.cellAN; exact rfl; (repeat (first | exact Pick.here | apply Pick.there)); exact rfl; exact rfl) | (apply Res.cellA; exact rfl; (repeat (first | exact Pick.here | apply Pick.there)); exact rfl; exact rfl)))) | ((first | (apply JO.do; exact rfl; exact rfl; exact rfl; (apply Do.call; exact rfl; exact head_right (decRaw bs)); rintro _ _ ⟨rfl, hq⟩; obtain rfl := hq.symm) | (apply JQ.call; exact rfl; exact rfl; exact rfl; exact head_right (decRaw bs); (rintro _ _ ⟨rfl, rfl⟩; exact ⟨rfl, rfl⟩))); rw [c5]))
      refine finD (finD (finS ?_)); exact ⟨rfl, rfl⟩
    · have e : decE bs = 9 := by unfold decE; rw [if_neg c1, if_neg (by simpa using c2), if_neg (by simpa using c3), if_neg (by simpa using c4), if_neg c5]
      rw [e]
      simp only [Bool.not_eq_true] at c5
      repeat' (first | (first | (apply JO.ru; exact rfl; exact rfl; exact rfl; (first | (apply Ru.assign; exact rfl) | (apply Ru.not; exact rfl) | (apply Ru.loadAN; exact rfl; (repeat (first | exact Pick.here | apply Pick.there)); exact rfl; exact rfl) | (apply Ru.buildN; exact rfl; exact rfl))) | refine JC.seq ?_ | refine JC.region ?_ | refine JO.nil ?_ | refine JE.thenN ?_ | refine JE.thenR ?_ | refine JC.ret ?_ | refine JC.condT rfl ?_ | (apply JO.do0; exact rfl; exact rfl; (first | (apply Do.storeAN; exact rfl; exact rfl; (repeat (first | exact Pick.here | apply Pick.there)); exact rfl; exact rfl; exact rfl; exact rfl) | (apply Do.storeA; exact rfl; exact rfl; (repeat (first | exact Pick.here | apply Pick.there)); exact rfl; exact rfl; exact rfl)); rintro _ _ ⟨rfl, rfl⟩) | (apply JE.done2; exact rfl; (first | (apply Res.tmp; exact rfl) | (apply Res.cell; exact rfl; (repeat (first | exact Pick.here | apply Pick.there)); exact rfl) | (apply Res.cellAN; exact rfl; (repeat (first | exact Pick.here | apply Pick.there)); exact rfl; exact rfl) | (apply Res.cellA; exact rfl; (repeat (first | exact Pick.here | apply Pick.there)); exact rfl; exact rfl)); (first | (apply Res.tmp; exact rfl) | (apply Res.cell; exact rfl; (repeat (first | exact Pick.here | apply Pick.there)); exact rfl) | (apply Res.cellAN; exact rfl; (repeat (first | exact Pick.here | apply Pick.there)); exact rfl; exact rfl) | (apply Res.cellA; exact rfl; (repeat (first | exact Pick.here | apply Pick.there)); exact rfl; exact rfl)))) | ((first | (apply JO.do; exact rfl; exact rfl; exact rfl; (apply Do.call; exact rfl; exact head_right (decRaw bs)); rintro _ _ ⟨rfl, hq⟩; obtain rfl := hq.symm) | (apply JQ.call; exact rfl; exact rfl; exact rfl; exact head_right (decRaw bs); (rintro _ _ ⟨rfl, rfl⟩; exact ⟨rfl, rfl⟩))); rw [c5]))
      refine finD (finD (finS ?_)); exact ⟨rfl, rfl⟩
  refine JC.regionB l mixed ?_
  repeat' (first | (apply JB.ru; exact rfl; exact rfl; exact rfl; exact rfl; (apply Ru.loadC; exact rfl; exact rd_cell' hc 5 (by omega)); decide +kernel; decide +kernel; (first | exact fun _ h => h | exact fun _ h => Sat.drop h | exact fun _ h => Sat.drop (Sat.drop h)); (simp only [Nat.reduceAdd, Nat.reducePow, Nat.reduceMul, Nat.zero_or, Nat.or_zero, Nat.reduceXor, Nat.reduceOr]; try exact rfl)) | (apply JB.ru; exact rfl; exact rfl; exact rfl; exact rfl; (apply Ru.loadC; exact rfl; exact rd_cell' hc 6 (by omega)); decide +kernel; decide +kernel; (first | exact fun _ h => h | exact fun _ h => Sat.drop h | exact fun _ h => Sat.drop (Sat.drop h)); (simp only [Nat.reduceAdd, Nat.reducePow, Nat.reduceMul, Nat.zero_or, Nat.or_zero, Nat.reduceXor, Nat.reduceOr]; try exact rfl)) | (apply JB.ru; exact rfl; exact rfl; exact rfl; exact rfl; (apply Ru.loadC; exact rfl; exact rd_cell' hc 7 (by omega)); decide +kernel; decide +kernel; (first | exact fun _ h => h | exact fun _ h => Sat.drop h | exact fun _ h => Sat.drop (Sat.drop h)); (simp only [Nat.reduceAdd, Nat.reducePow, Nat.reduceMul, Nat.zero_or, Nat.or_zero, Nat.reduceXor, Nat.reduceOr]; try exact rfl)) | (show JI _ _ _ _ _ _ _ _ _ 15 _ _; apply JI.do; exact rfl; exact rfl; exact rfl; exact rfl; (apply Do.call; exact rfl; exact head_take32 _ ((bs.drop 8).take 4) (by rw [List.length_take]; omega) (by first | exact (rd_part hb0 8 12 cap (by omega) (by omega) (by omega) (by omega)).cons | exact (rd_part hb0 8 12 cap (by omega) (by omega) (by omega) (by omega)).cons.cons)); (simp only [Nat.reduceAdd, Nat.reducePow, Nat.reduceMul, Nat.zero_or, Nat.or_zero, Nat.reduceXor, Nat.reduceOr]; try exact rfl); rintro _ _ ⟨rfl, rfl⟩; refine ⟨(by (first | exact fun _ h => h | exact fun _ h => Sat.drop h | exact fun _ h => Sat.drop (Sat.drop h))), ?_⟩) | (show JI _ _ _ _ _ _ _ _ _ 19 _ _; apply JI.do; exact rfl; exact rfl; exact rfl; exact rfl; (apply Do.call; exact rfl; exact head_take64 _ ((bs.drop 12).take 8) (by rw [List.length_take]; omega) (by first | exact (rd_part hb0 12 20 cap (by omega) (by omega) (by omega) (by omega)).cons | exact (rd_part hb0 12 20 cap (by omega) (by omega) (by omega) (by omega)).cons.cons)); (simp only [Nat.reduceAdd, Nat.reducePow, Nat.reduceMul, Nat.zero_or, Nat.or_zero, Nat.reduceXor, Nat.reduceOr]; try exact rfl); rintro _ _ ⟨rfl, rfl⟩; refine ⟨(by (first | exact fun _ h => h | exact fun _ h => Sat.drop h | exact fun _ h => Sat.drop (Sat.drop h))), ?_⟩) | (show JI _ _ _ _ _ _ _ _ _ 22 _ _; apply JI.do; exact rfl; exact rfl; exact rfl; exact rfl; (apply Do.call; exact rfl; exact head_take32 _ ((bs.drop 20).take 4) (by rw [List.length_take]; omega) (by first | exact (rd_part hb0 20 24 cap (by omega) (by omega) (by omega) (by omega)).cons | exact (rd_part hb0 20 24 cap (by omega) (by omega) (by omega) (by omega)).cons.cons)); (simp only [Nat.reduceAdd, Nat.reducePow, Nat.reduceMul, Nat.zero_or, Nat.or_zero, Nat.reduceXor, Nat.reduceOr]; try exact rfl); rintro _ _ ⟨rfl, rfl⟩; refine ⟨(by (first | exact fun _ h => h | exact fun _ h => Sat.drop h | exact fun _ h => Sat.drop (Sat.drop h))), ?_⟩) | (first | (apply JB.ru; exact rfl; exact rfl; exact rfl; exact rfl; (first | (apply Ru.move; exact rfl) | (apply Ru.indexAddr; exact rfl; exact rfl; omega; omega) | (apply Ru.buildN; exact rfl; exact rfl) | (apply Ru.conv; exact rfl; exact rfl) | (apply Ru.sliceS; exact rfl; exact rfl; exact rfl; exact rfl; (first | exact fun _ => rfl | exact fun h => nomatch h); omega; omega; omega)); decide +kernel; decide +kernel; (first | exact fun _ h => h | exact fun _ h => Sat.drop h | exact fun _ h => Sat.drop (Sat.drop h) | exact fun _ h => Sat.drop (Sat.drop (Sat.drop h)) | exact fun _ h => Sat.drop (Sat.drop (Sat.drop (Sat.drop h)))); (simp only [Nat.reduceAdd, Nat.reducePow, Nat.reduceMul, Nat.zero_or, Nat.or_zero, Nat.reduceXor, Nat.reduceOr]; try exact rfl)) | (apply JB.nil; exact rfl) | (apply JI.do; exact rfl; exact rfl; exact rfl; exact rfl; (first | (apply Do.allocN; exact rfl) | apply Do.alloc); (simp only [Nat.reduceAdd, Nat.reducePow, Nat.reduceMul, Nat.zero_or, Nat.or_zero, Nat.reduceXor, Nat.reduceOr]; try exact rfl); rintro _ _ ⟨_, rfl, rfl⟩; refine ⟨(by (first | exact fun _ h => h | exact fun _ h => Sat.drop h | exact fun _ h => Sat.drop (Sat.drop h) | exact fun _ h => Sat.drop (Sat.drop (Sat.drop h)) | exact fun _ h => Sat.drop (Sat.drop (Sat.drop (Sat.drop h))))), ?_⟩) | (apply JI.do0; exact rfl; exact rfl; exact rfl; (first | (apply Do.storeAN; exact rfl; exact rfl; (repeat (first | exact Pick.here | apply Pick.there)); exact rfl; exact rfl; exact rfl; exact rfl) | (apply Do.storeA; exact rfl; exact rfl; (repeat (first | exact Pick.here | apply Pick.there)); exact rfl; exact rfl; exact rfl)); (simp only [Nat.reduceAdd, Nat.reducePow, Nat.reduceMul, Nat.zero_or, Nat.or_zero, Nat.reduceXor, Nat.reduceOr]; try exact rfl); rintro _ _ ⟨rfl, rfl⟩; refine ⟨(by (first | exact fun _ h => h | exact fun _ h => Sat.drop h | exact fun _ h => Sat.drop (Sat.drop h) | exact fun _ h => Sat.drop (Sat.drop (Sat.drop h)) | exact fun _ h => Sat.drop (Sat.drop (Sat.drop (Sat.drop h))))), ?_⟩)) | (refine JB.two 15 24 (by decide +kernel) ?_ ?_) | (refine JB.two 19 24 (by decide +kernel) ?_ ?_) | (refine JB.two 22 24 (by decide +kernel) ?_ ?_) | (refine JB.one 15 (by decide +kernel) ?_) | (refine JB.one 19 (by decide +kernel) ?_) | (refine JB.one 22 (by decide +kernel) ?_) | (refine JB.one 24 (by decide +kernel) ?_) | (refine JB.one 25 (by decide +kernel) ?_))
  all_goals
    have w5 : IntKind.i64.wrap ((bs.getD 5 0).toNat : Int) = (bs.getD 5 0).toNat := by have := UInt8.toNat_lt (bs.getD 5 0); exact wrapI (by omega) (by omega)
    have w6 : IntKind.i64.wrap ((bs.getD 6 0).toNat : Int) = (bs.getD 6 0).toNat := by have := UInt8.toNat_lt (bs.getD 6 0); exact wrapI (by omega) (by omega)
    have w7 : IntKind.i64.wrap ((bs.getD 7 0).toNat : Int) = (bs.getD 7 0).toNat := by have := UInt8.toNat_lt (bs.getD 7 0); exact wrapI (by omega) (by omega)
    have w8 : IntKind.i64.wrap (leNum ((bs.drop 8).take 4)) = leNum ((bs.drop 8).take 4) := by
      have h1 := leNum_bd ((bs.drop 8).take 4)
      have h2 := pow256_le (i := ((bs.drop 8).take 4).length) (j := 4) (by rw [List.length_take]; omega)
      exact wrapI (by omega) (by omega)
    refine JE.mid (_, _) trivial ⟨rfl, rfl, rfl, trivial⟩ ?_
    rw [w5, w6, w7, w8]
    exact fun _ h => h
end Go.Sep
/- What is one's own, behind three others. -/
namespace Go.Sep
open Go
variable {σ : Sig}
theorem JO.tail3 {P : Program} {n : Nat} {ds : List Deferred} {ops : Array Oper} {Q : Exit → Act → World → Prop} {rest : List Oper} {env : Env} {p1 p2 p3 : HP} {r : List HP} {v : Value} {E k : Nat} {xs : List Value}
    (h : RdS σ (ownS v E 1 k xs :: r) v xs → JO P σ n ds ops Q rest env (p1 :: p2 :: p3 :: ownS v E 1 k xs :: r)) : JO P σ n ds ops Q rest env (p1 :: p2 :: p3 :: ownS v E 1 k xs :: r) :=
  fun a w ka kd s => h (Sat.ownR (Sat.drop (Sat.drop (Sat.drop s)))).1 a w ka kd s
theorem JO.tail4 {P : Program} {n : Nat} {ds : List Deferred} {ops : Array Oper} {Q : Exit → Act → World → Prop} {rest : List Oper} {env : Env} {p1 p2 p3 : HP} {l : List HP} {v : Value} {cs : List Value}
    (hv : RdS σ l v cs) (h : RdS σ l v cs → JO P σ n ds ops Q rest env (p1 :: p2 :: p3 :: l)) : JO P σ n ds ops Q rest env (p1 :: p2 :: p3 :: l) := h hv
theorem arr_cell {b E : Nat} {vs : List Value} {l r : List HP} (hp : Pick (arr b E vs) l r) : ∀ w, Sat σ w l → ∀ o, w.cell? ⟨b, o, none⟩ = vs[o]? := fun _ s o => (s.perm hp).cell o
end Go.Sep
/- slot: sealed. -/
namespace Go.Sep
open Go Go.Proofs
attribute [local irreducible] JO JC JE JA JQ JB JI Mid Inv Weak ownS Ru Do Fn Sat Pick Take arr pt star ex Holds bodyPost Post Exit.then Exit.inBlock Res
variable {σ : Sig} {F : List HP}
attribute [local irreducible] diskHP cacheHP planHP rowHP
def sealHead (bs : List UInt8) (e f s q : Int) : HeadN := ⟨e, f, s, bs.length, q, crcSum bs⟩
theorem atE_right {D : DiskN} {which e f s : Int} (h : atE D which e f s = 0) : rightG e f s = true := by
  unfold atE at h
  split at h
  · cases h
  · rename_i hr; simpa using hr
set_option maxHeartbeats 4000000 in
theorem slot_Seal (d : Nat) (D : DiskN) (which e f s q : Int) (v : Value) (bs : List UInt8) (hq0 : 0 ≤ q) (hbl : bs.length ≤ 100000000) (hD : D.WF) (ho : D.ops ≤ 1000000000000) (hw : D.writes ≤ 1000000000000) {l : List HP} [hg : InG l] (hb : RdS σ l v (bs.map byte)) :
    Fn Tryz.prog σ 18 #[.pointer (some ⟨d, 0, none⟩), int which, geoV e f s, u64 q, v] (diskHP d D :: l)
      (fun r l' => (atE D which e f s ≠ 0 ∧ r = int (atE D which e f s) ∧ l' = diskHP d D :: l) ∨ (atE D which e f s = 0 ∧ (bs.length : Int) ≠ totG e f s ∧ r = int 1 ∧ l' = diskHP d D :: l) ∨
        (atE D which e f s = 0 ∧ (bs.length : Int) = totG e f s ∧
        ((D.writeE (which * spanG D.size e f s) D.size = 0 ∧ r = int 0 ∧ l' = diskHP d (D.put (which * spanG D.size e f s) (padB (enc (sealHead bs e f s q)) D.size)) :: l) ∨
         (D.writeE (which * spanG D.size e f s) D.size ≠ 0 ∧ r = int (D.writeE (which * spanG D.size e f s) D.size) ∧ l' = diskHP d D.tick :: l)))) := by
  obtain ⟨pv, cv, rfl, hcv, hrv⟩ := id hb
  have hl : (bs.map byte).length = bs.length := by simp
  have hcs := crcSum_bd bs
  refine Fn.of Tryz.func18 rfl Tryz.ntmps18 rfl ?_
  repeat' (first | (apply JO.ru; exact rfl; exact rfl; exact rfl; (first | (apply Ru.move; exact rfl) | (apply Ru.assign; exact rfl) | (apply Ru.loadAN; exact rfl; (repeat (first | exact Pick.here | apply Pick.there)); exact rfl; exact rfl))) | refine JC.seq ?_ | refine JC.region ?_ | refine JO.nil ?_ | refine JE.thenN ?_ | (apply JO.do; exact rfl; exact rfl; exact rfl; (first | (apply Do.boxN; exact rfl; exact rfl) | (apply Do.box; exact rfl)); rintro _ _ ⟨_, rfl, rfl⟩))
  rename_i gb
  refine JO.heap (Sat.weak (l' := diskHP d D :: arr gb 23 [int e, int f, int s] :: l) (by repeat (first | exact Weak.refl | (apply Weak.cons; (first | exact Pick.here | exact Pick.there Pick.here | exact Pick.there (Pick.there Pick.here) | exact Pick.there (Pick.there (Pick.there Pick.here)) | exact Pick.there (Pick.there (Pick.there (Pick.there Pick.here))) | exact Pick.there (Pick.there (Pick.there (Pick.there (Pick.there Pick.here)))) | exact Pick.there (Pick.there (Pick.there (Pick.there (Pick.there (Pick.there Pick.here))))) | exact Pick.there (Pick.there (Pick.there (Pick.there (Pick.there (Pick.there (Pick.there Pick.here)))))))) | apply Weak.drop))) ?_
  (apply JO.do; exact rfl; exact rfl; exact rfl; (apply Do.call; exact rfl; exact slot_at d D which e f s hD); rintro _ _ (⟨hE, db, fb, rfl, rfl⟩ | ⟨hE, rfl, rfl⟩))
  · have hfi := atE_first hE
    have hri := atE_right hE
    repeat' (first | (first | (apply JO.ru; exact rfl; exact rfl; exact rfl; (first | (apply Ru.move; exact rfl) | (apply Ru.assign; exact rfl) | (apply Ru.lenS; exact rfl) | (apply Ru.neq; exact rfl; exact rfl; (first | exact ndecF (by omega) | exact ndecT (by omega))) | (apply Ru.extractN; exact rfl; exact rfl) | (apply Ru.loadAN; exact rfl; (repeat (first | exact Pick.here | apply Pick.there)); exact rfl; exact rfl))) | refine JC.seq ?_ | refine JC.region ?_ | refine JO.nil ?_ | refine JE.thenN ?_ | refine JE.thenR ?_ | refine JE.blockN ?_ | refine JE.blockR ?_ | refine JC.block ?_ | refine JC.ret ?_ | refine JC.skip ?_ | refine JC.condT rfl ?_ | refine JC.condF rfl ?_ | (apply JO.splitN; exact rfl; exact rfl; exact rfl; (apply Ru.neq; exact rfl; exact rfl; exact rfl); all_goals intro _) | (apply JO.do; exact rfl; exact rfl; exact rfl; (first | (apply Do.allocN; exact rfl) | apply Do.alloc); rintro _ _ ⟨_, rfl, rfl⟩) | (apply JO.do0; exact rfl; exact rfl; (first | (apply Do.storeAN; exact rfl; exact rfl; (repeat (first | exact Pick.here | apply Pick.there)); exact rfl; exact rfl; exact rfl; exact rfl) | (apply Do.storeA; exact rfl; exact rfl; (repeat (first | exact Pick.here | apply Pick.there)); exact rfl; exact rfl; exact rfl)); rintro _ _ ⟨rfl, rfl⟩) | (apply JE.done1; exact rfl; (first | (apply Res.tmp; exact rfl) | (apply Res.cell; exact rfl; (repeat (first | exact Pick.here | apply Pick.there)); exact rfl) | (apply Res.cellAN; exact rfl; (repeat (first | exact Pick.here | apply Pick.there)); exact rfl; exact rfl) | (apply Res.cellA; exact rfl; (repeat (first | exact Pick.here | apply Pick.there)); exact rfl; exact rfl)))) | (first | (apply JO.do; exact rfl; exact rfl; exact rfl; (apply Do.call; exact rfl; exact geo_Total _ _ _); rintro _ _ ⟨rfl, hq⟩; obtain rfl := hq.symm) | (apply JQ.call; exact rfl; exact rfl; exact rfl; exact geo_Total _ _ _; (rintro _ _ ⟨rfl, rfl⟩; exact ⟨rfl, rfl⟩))))
    · rename_i pb heq
      rw [hl] at heq
      have hright : (sealHead bs e f s q).right = true := by simp [HeadN.right, sealHead, hri, heq]
      refine JC.regionB (arr pb 105 [int (spanG D.size e f s - 1), int D.size, rdV db fb, wrV db fb] :: slotL d D db fb (which * spanG D.size e f s) (arr gb 23 [int e, int f, int s] :: l)) mixed ?_
      repeat' ((apply JB.ru; exact rfl; exact rfl; exact rfl; exact rfl; (first | (apply Ru.move; exact rfl) | (apply Ru.lenS; exact rfl) | (apply Ru.loadAN; exact rfl; (repeat (first | exact Pick.here | apply Pick.there)); exact rfl; exact rfl)); decide +kernel; decide +kernel; (first | exact fun _ h => h | exact fun _ h => Sat.drop h | exact fun _ h => Sat.drop (Sat.drop h) | exact fun _ h => Sat.drop (Sat.drop (Sat.drop h)) | exact fun _ h => Sat.drop (Sat.drop (Sat.drop (Sat.drop h)))); (simp only [Nat.reduceAdd, Nat.reducePow, Nat.reduceMul, Nat.zero_or, Nat.or_zero, Nat.reduceXor, Nat.reduceOr]; try exact rfl)))
      refine JB.one 5 (by decide +kernel) ?_
      (apply JI.do; exact rfl; exact rfl; exact rfl; exact rfl; (apply Do.call; exact rfl; exact crc_Sum _ bs (by omega) hb.cons.cons.cons.cons.cons); (simp only [Nat.reduceAdd, Nat.reducePow, Nat.reduceMul, Nat.zero_or, Nat.or_zero, Nat.reduceXor, Nat.reduceOr]; try exact rfl); rintro _ _ ⟨rfl, rfl⟩; refine ⟨fun _ s => s, ?_⟩)
      repeat' ((apply JB.ru; exact rfl; exact rfl; exact rfl; exact rfl; ((apply Ru.buildN; exact rfl; exact rfl)); decide +kernel; decide +kernel; (first | exact fun _ h => h | exact fun _ h => Sat.drop h | exact fun _ h => Sat.drop (Sat.drop h) | exact fun _ h => Sat.drop (Sat.drop (Sat.drop h)) | exact fun _ h => Sat.drop (Sat.drop (Sat.drop (Sat.drop h)))); (simp only [Nat.reduceAdd, Nat.reducePow, Nat.reduceMul, Nat.zero_or, Nat.or_zero, Nat.reduceXor, Nat.reduceOr]; try exact rfl)))
      refine JB.one 7 (by decide +kernel) ?_
      (apply JI.do; exact rfl; exact rfl; exact rfl; exact rfl; (apply Do.call; exact rfl; (rw [hl]; exact head_Encode (sealHead bs e f s q) hq0 hcs.1)); (simp only [Nat.reduceAdd, Nat.reducePow, Nat.reduceMul, Nat.zero_or, Nat.or_zero, Nat.reduceXor, Nat.reduceOr]; try exact rfl); rintro _ _ (⟨_, u, rfl, rfl⟩ | ⟨hf, _, _⟩))
      · refine ⟨fun _ s => s.drop, ?_⟩
        repeat' (first | (apply JB.ru; exact rfl; exact rfl; exact rfl; exact rfl; (first | (apply Ru.move; exact rfl) | (apply Ru.assign; exact rfl) | (apply Ru.extractN; exact rfl; exact rfl)); decide +kernel; decide +kernel; (first | exact fun _ h => h | exact fun _ h => Sat.drop h | exact fun _ h => Sat.drop (Sat.drop h) | exact fun _ h => Sat.drop (Sat.drop (Sat.drop h)) | exact fun _ h => Sat.drop (Sat.drop (Sat.drop (Sat.drop h)))); (simp only [Nat.reduceAdd, Nat.reducePow, Nat.reduceMul, Nat.zero_or, Nat.or_zero, Nat.reduceXor, Nat.reduceOr]; try exact rfl)) | (apply JB.nil; exact rfl))
        repeat' (first | (apply JO.ru; exact rfl; exact rfl; exact rfl; (first | (apply Ru.move; exact rfl) | (apply Ru.neq; exact rfl; exact rfl; (first | exact ndecF (by omega) | exact ndecT (by omega))) | (apply Ru.loadAN; exact rfl; (repeat (first | exact Pick.here | apply Pick.there)); exact rfl; exact rfl))) | refine JC.seq ?_ | refine JC.region ?_ | refine JO.nil ?_ | refine JE.thenN ?_ | refine JC.skip ?_ | refine JC.condF rfl ?_)
        have hel : (enc (sealHead bs e f s q)).length = 28 := rfl
        have hsz : 32 ≤ D.size := by
          unfold atE at hE
          rw [if_neg (by rw [hri]; simp)] at hE
          split at hE
          · cases hE
          · omega
        refine JO.heap (Sat.weak (l' := slotL d D db fb (which * spanG D.size e f s) (ownS u 5 1 28 ((enc (sealHead bs e f s q)).map byte) :: arr pb 105 [int (spanG D.size e f s - 1), int D.size, rdV db fb, wrV db fb] :: arr gb 23 [int e, int f, int s] :: l)) (by repeat (first | exact Weak.refl | (apply Weak.cons; (first | exact Pick.here | exact Pick.there Pick.here | exact Pick.there (Pick.there Pick.here) | exact Pick.there (Pick.there (Pick.there Pick.here)) | exact Pick.there (Pick.there (Pick.there (Pick.there Pick.here))) | exact Pick.there (Pick.there (Pick.there (Pick.there (Pick.there Pick.here)))) | exact Pick.there (Pick.there (Pick.there (Pick.there (Pick.there (Pick.there Pick.here))))) | exact Pick.there (Pick.there (Pick.there (Pick.there (Pick.there (Pick.there (Pick.there Pick.here)))))))) | apply Weak.drop))) ?_
        refine JO.tail3 fun hrd => ?_
        have hfst := place_first (σ := σ) d D db fb (which * spanG D.size e f s) (spanG D.size e f s - 1) u (enc (sealHead bs e f s q)) hD ho hw (by omega) ⟨hfi.1, by omega⟩ (l := ownS u 5 1 28 ((enc (sealHead bs e f s q)).map byte) :: arr pb 105 [int (spanG D.size e f s - 1), int D.size, rdV db fb, wrV db fb] :: arr gb 23 [int e, int f, int s] :: l) hrd
        repeat' (fail)
        (apply JO.do; exact rfl; exact rfl; exact rfl; (apply Do.call; exact rfl; exact hfst); rintro _ _ (⟨hW, rfl, rfl⟩ | ⟨hW, rfl, rfl⟩))
        · repeat' (first | (apply JO.ru; exact rfl; exact rfl; exact rfl; ((apply Ru.assign; exact rfl))) | refine JO.nil ?_ | refine JE.thenN ?_ | refine JC.ret ?_ | (apply JE.done1; exact rfl; (first | (apply Res.tmp; exact rfl) | (apply Res.cell; exact rfl; (repeat (first | exact Pick.here | apply Pick.there)); exact rfl) | (apply Res.cellAN; exact rfl; (repeat (first | exact Pick.here | apply Pick.there)); exact rfl; exact rfl) | (apply Res.cellA; exact rfl; (repeat (first | exact Pick.here | apply Pick.there)); exact rfl; exact rfl))))
          exact ⟨diskHP d (D.put (which * spanG D.size e f s) (padB (enc (sealHead bs e f s q)) D.size)) :: l, Sat.weak (by repeat (first | exact Weak.refl | (apply Weak.cons; (first | exact Pick.here | exact Pick.there Pick.here | exact Pick.there (Pick.there Pick.here) | exact Pick.there (Pick.there (Pick.there Pick.here)) | exact Pick.there (Pick.there (Pick.there (Pick.there Pick.here))) | exact Pick.there (Pick.there (Pick.there (Pick.there (Pick.there Pick.here)))) | exact Pick.there (Pick.there (Pick.there (Pick.there (Pick.there (Pick.there Pick.here))))) | exact Pick.there (Pick.there (Pick.there (Pick.there (Pick.there (Pick.there (Pick.there Pick.here)))))))) | apply Weak.drop)), .inr (.inr ⟨hE, heq, .inl ⟨hW, rfl, rfl⟩⟩)⟩
        · repeat' (first | (apply JO.ru; exact rfl; exact rfl; exact rfl; ((apply Ru.assign; exact rfl))) | refine JO.nil ?_ | refine JE.thenN ?_ | refine JC.ret ?_ | (apply JE.done1; exact rfl; (first | (apply Res.tmp; exact rfl) | (apply Res.cell; exact rfl; (repeat (first | exact Pick.here | apply Pick.there)); exact rfl) | (apply Res.cellAN; exact rfl; (repeat (first | exact Pick.here | apply Pick.there)); exact rfl; exact rfl) | (apply Res.cellA; exact rfl; (repeat (first | exact Pick.here | apply Pick.there)); exact rfl; exact rfl))))
          exact ⟨diskHP d D.tick :: l, Sat.weak (by repeat (first | exact Weak.refl | (apply Weak.cons; (first | exact Pick.here | exact Pick.there Pick.here | exact Pick.there (Pick.there Pick.here) | exact Pick.there (Pick.there (Pick.there Pick.here)) | exact Pick.there (Pick.there (Pick.there (Pick.there Pick.here))) | exact Pick.there (Pick.there (Pick.there (Pick.there (Pick.there Pick.here)))) | exact Pick.there (Pick.there (Pick.there (Pick.there (Pick.there (Pick.there Pick.here))))) | exact Pick.there (Pick.there (Pick.there (Pick.there (Pick.there (Pick.there (Pick.there Pick.here)))))))) | apply Weak.drop)), .inr (.inr ⟨hE, heq, .inr ⟨hW, rfl, rfl⟩⟩)⟩
      · rw [hright] at hf; cases hf
    · rename_i heq
      rw [hl] at heq
      exact ⟨diskHP d D :: l, Sat.weak (by repeat (first | exact Weak.refl | (apply Weak.cons; (first | exact Pick.here | exact Pick.there Pick.here | exact Pick.there (Pick.there Pick.here) | exact Pick.there (Pick.there (Pick.there Pick.here)) | exact Pick.there (Pick.there (Pick.there (Pick.there Pick.here))) | exact Pick.there (Pick.there (Pick.there (Pick.there (Pick.there Pick.here)))) | exact Pick.there (Pick.there (Pick.there (Pick.there (Pick.there (Pick.there Pick.here))))) | exact Pick.there (Pick.there (Pick.there (Pick.there (Pick.there (Pick.there (Pick.there Pick.here)))))))) | apply Weak.drop)), .inr (.inl ⟨hE, heq, rfl, rfl⟩)⟩
  · repeat' (first | (apply JO.ru; exact rfl; exact rfl; exact rfl; (first | (apply Ru.move; exact rfl) | (apply Ru.assign; exact rfl) | (apply Ru.neq; exact rfl; exact rfl; (first | exact ndecF (by omega) | exact ndecT (by omega))) | (apply Ru.extractN; exact rfl; exact rfl))) | refine JC.seq ?_ | refine JC.region ?_ | refine JO.nil ?_ | refine JE.thenN ?_ | refine JE.thenR ?_ | refine JE.blockR ?_ | refine JC.block ?_ | refine JC.ret ?_ | refine JC.condT rfl ?_ | (apply JO.do; exact rfl; exact rfl; exact rfl; (first | (apply Do.allocN; exact rfl) | apply Do.alloc); rintro _ _ ⟨_, rfl, rfl⟩) | (apply JO.do0; exact rfl; exact rfl; (first | (apply Do.storeAN; exact rfl; exact rfl; (repeat (first | exact Pick.here | apply Pick.there)); exact rfl; exact rfl; exact rfl; exact rfl) | (apply Do.storeA; exact rfl; exact rfl; (repeat (first | exact Pick.here | apply Pick.there)); exact rfl; exact rfl; exact rfl)); rintro _ _ ⟨rfl, rfl⟩) | (apply JE.done1; exact rfl; (first | (apply Res.tmp; exact rfl) | (apply Res.cell; exact rfl; (repeat (first | exact Pick.here | apply Pick.there)); exact rfl) | (apply Res.cellAN; exact rfl; (repeat (first | exact Pick.here | apply Pick.there)); exact rfl; exact rfl) | (apply Res.cellA; exact rfl; (repeat (first | exact Pick.here | apply Pick.there)); exact rfl; exact rfl))))
    exact ⟨diskHP d D :: l, Sat.weak (by repeat (first | exact Weak.refl | (apply Weak.cons; (first | exact Pick.here | exact Pick.there Pick.here | exact Pick.there (Pick.there Pick.here) | exact Pick.there (Pick.there (Pick.there Pick.here)) | exact Pick.there (Pick.there (Pick.there (Pick.there Pick.here))) | exact Pick.there (Pick.there (Pick.there (Pick.there (Pick.there Pick.here)))) | exact Pick.there (Pick.there (Pick.there (Pick.there (Pick.there (Pick.there Pick.here))))) | exact Pick.there (Pick.there (Pick.there (Pick.there (Pick.there (Pick.there (Pick.there Pick.here)))))))) | apply Weak.drop)), .inl ⟨hE, rfl, rfl⟩⟩
end Go.Sep
/- The shelf's contracts on a map's keys, sorted, at this dump. -/
namespace Go.Proofs
open Go.RowKit Go.Maps Go.Sort Go.Shelf
def Tryz.keysA_ren : Go.Shelf.Ren := ⟨fun | 7 => 84 | 10 => 127 | n => n, fun | 23 => 118 | 26 => 3 | 3 => 35 | 28 => 128 | 0 => 0 | 27 => 127 | 33 => 139 | 4 => 4 | n => n, fun | n => n⟩
theorem Tryz.keysA : Go.Proofs.SlLaysZI.n7 Tryz.prog Tryz.keysA_ren := {
  mixed := by kernel_rfl
  f7 := ⟨Tryz.f84.name, by decide, Tryz.func84.trans (congrArg some (by kernel_rfl))⟩
  f10 := ⟨Tryz.f127.name, by decide, Tryz.func127.trans (congrArg some (by kernel_rfl))⟩
  t0 := Tryz.underlying0
  a0 := Tryz.isAgg0
  z0 := Tryz.sizeOf0
  v0 := Tryz.zeroValue0
  t4 := Tryz.underlying4
  a4 := Tryz.isAgg4
  z4 := Tryz.sizeOf4
  v4 := Tryz.zeroValue4
  t23 := Tryz.underlying118
  a23 := Tryz.isAgg118
  z23 := Tryz.sizeOf118
  v23 := Tryz.zeroValue118
  t26 := Tryz.underlying3
  a26 := Tryz.isAgg3
  z26 := Tryz.sizeOf3
  v26 := Tryz.zeroValue3
  t27 := Tryz.underlying127
  a27 := Tryz.isAgg127
  z27 := Tryz.sizeOf127
  v27 := Tryz.zeroValue127
  t28 := Tryz.underlying128
  a28 := Tryz.isAgg128
  z28 := Tryz.sizeOf128
  v28 := Tryz.zeroValue128
  t33 := Tryz.underlying139
  a33 := Tryz.isAgg139
  z33 := Tryz.sizeOf139
  v33 := Tryz.zeroValue139 }
def Tryz.sortedA_ren : Go.Shelf.Ren := ⟨fun | 6 => 83 | 8 => 125 | 9 => 126 | 11 => 137 | 13 => 139 | 12 => 138 | 23 => 152 | 24 => 153 | 14 => 143 | 15 => 144 | 16 => 145 | 17 => 146 | 18 => 147 | 19 => 148 | 20 => 149 | 21 => 150 | 22 => 151 | 25 => 156 | 26 => 157 | 27 => 158 | 28 => 159 | 29 => 160 | 30 => 161 | 31 => 162 | n => n, fun | 26 => 3 | 28 => 128 | 24 => 55 | 0 => 0 | 3 => 3 | 37 => 159 | 48 => 111 | 50 => 34 | 4 => 4 | 40 => 172 | 39 => 171 | 45 => 176 | 5 => 5 | 9 => 9 | 51 => 185 | 55 => 188 | 57 => 190 | 58 => 191 | 33 => 139 | n => n, fun | n => n⟩
theorem Tryz.sortedA : Go.Proofs.SlLaysZI.n6 Tryz.prog Tryz.sortedA_ren := {
  mixed := by kernel_rfl
  f6 := ⟨Tryz.f83.name, by decide, Tryz.func83.trans (congrArg some (by kernel_rfl))⟩
  f8 := ⟨Tryz.f125.name, by decide, Tryz.func125.trans (congrArg some (by kernel_rfl))⟩
  f11 := ⟨Tryz.f137.name, by decide, Tryz.func137.trans (congrArg some (by kernel_rfl))⟩
  t0 := Tryz.underlying0
  a0 := Tryz.isAgg0
  z0 := Tryz.sizeOf0
  v0 := Tryz.zeroValue0
  t24 := Tryz.underlying55
  a24 := Tryz.isAgg55
  z24 := Tryz.sizeOf55
  v24 := Tryz.zeroValue55
  t26 := Tryz.underlying3
  a26 := Tryz.isAgg3
  z26 := Tryz.sizeOf3
  v26 := Tryz.zeroValue3
  t28 := Tryz.underlying128
  a28 := Tryz.isAgg128
  z28 := Tryz.sizeOf128
  v28 := Tryz.zeroValue128
  i26 := by kernel_rfl }
def Tryz.sortA_ren : Go.Shelf.Ren := ⟨fun | 5 => 126 | 8 => 139 | 7 => 138 | 19 => 152 | 20 => 153 | 10 => 143 | 11 => 144 | 12 => 145 | 13 => 146 | 14 => 147 | 15 => 148 | 16 => 149 | 17 => 150 | 18 => 151 | 30 => 156 | 31 => 157 | 32 => 158 | 33 => 159 | 34 => 160 | 35 => 161 | 40 => 162 | n => n, fun | 23 => 55 | 25 => 3 | 3 => 3 | 32 => 159 | 22 => 55 | 0 => 0 | 44 => 111 | 46 => 34 | 4 => 4 | 36 => 172 | 35 => 171 | 41 => 176 | 5 => 5 | 9 => 9 | 53 => 185 | 57 => 188 | 63 => 190 | 64 => 191 | n => n, fun | n => n⟩
theorem Tryz.sortA : Go.Proofs.SlLaysM.n5 Tryz.prog Tryz.sortA_ren := {
  mixed := by kernel_rfl
  f5 := ⟨Tryz.f126.name, by decide, Tryz.func126.trans (congrArg some (by kernel_rfl))⟩
  f7 := ⟨Tryz.f138.name, by decide, Tryz.func138.trans (congrArg some (by kernel_rfl))⟩
  f8 := Tryz.func139.trans (congrArg some (by kernel_rfl))
  f10 := ⟨Tryz.f143.name, by decide, Tryz.func143.trans (congrArg some (by kernel_rfl))⟩
  f11 := ⟨Tryz.f144.name, by decide, Tryz.func144.trans (congrArg some (by kernel_rfl))⟩
  f12 := ⟨Tryz.f145.name, by decide, Tryz.func145.trans (congrArg some (by kernel_rfl))⟩
  f13 := ⟨Tryz.f146.name, by decide, Tryz.func146.trans (congrArg some (by kernel_rfl))⟩
  f14 := ⟨Tryz.f147.name, by decide, Tryz.func147.trans (congrArg some (by kernel_rfl))⟩
  f15 := ⟨Tryz.f148.name, by decide, Tryz.func148.trans (congrArg some (by kernel_rfl))⟩
  f16 := ⟨Tryz.f149.name, by decide, Tryz.func149.trans (congrArg some (by kernel_rfl))⟩
  f17 := ⟨Tryz.f150.name, by decide, Tryz.func150.trans (congrArg some (by kernel_rfl))⟩
  f18 := ⟨Tryz.f151.name, by decide, Tryz.func151.trans (congrArg some (by kernel_rfl))⟩
  f19 := Tryz.func152.trans (congrArg some (by kernel_rfl))
  f20 := Tryz.func153.trans (congrArg some (by kernel_rfl))
  f30 := ⟨Tryz.f156.name, by decide, Tryz.func156.trans (congrArg some (by kernel_rfl))⟩
  f31 := Tryz.func157.trans (congrArg some (by kernel_rfl))
  f32 := Tryz.func158.trans (congrArg some (by kernel_rfl))
  f33 := ⟨Tryz.f159.name, by decide, Tryz.func159.trans (congrArg some (by kernel_rfl))⟩
  f34 := ⟨Tryz.f160.name, by decide, Tryz.func160.trans (congrArg some (by kernel_rfl))⟩
  f35 := ⟨Tryz.f161.name, by decide, Tryz.func161.trans (congrArg some (by kernel_rfl))⟩
  f40 := ⟨Tryz.f162.name, by decide, Tryz.func162.trans (congrArg some (by kernel_rfl))⟩
  t0 := Tryz.underlying0
  a0 := Tryz.isAgg0
  z0 := Tryz.sizeOf0
  v0 := Tryz.zeroValue0
  t3 := Tryz.underlying3
  a3 := Tryz.isAgg3
  z3 := Tryz.sizeOf3
  v3 := Tryz.zeroValue3
  t4 := Tryz.underlying4
  a4 := Tryz.isAgg4
  z4 := Tryz.sizeOf4
  v4 := Tryz.zeroValue4
  t5 := Tryz.underlying5
  a5 := Tryz.isAgg5
  z5 := Tryz.sizeOf5
  v5 := Tryz.zeroValue5
  t9 := Tryz.underlying9
  a9 := Tryz.isAgg9
  z9 := Tryz.sizeOf9
  v9 := Tryz.zeroValue9
  t22 := Tryz.underlying55
  a22 := Tryz.isAgg55
  z22 := Tryz.sizeOf55
  v22 := Tryz.zeroValue55
  t23 := Tryz.underlying55
  a23 := Tryz.isAgg55
  z23 := Tryz.sizeOf55
  v23 := Tryz.zeroValue55
  t25 := Tryz.underlying3
  a25 := Tryz.isAgg3
  z25 := Tryz.sizeOf3
  v25 := Tryz.zeroValue3
  t32 := Tryz.underlying159
  a32 := Tryz.isAgg159
  z32 := Tryz.sizeOf159
  v32 := Tryz.zeroValue159
  t35 := Tryz.underlying171
  a35 := Tryz.isAgg171
  z35 := Tryz.sizeOf171
  v35 := Tryz.zeroValue171
  t36 := Tryz.underlying172
  a36 := Tryz.isAgg172
  z36 := Tryz.sizeOf172
  v36 := Tryz.zeroValue172
  t41 := Tryz.underlying176
  a41 := Tryz.isAgg176
  z41 := Tryz.sizeOf176
  v41 := Tryz.zeroValue176
  t44 := Tryz.underlying111
  a44 := Tryz.isAgg111
  z44 := Tryz.sizeOf111
  v44 := Tryz.zeroValue111
  t46 := Tryz.underlying34
  a46 := Tryz.isAgg34
  z46 := Tryz.sizeOf34
  v46 := Tryz.zeroValue34
  t53 := Tryz.underlying185
  a53 := Tryz.isAgg185
  z53 := Tryz.sizeOf185
  v53 := Tryz.zeroValue185
  t57 := Tryz.underlying188
  a57 := Tryz.isAgg188
  z57 := Tryz.sizeOf188
  v57 := Tryz.zeroValue188
  t63 := Tryz.underlying190
  a63 := Tryz.isAgg190
  z63 := Tryz.sizeOf190
  v63 := Tryz.zeroValue190
  t64 := Tryz.underlying191
  a64 := Tryz.isAgg191
  z64 := Tryz.sizeOf191
  v64 := Tryz.zeroValue191 }
theorem Tryz.sortsA (m : Nat) : AnyZI.SortsIn Tryz.prog Tryz.sortedA_ren Fence.wide m :=
  ⟨fun blk off cap ss W hH hblk hsz => callsIn_wide.2 (AnyM.slices_Sort_int Tryz.sortA blk off cap ss W hH hblk hsz),
   fun p cap W => callsIn_wide.2 (AnyM.slices_Sort_int_none Tryz.sortA p cap W)⟩
end Go.Proofs
/- A map's keys, sorted, as the heap logic has it. -/
namespace Go.Sep
open Go Go.Proofs Go.RowKit Go.Maps Go.Sort Go.Shelf Go.WideElems
variable {σ : Sig} {F : List HP}

theorem Sat.ofBelow {w w' : World} {l : List HP} (s : Sat σ w l) (hb : Below w.heap.size w w') : Sat σ w' l := by
  refine ⟨?_, Holds.mono (fun b o h => ?_) s.2⟩
  · rw [← s.1]; simp only [sigOf, hb.os, hb.tape, hb.output]
  · have hlt : b < w.heap.size := (Array.getElem?_eq_some_iff.1 h).1
    show w'.heap[b]? = some o
    rw [hb.block b hlt]; exact h
theorem Sat.ofBelowNew {w w' : World} {l : List HP} (s : Sat σ w l) (hb : Below w.heap.size w w') {g : Nat} {o : Obj} (hg : w.heap.size ≤ g) (ho : w'.heap[g]? = some o) : Sat σ w' (pt g o :: l) := by
  refine ⟨(s.ofBelow hb).1, fun x => if x = g then some o else none, heapOf w, fun x y q => ?_, fun x y q => ?_, fun x => ?_, ?_, s.2⟩
  · by_cases hx : x = g
    · subst hx; simp at q; subst q; exact ho
    · simp [hx] at q
  · have hlt : x < w.heap.size := (Array.getElem?_eq_some_iff.1 q).1
    show w'.heap[x]? = some y
    rw [hb.block x hlt]; exact q
  · by_cases hx : x = g
    · subst hx; right
      show w.heap[x]? = none
      exact Array.getElem?_eq_none hg
    · left; simp [hx]
  · simp [pt]
theorem Sat.ofOwnsRow {w w' : World} {l : List HP} {E n : Nat} {v : Value} {xs : List Value} (s : Sat σ w l) (hb : Below w.heap.size w w') (hr : w'.ownsRow w.heap.size E 1 v n xs) : Sat σ w' (Sep.ownS v E 1 n xs :: l) := by
  obtain ⟨hx, h⟩ := hr
  rcases h with ⟨rfl, rfl⟩ | ⟨g, cap, cur, rfl, hg, ho, hn, _, hc, ht⟩
  · obtain rfl : xs = [] := List.eq_nil_of_length_eq_zero (by simpa using hx)
    exact Sat.ownS_nil (s.ofBelow hb)
  · have s1 := s.ofBelowNew hb hg ho
    have e : cur.toList = xs ++ cur.toList.drop n := by
      rw [Nat.mul_one] at ht
      rw [← ht, List.take_append_drop]
    refine Sat.ownS_arr (xs := xs) (spare := cur.toList.drop n) (z := 1) hn hx (by rw [← e]; simp [hc]) ?_
    rw [← e]
    exact Sat.arr.2 ⟨0, 0, .inl rfl, s1⟩

def RB : Value → Option (DataW Nat × List MemPlace) := fun _ => some (.lit (.bool true), [])
def toI : Value → Int
  | .int _ n => n
  | _ => 0
theorem Sat.ownsMap {P : Program} {kt : TypeId} (hk : P.underlying kt = some (.int .i64)) {w : World} {b : Nat} {es : List (Int × Value)} {l : List HP} (s : Sat σ w (Sep.mapI b es :: l)) (hl : es.length ≤ 1000000) :
    ∃ D0 : DataW Nat, w.ownsMap P kt RB b es.length D0 ∧ (intKeys D0).Perm (es.map (·.1)) := by
  obtain ⟨a, ck, hm, s1⟩ := s.mapI
  have hb : w.heap[b]? = some (.map a ck) := s1.get
  have hlen : a.size = es.length := by
    have := congrArg List.length hm.ents
    simpa using this
  have hkey : ∀ x ∈ a.toList, keyOf P kt x.key = some (.int .i64 (toI x.key)) ∧ x.key = .int .i64 (toI x.key) := by
    intro x hx
    have h1 : (x.key, x.val) ∈ a.toList.map (fun e => (e.key, e.val)) := List.mem_map.2 ⟨x, hx, rfl⟩
    rw [hm.ents] at h1
    obtain ⟨p, hp1, hp2⟩ := List.mem_map.1 h1
    injection hp2 with hp2 _
    rw [← hp2]
    have hr := hm.rng p hp1
    exact ⟨keyOf_int_mk hk (by simp [Lit.wf, IntKind.min, IntKind.max, IntKind.bits, IntKind.signed]; omega), rfl⟩
  have hrd : ∀ x ∈ a.toList, Go.WideElems.rd P kt RB x = some (.int .i64 (toI x.key), .lit (.bool true)) := by
    intro x hx
    simp [Go.WideElems.rd, (hkey x hx).1, RB]
  refine ⟨.map ((a.toList.map (Go.WideElems.rg P kt RB)).foldr DataW.insert []), ⟨a, ck, hb, ⟨?_, hm.stamped, fun x hx => ⟨_, hrd x hx⟩⟩, by omega, rfl⟩, ?_⟩
  · rw [hlen]; unfold maxLen; omega
  · refine (List.Perm.map _ (Go.WideShapes.sorted_perm _)).trans ?_
    rw [List.map_map]
    have e1 : a.toList.map ((fun p : Lit × DataW Nat => intOf p.1) ∘ Go.WideElems.rg P kt RB) = a.toList.map fun x => toI x.key := by
      apply List.map_congr_left
      intro x hx
      simp only [Function.comp, Go.WideElems.rg_of (hrd x hx)]
      rfl
    have e2 : (a.toList.map fun x => toI x.key) = (a.toList.map (fun e => (e.key, e.val))).map fun q => toI q.1 := by rw [List.map_map]; rfl
    have e3 : (es.map (fun p => (Value.int .i64 p.1, p.2))).map (fun q => toI q.1) = es.map (·.1) := by rw [List.map_map]; rfl
    have : a.toList.map ((fun p : Lit × DataW Nat => intOf p.1) ∘ Go.WideElems.rg P kt RB) = es.map (·.1) := by rw [e1, e2, hm.ents, e3]
    rw [← this]

set_option maxHeartbeats 1000000 in
theorem slices_Sorted (a cm : Nat) (es : List (Int × Value)) (hl : es.length ≤ 1000000) {l r r2 : List HP} (hp : Pick (mapI cm es) l r) (hq : Pick (arr a 118 [.map (some cm)]) l r2) :
    Fn Tryz.prog σ 83 #[.func (.func 127) #[] #[.pointer (some ⟨a, 0, none⟩)]] l
      (fun v l' => ∃ ss : List Int, ss.Perm (es.map (·.1)) ∧ l' = ownS v 3 1 ss.length ((ss.mergeSort (fun x y => decide (x ≤ y))).map (Value.int .i64)) :: l) := by
  intro w s
  obtain ⟨D0, hown, hperm⟩ := (s.perm hp).ownsMap (P := Tryz.prog) (kt := 3) Tryz.underlying3 hl
  have hsz := hown.size_le
  have hcell : w.cell? ⟨a, 0, none⟩ = some (.map (some cm)) := by rw [(s.perm hq).cell]; rfl
  have hlt : a < w.heap.size := by
    rcases Nat.lt_or_ge a w.heap.size with h | h
    · exact h
    · rw [World.cell?, Array.getElem?_eq_none h] at hcell; cases hcell
  refine (callsIn_wide (n := 6)).1 ?_
  have hseq : SeqGives Fence.wide 3 Tryz.prog 127 #[.pointer (some ⟨a, 0, none⟩)] encZ (fun ss => ss.Perm (intKeys D0)) (Maps.size D0) w :=
    AnyZI.keys_gives (ρ := Tryz.keysA_ren) { Tryz.keysA with } Fence.wide _ trivial rfl (by omega) a cm _ D0 _ hlt hcell hown
  have cS := AnyZI.sorted_in Tryz.sortedA Fence.wide 6 trivial trivial trivial trivial rfl (by omega) (Tryz.sortsA _) (enters_of Tryz.func126 (by kernel_rfl) rfl) 127 #[.pointer (some ⟨a, 0, none⟩)] trivial (enters_of Tryz.func127 (by kernel_rfl) rfl) _ _ (by unfold maxLen; omega) (by omega) w hseq
  refine CallsIn.mono cS ?_
  rintro e w' ⟨v, ss, rfl, hS, hrow, _, hbel⟩
  exact ⟨v, _, rfl, ⟨ss, hS.trans hperm, rfl⟩, s.ofOwnsRow hbel hrow⟩
end Go.Sep
/- The disk: what isn't synced yet. -/
namespace Go.Sep
open Go Go.Proofs
attribute [local irreducible] JO JC JE JA JQ JB JI Mid Inv Weak ownS Ru Do Fn Sat Pick Take arr pt star ex Holds bodyPost Post Exit.then Exit.inBlock Res
variable {σ : Sig} {F : List HP}
attribute [local irreducible] diskHP cacheHP planHP rowHP
theorem maps_Keys (cm : Nat) : Fn Tryz.prog σ 84 #[.map (some cm)] F (fun v l => ∃ a, v = .func (.func 127) #[] #[.pointer (some ⟨a, 0, none⟩)] ∧ l = arr a 118 [.map (some cm)] :: F) := by
  refine Fn.of Tryz.func84 rfl Tryz.ntmps84 rfl ?_
  repeat' (first | (apply JO.ru; exact rfl; exact rfl; exact rfl; (first | (apply Ru.assign; exact rfl) | (apply Ru.makeFunc; exact rfl; exact rfl))) | refine JC.seq ?_ | refine JC.region ?_ | refine JO.nil ?_ | refine JE.thenN ?_ | refine JC.ret ?_ | (apply JO.do; exact rfl; exact rfl; exact rfl; (first | (apply Do.boxN; exact rfl; exact rfl) | (apply Do.box; exact rfl)); rintro _ _ ⟨_, rfl, rfl⟩) | (apply JE.done1; exact rfl; (first | (apply Res.tmp; exact rfl) | (apply Res.cell; exact rfl; (repeat (first | exact Pick.here | apply Pick.there)); exact rfl) | (apply Res.cellAN; exact rfl; (repeat (first | exact Pick.here | apply Pick.there)); exact rfl; exact rfl) | (apply Res.cellA; exact rfl; (repeat (first | exact Pick.here | apply Pick.there)); exact rfl; exact rfl))))
  refine finS ?_; exact ⟨_, rfl, rfl⟩

def DiskN.keys (D : DiskN) : List Int := (D.cached.map (·.1)).mergeSort (fun x y => decide (x ≤ y))
theorem DiskN.keys_length (D : DiskN) : D.keys.length = D.cached.length := by simp [DiskN.keys]
set_option maxHeartbeats 1000000 in
theorem disk_Unsynced (d : Nat) (D : DiskN) (hD : D.WF) (hw : D.writes ≤ 1000000) :
    Fn Tryz.prog σ 35 #[.pointer (some ⟨d, 0, none⟩)] (diskHP d D :: F) (fun v l => l = ownS v 3 1 D.keys.length (D.keys.map int) :: diskHP d D :: F) := by
  have hfew := hD.few
  refine Fn.disk fun lv cm pm => ?_
  refine Fn.of Tryz.func35 rfl Tryz.ntmps35 rfl ?_
  repeat' (first | (apply JO.ru; exact rfl; exact rfl; exact rfl; (first | (apply Ru.move; exact rfl) | (apply Ru.loadN; exact rfl; (repeat (first | exact Pick.here | apply Pick.there)); exact rfl) | (apply Ru.fieldAddr; exact rfl) | (apply Ru.nilP; exact rfl) | (apply Ru.assign; exact rfl))) | refine JC.seq ?_ | refine JC.region ?_ | refine JO.nil ?_ | refine JE.thenN ?_)
  (apply JO.do; exact rfl; exact rfl; exact rfl; (apply Do.call; exact rfl; exact maps_Keys cm); rintro _ _ ⟨a, rfl, rfl⟩)
  refine JO.cache (Pick.there (Pick.there (Pick.there Pick.here))) fun R hR => ?_
  have hRl : R.length = D.cached.length := by rw [hR]; simp
  (apply JO.do; exact rfl; exact rfl; exact rfl; (apply Do.call; exact rfl; exact slices_Sorted a cm _ (by rw [List.length_map]; omega) Pick.here (Pick.there (Pick.there Pick.here))); rintro v _ ⟨ss, hss, rfl⟩)
  have e : (R.map fun (p : Int × Value × List UInt8) => (p.1, p.2.1)).map (·.1) = D.cached.map (·.1) := by rw [hR, List.map_map, List.map_map]; rfl
  rw [e] at hss
  have hk : ss.mergeSort (fun x y => decide (x ≤ y)) = D.keys := Go.mergeSort_of_perm_i hss
  have hkl : ss.length = D.keys.length := by rw [← hk]; simp
  rw [hk, hkl]
  repeat' (first | (apply JO.ru; exact rfl; exact rfl; exact rfl; ((apply Ru.assign; exact rfl))) | refine JO.nil ?_ | refine JE.thenN ?_ | refine JC.ret ?_ | (apply JE.done1; exact rfl; (first | (apply Res.tmp; exact rfl) | (apply Res.cell; exact rfl; (repeat (first | exact Pick.here | apply Pick.there)); exact rfl) | (apply Res.cellAN; exact rfl; (repeat (first | exact Pick.here | apply Pick.there)); exact rfl; exact rfl) | (apply Res.cellA; exact rfl; (repeat (first | exact Pick.here | apply Pick.there)); exact rfl; exact rfl))))
  refine ⟨ownS v 3 1 D.keys.length (D.keys.map int) :: diskHP d D :: F, fun w s => ?_, rfl⟩
  have s1 := Sat.weak (l' := opn2 d D lv cm pm R (ownS v 3 1 D.keys.length (D.keys.map int) :: F)) (by repeat (first | exact Weak.refl | (apply Weak.cons; (first | exact Pick.here | exact Pick.there Pick.here | exact Pick.there (Pick.there Pick.here) | exact Pick.there (Pick.there (Pick.there Pick.here)) | exact Pick.there (Pick.there (Pick.there (Pick.there Pick.here))) | exact Pick.there (Pick.there (Pick.there (Pick.there (Pick.there Pick.here)))) | exact Pick.there (Pick.there (Pick.there (Pick.there (Pick.there (Pick.there Pick.here))))) | exact Pick.there (Pick.there (Pick.there (Pick.there (Pick.there (Pick.there (Pick.there Pick.here)))))))) | apply Weak.drop)) w s
  exact Sat.weak (l' := ownS v 3 1 D.keys.length (D.keys.map int) :: diskHP d D :: F) (by repeat (first | exact Weak.refl | (apply Weak.cons; (first | exact Pick.here | exact Pick.there Pick.here | exact Pick.there (Pick.there Pick.here) | exact Pick.there (Pick.there (Pick.there Pick.here)) | exact Pick.there (Pick.there (Pick.there (Pick.there Pick.here))) | exact Pick.there (Pick.there (Pick.there (Pick.there (Pick.there Pick.here)))) | exact Pick.there (Pick.there (Pick.there (Pick.there (Pick.there (Pick.there Pick.here))))) | exact Pick.there (Pick.there (Pick.there (Pick.there (Pick.there (Pick.there (Pick.there Pick.here)))))))) | apply Weak.drop)) w (Sat.close hR s1)
end Go.Sep
/- The disk: synced. -/
namespace Go.Sep
open Go Go.Proofs
attribute [local irreducible] JO JC JE JA JQ JB JI Mid Inv Weak ownS Ru Do Fn Sat Pick Take arr pt star ex Holds bodyPost Post Exit.then Exit.inBlock Res
variable {σ : Sig} {F : List HP}
attribute [local irreducible] diskHP cacheHP planHP rowHP
theorem disk_failsC (d : Nat) (D : DiskN) (ho : D.ops ≤ 1000000000000) : Fn Tryz.prog σ 78 #[.pointer (some ⟨d, 0, none⟩)] (diskHP d D :: F) (fun v l => v = .bool D.failing ∧ l = diskHP d D.tick :: F) :=
  Fn.diskD fun lv cm pm => disk_fails d D lv cm pm ho
def settled (D : DiskN) (j : Nat) : DiskN := (D.keys.take j).foldl DiskN.settle D
theorem settled_succ {D : DiskN} {j : Nat} {k : Int} (h : D.keys[j]? = some k) : settled D (j + 1) = (settled D j).settle k := by
  simp [settled, List.take_add_one, h]
theorem settled_wf {D : DiskN} (h : D.WF) (j : Nat) : (settled D j).WF ∧ (settled D j).size = D.size ∧ (settled D j).count = D.count := by
  have key : ∀ (l : List Int) (D : DiskN), D.WF → (l.foldl DiskN.settle D).WF ∧ (l.foldl DiskN.settle D).size = D.size ∧ (l.foldl DiskN.settle D).count = D.count := by
    intro l
    induction l with
    | nil => intro D h; exact ⟨h, rfl, rfl⟩
    | cons k l ih =>
      intro D h
      obtain ⟨a1, a2, a3, _⟩ := h.settle k
      obtain ⟨b1, b2, b3⟩ := ih _ a1
      exact ⟨b1, b2.trans a2, b3.trans a3⟩
  exact key _ D h
theorem keys_range {D : DiskN} (h : D.WF) {j : Nat} {k : Int} (hk : D.keys[j]? = some k) : 0 ≤ k ∧ k < D.count := by
  have h1 : k ∈ D.keys := List.mem_of_getElem? hk
  have h2 : k ∈ D.cached.map (·.1) := (List.mergeSort_perm _ _).mem_iff.1 h1
  obtain ⟨p, hp, rfl⟩ := List.mem_map.1 h2
  have := h.cach p hp
  exact ⟨this.1, this.2.1⟩

set_option maxHeartbeats 4000000 in
theorem disk_Sync (d : Nat) (D : DiskN) (hD : D.WF) (ho : D.ops ≤ 1000000000000) (hw : D.writes ≤ 1000000) :
    Fn Tryz.prog σ 25 #[.pointer (some ⟨d, 0, none⟩)] (diskHP d D :: F)
      (fun v l => (D.failing = true ∧ v = int 3 ∧ l = diskHP d D.tick :: F) ∨ (D.failing = false ∧ v = int 0 ∧ l = diskHP d (settled D.tick D.tick.keys.length) :: F)) := by
  refine Fn.of Tryz.func25 rfl Tryz.ntmps25 rfl ?_
  by_cases hf : D.failing = true
  · rw [hf]
    repeat' (first | (first | (apply JO.ru; exact rfl; exact rfl; exact rfl; (first | (apply Ru.move; exact rfl) | (apply Ru.assign; exact rfl))) | refine JC.seq ?_ | refine JC.region ?_ | refine JO.nil ?_ | refine JE.thenN ?_ | refine JE.thenR ?_ | refine JC.ret ?_ | refine JC.condT rfl ?_ | (apply JE.done1; exact rfl; (first | (apply Res.tmp; exact rfl) | (apply Res.cell; exact rfl; (repeat (first | exact Pick.here | apply Pick.there)); exact rfl) | (apply Res.cellAN; exact rfl; (repeat (first | exact Pick.here | apply Pick.there)); exact rfl; exact rfl) | (apply Res.cellA; exact rfl; (repeat (first | exact Pick.here | apply Pick.there)); exact rfl; exact rfl)))) | ((apply JO.do; exact rfl; exact rfl; exact rfl; (apply Do.call; exact rfl; exact disk_failsC d D ho); rintro _ _ ⟨rfl, rfl⟩); rw [hf]))
    refine finS ?_; exact .inl ⟨rfl, rfl, rfl⟩
  have hf' : D.failing = false := by simpa using hf
  have hwf := hD.tick
  have hfew : D.tick.cached.length ≤ 1000000 := Nat.le_trans hD.few hw
  have hkl := D.tick.keys_length
  rw [hf']
  repeat' (first | (first | (apply JO.ru; exact rfl; exact rfl; exact rfl; (first | (apply Ru.move; exact rfl) | (apply Ru.assign; exact rfl))) | refine JC.seq ?_ | refine JC.region ?_ | refine JO.nil ?_ | refine JE.thenN ?_ | refine JC.skip ?_ | refine JC.condF rfl ?_) | ((apply JO.do; exact rfl; exact rfl; exact rfl; (apply Do.call; exact rfl; exact disk_failsC d D ho); rintro _ _ ⟨rfl, rfl⟩); rw [hf']) | (apply JO.do; exact rfl; exact rfl; exact rfl; (apply Do.call; exact rfl; exact disk_Unsynced d D.tick hwf hw); rintro v _ rfl))
  refine JO.ownR Pick.here fun _ _ hsh => ?_
  obtain ⟨p, c, rfl, hp⟩ : ∃ p c, v = .slice p D.tick.keys.length c ∧ (p = none ∧ D.tick.keys.length = 0 ∨ ∃ b, p = some ⟨b, 0, none⟩) := by
    rcases hsh with ⟨rfl, h⟩ | ⟨b, c, rfl, _⟩
    · exact ⟨none, 0, by rw [h], .inl ⟨rfl, h⟩⟩
    · exact ⟨_, c, rfl, .inr ⟨b, rfl⟩⟩
  repeat' (first | (apply JO.ru; exact rfl; exact rfl; exact rfl; (first | (apply Ru.move; exact rfl) | (apply Ru.lenS; exact rfl))) | refine JO.nil ?_ | refine JE.thenN ?_ | refine JC.block ?_)
  refine JC.loop (fun j : Nat => [(0, .pointer (some ⟨d, 0, none⟩)), (8, .slice p D.tick.keys.length c), (9, int D.tick.keys.length), (10, int j)]) (fun j => ownS (.slice p D.tick.keys.length c) 3 1 D.tick.keys.length (D.tick.keys.map int) :: diskHP d (settled D.tick j) :: F) (fun j => j ≤ D.tick.keys.length) (fun j => D.tick.keys.length - j) 0 (Nat.zero_le _) ⟨rfl, rfl, rfl, rfl, trivial⟩ (fun _ h => h) ?_
  intro j hj
  repeat' (first | (apply JO.ru; exact rfl; exact rfl; exact rfl; ((apply Ru.assign; exact rfl))) | refine JC.seq ?_ | refine JC.region ?_ | refine JO.nil ?_ | refine JE.thenN ?_ | refine JE.thenE ?_ | refine JE.blockE ?_ | refine JC.block ?_ | refine JC.ret ?_ | refine JC.skip ?_ | refine JC.exit ?_ | refine JC.condT rfl ?_ | refine JC.condF rfl ?_ | (apply JO.split; exact rfl; exact rfl; exact rfl; ((apply Ru.lss; exact rfl; exact rfl; exact rfl)); all_goals intro _) | (apply JE.done1; exact rfl; (first | (apply Res.tmp; exact rfl) | (apply Res.cell; exact rfl; (repeat (first | exact Pick.here | apply Pick.there)); exact rfl) | (apply Res.cellAN; exact rfl; (repeat (first | exact Pick.here | apply Pick.there)); exact rfl; exact rfl) | (apply Res.cellA; exact rfl; (repeat (first | exact Pick.here | apply Pick.there)); exact rfl; exact rfl))))
  · rename_i hlt
    obtain ⟨k, hk⟩ : ∃ k, D.tick.keys[j]? = some k := ⟨_, List.getElem?_eq_getElem (by omega)⟩
    obtain ⟨hr0, hr1⟩ := keys_range hwf hk
    obtain ⟨i, rfl⟩ := Int.eq_ofNat_of_zero_le hr0
    obtain ⟨b0, rfl⟩ : ∃ b, p = some ⟨b, 0, none⟩ := by
      rcases hp with ⟨_, h⟩ | h
      · omega
      · exact h
    refine JO.ownR Pick.here fun hrd _ _ => ?_
    obtain ⟨p', cap', e, _, hr2⟩ := hrd
    injection e with e1 e2 e3
    subst e1
    rcases hr2 with h | ⟨b', o', e4, hc⟩
    · have := congrArg List.length h
      rw [List.length_map, List.length_nil] at this
      omega
    cases e4
    repeat' ((apply JO.ru; exact rfl; exact rfl; exact rfl; ((apply Ru.indexAddr; exact rfl; exact rfl; omega; omega))))
    (apply JO.ru; exact rfl; exact rfl; exact rfl; (apply Ru.loadC; exact rfl; exact rd_row (i := j) (u := int i) hc (by rw [List.getElem?_map, hk]; rfl) _ (by simp)))
    repeat' (first | (apply JO.ru; exact rfl; exact rfl; exact rfl; ((apply Ru.assign; exact rfl))) | refine JC.seq ?_ | refine JO.nil ?_ | refine JE.thenN ?_)
    have hss := settled_succ hk
    obtain ⟨hEw, hEs, hEc⟩ := settled_wf hwf j
    obtain ⟨E, hE⟩ : ∃ E, settled D.tick j = E := ⟨_, rfl⟩
    rw [hE] at hss hEw hEs hEc ⊢
    have hi : i < E.count := by omega
    have hroom := hEw.room hi
    have hsm := hEw.small
    have g0 : (i + 1) * E.size = i * E.size + E.size := Nat.succ_mul i E.size
    have hz := hEw.hz
    refine JC.disk (Pick.there Pick.here) fun lv cm pm => ?_
    refine JC.cache (Pick.there (Pick.there Pick.here)) fun R hR => ?_
    refine JC.heap (Sat.weak (l' := bytesHP lv E.data :: mapI cm (R.map fun p => (p.1, p.2.1)) :: star (R.map rowHP) :: arr d 121 (diskCells E lv cm pm) :: planHP pm E.planned :: ownS (.slice (some ⟨b0, 0, none⟩) D.tick.keys.length c) 3 1 D.tick.keys.length (D.tick.keys.map int) :: F) (by repeat (first | exact Weak.refl | (apply Weak.cons; (first | exact Pick.here | exact Pick.there Pick.here | exact Pick.there (Pick.there Pick.here) | exact Pick.there (Pick.there (Pick.there Pick.here)) | exact Pick.there (Pick.there (Pick.there (Pick.there Pick.here))) | exact Pick.there (Pick.there (Pick.there (Pick.there (Pick.there Pick.here)))) | exact Pick.there (Pick.there (Pick.there (Pick.there (Pick.there (Pick.there Pick.here))))) | exact Pick.there (Pick.there (Pick.there (Pick.there (Pick.there (Pick.there (Pick.there Pick.here)))))))) | apply Weak.drop))) ?_
    refine JC.own (fun _ h _ => (by omega)) ?_
    rintro b cap spare rfl hcap hxs hsp
    have hlk : lookI (R.map fun (p : Int × Value × List UInt8) => (p.1, p.2.1)) (i : Int) = (lookI R (i : Int)).map (·.1) := lookI_map (·.1) R i
    have hlc2 : lookI E.cached (i : Int) = (lookI R (i : Int)).map (·.2) := hR ▸ lookI_map (·.2) R i
    cases q : lookI R (i : Int) with
    | none =>
      rw [q] at hlk hlc2
      simp only [Option.map_none] at hlk hlc2
      refine JC.regionB (mapI cm (R.map fun p => (p.1, p.2.1)) :: star (R.map rowHP) :: arr d 121 (diskCells E (.slice (some ⟨b, 0, none⟩) E.data.length cap) cm pm) :: planHP pm E.planned :: ownS (.slice (some ⟨b0, 0, none⟩) D.tick.keys.length c) 3 1 D.tick.keys.length (D.tick.keys.map int) :: F) mixed ?_
      repeat' (first | ((apply JB.ru; exact rfl; exact rfl; exact rfl; exact rfl; (first | (apply Ru.move; exact rfl) | (apply Ru.loadN; exact rfl; (repeat (first | exact Pick.here | apply Pick.there)); exact rfl) | (apply Ru.fieldAddr; exact rfl) | (apply Ru.nilP; exact rfl)); decide +kernel; decide +kernel; (first | exact fun _ h => h | exact fun _ h => Sat.drop h | exact fun _ h => Sat.drop (Sat.drop h) | exact fun _ h => Sat.drop (Sat.drop (Sat.drop h)) | exact fun _ h => Sat.drop (Sat.drop (Sat.drop (Sat.drop h)))); (simp only [Nat.reduceAdd, Nat.reducePow, Nat.reduceMul, Nat.zero_or, Nat.or_zero, Nat.reduceXor, Nat.reduceOr]; try exact rfl))) | (apply JB.ru; exact rfl; exact rfl; exact rfl; exact rfl; (apply Ru.lookupO0; exact rfl; exact rfl; exact Pick.here; exact hlk); decide +kernel; decide +kernel; exact fun _ h => Sat.drop h; (simp only [Nat.reduceAdd, Nat.reducePow, Nat.reduceMul, Nat.zero_or, Nat.or_zero, Nat.reduceXor, Nat.reduceOr]; try exact rfl)))
      refine JB.one 2 (by decide +kernel) ?_
      (apply JI.do; exact rfl; exact rfl; exact rfl; exact rfl; (apply Do.call; exact rfl; exact disk_at d E.size i b E.data.length cap _ _ _ _ hz (by omega) hcap hroom (Pick.there (Pick.there (Pick.there Pick.here)))); (simp only [Nat.reduceAdd, Nat.reducePow, Nat.reduceMul, Nat.zero_or, Nat.or_zero, Nat.reduceXor, Nat.reduceOr]; try exact rfl); rintro _ _ ⟨rfl, hq⟩; obtain rfl := hq.symm; refine ⟨fun _ s => s.drop, ?_⟩)
      refine JB.one 9 (by decide +kernel) ?_
      (apply JI.do; exact rfl; exact rfl; exact rfl; exact rfl; (apply Do.copy (ys := []); exact rfl; exact rfl; exact Pick.here; exact RdS.nil; (rw [List.length_append, List.length_map]; omega); (intro q hq; cases hq)); (simp only [Nat.reduceAdd, Nat.reducePow, Nat.reduceMul, Nat.zero_or, Nat.or_zero, Nat.reduceXor, Nat.reduceOr]; try exact rfl); rintro _ _ ⟨rfl, rfl⟩; refine ⟨fun _ s => s.drop, ?_⟩)
      rw [List.take_nil, splice]
      repeat' ((apply JB.nil; exact rfl))
      repeat' (first | (apply JO.ru; exact rfl; exact rfl; exact rfl; (first | (apply Ru.move; exact rfl) | (apply Ru.loadN; exact rfl; (repeat (first | exact Pick.here | apply Pick.there)); exact rfl) | (apply Ru.fieldAddr; exact rfl) | (apply Ru.nilP; exact rfl))) | refine JC.region ?_ | refine JE.thenN ?_)
      (apply JO.do0; exact rfl; exact rfl; (apply Do.deleteI; exact rfl; exact rfl; exact Pick.there Pick.here); rintro _ _ ⟨rfl, rfl⟩)
      repeat' (first | (apply JO.ru; exact rfl; exact rfl; exact rfl; (first | (apply Ru.move; exact rfl) | (apply Ru.add; exact rfl; exact rfl; (first | exact wrapI (by omega) (by omega) | exact rfl)))) | refine JC.region ?_ | refine JO.nil ?_ | refine JE.thenN ?_ | refine JE.blockN ?_)
      refine JE.round (j + 1) (by omega) (by omega) ⟨rfl, rfl, rfl, rfl, trivial⟩ ?_
      have hset : E.settle (i : Int) = E := by unfold DiskN.settle; rw [hlc2]
      have hidx : idxI (R.map fun (p : Int × Value × List UInt8) => (p.1, p.2.1)) (i : Int) = none := by
        unfold lookI at hlk
        simpa using hlk
      intro w s
      rw [hss, hset]
      rw [del_none hidx] at s
      have s1 := Sat.ownS_arr (k := E.data.length) (cap := cap) (z := 1) hcap hxs hsp (s.perm (.swap _ _ _))
      have s4 := Sat.weak (l' := opn2 d E (.slice (some ⟨b, 0, none⟩) E.data.length cap) cm pm R (ownS (.slice (some ⟨b0, 0, none⟩) D.tick.keys.length c) 3 1 D.tick.keys.length (D.tick.keys.map int) :: F)) (by repeat (first | exact Weak.refl | (apply Weak.cons; (first | exact Pick.here | exact Pick.there Pick.here | exact Pick.there (Pick.there Pick.here) | exact Pick.there (Pick.there (Pick.there Pick.here)) | exact Pick.there (Pick.there (Pick.there (Pick.there Pick.here))) | exact Pick.there (Pick.there (Pick.there (Pick.there (Pick.there Pick.here)))) | exact Pick.there (Pick.there (Pick.there (Pick.there (Pick.there (Pick.there Pick.here))))) | exact Pick.there (Pick.there (Pick.there (Pick.there (Pick.there (Pick.there (Pick.there Pick.here)))))))) | apply Weak.drop)) w s1
      exact Sat.weak (by repeat (first | exact Weak.refl | (apply Weak.cons; (first | exact Pick.here | exact Pick.there Pick.here | exact Pick.there (Pick.there Pick.here) | exact Pick.there (Pick.there (Pick.there Pick.here)) | exact Pick.there (Pick.there (Pick.there (Pick.there Pick.here))) | exact Pick.there (Pick.there (Pick.there (Pick.there (Pick.there Pick.here)))) | exact Pick.there (Pick.there (Pick.there (Pick.there (Pick.there (Pick.there Pick.here))))) | exact Pick.there (Pick.there (Pick.there (Pick.there (Pick.there (Pick.there (Pick.there Pick.here)))))))) | apply Weak.drop)) w (Sat.close hR s4)
    | some u =>
      rw [q] at hlk hlc2
      simp only [Option.map_some] at hlk hlc2
      refine JC.rowR (lookI_mem q) (Pick.there (Pick.there Pick.here)) fun hrow => ?_
      refine JC.regionB (mapI cm (R.map fun p => (p.1, p.2.1)) :: star (R.map rowHP) :: arr d 121 (diskCells E (.slice (some ⟨b, 0, none⟩) E.data.length cap) cm pm) :: planHP pm E.planned :: ownS (.slice (some ⟨b0, 0, none⟩) D.tick.keys.length c) 3 1 D.tick.keys.length (D.tick.keys.map int) :: F) mixed ?_
      repeat' (first | ((apply JB.ru; exact rfl; exact rfl; exact rfl; exact rfl; (first | (apply Ru.move; exact rfl) | (apply Ru.loadN; exact rfl; (repeat (first | exact Pick.here | apply Pick.there)); exact rfl) | (apply Ru.fieldAddr; exact rfl) | (apply Ru.nilP; exact rfl)); decide +kernel; decide +kernel; (first | exact fun _ h => h | exact fun _ h => Sat.drop h | exact fun _ h => Sat.drop (Sat.drop h) | exact fun _ h => Sat.drop (Sat.drop (Sat.drop h)) | exact fun _ h => Sat.drop (Sat.drop (Sat.drop (Sat.drop h)))); (simp only [Nat.reduceAdd, Nat.reducePow, Nat.reduceMul, Nat.zero_or, Nat.or_zero, Nat.reduceXor, Nat.reduceOr]; try exact rfl))) | (apply JB.ru; exact rfl; exact rfl; exact rfl; exact rfl; (apply Ru.lookupO0; exact rfl; exact rfl; exact Pick.here; exact hlk); decide +kernel; decide +kernel; exact fun _ h => Sat.drop h; (simp only [Nat.reduceAdd, Nat.reducePow, Nat.reduceMul, Nat.zero_or, Nat.or_zero, Nat.reduceXor, Nat.reduceOr]; try exact rfl)))
      have hul : u.2.length = E.size := (hEw.cach _ (lookI_mem hlc2)).2.2
      have hul' : (u.2.map byte).length = u.2.length := by simp
      refine JB.one 2 (by decide +kernel) ?_
      (apply JI.do; exact rfl; exact rfl; exact rfl; exact rfl; (apply Do.call; exact rfl; exact disk_at d E.size i b E.data.length cap _ _ _ _ hz (by omega) hcap hroom (Pick.there (Pick.there (Pick.there Pick.here)))); (simp only [Nat.reduceAdd, Nat.reducePow, Nat.reduceMul, Nat.zero_or, Nat.or_zero, Nat.reduceXor, Nat.reduceOr]; try exact rfl); rintro _ _ ⟨rfl, hq⟩; obtain rfl := hq.symm; refine ⟨fun _ s => s.drop, ?_⟩)
      refine JB.one 9 (by decide +kernel) ?_
      obtain ⟨ku, pu, cu, hu1⟩ : ∃ k p c, u.1 = .slice p k c ∧ k = u.2.length := by
        obtain ⟨pp, cc, h1, _, _⟩ := hrow
        exact ⟨_, pp, cc, h1, hul'⟩
      obtain ⟨hu1, rfl⟩ := hu1
      dsimp only at hrow
      rw [hu1] at hrow ⊢
      (apply JI.do; exact rfl; exact rfl; exact rfl; exact rfl; (apply Do.copy (ys := u.2.map byte); exact rfl; exact rfl; exact Pick.here; exact hrow; (rw [List.length_append, List.length_map]; omega); exact byteOne _); (simp only [Nat.reduceAdd, Nat.reducePow, Nat.reduceMul, Nat.zero_or, Nat.or_zero, Nat.reduceXor, Nat.reduceOr]; try exact rfl); rintro _ _ ⟨rfl, rfl⟩; refine ⟨fun _ s => s.drop, ?_⟩)
      have hcp : splice (E.data.map byte ++ spare) (i * E.size) ((u.2.map byte).take (min u.2.length E.size)) = (setSec E.data E.size i u.2).map byte ++ spare := by
        rw [List.take_of_length_le (by rw [hul']; omega), splice_at _ _ _ (by simp only [List.length_append, List.length_map]; omega)]
        have e1 : i * E.size ≤ (E.data.map byte).length := by rw [List.length_map]; omega
        rw [List.take_append_of_le_length e1, List.drop_append_of_le_length (by simp only [List.length_map]; omega)]
        simp [setSec]
      rw [hcp]
      repeat' ((apply JB.nil; exact rfl))
      repeat' (first | (apply JO.ru; exact rfl; exact rfl; exact rfl; (first | (apply Ru.move; exact rfl) | (apply Ru.loadN; exact rfl; (repeat (first | exact Pick.here | apply Pick.there)); exact rfl) | (apply Ru.fieldAddr; exact rfl) | (apply Ru.nilP; exact rfl))) | refine JC.region ?_ | refine JE.thenN ?_)
      (apply JO.do0; exact rfl; exact rfl; (apply Do.deleteI; exact rfl; exact rfl; exact Pick.there Pick.here); rintro _ _ ⟨rfl, rfl⟩)
      repeat' (first | (apply JO.ru; exact rfl; exact rfl; exact rfl; (first | (apply Ru.move; exact rfl) | (apply Ru.add; exact rfl; exact rfl; (first | exact wrapI (by omega) (by omega) | exact rfl)))) | refine JC.region ?_ | refine JO.nil ?_ | refine JE.thenN ?_ | refine JE.blockN ?_)
      refine JE.round (j + 1) (by omega) (by omega) ⟨rfl, rfl, rfl, rfl, trivial⟩ ?_
      have hset : E.settle (i : Int) = { E with data := setSec E.data E.size i u.2, cached := delI E.cached i } := by unfold DiskN.settle; rw [hlc2]; rfl
      have hsl := setSec_length (data := E.data) (size := E.size) (i := i) (bs := u.2) (by omega)
      have em : delI (R.map fun (p : Int × Value × List UInt8) => (p.1, p.2.1)) (i : Int) = (delI R (i : Int)).map fun p => (p.1, p.2.1) := delI_map (·.1) R i
      have ec : delI E.cached (i : Int) = (delI R (i : Int)).map fun p => (p.1, p.2.2) := by rw [hR]; exact delI_map (·.2) R i
      intro w s
      rw [hss, hset]
      rw [em] at s
      have s0 := Sat.weak (l' := arr b 5 ((setSec E.data E.size i u.2).map byte ++ spare) :: star (R.map rowHP) :: mapI cm ((delI R (i : Int)).map fun p => (p.1, p.2.1)) :: arr d 121 (diskCells E (.slice (some ⟨b, 0, none⟩) E.data.length cap) cm pm) :: planHP pm E.planned :: ownS (.slice (some ⟨b0, 0, none⟩) D.tick.keys.length c) 3 1 D.tick.keys.length (D.tick.keys.map int) :: F) (by repeat (first | exact Weak.refl | (apply Weak.cons; (first | exact Pick.here | exact Pick.there Pick.here | exact Pick.there (Pick.there Pick.here) | exact Pick.there (Pick.there (Pick.there Pick.here)) | exact Pick.there (Pick.there (Pick.there (Pick.there Pick.here))) | exact Pick.there (Pick.there (Pick.there (Pick.there (Pick.there Pick.here)))) | exact Pick.there (Pick.there (Pick.there (Pick.there (Pick.there (Pick.there Pick.here))))) | exact Pick.there (Pick.there (Pick.there (Pick.there (Pick.there (Pick.there (Pick.there Pick.here)))))))) | apply Weak.drop)) w s
      have s1 := Sat.ownS_arr (k := (setSec E.data E.size i u.2).length) (cap := cap) (z := 1) (by omega) (by rw [List.length_map]; omega) (by rw [List.length_append, List.length_map, hsl, ← List.length_map (f := byte), ← List.length_append]; exact hsp) s0
      rw [hsl] at s1
      have s2 := Sat.weak (l' := star (R.map rowHP) :: ownS (.slice (some ⟨b, 0, none⟩) E.data.length cap) 5 1 E.data.length ((setSec E.data E.size i u.2).map byte) :: mapI cm ((delI R (i : Int)).map fun p => (p.1, p.2.1)) :: arr d 121 (diskCells E (.slice (some ⟨b, 0, none⟩) E.data.length cap) cm pm) :: planHP pm E.planned :: ownS (.slice (some ⟨b0, 0, none⟩) D.tick.keys.length c) 3 1 D.tick.keys.length (D.tick.keys.map int) :: F) (by repeat (first | exact Weak.refl | (apply Weak.cons; (first | exact Pick.here | exact Pick.there Pick.here | exact Pick.there (Pick.there Pick.here) | exact Pick.there (Pick.there (Pick.there Pick.here)) | exact Pick.there (Pick.there (Pick.there (Pick.there Pick.here))) | exact Pick.there (Pick.there (Pick.there (Pick.there (Pick.there Pick.here)))) | exact Pick.there (Pick.there (Pick.there (Pick.there (Pick.there (Pick.there Pick.here))))) | exact Pick.there (Pick.there (Pick.there (Pick.there (Pick.there (Pick.there (Pick.there Pick.here)))))))) | apply Weak.drop)) w s1
      have s3 := Sat.delRows (k := (i : Int)) s2
      have e9 : ownS (.slice (some ⟨b, 0, none⟩) E.data.length cap) 5 1 E.data.length ((setSec E.data E.size i u.2).map byte) = bytesHP (.slice (some ⟨b, 0, none⟩) E.data.length cap) (setSec E.data E.size i u.2) := by rw [← hsl]
      rw [e9] at s3
      have s4 := Sat.weak (l' := opn2 d { E with data := setSec E.data E.size i u.2, cached := delI E.cached i } (.slice (some ⟨b, 0, none⟩) E.data.length cap) cm pm (delI R (i : Int)) (ownS (.slice (some ⟨b0, 0, none⟩) D.tick.keys.length c) 3 1 D.tick.keys.length (D.tick.keys.map int) :: F)) (by repeat (first | exact Weak.refl | (apply Weak.cons; (first | exact Pick.here | exact Pick.there Pick.here | exact Pick.there (Pick.there Pick.here) | exact Pick.there (Pick.there (Pick.there Pick.here)) | exact Pick.there (Pick.there (Pick.there (Pick.there Pick.here))) | exact Pick.there (Pick.there (Pick.there (Pick.there (Pick.there Pick.here)))) | exact Pick.there (Pick.there (Pick.there (Pick.there (Pick.there (Pick.there Pick.here))))) | exact Pick.there (Pick.there (Pick.there (Pick.there (Pick.there (Pick.there (Pick.there Pick.here)))))))) | apply Weak.drop)) w s3
      exact Sat.weak (by repeat (first | exact Weak.refl | (apply Weak.cons; (first | exact Pick.here | exact Pick.there Pick.here | exact Pick.there (Pick.there Pick.here) | exact Pick.there (Pick.there (Pick.there Pick.here)) | exact Pick.there (Pick.there (Pick.there (Pick.there Pick.here))) | exact Pick.there (Pick.there (Pick.there (Pick.there (Pick.there Pick.here)))) | exact Pick.there (Pick.there (Pick.there (Pick.there (Pick.there (Pick.there Pick.here))))) | exact Pick.there (Pick.there (Pick.there (Pick.there (Pick.there (Pick.there (Pick.there Pick.here)))))))) | apply Weak.drop)) w (Sat.close ec s4)
  · obtain rfl : j = D.tick.keys.length := by omega
    refine ⟨_, Sat.weak (by repeat (first | exact Weak.refl | (apply Weak.cons; (first | exact Pick.here | exact Pick.there Pick.here | exact Pick.there (Pick.there Pick.here) | exact Pick.there (Pick.there (Pick.there Pick.here)) | exact Pick.there (Pick.there (Pick.there (Pick.there Pick.here))) | exact Pick.there (Pick.there (Pick.there (Pick.there (Pick.there Pick.here)))) | exact Pick.there (Pick.there (Pick.there (Pick.there (Pick.there (Pick.there Pick.here))))) | exact Pick.there (Pick.there (Pick.there (Pick.there (Pick.there (Pick.there (Pick.there Pick.here)))))))) | apply Weak.drop)), .inr ⟨rfl, rfl, rfl⟩⟩
end Go.Sep
/- What lies on a disk, sector by sector: no program in sight. -/
namespace Go.Sep
open Go Go.Proofs

theorem lookI_updI {α : Type} : ∀ (R : List (Int × α)) (k j : Int) (v : α), lookI (updI R k v) j = if j = k then some v else lookI R j
  | [], k, j, v => by
    simp only [updI, lookI_cons]
  | (k', v') :: R, k, j, v => by
    simp only [updI]
    by_cases h : k = k'
    · subst h
      rw [if_pos rfl, lookI_cons, lookI_cons]
      by_cases hj : j = k
      · subst hj; simp
      · simp [hj]
    · rw [if_neg h, lookI_cons, lookI_cons, lookI_updI R k j v]
      by_cases hj : j = k'
      · subst hj
        have : ¬ j = k := fun e => h e.symm
        simp [this]
      · simp [hj]
theorem lookI_none_of {α : Type} {R : List (Int × α)} {k : Int} (h : k ∉ R.map (·.1)) : lookI R k = none := by
  cases q : lookI R k with
  | none => rfl
  | some v => exact absurd (List.mem_map.2 ⟨_, lookI_mem q, rfl⟩) h
theorem lookI_some_of {α : Type} : ∀ {R : List (Int × α)} {k : Int}, k ∈ R.map (·.1) → ∃ v, lookI R k = some v
  | (k', v') :: R, k, h => by
    rw [lookI_cons]
    by_cases e : k = k'
    · exact ⟨v', by rw [if_pos e]⟩
    · rw [if_neg e]
      rw [List.map_cons, List.mem_cons] at h
      rcases h with h | h
      · exact absurd h e
      · exact lookI_some_of h
  | [], k, h => by simp at h
theorem lookI_delI {α : Type} : ∀ (R : List (Int × α)) (k j : Int), (R.map (·.1)).Nodup → lookI (delI R k) j = if j = k then none else lookI R j
  | [], k, j, _ => by
    simp only [delI]
    split <;> rfl
  | (k', v') :: R, k, j, hn => by
    rw [List.map_cons, List.nodup_cons] at hn
    simp only [delI]
    by_cases h : k = k'
    · subst h
      rw [if_pos rfl, lookI_cons]
      by_cases hj : j = k
      · subst hj; rw [if_pos rfl]; exact lookI_none_of hn.1
      · simp [hj]
    · rw [if_neg h, lookI_cons, lookI_cons, lookI_delI R k j hn.2]
      by_cases hj : j = k'
      · subst hj
        have : ¬ j = k := fun e => h e.symm
        simp [this]
      · simp [hj]
theorem delI_keys {α : Type} : ∀ (R : List (Int × α)) (k : Int), (R.map (·.1)).Nodup → (delI R k).map (·.1) = (R.map (·.1)).filter (fun j => !decide (j = k))
  | [], k, _ => rfl
  | (k', v') :: R, k, hn => by
    rw [List.map_cons, List.nodup_cons] at hn
    simp only [delI]
    by_cases h : k = k'
    · subst h
      rw [if_pos rfl, List.map_cons, List.filter_cons_of_neg (by simp), List.filter_eq_self.2]
      intro a ha
      have : a ≠ k := fun e => hn.1 (e ▸ ha)
      simpa using this
    · rw [if_neg h, List.map_cons, List.map_cons, List.filter_cons_of_pos (by simpa using fun e : k' = k => h e.symm), delI_keys R k hn.2]

/-! ### Sectors -/
theorem sec_set {data : List UInt8} {size i j : Nat} {bs : List UInt8} (hb : bs.length = size) (hi : (i + 1) * size ≤ data.length) (hj : (j + 1) * size ≤ data.length) :
    ((setSec data size i bs).drop (j * size)).take size = if j = i then bs else (data.drop (j * size)).take size := by
  rw [Nat.succ_mul] at hi hj
  unfold setSec
  have hl : (data.take (i * size)).length = i * size := by rw [List.length_take]; omega
  by_cases h : j = i
  · subst h
    rw [if_pos rfl, List.append_assoc, List.drop_append_of_le_length (by omega), List.drop_eq_nil_of_le (by omega), List.nil_append, List.take_append_of_le_length (by omega), List.take_of_length_le (by omega)]
  · rw [if_neg h]
    by_cases hlt : j < i
    · have h2 : (j + 1) * size ≤ i * size := Nat.mul_le_mul_right _ hlt
      rw [Nat.succ_mul] at h2
      rw [List.append_assoc, List.drop_append_of_le_length (by omega), List.take_append_of_le_length (by rw [List.length_drop]; omega), List.drop_take, List.take_take]
      congr 1
      omega
    · have h2 : (i + 1) * size ≤ j * size := Nat.mul_le_mul_right _ (by omega)
      rw [Nat.succ_mul] at h2
      rw [List.drop_append, List.drop_eq_nil_of_le (by rw [List.length_append, hl, hb]; omega), List.nil_append, List.drop_drop, List.length_append, hl, hb]
      congr 2
      omega
variable {D : DiskN}
theorem cur_put (i : Nat) (bs : List UInt8) (j : Nat) : (D.put (i : Int) bs).cur j = if j = i then bs else D.cur j := by
  unfold DiskN.cur DiskN.put
  rw [lookI_updI]
  by_cases h : j = i
  · subst h; simp
  · have : ¬ ((j : Int) = (i : Int)) := by omega
    rw [if_neg this, if_neg h]; rfl
theorem cur_ticks (k j : Nat) : (D.ticks k).cur j = D.cur j := rfl
theorem cur_tick (j : Nat) : D.tick.cur j = D.cur j := rfl
theorem room_of (h : D.WF) {j : Nat} (hj : j < D.count) : (j + 1) * D.size ≤ D.data.length := h.room hj
theorem cur_settle (h : D.WF) (k : Int) {j : Nat} (hj : j < D.count) : (D.settle k).cur j = D.cur j := by
  unfold DiskN.settle
  cases q : lookI D.cached k with
  | none => rfl
  | some bs =>
    obtain ⟨h1, h2, h3⟩ := h.cach _ (lookI_mem q)
    dsimp only at h1 h2 h3 ⊢
    obtain ⟨i, rfl⟩ := Int.eq_ofNat_of_zero_le h1
    have hi : i < D.count := by omega
    unfold DiskN.cur DiskN.sector
    dsimp only
    rw [lookI_delI _ _ _ h.nodup, Int.toNat_natCast, sec_set h3 (h.room hi) (h.room hj)]
    by_cases e : j = i
    · subst e; rw [if_pos rfl, if_pos rfl, q]; rfl
    · have : ¬ ((j : Int) = (i : Int)) := by omega
      rw [if_neg this, if_neg e]
theorem look_settle (h : D.WF) (k j : Int) : lookI (D.settle k).cached j = if j = k then none else lookI D.cached j := by
  unfold DiskN.settle
  cases q : lookI D.cached k with
  | none =>
    by_cases e : j = k
    · subst e; rw [if_pos rfl]; exact q
    · rw [if_neg e]
  | some bs => exact lookI_delI _ _ _ h.nodup
theorem settled_cur (h : D.WF) (n : Nat) {j : Nat} (hj : j < D.count) : (settled D n).cur j = D.cur j := by
  induction n with
  | zero => rfl
  | succ n ih =>
    cases q : D.keys[n]? with
    | none =>
      rw [List.getElem?_eq_none_iff] at q
      have e : settled D (n + 1) = settled D n := by
        unfold settled
        rw [List.take_of_length_le (by omega), List.take_of_length_le (by omega)]
      rw [e, ih]
    | some k =>
      obtain ⟨a1, a2, a3⟩ := settled_wf h n
      rw [settled_succ q, cur_settle a1 k (by rw [a3]; exact hj), ih]
theorem settled_look (h : D.WF) (n : Nat) (j : Int) : lookI (settled D n).cached j = if j ∈ D.keys.take n then none else lookI D.cached j := by
  induction n with
  | zero => simp [settled]
  | succ n ih =>
    cases q : D.keys[n]? with
    | none =>
      rw [List.getElem?_eq_none_iff] at q
      have e : settled D (n + 1) = settled D n := by
        unfold settled
        rw [List.take_of_length_le (by omega), List.take_of_length_le (by omega)]
      rw [e, ih, List.take_of_length_le (by omega), List.take_of_length_le (by omega)]
    | some k =>
      obtain ⟨a1, a2, a3⟩ := settled_wf h n
      rw [settled_succ q, look_settle a1, ih, List.take_add_one, q]
      by_cases e : j = k
      · subst e; simp
      · simp [e]
theorem mem_keys {j : Int} : j ∈ D.keys ↔ j ∈ D.cached.map (·.1) := (List.mergeSort_perm _ _).mem_iff
/-- The disk as it is when all that is cached has come to last. -/
def DiskN.sync (D : DiskN) : DiskN := settled D D.keys.length
theorem look_none {α : Type} {R : List (Int × α)} (h : ∀ j, lookI R j = none) : R = [] := by
  cases R with
  | nil => rfl
  | cons p R => have := h p.1; rw [lookI_cons, if_pos rfl] at this; cases this
theorem sync_cached (h : D.WF) : D.sync.cached = [] := by
  refine look_none fun j => ?_
  unfold DiskN.sync
  rw [settled_look h, List.take_of_length_le (Nat.le_refl _)]
  split
  · rfl
  · rename_i hj
    rw [mem_keys] at hj
    exact lookI_none_of hj
theorem sync_cur (h : D.WF) {j : Nat} (hj : j < D.count) : D.sync.cur j = D.cur j := settled_cur h _ hj
theorem sync_wf (h : D.WF) : D.sync.WF ∧ D.sync.size = D.size ∧ D.sync.count = D.count := settled_wf h _
theorem settled_rest (h : D.WF) (n : Nat) : (settled D n).ops = D.ops ∧ (settled D n).writes = D.writes ∧ (settled D n).planned = D.planned := by
  have key : ∀ (l : List Int) (D : DiskN), D.WF → (l.foldl DiskN.settle D).ops = D.ops ∧ (l.foldl DiskN.settle D).writes = D.writes ∧ (l.foldl DiskN.settle D).planned = D.planned := by
    intro l
    induction l with
    | nil => intro D h; exact ⟨rfl, rfl, rfl⟩
    | cons k l ih =>
      intro D h
      obtain ⟨a1, a2, a3, a4, a5, a6⟩ := h.settle k
      obtain ⟨b1, b2, b3⟩ := ih _ a1
      exact ⟨b1.trans a4, b2.trans a5, b3.trans a6⟩
  exact key _ D h
theorem sync_sector (h : D.WF) {j : Nat} (hj : j < D.count) : D.sync.sector j = D.cur j := by
  have := sync_cur h hj
  unfold DiskN.cur at this
  rw [sync_cached h] at this
  exact this
end Go.Sep
/- slot: what its calls answer, as functions of the disk. -/
namespace Go.Sep
open Go Go.Proofs

/-- A slot's first sector; how many follow it. -/
def firstOf (D : DiskN) (which e f s : Int) : Int := which * spanG D.size e f s
def manyOf (D : DiskN) (e f s : Int) : Nat := (spanG D.size e f s - 1).toNat
def wipeR (D : DiskN) (which e f s : Int) : Int × DiskN :=
  if atE D which e f s ≠ 0 then (atE D which e f s, D)
  else if D.writeE (firstOf D which e f s) D.size ≠ 0 then (D.writeE (firstOf D which e f s) D.size, D.tick)
  else (0, D.put (firstOf D which e f s) (padB [] D.size))
def sealR (D : DiskN) (which e f s q : Int) (bs : List UInt8) : Int × DiskN :=
  if atE D which e f s ≠ 0 then (atE D which e f s, D)
  else if (bs.length : Int) ≠ totG e f s then (1, D)
  else if D.writeE (firstOf D which e f s) D.size ≠ 0 then (D.writeE (firstOf D which e f s) D.size, D.tick)
  else (0, D.put (firstOf D which e f s) (padB (enc (sealHead bs e f s q)) D.size))
def dataGo (first : Int) : Nat → DiskN → List (List UInt8) → Int × DiskN
  | _, D, [] => (0, D)
  | i, D, x :: r => if D.writeE (first + (1 + (i : Int))) x.length ≠ 0 then (D.writeE (first + (1 + (i : Int))) x.length, D.tick) else dataGo first (i + 1) (D.put (first + (1 + (i : Int))) x) r
def pieces (bs : List UInt8) (z n : Nat) : List (List UInt8) := (List.range n).map fun i => ((padB bs (n * z)).drop (i * z)).take z
def dataR (D : DiskN) (which e f s : Int) (bs : List UInt8) : Int × DiskN :=
  if atE D which e f s ≠ 0 then (atE D which e f s, D)
  else if (bs.length : Int) ≠ totG e f s then (1, D)
  else dataGo (firstOf D which e f s) 0 D (pieces bs D.size (secs bs.length D.size).toNat)
structure SlotN where
  (state why seq : Int)
  image : List UInt8
def SlotN.zero : SlotN := ⟨0, 0, 0, []⟩
def badK (D : DiskN) (first : Int) (many : Nat) : Option Nat := (List.range many).find? fun k => !decide (bodyE D first k = 0)
theorem badK_none {D : DiskN} {first : Int} {many : Nat} (h : ∀ j, j < many → bodyE D first j = 0) : badK D first many = none := by
  unfold badK
  rw [List.find?_eq_none]
  intro k hk
  simp [h k (List.mem_range.1 hk)]
theorem badK_some {D : DiskN} {first : Int} {many k : Nat} (hk : k < many) (h : ∀ j, j < k → bodyE D first j = 0) (h2 : bodyE D first k ≠ 0) : badK D first many = some k := by
  unfold badK
  rw [List.find?_range_eq_some]
  refine ⟨by simpa using h2, List.mem_range.2 hk, fun j hj => by simpa using h j hj⟩
theorem badK_cases (D : DiskN) (first : Int) (many : Nat) : (badK D first many = none ∧ ∀ j, j < many → bodyE D first j = 0) ∨ ∃ k, badK D first many = some k ∧ k < many ∧ (∀ j, j < k → bodyE D first j = 0) ∧ bodyE D first k ≠ 0 := by
  cases q : badK D first many with
  | none =>
    left
    refine ⟨rfl, fun j hj => ?_⟩
    unfold badK at q
    rw [List.find?_eq_none] at q
    simpa using q j (List.mem_range.2 hj)
  | some k =>
    right
    unfold badK at q
    rw [List.find?_range_eq_some] at q
    obtain ⟨h1, h2, h3⟩ := q
    exact ⟨k, rfl, List.mem_range.1 h2, fun j hj => by simpa using h3 j hj, by simpa using h1⟩
/-- What a slot whose head is right comes to. -/
def bodyR (D : DiskN) (first : Int) (many : Nat) (h : HeadN) : Int × DiskN × SlotN :=
  match badK D first many with
  | some k => (bodyE D first k, D.ticks (k + 1), .zero)
  | none =>
    if 0 ≤ h.len ∧ h.len ≤ (D.body first many).length then
      if crcSum ((D.body first many).take h.len.toNat) = h.sum then (0, D.ticks many, ⟨2, 0, h.seq, (D.body first many).take h.len.toNat⟩)
      else (0, D.ticks many, ⟨0, 8, 0, []⟩)
    else (1, D.ticks many, .zero)
def readR (D : DiskN) (which e f s : Int) : Int × DiskN × SlotN :=
  if atE D which e f s ≠ 0 then (atE D which e f s, D, .zero)
  else if D.readE (firstOf D which e f s) ≠ 0 then (D.readE (firstOf D which e f s), D.tick, .zero)
  else if decE (D.cur (firstOf D which e f s).toNat) ≠ 0 then (0, D.tick, ⟨0, decE (D.cur (firstOf D which e f s).toNat), 0, []⟩)
  else if ((decH (D.cur (firstOf D which e f s).toNat)).e = e ∧ (decH (D.cur (firstOf D which e f s).toNat)).f = f ∧ (decH (D.cur (firstOf D which e f s).toNat)).s = s) then
    bodyR D.tick (firstOf D which e f s) (manyOf D e f s) (decH (D.cur (firstOf D which e f s).toNat))
  else (0, D.tick, ⟨1, 0, 0, []⟩)
end Go.Sep
/- Heads, and images in pieces: no program in sight. -/
namespace Go.Sep
open Go Go.Proofs

/-! ### A head is read as it was laid -/
theorem leN_id {m : Nat} {n : Int} (h0 : 0 ≤ n) (h1 : n < 256 ^ m) : leNum (leBytes m n) = n := by
  rw [leNum_leBytes m n h0, Int.emod_eq_of_lt h0 h1]
theorem take24 (h : HeadN) (m : Nat) : (padB (enc h) m).take 24 = encBody h := rfl
theorem drop24 (h : HeadN) (m : Nat) : ((padB (enc h) m).drop 24).take 4 = leBytes 4 (crcSum (encBody h)) := rfl
theorem dropL (h : HeadN) (m : Nat) : ((padB (enc h) m).drop 8).take 4 = leBytes 4 (IntKind.u32.wrap h.len) := rfl
theorem dropS (h : HeadN) (m : Nat) : ((padB (enc h) m).drop 12).take 8 = leBytes 8 h.seq := rfl
theorem dropC (h : HeadN) (m : Nat) : ((padB (enc h) m).drop 20).take 4 = leBytes 4 h.sum := rfl
theorem enc_length (h : HeadN) : (enc h).length = 28 := rfl
theorem byteN {n : Int} (h0 : 0 ≤ n) (h1 : n < 256) : ((UInt8.ofNat (n % 256).toNat).toNat : Int) = n := by
  rw [UInt8.toNat_ofNat']; omega
theorem dec_enc {h : HeadN} (hr : h.right = true) (hq : 0 ≤ h.seq ∧ h.seq < 18446744073709551616) (hs : 0 ≤ h.sum ∧ h.sum < 4294967296) {m : Nat} (hm : 28 ≤ m) : decE (padB (enc h) m) = 0 ∧ decH (padB (enc h) m) = h := by
  have hb : rightG h.e h.f h.s = true ∧ h.len = totG h.e h.f h.s := by unfold HeadN.right at hr; simpa using hr
  have hb' : 0 ≤ h.e ∧ h.e ≤ 10 ∧ 0 ≤ h.f ∧ h.f ≤ 64 ∧ 0 ≤ h.s ∧ h.s ≤ 128 := by simpa [rightG] using hb.1
  have ht := totG_bd h.e h.f h.s
  have hc := crcSum_bd (encBody h)
  have hraw : decRaw (padB (enc h) m) = h := by
    have e5 : (padB (enc h) m).getD 5 0 = UInt8.ofNat (h.e % 256).toNat := rfl
    have e6 : (padB (enc h) m).getD 6 0 = UInt8.ofNat (h.f % 256).toNat := rfl
    have e7 : (padB (enc h) m).getD 7 0 = UInt8.ofNat (h.s % 256).toNat := rfl
    unfold decRaw
    rw [e5, e6, e7, dropL, dropS, dropC, byteN (by omega) (by omega), byteN (by omega) (by omega), byteN (by omega) (by omega), wrapU32 (by omega) (by omega), leN_id (by omega) (by omega), leN_id hq.1 (by omega), leN_id hs.1 (by omega)]
  have he : decE (padB (enc h) m) = 0 := by
    unfold decE
    have hl : ¬ (padB (enc h) m).length < 28 := by
      rw [padB_length (by rw [enc_length]; exact hm)]; omega
    have h4 : (padB (enc h) m).take 4 = [75, 69, 69, 80] := rfl
    have e4 : ((padB (enc h) m).getD 4 0).toNat = 1 := rfl
    rw [if_neg hl, if_neg (by rw [h4]; simp), if_neg (by rw [e4]; simp), take24, drop24, leN_id hc.1 (by omega), if_neg (by simp), hraw, if_pos hr]
  exact ⟨he, by unfold decH; rw [if_pos he]; exact hraw⟩
/-- Zeroes are no head. -/
theorem dec_zero {m : Nat} (hm : 28 ≤ m) : decE (padB [] m) = 6 := by
  obtain ⟨k, rfl⟩ : ∃ k, m = k + 28 := ⟨m - 28, by omega⟩
  unfold decE
  rw [if_neg (by simp [padB]), if_pos]
  simp [padB, List.replicate_succ]

/-! ### Pieces -/
theorem flat_pieces (L : List UInt8) (z : Nat) : ∀ n, n * z ≤ L.length → ((List.range n).map fun i => (L.drop (i * z)).take z).flatten = L.take (n * z)
  | 0, _ => by simp
  | n + 1, h => by
    rw [Nat.succ_mul] at h
    rw [List.range_succ, List.map_append, List.flatten_append, flat_pieces L z n (by omega)]
    simp only [List.map_cons, List.map_nil, List.flatten_cons, List.flatten_nil, List.append_nil]
    rw [Nat.succ_mul, List.take_add]
theorem pieces_length (bs : List UInt8) (z n : Nat) : (pieces bs z n).length = n := by simp [pieces]
theorem pieces_flat {bs : List UInt8} {z n : Nat} (h : bs.length ≤ n * z) : (pieces bs z n).flatten = padB bs (n * z) := by
  have hl := padB_length h
  unfold pieces
  rw [flat_pieces _ _ _ (by omega), List.take_of_length_le (by omega)]
theorem pieces_each {bs : List UInt8} {z n : Nat} (h : bs.length ≤ n * z) : ∀ x ∈ pieces bs z n, x.length = z := by
  intro x hx
  obtain ⟨i, hi, rfl⟩ := List.mem_map.1 hx
  have hi' := List.mem_range.1 hi
  have h2 : (i + 1) * z ≤ n * z := Nat.mul_le_mul_right _ hi'
  rw [Nat.succ_mul] at h2
  rw [List.length_take, List.length_drop, padB_length h]; omega
theorem padB_take {bs : List UInt8} {m : Nat} : (padB bs m).take bs.length = bs := by simp [padB]
/-- Enough sectors. -/
theorem secs_room {m z : Int} (h0 : 0 ≤ m) (h1 : 1 ≤ z) (h2 : z ≤ 4096) : 0 ≤ secs m z ∧ m ≤ secs m z * z := by
  unfold secs
  by_cases hm : m < 1
  · rw [if_pos (.inl hm)]; omega
  · rw [if_neg (by omega)]
    have h3 := Int.emod_nonneg (m - 1) (by omega : z ≠ 0)
    have h4 := Int.emod_lt_of_pos (m - 1) (by omega : 0 < z)
    have h5 := Int.mul_ediv_add_emod (m - 1) z
    have h6 : 0 ≤ (m - 1) / z := Int.ediv_nonneg (by omega) (by omega)
    refine ⟨by omega, ?_⟩
    rw [Int.add_mul, Int.one_mul, Int.mul_comm]
    omega
end Go.Sep
/- A slot's calls on a disk on which nothing fails: no program in sight. -/
namespace Go.Sep
open Go Go.Proofs

structure Okd (D : DiskN) (z k : Nat) : Prop where
  wf : D.WF
  size : D.size = z
  count : D.count = k
  plan : D.planned = []
theorem Okd.failing {D : DiskN} {z k : Nat} (h : Okd D z k) : D.failing = false := by simp [DiskN.failing, h.plan]
theorem Okd.tick {D : DiskN} {z k : Nat} (h : Okd D z k) : Okd D.tick z k := ⟨h.wf.tick, h.size, h.count, h.plan⟩
theorem Okd.ticks {D : DiskN} {z k : Nat} (h : Okd D z k) (n : Nat) : Okd (D.ticks n) z k := ⟨h.wf.ticks n, h.size, h.count, h.plan⟩
theorem Okd.put {D : DiskN} {z k : Nat} (h : Okd D z k) {i : Nat} {bs : List UInt8} (hi : i < k) (hb : bs.length = z) : Okd (D.put (i : Int) bs) z k :=
  ⟨h.wf.put (by omega) (by rw [h.count]; omega) (by rw [h.size]; exact hb), h.size, h.count, h.plan⟩
theorem Okd.sync {D : DiskN} {z k : Nat} (h : Okd D z k) : Okd D.sync z k := by
  obtain ⟨a, b, c⟩ := sync_wf h.wf
  exact ⟨a, b.trans h.size, c.trans h.count, (settled_rest h.wf _).2.2.trans h.plan⟩
theorem Okd.readE {D : DiskN} {z k : Nat} (h : Okd D z k) {i : Nat} (hi : i < k) : D.readE (i : Int) = 0 := by
  unfold DiskN.readE
  rw [if_neg (by rw [h.failing]; decide), if_neg (by rw [h.count]; omega)]
theorem Okd.writeE {D : DiskN} {z k : Nat} (h : Okd D z k) {i : Nat} (hi : i < k) : D.writeE (i : Int) z = 0 := by
  unfold DiskN.writeE
  rw [if_neg (by rw [h.failing]; decide), if_neg (by omega), if_neg (by rw [h.count]; omega), if_neg (by rw [h.size]; simp)]
theorem freshN_ok {k z : Nat} (hk : k ≤ 4096) (hz : 1 ≤ z) (hz2 : z ≤ 4096) : Okd (freshN k z) z k := by
  have hl : (freshN k z).data.length = k * z := List.length_replicate
  have hc : (freshN k z).count = k := by unfold DiskN.count; rw [hl]; exact Nat.mul_div_cancel _ hz
  refine ⟨⟨hz, hz2, by rw [hl, hc]; rfl, by rw [hc]; exact hk, by intro p hp; simp [freshN] at hp, by simp [freshN], by simp [freshN]⟩, rfl, hc, rfl⟩
theorem fresh_cur {k z i : Nat} (hi : i < k) : (freshN k z).cur i = List.replicate z 0 := by
  have h2 : (i + 1) * z ≤ k * z := Nat.mul_le_mul_right _ hi
  rw [Nat.succ_mul] at h2
  show ((List.replicate (k * z) (0 : UInt8)).drop (i * z)).take z = _
  rw [List.drop_replicate, List.take_replicate]
  congr 1
  omega

/-- A slot that there is: which of the two, the sector's size, the slot's first sector, how many follow. -/
structure Here (z k : Nat) (which : Int) (e f s : Int) (fst many : Nat) : Prop where
  hright : rightG e f s = true
  hwhich : which = 0 ∨ which = 1
  hsize : 32 ≤ z ∧ z ≤ 4096
  hspan : spanG z e f s = 1 + (many : Int)
  hsecs : secs (totG e f s) z = (many : Int)
  hfirst : (fst : Int) = which * spanG z e f s
  hroom : 2 * spanG z e f s ≤ (k : Int)
theorem Here.of {z k : Nat} {which e f s : Int} (h1 : rightG e f s = true) (h2 : which = 0 ∨ which = 1) (h3 : 32 ≤ z ∧ z ≤ 4096) (h4 : 2 * spanG z e f s ≤ (k : Int)) :
    Here z k which e f s (which * spanG z e f s).toNat (secs (totG e f s) z).toNat := by
  have ht := totG_bd e f s
  have hs := secs_bd (m := totG e f s) (s := (z : Int)) ht.1
  have hsp : spanG z e f s = 1 + secs (totG e f s) z := by unfold spanG; rw [if_pos ⟨h1, by omega, by omega⟩]
  refine ⟨h1, h2, h3, by rw [hsp]; omega, by omega, ?_, h4⟩
  have : 0 ≤ which * spanG z e f s := by
    rcases h2 with rfl | rfl <;> omega
  omega
section
variable {D : DiskN} {z k fst many : Nat} {which e f s : Int}
theorem Here.lt (h : Here z k which e f s fst many) {j : Nat} (hj : j ≤ many) : fst + j < k := by
  have h1 := h.hspan; have h2 := h.hfirst; have h3 := h.hroom
  rcases h.hwhich with w | w <;> rw [w] at h2 <;> omega
theorem Here.atE (h : Here z k which e f s fst many) (hz : D.size = z) (hk : D.count = k) : atE D which e f s = 0 := by
  have h3 := h.hroom; have h4 := h.hsize
  unfold Go.Sep.atE
  rw [if_neg (by rw [h.hright]; simp), if_neg, if_neg]
  · rw [hk, hz]; omega
  · rw [hz]
    rcases h.hwhich with w | w <;> omega
theorem Here.firstOf (h : Here z k which e f s fst many) (hz : D.size = z) : firstOf D which e f s = (fst : Int) := by
  unfold Go.Sep.firstOf; rw [hz, h.hfirst]
theorem Here.manyOf (h : Here z k which e f s fst many) (hz : D.size = z) : manyOf D e f s = many := by
  unfold Go.Sep.manyOf; rw [hz, h.hspan]; omega
theorem Here.room' (h : Here z k which e f s fst many) : totG e f s ≤ (many : Int) * z := by
  have ht := totG_bd e f s
  have h1 := h.hsize
  have := (secs_room (m := totG e f s) (z := (z : Int)) ht.1 (by omega) (by omega)).2
  rw [h.hsecs] at this
  exact this

/-! ### Data -/
theorem dataGo_ok : ∀ (ps : List (List UInt8)) (D : DiskN) (i : Nat), Okd D z k → (∀ x ∈ ps, x.length = z) → fst + 1 + i + ps.length ≤ k →
    (dataGo (fst : Int) i D ps).1 = 0 ∧ Okd (dataGo (fst : Int) i D ps).2 z k ∧ (dataGo (fst : Int) i D ps).2.ops = D.ops + ps.length ∧ (dataGo (fst : Int) i D ps).2.writes = D.writes + ps.length ∧
      ∀ j, (dataGo (fst : Int) i D ps).2.cur j = if fst + 1 + i ≤ j ∧ j < fst + 1 + i + ps.length then ps.getD (j - (fst + 1 + i)) [] else D.cur j
  | [], D, i, h, _, _ => by
    refine ⟨rfl, h, rfl, rfl, fun j => ?_⟩
    rw [if_neg (by simp only [List.length_nil]; omega)]; rfl
  | x :: r, D, i, h, hx, hr => by
    have hxl := hx x List.mem_cons_self
    have hlt : fst + (1 + i) < k := by rw [List.length_cons] at hr; omega
    have e0 : (fst : Int) + (1 + (i : Int)) = ((fst + (1 + i) : Nat) : Int) := by omega
    have hw : D.writeE ((fst : Int) + (1 + (i : Int))) x.length = 0 := by rw [e0, hxl]; exact h.writeE hlt
    have e1 : dataGo (fst : Int) i D (x :: r) = dataGo (fst : Int) (i + 1) (D.put ((fst + (1 + i) : Nat) : Int) x) r := by
      rw [dataGo, if_neg (by rw [hw]; simp), e0]
    have hp := h.put (bs := x) hlt hxl
    obtain ⟨a1, a2, a3, a4, a5⟩ := dataGo_ok r (D.put ((fst + (1 + i) : Nat) : Int) x) (i + 1) hp (fun y hy => hx y (List.mem_cons_of_mem _ hy)) (by rw [List.length_cons] at hr; omega)
    rw [e1]
    refine ⟨a1, a2, by rw [a3, List.length_cons]; show D.ops + 1 + _ = _; omega, by rw [a4, List.length_cons]; show D.writes + 1 + _ = _; omega, fun j => ?_⟩
    rw [a5 j, List.length_cons]
    by_cases c1 : j = fst + (1 + i)
    · subst c1
      rw [if_neg (by omega), if_pos (by omega), cur_put, if_pos rfl]
      have : fst + (1 + i) - (fst + 1 + i) = 0 := by omega
      rw [this]; rfl
    · by_cases c2 : fst + 1 + (i + 1) ≤ j ∧ j < fst + 1 + (i + 1) + r.length
      · rw [if_pos c2, if_pos (by omega)]
        have : j - (fst + 1 + i) = (j - (fst + 1 + (i + 1))) + 1 := by omega
        rw [this, List.getD_cons_succ]
      · rw [if_neg c2, if_neg (by omega), cur_put, if_neg c1]
/-- The sectors of a slot's image. -/
def ImgIs (D : DiskN) (fst many : Nat) (bs : List UInt8) : Prop := ∀ j, j < many → D.cur (fst + 1 + j) = (pieces bs D.size many).getD j []
theorem data_ok (hh : Here z k which e f s fst many) (h : Okd D z k) {bs : List UInt8} (hb : (bs.length : Int) = totG e f s) :
    (dataR D which e f s bs).1 = 0 ∧ Okd (dataR D which e f s bs).2 z k ∧ (dataR D which e f s bs).2.ops = D.ops + many ∧ (dataR D which e f s bs).2.writes = D.writes + many ∧ ImgIs (dataR D which e f s bs).2 fst many bs ∧
      ∀ j, ¬ (fst + 1 ≤ j ∧ j < fst + 1 + many) → (dataR D which e f s bs).2.cur j = D.cur j := by
  have hn : (secs bs.length D.size).toNat = many := by rw [hb, h.size, hh.hsecs]; omega
  have e0 : dataR D which e f s bs = dataGo (fst : Int) 0 D (pieces bs z many) := by
    unfold dataR
    rw [if_neg (by rw [hh.atE h.size h.count]; simp), if_neg (by rw [hb]; simp), hh.firstOf h.size, hn, h.size]
  have hroom : bs.length ≤ many * z := by
    have := hh.room'
    rw [← hb, ← Int.natCast_mul] at this
    omega
  have hlt := hh.lt (Nat.le_refl many)
  obtain ⟨a1, a2, a3, a4, a5⟩ := dataGo_ok (fst := fst) (pieces bs z many) D 0 h (pieces_each hroom) (by rw [pieces_length]; omega)
  rw [pieces_length] at a3 a4 a5
  rw [e0]
  refine ⟨a1, a2, a3, a4, fun j hj => ?_, fun j hj => ?_⟩
  · rw [a5, if_pos (by omega), a2.size]
    congr 1; omega
  · rw [a5, if_neg (by omega)]

/-! ### Seal, Wipe -/
theorem seal_ok (hh : Here z k which e f s fst many) (h : Okd D z k) {bs : List UInt8} (hb : (bs.length : Int) = totG e f s) (q : Int) :
    sealR D which e f s q bs = (0, D.put (fst : Int) (padB (enc (sealHead bs e f s q)) z)) := by
  unfold sealR
  rw [if_neg (by rw [hh.atE h.size h.count]; simp), if_neg (by rw [hb]; simp), hh.firstOf h.size, h.size, if_neg]
  rw [h.writeE (by have := hh.lt (j := 0) (by omega); omega)]; simp
theorem wipe_ok (hh : Here z k which e f s fst many) (h : Okd D z k) : wipeR D which e f s = (0, D.put (fst : Int) (padB [] z)) := by
  unfold wipeR
  rw [if_neg (by rw [hh.atE h.size h.count]; simp), hh.firstOf h.size, h.size, if_neg]
  rw [h.writeE (by have := hh.lt (j := 0) (by omega); omega)]; simp

/-! ### Read -/
theorem body_of (hh : Here z k which e f s fst many) (hz : D.size = z) {bs : List UInt8} (hb : (bs.length : Int) = totG e f s) (hi : ImgIs D fst many bs) : D.body (fst : Int) many = padB bs (many * z) := by
  have hroom : bs.length ≤ many * z := by
    have := hh.room'
    rw [← hb, ← Int.natCast_mul] at this
    omega
  rw [← pieces_flat hroom]
  unfold DiskN.body DiskN.rows
  rw [List.map_map]
  congr 1
  apply List.ext_getElem
  · simp [pieces]
  · intro j h1 h2
    rw [List.length_map, List.length_range] at h1
    have e1 : ((fst : Int) + (1 + (j : Int))).toNat = fst + 1 + j := by omega
    simp only [List.getElem_map, List.getElem_range, Function.comp, e1]
    rw [hi j h1, hz, List.getD_eq_getElem?_getD, List.getElem?_eq_getElem h2]; rfl
theorem read_magic (hh : Here z k which e f s fst many) (h : Okd D z k) (hc : D.cur fst = padB [] z) : readR D which e f s = (0, D.tick, ⟨0, 6, 0, []⟩) := by
  have hl := hh.lt (j := 0) (by omega)
  have hd := dec_zero (m := z) (by have := hh.hsize; omega)
  unfold readR
  rw [if_neg (by rw [hh.atE h.size h.count]; simp), hh.firstOf h.size, if_neg (by rw [h.readE (by omega)]; simp), Int.toNat_natCast, hc, hd, if_pos (by decide)]
theorem read_good (hh : Here z k which e f s fst many) (h : Okd D z k) {bs : List UInt8} {q : Int} (hq : 0 ≤ q ∧ q < 18446744073709551616) (hb : (bs.length : Int) = totG e f s)
    (hc : D.cur fst = padB (enc (sealHead bs e f s q)) z) (hi : ImgIs D fst many bs) : readR D which e f s = (0, D.ticks (1 + many), ⟨2, 0, q, bs⟩) := by
  have hl := hh.lt (j := 0) (by omega)
  have hsz := hh.hsize
  have hcs := crcSum_bd bs
  have hright : (sealHead bs e f s q).right = true := by simp [HeadN.right, sealHead, hh.hright, hb]
  obtain ⟨d1, d2⟩ := dec_enc hright hq hcs (m := z) (by omega)
  have hbody := body_of hh h.size hb hi
  have hroom : bs.length ≤ many * z := by
    have := hh.room'
    rw [← hb, ← Int.natCast_mul] at this
    omega
  have hbad : badK D.tick (fst : Int) many = none := badK_none fun j hj => by
    have := hh.lt (j := 1 + j) (by omega)
    have e1 : (fst : Int) + (1 + (j : Int)) = ((fst + (1 + j) : Nat) : Int) := by omega
    unfold bodyE
    rw [e1]
    exact (h.tick.ticks j).readE this
  unfold readR
  rw [if_neg (by rw [hh.atE h.size h.count]; simp), hh.firstOf h.size, if_neg (by rw [h.readE (by omega)]; simp), Int.toNat_natCast, hc, d1, d2, if_neg (by simp), if_pos ⟨rfl, rfl, rfl⟩, hh.manyOf h.size]
  unfold bodyR
  rw [hbad]
  have hb2 : D.tick.body (fst : Int) many = padB bs (many * z) := hbody
  have hlen : (sealHead bs e f s q).len = (bs.length : Int) := rfl
  have hsum : (sealHead bs e f s q).sum = crcSum bs := rfl
  have hsq : (sealHead bs e f s q).seq = q := rfl
  dsimp only
  rw [hb2, hlen, hsum, hsq, padB_length hroom, if_pos ⟨by omega, by omega⟩, Int.toNat_natCast, padB_take, if_pos rfl]
  show (_, ({ D with ops := D.ops + 1 + many } : DiskN), _) = (_, ({ D with ops := D.ops + (1 + many) } : DiskN), _)
  rw [Nat.add_assoc]
theorem ImgIs.of_cur {bs : List UInt8} {D' : DiskN} (h : ImgIs D fst many bs) (hs : D'.size = D.size) (hc : ∀ j, j < many → D'.cur (fst + 1 + j) = D.cur (fst + 1 + j)) : ImgIs D' fst many bs := fun j hj => by rw [hc j hj, h j hj, hs]
end
end Go.Sep
/- What a crash leaves: no program in sight. -/
namespace Go.Sep
open Go Go.Proofs

structure TearN where
  kind : Int
  bytes : List UInt8
def TearN.zero : TearN := ⟨0, []⟩
/-- A sector of so many bytes, out of any. -/
def fit (bs : List UInt8) (m : Nat) : List UInt8 := padB (bs.take m) m
theorem fit_length (bs : List UInt8) (m : Nat) : (fit bs m).length = m := padB_length (by rw [List.length_take]; omega)
def DiskN.tear (D : DiskN) (i : Int) (t : TearN) : DiskN :=
  { D with
    data := if t.kind = 1 then setSec D.data D.size i.toNat (D.cur i.toNat) else if t.kind = 2 then setSec D.data D.size i.toNat (fit t.bytes D.size) else D.data
    cached := delI D.cached i }
def tornGo : Nat → List Int → List TearN → DiskN → DiskN
  | _, [], _, D => D
  | j, i :: r, ts, D => tornGo (j + 1) r ts (D.tear i (ts.getD j .zero))
/-- The first j of the sectors that are cached are torn. -/
def torn (D : DiskN) (ts : List TearN) (j : Nat) : DiskN := ((D.keys.take j).zipIdx).foldl (fun E p => E.tear p.1 (ts.getD p.2 .zero)) D
theorem torn_succ {D : DiskN} {ts : List TearN} {j : Nat} {i : Int} (h : D.keys[j]? = some i) : torn D ts (j + 1) = (torn D ts j).tear i (ts.getD j .zero) := by
  have hj : j < D.keys.length := by
    rcases Nat.lt_or_ge j D.keys.length with q | q
    · exact q
    · rw [List.getElem?_eq_none q] at h; cases h
  unfold torn
  rw [List.take_add_one, h, List.zipIdx_append, List.foldl_append]
  have : (D.keys.take j).length = j := by rw [List.length_take]; omega
  simp [this]
section
variable {D : DiskN}
theorem tear_wf (h : D.WF) {i : Nat} (hi : i < D.count) (t : TearN) : (D.tear (i : Int) t).WF ∧ (D.tear (i : Int) t).size = D.size ∧ (D.tear (i : Int) t).count = D.count := by
  have hr := h.room hi
  rw [Nat.succ_mul] at hr
  have hl : (D.tear (i : Int) t).data.length = D.data.length := by
    unfold DiskN.tear
    dsimp only
    rw [Int.toNat_natCast]
    split
    · exact setSec_length (by rw [h.cur hi]; omega)
    · split
      · exact setSec_length (by rw [fit_length]; omega)
      · rfl
  have hc : (D.tear (i : Int) t).count = D.count := by
    unfold DiskN.count
    rw [hl]; rfl
  refine ⟨⟨h.hz, h.hz2, by rw [hc, hl]; exact h.len, by rw [hc]; exact h.cnt, fun p hp => ?_, List.Nodup.sublist ((delI_sub _ _).map _) h.nodup, Nat.le_trans (delI_len _ _) h.few⟩, rfl, hc⟩
  have := h.cach p ((delI_sub _ _).mem hp)
  rw [hc]; exact this
theorem tear_rest (i : Int) (t : TearN) : (D.tear i t).ops = D.ops ∧ (D.tear i t).writes = D.writes ∧ (D.tear i t).planned = D.planned := ⟨rfl, rfl, rfl⟩
theorem tear_look (h : D.WF) (i j : Int) (t : TearN) : lookI (D.tear i t).cached j = if j = i then none else lookI D.cached j := lookI_delI _ _ _ h.nodup
/-- What lasts of a sector. -/
def leftOf (t : TearN) (size : Nat) (old next : List UInt8) : List UInt8 := if t.kind = 1 then next else if t.kind = 2 then fit t.bytes size else old
theorem tear_sector (h : D.WF) {i j : Nat} (hi : i < D.count) (hj : j < D.count) (t : TearN) : (D.tear (i : Int) t).sector j = if j = i then leftOf t D.size (D.sector i) (D.cur i) else D.sector j := by
  unfold DiskN.tear DiskN.sector leftOf
  dsimp only
  rw [Int.toNat_natCast]
  by_cases c1 : t.kind = 1
  · rw [if_pos c1, if_pos c1, sec_set (h.cur hi) (h.room hi) (h.room hj)]
  · rw [if_neg c1, if_neg c1]
    by_cases c2 : t.kind = 2
    · rw [if_pos c2, if_pos c2, sec_set (fit_length _ _) (h.room hi) (h.room hj)]
    · rw [if_neg c2, if_neg c2]
      by_cases e : j = i
      · subst e; rw [if_pos rfl]
      · rw [if_neg e]
theorem torn_facts (h : D.WF) (ts : List TearN) : ∀ n, n ≤ D.keys.length → (torn D ts n).WF ∧ (torn D ts n).size = D.size ∧ (torn D ts n).count = D.count ∧ (torn D ts n).ops = D.ops ∧ (torn D ts n).writes = D.writes ∧ (torn D ts n).planned = D.planned ∧
    ∀ j : Int, lookI (torn D ts n).cached j = if j ∈ D.keys.take n then none else lookI D.cached j
  | 0, _ => ⟨h, rfl, rfl, rfl, rfl, rfl, fun j => by simp [torn]⟩
  | n + 1, hn => by
    obtain ⟨a1, a2, a3, a4, a5, a6, a7⟩ := torn_facts h ts n (by omega)
    obtain ⟨i, hi⟩ : ∃ i, D.keys[n]? = some i := ⟨_, List.getElem?_eq_getElem (by omega)⟩
    obtain ⟨h0, h1⟩ := keys_range h hi
    obtain ⟨m, rfl⟩ := Int.eq_ofNat_of_zero_le h0
    have hm : m < (torn D ts n).count := by rw [a3]; omega
    obtain ⟨b1, b2, b3⟩ := tear_wf a1 hm (ts.getD n .zero)
    rw [torn_succ hi]
    refine ⟨b1, b2.trans a2, b3.trans a3, a4, a5, a6, fun j => ?_⟩
    rw [tear_look a1, a7, List.take_add_one, hi]
    by_cases e : j = (m : Int)
    · subst e; simp
    · simp [e]
def DiskN.crash (D : DiskN) (ts : List TearN) : DiskN := torn D ts D.keys.length
theorem crash_facts (h : D.WF) (ts : List TearN) : (D.crash ts).WF ∧ (D.crash ts).size = D.size ∧ (D.crash ts).count = D.count ∧ (D.crash ts).ops = D.ops ∧ (D.crash ts).writes = D.writes ∧ (D.crash ts).planned = D.planned ∧ (D.crash ts).cached = [] := by
  obtain ⟨a1, a2, a3, a4, a5, a6, a7⟩ := torn_facts h ts D.keys.length (Nat.le_refl _)
  refine ⟨a1, a2, a3, a4, a5, a6, look_none fun j => ?_⟩
  unfold DiskN.crash
  rw [a7, List.take_of_length_le (Nat.le_refl _)]
  split
  · rfl
  · rename_i hj
    rw [mem_keys] at hj
    exact lookI_none_of hj
/-- What isn't cached stays as it is. -/
theorem torn_sector (h : D.WF) (ts : List TearN) {j : Nat} (hj : j < D.count) : ∀ n, n ≤ D.keys.length → (j : Int) ∉ D.keys.take n → (torn D ts n).sector j = D.sector j
  | 0, _, _ => rfl
  | n + 1, hn, hk => by
    obtain ⟨a1, a2, a3, _⟩ := torn_facts h ts n (by omega)
    obtain ⟨i, hi⟩ : ∃ i, D.keys[n]? = some i := ⟨_, List.getElem?_eq_getElem (by omega)⟩
    obtain ⟨h0, h1⟩ := keys_range h hi
    obtain ⟨m, rfl⟩ := Int.eq_ofNat_of_zero_le h0
    rw [List.take_add_one, hi] at hk
    simp only [List.mem_append, Option.toList_some, List.mem_singleton, not_or] at hk
    rw [torn_succ hi, tear_sector a1 (by rw [a3]; omega) (by rw [a3]; exact hj), if_neg (by omega)]
    exact torn_sector h ts hj n (by omega) hk.1
theorem crash_sector (h : D.WF) (ts : List TearN) {j : Nat} (hj : j < D.count) (hk : lookI D.cached (j : Int) = none) : (D.crash ts).sector j = D.sector j := by
  refine torn_sector h ts hj _ (Nat.le_refl _) ?_
  rw [List.take_of_length_le (Nat.le_refl _), mem_keys]
  intro hm
  obtain ⟨v, hv⟩ := lookI_some_of hm
  rw [hk] at hv; cases hv
theorem crash_cur (h : D.WF) (ts : List TearN) {j : Nat} (hj : j < D.count) (hk : lookI D.cached (j : Int) = none) : (D.crash ts).cur j = D.cur j := by
  unfold DiskN.cur
  rw [(crash_facts h ts).2.2.2.2.2.2, hk]
  exact crash_sector h ts hj hk
end
end Go.Sep
/- slot: wiped, sealed, laid: what each answers as a function of the disk. -/
namespace Go.Sep
open Go Go.Proofs
attribute [local irreducible] JO JC JE JA JQ JB JI Mid Inv Weak ownS Ru Do Fn Sat Pick Take arr pt star ex Holds bodyPost Post Exit.then Exit.inBlock Res
variable {σ : Sig} {F : List HP}
attribute [local irreducible] diskHP cacheHP planHP rowHP
theorem slot_WipeR (d : Nat) (D : DiskN) (which e f s : Int) (hD : D.WF) (ho : D.ops ≤ 1000000000000) (hw : D.writes ≤ 1000000000000) [hg : InG F] :
    Fn Tryz.prog σ 20 #[.pointer (some ⟨d, 0, none⟩), int which, geoV e f s] (diskHP d D :: F) (fun v l' => v = int (wipeR D which e f s).1 ∧ l' = diskHP d (wipeR D which e f s).2 :: F) := by
  refine (slot_Wipe d D which e f s hD ho hw).mono ?_
  rintro v l' (⟨h1, rfl, rfl⟩ | ⟨h1, (⟨h2, rfl, rfl⟩ | ⟨h2, rfl, rfl⟩)⟩) <;> unfold wipeR firstOf <;> simp [*]
theorem slot_SealR (d : Nat) (D : DiskN) (which e f s q : Int) (v : Value) (bs : List UInt8) (hq0 : 0 ≤ q) (hbl : bs.length ≤ 100000000) (hD : D.WF) (ho : D.ops ≤ 1000000000000) (hw : D.writes ≤ 1000000000000) {l : List HP} [hg : InG l] (hb : RdS σ l v (bs.map byte)) :
    Fn Tryz.prog σ 18 #[.pointer (some ⟨d, 0, none⟩), int which, geoV e f s, u64 q, v] (diskHP d D :: l) (fun r l' => r = int (sealR D which e f s q bs).1 ∧ l' = diskHP d (sealR D which e f s q bs).2 :: l) := by
  refine (slot_Seal d D which e f s q v bs hq0 hbl hD ho hw hb).mono ?_
  rintro v l' (⟨h1, rfl, rfl⟩ | ⟨h1, h3, rfl, rfl⟩ | ⟨h1, h3, (⟨h2, rfl, rfl⟩ | ⟨h2, rfl, rfl⟩)⟩) <;> unfold sealR firstOf <;> simp [*]
theorem writeE_zero {D : DiskN} {i : Int} {n : Nat} (h : D.writeE i n = 0) : 0 ≤ i ∧ i < D.count ∧ n = D.size := by
  unfold DiskN.writeE at h
  split at h
  · cases h
  · split at h
    · cases h
    · split at h
      · cases h
      · split at h
        · cases h
        · omega
theorem piece_at {bs : List UInt8} {z n i : Nat} (h : i < n) : (pieces bs z n)[i]? = some (((padB bs (n * z)).drop (i * z)).take z) := by
  unfold pieces; rw [List.getElem?_map, List.getElem?_range h]; rfl
set_option maxHeartbeats 4000000 in
theorem slot_Data (d : Nat) (D : DiskN) (which e f s : Int) (v : Value) (bs : List UInt8) (hbl : bs.length ≤ 100000000) (hD : D.WF) (ho : D.ops ≤ 100000000000) (hw : D.writes ≤ 100000000000) {l : List HP} [hg : InG l] (hb : RdS σ l v (bs.map byte)) :
    Fn Tryz.prog σ 16 #[.pointer (some ⟨d, 0, none⟩), int which, geoV e f s, v] (diskHP d D :: l) (fun r l' => r = int (dataR D which e f s bs).1 ∧ l' = diskHP d (dataR D which e f s bs).2 :: l) := by
  obtain ⟨pv, cv, rfl, hcv, hrv⟩ := id hb
  have hl : (bs.map byte).length = bs.length := by simp
  have hz := hD.hz
  have hz2 := hD.hz2
  refine Fn.of Tryz.func16 rfl Tryz.ntmps16 rfl ?_
  repeat' (first | (apply JO.ru; exact rfl; exact rfl; exact rfl; (first | (apply Ru.move; exact rfl) | (apply Ru.assign; exact rfl) | (apply Ru.loadAN; exact rfl; (repeat (first | exact Pick.here | apply Pick.there)); exact rfl; exact rfl))) | refine JC.seq ?_ | refine JC.region ?_ | refine JO.nil ?_ | refine JE.thenN ?_ | (apply JO.do; exact rfl; exact rfl; exact rfl; (first | (apply Do.boxN; exact rfl; exact rfl) | (apply Do.box; exact rfl)); rintro _ _ ⟨_, rfl, rfl⟩))
  rename_i gb
  refine JO.heap (Sat.weak (l' := diskHP d D :: arr gb 23 [int e, int f, int s] :: l) (by repeat (first | exact Weak.refl | (apply Weak.cons; (first | exact Pick.here | exact Pick.there Pick.here | exact Pick.there (Pick.there Pick.here) | exact Pick.there (Pick.there (Pick.there Pick.here)) | exact Pick.there (Pick.there (Pick.there (Pick.there Pick.here))) | exact Pick.there (Pick.there (Pick.there (Pick.there (Pick.there Pick.here)))) | exact Pick.there (Pick.there (Pick.there (Pick.there (Pick.there (Pick.there Pick.here))))) | exact Pick.there (Pick.there (Pick.there (Pick.there (Pick.there (Pick.there (Pick.there Pick.here)))))))) | apply Weak.drop))) ?_
  (apply JO.do; exact rfl; exact rfl; exact rfl; (apply Do.call; exact rfl; exact slot_at d D which e f s hD); rintro _ _ (⟨hE, db, fb, rfl, rfl⟩ | ⟨hE, rfl, rfl⟩))
  · have hfi := atE_first hE
    repeat' (first | (first | (apply JO.ru; exact rfl; exact rfl; exact rfl; (first | (apply Ru.move; exact rfl) | (apply Ru.loadN; exact rfl; (repeat (first | exact Pick.here | apply Pick.there)); exact rfl) | (apply Ru.fieldAddr; exact rfl) | (apply Ru.assign; exact rfl) | (apply Ru.lenS; exact rfl) | (apply Ru.neq; exact rfl; exact rfl; (first | exact ndecF (by omega) | exact ndecT (by omega))) | (apply Ru.extractN; exact rfl; exact rfl) | (apply Ru.loadAN; exact rfl; (repeat (first | exact Pick.here | apply Pick.there)); exact rfl; exact rfl))) | refine JC.seq ?_ | refine JC.region ?_ | refine JO.nil ?_ | refine JE.thenN ?_ | refine JE.thenR ?_ | refine JE.blockN ?_ | refine JE.blockR ?_ | refine JC.block ?_ | refine JC.ret ?_ | refine JC.skip ?_ | refine JC.condT rfl ?_ | refine JC.condF rfl ?_ | (apply JO.splitN; exact rfl; exact rfl; exact rfl; (apply Ru.neq; exact rfl; exact rfl; exact rfl); all_goals intro _) | (apply JO.do; exact rfl; exact rfl; exact rfl; (first | (apply Do.allocN; exact rfl) | apply Do.alloc); rintro _ _ ⟨_, rfl, rfl⟩) | (apply JO.do0; exact rfl; exact rfl; (first | (apply Do.storeAN; exact rfl; exact rfl; (repeat (first | exact Pick.here | apply Pick.there)); exact rfl; exact rfl; exact rfl; exact rfl) | (apply Do.storeA; exact rfl; exact rfl; (repeat (first | exact Pick.here | apply Pick.there)); exact rfl; exact rfl; exact rfl)); rintro _ _ ⟨rfl, rfl⟩) | (apply JE.done1; exact rfl; (first | (apply Res.tmp; exact rfl) | (apply Res.cell; exact rfl; (repeat (first | exact Pick.here | apply Pick.there)); exact rfl) | (apply Res.cellAN; exact rfl; (repeat (first | exact Pick.here | apply Pick.there)); exact rfl; exact rfl) | (apply Res.cellA; exact rfl; (repeat (first | exact Pick.here | apply Pick.there)); exact rfl; exact rfl)))) | (first | (apply JO.do; exact rfl; exact rfl; exact rfl; (apply Do.call; exact rfl; exact geo_Total _ _ _); rintro _ _ ⟨rfl, hq⟩; obtain rfl := hq.symm) | (apply JQ.call; exact rfl; exact rfl; exact rfl; exact geo_Total _ _ _; (rintro _ _ ⟨rfl, rfl⟩; exact ⟨rfl, rfl⟩))))
    · rename_i pb heq
      rw [hl] at heq
      have e0 : dataR D which e f s bs = dataGo (firstOf D which e f s) 0 D (pieces bs D.size (secs bs.length D.size).toNat) := by
        unfold dataR; rw [if_neg (by rw [hE]; simp), if_neg (by simpa using heq)]
      obtain ⟨n, hn⟩ : ∃ n, (secs bs.length D.size).toNat = n := ⟨_, rfl⟩
      have hns := secs_bd (m := (bs.length : Int)) (s := (D.size : Int)) (by omega)
      obtain ⟨ps, hps⟩ : ∃ ps, pieces bs D.size n = ps := ⟨_, rfl⟩
      obtain ⟨fi, hfe⟩ : ∃ fi, which * spanG D.size e f s = fi := ⟨_, rfl⟩
      have hfe2 : firstOf D which e f s = fi := hfe
      have hpl : ps.length = n := by rw [← hps]; simp [pieces]
      rw [hn, hps, hfe2] at e0
      rw [e0]
      rw [hfe] at hfi ⊢
      (apply JO.do; exact rfl; exact rfl; exact rfl; (apply Do.call; exact rfl; exact image_Cut _ bs D.size ⟨hz, hz2⟩ hbl hb.cons.cons.cons.cons.cons); rintro _ _ ⟨u, a, rfl, rfl⟩)
      rw [hn]
      refine JO.ownR Pick.here fun hrd _ hsh => ?_
      obtain ⟨p, c, rfl⟩ : ∃ p c, u = .slice p n c := by
        rcases hsh with ⟨rfl, h⟩ | ⟨b, c, rfl, _⟩
        · exact ⟨none, 0, by rw [h]⟩
        · exact ⟨_, c, rfl⟩
      clear hsh hrd
      repeat' (first | (apply JO.ru; exact rfl; exact rfl; exact rfl; (first | (apply Ru.move; exact rfl) | (apply Ru.assign; exact rfl) | (apply Ru.lenS; exact rfl) | (apply Ru.extractN; exact rfl; exact rfl))) | refine JC.seq ?_ | refine JC.region ?_ | refine JO.nil ?_ | refine JE.thenN ?_ | refine JC.block ?_)
      refine JC.loop (fun x : Nat × DiskN => [(9, .pointer (some ⟨pb, 0, none⟩)), (40, .slice p n c), (41, int n), (42, int x.1)])
        (fun x => slotL d x.2 db fb fi (ownS (.slice p n c) 35 1 n (cutRows a D.size n) :: arr a 5 ((padB bs (n * D.size)).map byte) :: arr pb 105 [int (spanG D.size e f s - 1), int D.size, rdV db fb, wrV db fb] :: l))
        (fun x => x.1 ≤ n ∧ dataGo fi 0 D ps = dataGo fi x.1 x.2 (ps.drop x.1) ∧ x.2.WF ∧ x.2.size = D.size ∧ x.2.ops = D.ops + x.1 ∧ x.2.writes = D.writes + x.1) (fun x => n - x.1) (0, D) ⟨Nat.zero_le _, rfl, hD, rfl, rfl, rfl⟩ ⟨rfl, rfl, rfl, rfl, trivial⟩ (Sat.weak (by repeat (first | exact Weak.refl | (apply Weak.cons; (first | exact Pick.here | exact Pick.there Pick.here | exact Pick.there (Pick.there Pick.here) | exact Pick.there (Pick.there (Pick.there Pick.here)) | exact Pick.there (Pick.there (Pick.there (Pick.there Pick.here))) | exact Pick.there (Pick.there (Pick.there (Pick.there (Pick.there Pick.here)))) | exact Pick.there (Pick.there (Pick.there (Pick.there (Pick.there (Pick.there Pick.here))))) | exact Pick.there (Pick.there (Pick.there (Pick.there (Pick.there (Pick.there (Pick.there Pick.here)))))))) | apply Weak.drop))) ?_
      rintro ⟨i, E⟩ ⟨hi, hgo, hE1, hE2, hE3, hE4⟩
      dsimp only at hi hgo hE1 hE2 hE3 hE4 ⊢
      repeat' (first | (apply JO.ru; exact rfl; exact rfl; exact rfl; (first | (apply Ru.move; exact rfl) | (apply Ru.assign; exact rfl))) | refine JC.seq ?_ | refine JC.region ?_ | refine JO.nil ?_ | refine JE.thenN ?_ | refine JE.thenE ?_ | refine JE.blockE ?_ | refine JC.block ?_ | refine JC.ret ?_ | refine JC.skip ?_ | refine JC.exit ?_ | refine JC.condT rfl ?_ | refine JC.condF rfl ?_ | (apply JO.split; exact rfl; exact rfl; exact rfl; ((apply Ru.lss; exact rfl; exact rfl; exact rfl)); all_goals intro _) | (apply JE.done1; exact rfl; (first | (apply Res.tmp; exact rfl) | (apply Res.cell; exact rfl; (repeat (first | exact Pick.here | apply Pick.there)); exact rfl) | (apply Res.cellAN; exact rfl; (repeat (first | exact Pick.here | apply Pick.there)); exact rfl; exact rfl) | (apply Res.cellA; exact rfl; (repeat (first | exact Pick.here | apply Pick.there)); exact rfl; exact rfl))))
      · rename_i hlt
        have hlt' : i < n := by omega
        have hpi : ps[i]? = some (((padB bs (n * D.size)).drop (i * D.size)).take D.size) := by rw [← hps]; exact piece_at hlt'
        have hroom : bs.length ≤ n * D.size := by
          have := (secs_room (m := (bs.length : Int)) (z := (D.size : Int)) (by omega) (by omega) (by omega)).2
          have e9 : secs (bs.length : Int) (D.size : Int) = (n : Int) := by omega
          rw [e9, ← Int.natCast_mul] at this
          omega
        have hpl2 := pieces_each (z := D.size) hroom
        have hPB := padB_length hroom
        have hsm : (i + 1) * D.size ≤ n * D.size := Nat.mul_le_mul_right _ hlt'
        rw [Nat.succ_mul] at hsm
        obtain ⟨x, hx⟩ : ∃ x, ((padB bs (n * D.size)).drop (i * D.size)).take D.size = x := ⟨_, rfl⟩
        rw [hx] at hpi
        have hxl : x.length = D.size := hpl2 x (by rw [hps]; exact List.mem_of_getElem? hpi)
        have hdr : ps.drop i = x :: ps.drop (i + 1) := by
          obtain ⟨h1, h2⟩ := List.getElem?_eq_some_iff.1 hpi
          rw [List.drop_eq_getElem_cons h1, h2]
        rw [hdr, dataGo, hxl] at hgo
        refine JO.ownR (Pick.there (Pick.there (Pick.there Pick.here))) fun hrd2 _ _ => ?_
        obtain ⟨p', cap', e, _, hr2⟩ := hrd2
        injection e with e1 e2 e3
        subst e1; clear e2 e3
        rcases hr2 with h | ⟨b', o', e4, hc⟩
        · have := congrArg List.length h
          simp [cutRows] at this
          omega
        cases e4
        repeat' ((apply JO.ru; exact rfl; exact rfl; exact rfl; ((apply Ru.indexAddr; exact rfl; exact rfl; omega; omega))))
        (apply JO.ru; exact rfl; exact rfl; exact rfl; (apply Ru.loadC; exact rfl; exact rd_row (i := i) (u := .slice (some ⟨a, i * D.size, none⟩) D.size D.size) hc (by unfold cutRows; rw [List.getElem?_map, List.getElem?_range hlt']; rfl) _ (by simp)))
        repeat' (first | (apply JO.ru; exact rfl; exact rfl; exact rfl; (first | (apply Ru.move; exact rfl) | (apply Ru.loadN; exact rfl; (repeat (first | exact Pick.here | apply Pick.there)); exact rfl) | (apply Ru.fieldAddr; exact rfl) | (apply Ru.assign; exact rfl) | (apply Ru.add; exact rfl; exact rfl; (first | exact wrapI (by omega) (by omega) | exact rfl)))) | refine JC.seq ?_ | refine JC.region ?_ | refine JO.nil ?_ | refine JE.thenN ?_)
        have hrd3 : RdS σ (ownS (.slice (some ⟨b', o', none⟩) n c) 35 1 n (cutRows a D.size n) :: arr a 5 ((padB bs (n * D.size)).map byte) :: arr pb 105 [int (spanG D.size e f s - 1), int D.size, rdV db fb, wrV db fb] :: l) (.slice (some ⟨a, i * D.size, none⟩) D.size D.size) (x.map byte) := by
          have := RdS.arr (σ := σ) (l := ownS (.slice (some ⟨b', o', none⟩) n c) 35 1 n (cutRows a D.size n) :: arr a 5 ((padB bs (n * D.size)).map byte) :: arr pb 105 [int (spanG D.size e f s - 1), int D.size, rdV db fb, wrV db fb] :: l) (Pick.there Pick.here) (i * D.size) D.size D.size (by rw [List.length_map]; omega) (Nat.le_refl _)
          rwa [← List.map_drop, ← List.map_take, hx] at this
        have hwr := slot_wr (σ := σ) d E db fb fi (1 + (i : Int)) (.slice (some ⟨a, i * D.size, none⟩) D.size D.size) x hE1 (by omega) (by omega) (by omega) (by omega) hrd3
        rw [hxl] at hwr
        (apply JO.do; exact rfl; exact rfl; exact rfl; (apply Do.callV (f := 106); exact rfl; exact rfl; exact hwr); rintro _ _ (⟨hW, rfl, rfl⟩ | ⟨hW, rfl, rfl⟩))
        · rw [if_neg (by simpa using hW)] at hgo
          repeat' (first | (apply JO.ru; exact rfl; exact rfl; exact rfl; (first | (apply Ru.move; exact rfl) | (apply Ru.assign; exact rfl) | (apply Ru.neq; exact rfl; exact rfl; (first | exact ndecF (by omega) | exact ndecT (by omega))) | (apply Ru.add; exact rfl; exact rfl; (first | exact wrapI (by omega) (by omega) | exact rfl)))) | refine JC.seq ?_ | refine JC.region ?_ | refine JO.nil ?_ | refine JE.thenN ?_ | refine JE.blockN ?_ | refine JC.skip ?_ | refine JC.condF rfl ?_)
          have hwz := writeE_zero hW
          exact JE.round (i + 1, E.put (fi + (1 + (i : Int))) x) ⟨hlt', hgo, hE1.put hwz.1 hwz.2.1 (by omega), hE2, by show E.ops + 1 = _; omega, by show E.writes + 1 = _; omega⟩ (by show n - (i + 1) < n - i; omega) ⟨rfl, rfl, rfl, rfl, trivial⟩ (fun _ h => h)
        · rw [if_pos (by simpa using hW)] at hgo
          rw [hgo]
          repeat' (first | (apply JO.ru; exact rfl; exact rfl; exact rfl; (first | (apply Ru.move; exact rfl) | (apply Ru.assign; exact rfl) | (apply Ru.neq; exact rfl; exact rfl; (first | exact ndecF (by omega) | exact ndecT (by omega))))) | refine JC.seq ?_ | refine JC.region ?_ | refine JO.nil ?_ | refine JE.thenN ?_ | refine JE.thenR ?_ | refine JE.blockR ?_ | refine JC.ret ?_ | refine JC.condT rfl ?_ | (apply JE.done1; exact rfl; (first | (apply Res.tmp; exact rfl) | (apply Res.cell; exact rfl; (repeat (first | exact Pick.here | apply Pick.there)); exact rfl) | (apply Res.cellAN; exact rfl; (repeat (first | exact Pick.here | apply Pick.there)); exact rfl; exact rfl) | (apply Res.cellA; exact rfl; (repeat (first | exact Pick.here | apply Pick.there)); exact rfl; exact rfl))))
          exact ⟨diskHP d E.tick :: l, Sat.weak (by repeat (first | exact Weak.refl | (apply Weak.cons; (first | exact Pick.here | exact Pick.there Pick.here | exact Pick.there (Pick.there Pick.here) | exact Pick.there (Pick.there (Pick.there Pick.here)) | exact Pick.there (Pick.there (Pick.there (Pick.there Pick.here))) | exact Pick.there (Pick.there (Pick.there (Pick.there (Pick.there Pick.here)))) | exact Pick.there (Pick.there (Pick.there (Pick.there (Pick.there (Pick.there Pick.here))))) | exact Pick.there (Pick.there (Pick.there (Pick.there (Pick.there (Pick.there (Pick.there Pick.here)))))))) | apply Weak.drop)), rfl, rfl⟩
      · obtain rfl : i = n := by omega
        rw [List.drop_eq_nil_of_le (by omega), dataGo] at hgo
        rw [hgo]
        exact ⟨diskHP d E :: l, Sat.weak (by repeat (first | exact Weak.refl | (apply Weak.cons; (first | exact Pick.here | exact Pick.there Pick.here | exact Pick.there (Pick.there Pick.here) | exact Pick.there (Pick.there (Pick.there Pick.here)) | exact Pick.there (Pick.there (Pick.there (Pick.there Pick.here))) | exact Pick.there (Pick.there (Pick.there (Pick.there (Pick.there Pick.here)))) | exact Pick.there (Pick.there (Pick.there (Pick.there (Pick.there (Pick.there Pick.here))))) | exact Pick.there (Pick.there (Pick.there (Pick.there (Pick.there (Pick.there (Pick.there Pick.here)))))))) | apply Weak.drop)), rfl, rfl⟩
    · rename_i heq
      rw [hl] at heq
      have e0 : dataR D which e f s bs = (1, D) := by
        unfold dataR; rw [if_neg (by rw [hE]; simp), if_pos heq]
      rw [e0]
      exact ⟨diskHP d D :: l, Sat.weak (by repeat (first | exact Weak.refl | (apply Weak.cons; (first | exact Pick.here | exact Pick.there Pick.here | exact Pick.there (Pick.there Pick.here) | exact Pick.there (Pick.there (Pick.there Pick.here)) | exact Pick.there (Pick.there (Pick.there (Pick.there Pick.here))) | exact Pick.there (Pick.there (Pick.there (Pick.there (Pick.there Pick.here)))) | exact Pick.there (Pick.there (Pick.there (Pick.there (Pick.there (Pick.there Pick.here))))) | exact Pick.there (Pick.there (Pick.there (Pick.there (Pick.there (Pick.there (Pick.there Pick.here)))))))) | apply Weak.drop)), rfl, rfl⟩
  · have e0 : dataR D which e f s bs = (atE D which e f s, D) := by
      unfold dataR; rw [if_pos hE]
    rw [e0]
    repeat' (first | (apply JO.ru; exact rfl; exact rfl; exact rfl; (first | (apply Ru.move; exact rfl) | (apply Ru.assign; exact rfl) | (apply Ru.neq; exact rfl; exact rfl; (first | exact ndecF (by omega) | exact ndecT (by omega))) | (apply Ru.extractN; exact rfl; exact rfl))) | refine JC.seq ?_ | refine JC.region ?_ | refine JO.nil ?_ | refine JE.thenN ?_ | refine JE.thenR ?_ | refine JE.blockR ?_ | refine JC.block ?_ | refine JC.ret ?_ | refine JC.condT rfl ?_ | (apply JO.do; exact rfl; exact rfl; exact rfl; (first | (apply Do.allocN; exact rfl) | apply Do.alloc); rintro _ _ ⟨_, rfl, rfl⟩) | (apply JO.do0; exact rfl; exact rfl; (first | (apply Do.storeAN; exact rfl; exact rfl; (repeat (first | exact Pick.here | apply Pick.there)); exact rfl; exact rfl; exact rfl; exact rfl) | (apply Do.storeA; exact rfl; exact rfl; (repeat (first | exact Pick.here | apply Pick.there)); exact rfl; exact rfl; exact rfl)); rintro _ _ ⟨rfl, rfl⟩) | (apply JE.done1; exact rfl; (first | (apply Res.tmp; exact rfl) | (apply Res.cell; exact rfl; (repeat (first | exact Pick.here | apply Pick.there)); exact rfl) | (apply Res.cellAN; exact rfl; (repeat (first | exact Pick.here | apply Pick.there)); exact rfl; exact rfl) | (apply Res.cellA; exact rfl; (repeat (first | exact Pick.here | apply Pick.there)); exact rfl; exact rfl))))
    exact ⟨diskHP d D :: l, Sat.weak (by repeat (first | exact Weak.refl | (apply Weak.cons; (first | exact Pick.here | exact Pick.there Pick.here | exact Pick.there (Pick.there Pick.here) | exact Pick.there (Pick.there (Pick.there Pick.here)) | exact Pick.there (Pick.there (Pick.there (Pick.there Pick.here))) | exact Pick.there (Pick.there (Pick.there (Pick.there (Pick.there Pick.here)))) | exact Pick.there (Pick.there (Pick.there (Pick.there (Pick.there (Pick.there Pick.here))))) | exact Pick.there (Pick.there (Pick.there (Pick.there (Pick.there (Pick.there (Pick.there Pick.here)))))))) | apply Weak.drop)), rfl, rfl⟩
end Go.Sep
/- What is done with one slot changes nothing of the other: no program in sight. -/
namespace Go.Sep
open Go Go.Proofs
/-- All that a disk has of the sectors in S stays as it is; none of them is cached. -/
structure Kept (S : Nat → Prop) (D E : DiskN) : Prop where
  wf : E.WF
  size : E.size = D.size
  count : E.count = D.count
  plan : E.planned = D.planned
  look : ∀ j, S j → j < D.count → lookI E.cached (j : Int) = none
  sec : ∀ j, S j → j < D.count → E.sector j = D.sector j
  ops : D.ops ≤ E.ops
section
variable {S : Nat → Prop} {D E : DiskN}
theorem Kept.tick (h : Kept S D E) : Kept S D E.tick := ⟨h.wf.tick, h.size, h.count, h.plan, h.look, h.sec, Nat.le_succ_of_le h.ops⟩
theorem Kept.put (h : Kept S D E) {i : Nat} {bs : List UInt8} (hi : i < E.count) (hb : bs.length = E.size) (hs : ¬ S i) : Kept S D (E.put (i : Int) bs) := by
  refine ⟨h.wf.put (by omega) (by omega) hb, h.size, h.count, h.plan, fun j hj hc => ?_, h.sec, Nat.le_succ_of_le h.ops⟩
  show lookI (updI E.cached (i : Int) bs) (j : Int) = none
  rw [lookI_updI, if_neg, h.look j hj hc]
  intro e
  have : j = i := by omega
  subst this; exact hs hj
theorem Kept.crash (h : Kept S D E) (ts : List TearN) : Kept S D (E.crash ts) := by
  obtain ⟨a1, a2, a3, a4, a5, a6, a7⟩ := crash_facts h.wf ts
  refine ⟨a1, a2.trans h.size, a3.trans h.count, a6.trans h.plan, fun j _ _ => by rw [a7]; rfl, fun j hj hc => ?_, by rw [a4]; exact h.ops⟩
  rw [crash_sector h.wf ts (by rw [h.count]; exact hc) (h.look j hj hc), h.sec j hj hc]
theorem Kept.cur (h : Kept S D E) {j : Nat} (hs : S j) (hc : j < D.count) : E.cur j = D.sector j := by
  unfold DiskN.cur; rw [h.look j hs hc]; exact h.sec j hs hc
theorem Kept.refl (h : D.WF) (hc : D.cached = []) : Kept S D D := ⟨h, rfl, rfl, rfl, fun j _ _ => by rw [hc]; rfl, fun _ _ _ => rfl, Nat.le_refl _⟩
end
section
variable {S : Nat → Prop} {D E : DiskN} {z k fst many : Nat} {which e f s : Int}
theorem dataGo_kept : ∀ (ps : List (List UInt8)) (E : DiskN) (i : Nat), Kept S D E → (∀ j, i ≤ j → j < i + ps.length → ¬ S (fst + (1 + j))) → Kept S D (dataGo (fst : Int) i E ps).2 ∧ (dataGo (fst : Int) i E ps).2.ops ≤ E.ops + ps.length ∧ (dataGo (fst : Int) i E ps).2.writes ≤ E.writes + ps.length
  | [], E, i, h, _ => ⟨h, Nat.le_refl _, Nat.le_refl _⟩
  | x :: r, E, i, h, hs => by
    have e0 : (fst : Int) + (1 + (i : Int)) = ((fst + (1 + i) : Nat) : Int) := by omega
    rw [dataGo]
    split
    · exact ⟨h.tick, by show E.ops + 1 ≤ _; rw [List.length_cons]; omega, by show E.writes ≤ _; omega⟩
    · rename_i hw
      have hw' : E.writeE ((fst : Int) + (1 + (i : Int))) x.length = 0 := by omega
      have hz := writeE_zero hw'
      rw [e0] at hz ⊢
      obtain ⟨a1, a2, a3⟩ := dataGo_kept r (E.put ((fst + (1 + i) : Nat) : Int) x) (i + 1) (h.put (by omega) hz.2.2 (hs i (Nat.le_refl _) (by rw [List.length_cons]; omega))) (fun j h1 h2 => hs j (by omega) (by rw [List.length_cons]; omega))
      refine ⟨a1, Nat.le_trans a2 ?_, Nat.le_trans a3 ?_⟩
      · show E.ops + 1 + r.length ≤ _; rw [List.length_cons]; omega
      · show E.writes + 1 + r.length ≤ _; rw [List.length_cons]; omega
theorem data_kept (hh : Here z k which e f s fst many) (hz : D.size = z) (hk : D.count = k) (h : Kept S D E) {bs : List UInt8} (hb : (bs.length : Int) = totG e f s) (hs : ∀ j, j < many → ¬ S (fst + (1 + j))) :
    Kept S D (dataR E which e f s bs).2 ∧ (dataR E which e f s bs).2.ops ≤ E.ops + many ∧ (dataR E which e f s bs).2.writes ≤ E.writes + many := by
  have hez : E.size = z := h.size.trans hz
  have hek : E.count = k := h.count.trans hk
  have hn : (secs bs.length E.size).toNat = many := by rw [hb, hez, hh.hsecs]; omega
  unfold dataR
  rw [if_neg (by rw [hh.atE hez hek]; simp), if_neg (by rw [hb]; simp), hh.firstOf hez, hn]
  have := dataGo_kept (S := S) (D := D) (fst := fst) (pieces bs E.size many) E 0 h (fun j _ h2 => hs j (by rw [pieces_length] at h2; omega))
  rw [pieces_length] at this
  exact this
theorem seal_kept (hh : Here z k which e f s fst many) (hz : D.size = z) (hk : D.count = k) (h : Kept S D E) {bs : List UInt8} (q : Int) (hs : ¬ S fst) :
    Kept S D (sealR E which e f s q bs).2 ∧ (sealR E which e f s q bs).2.ops ≤ E.ops + 1 ∧ (sealR E which e f s q bs).2.writes ≤ E.writes + 1 := by
  have hez : E.size = z := h.size.trans hz
  have hek : E.count = k := h.count.trans hk
  have hsz := hh.hsize
  unfold sealR
  rw [if_neg (by rw [hh.atE hez hek]; simp), hh.firstOf hez]
  split
  · exact ⟨h, by simp, by simp⟩
  · split
    · exact ⟨h.tick, Nat.le_refl _, Nat.le_succ _⟩
    · refine ⟨h.put ?_ (padB_length (by rw [enc_length]; omega)) hs, Nat.le_refl _, Nat.le_refl _⟩
      have := hh.lt (j := 0) (by omega); omega
theorem wipe_kept (hh : Here z k which e f s fst many) (hz : D.size = z) (hk : D.count = k) (h : Kept S D E) (hs : ¬ S fst) :
    Kept S D (wipeR E which e f s).2 ∧ (wipeR E which e f s).2.ops ≤ E.ops + 1 ∧ (wipeR E which e f s).2.writes ≤ E.writes + 1 := by
  have hez : E.size = z := h.size.trans hz
  have hek : E.count = k := h.count.trans hk
  unfold wipeR
  rw [if_neg (by rw [hh.atE hez hek]; simp), hh.firstOf hez]
  split
  · exact ⟨h.tick, Nat.le_refl _, Nat.le_succ _⟩
  · refine ⟨h.put ?_ (padB_length (by simp)) hs, Nat.le_refl _, Nat.le_refl _⟩
    have := hh.lt (j := 0) (by omega); omega
end
/-! ### A disk on which one operation fails at most -/
theorem fail_none {D : DiskN} {n : Int} (hp : D.planned = [n]) (h : n ≤ (D.ops : Int)) (k : Nat) : (D.ticks k).failing = false := by
  unfold DiskN.failing
  show D.planned.contains (((D.ops + k : Nat) : Int) + 1) = false
  rw [hp]
  simp
  omega
theorem readE_cases {D : DiskN} {z k : Nat} (hk : D.count = k) {i : Nat} (hi : i < k) : (D.readE (i : Int) = 0 ∧ D.failing = false) ∨ (D.readE (i : Int) = 3 ∧ D.failing = true) := by
  unfold DiskN.readE
  by_cases h : D.failing = true
  · rw [if_pos h]; exact .inr ⟨rfl, h⟩
  · rw [if_neg h, if_neg (by omega)]; exact .inl ⟨rfl, by simpa using h⟩
theorem fail_at {D : DiskN} {n : Int} (hp : D.planned = [n]) (h : D.failing = true) : n = (D.ops : Int) + 1 := by
  unfold DiskN.failing at h
  rw [hp] at h
  simp at h
  omega
/-- A slot that is good is read as it is, or the operation fails. -/
theorem read_maybe {D : DiskN} {z k fst many : Nat} {which e f s : Int} (hh : Here z k which e f s fst many) (hwf : D.WF) (hz : D.size = z) (hk : D.count = k) {n : Int} (hp : D.planned = [n]) {bs : List UInt8} {q : Int} (hq : 0 ≤ q ∧ q < 18446744073709551616) (hb : (bs.length : Int) = totG e f s)
    (hc : D.cur fst = padB (enc (sealHead bs e f s q)) z) (hi : ImgIs D fst many bs) :
    readR D which e f s = (0, D.ticks (1 + many), ⟨2, 0, q, bs⟩) ∨ (∃ j, j ≤ 1 + many ∧ readR D which e f s = (3, D.ticks j, .zero) ∧ n ≤ ((D.ticks j).ops : Int)) ∧ (D.ops : Int) < n := by
  have hl := hh.lt (j := 0) (by omega)
  have hsz := hh.hsize
  have hcs := crcSum_bd bs
  have hright : (sealHead bs e f s q).right = true := by simp [HeadN.right, sealHead, hh.hright, hb]
  obtain ⟨d1, d2⟩ := dec_enc hright hq hcs (m := z) (by omega)
  have hbody := body_of hh hz hb hi
  have hroom : bs.length ≤ many * z := by
    have := hh.room'
    rw [← hb, ← Int.natCast_mul] at this
    omega
  have ht : D.tick = D.ticks 1 := rfl
  rcases readE_cases (z := z) hk (i := fst) (by omega) with ⟨r1, _⟩ | ⟨r1, r2⟩
  · have e0 : readR D which e f s = bodyR D.tick (fst : Int) many (sealHead bs e f s q) := by
      unfold readR
      rw [if_neg (by rw [hh.atE hz hk]; simp), hh.firstOf hz, if_neg (by rw [r1]; simp), Int.toNat_natCast, hc, d1, d2, if_neg (by simp), if_pos ⟨rfl, rfl, rfl⟩, hh.manyOf hz]
    rw [e0]
    unfold bodyR
    rcases badK_cases D.tick (fst : Int) many with ⟨b1, _⟩ | ⟨j, b1, b2, b3, b4⟩
    · left
      rw [b1]
      have hb2 : D.tick.body (fst : Int) many = padB bs (many * z) := hbody
      have hlen : (sealHead bs e f s q).len = (bs.length : Int) := rfl
      have hsum : (sealHead bs e f s q).sum = crcSum bs := rfl
      have hsq : (sealHead bs e f s q).seq = q := rfl
      dsimp only
      rw [hb2, hlen, hsum, hsq, padB_length hroom, if_pos ⟨by omega, by omega⟩, Int.toNat_natCast, padB_take, if_pos rfl]
      show (_, ({ D with ops := D.ops + 1 + many } : DiskN), _) = (_, ({ D with ops := D.ops + (1 + many) } : DiskN), _)
      rw [Nat.add_assoc]
    · right
      rw [b1]
      have hlt := hh.lt (j := 1 + j) (by omega)
      have e1 : (fst : Int) + (1 + (j : Int)) = ((fst + (1 + j) : Nat) : Int) := by omega
      have b5 : bodyE D.tick (fst : Int) j = (D.tick.ticks j).readE ((fst + (1 + j) : Nat) : Int) := by unfold bodyE; rw [e1]
      rcases readE_cases (z := z) (D := D.tick.ticks j) hk hlt with ⟨r3, _⟩ | ⟨r3, r4⟩
      · rw [b5, r3] at b4; exact absurd rfl b4
      · have hn := fail_at (D := D.tick.ticks j) hp r4
        have hn' : n = ((D.ops + 1 + j : Nat) : Int) + 1 := hn
        refine ⟨⟨1 + (j + 1), by omega, ?_, ?_⟩, by omega⟩
        · dsimp only
          rw [b5, r3]
          show (_, ({ D with ops := D.ops + 1 + (j + 1) } : DiskN), _) = (_, ({ D with ops := D.ops + (1 + (j + 1)) } : DiskN), _)
          rw [Nat.add_assoc]
        · show n ≤ ((D.ops + (1 + (j + 1)) : Nat) : Int)
          omega
  · right
    have hn := fail_at hp r2
    refine ⟨⟨1, by omega, ?_, ?_⟩, by omega⟩
    · unfold readR
      rw [if_neg (by rw [hh.atE hz hk]; simp), hh.firstOf hz, if_pos (by rw [r1]; simp), r1]; rfl
    · show n ≤ ((D.ops + 1 : Nat) : Int); omega
end Go.Sep
/- slot: read. -/
namespace Go.Sep
open Go Go.Proofs
attribute [local irreducible] JO JC JE JA JQ JB JI Mid Inv Weak ownS Ru Do Fn Sat Pick Take arr pt star ex Holds bodyPost Post Exit.then Exit.inBlock Res
variable {σ : Sig} {F : List HP}
attribute [local irreducible] diskHP cacheHP planHP rowHP
abbrev slotV (s : SlotN) (u : Value) : Value := .agg #[int s.state, int s.why, u64 s.seq, u]
theorem atE_span {D : DiskN} {which e f s : Int} (hD : D.WF) (h : atE D which e f s = 0) : ∃ m : Nat, spanG D.size e f s - 1 = m ∧ manyOf D e f s = m ∧ m ≤ 4096 := by
  have hr := atE_right h
  have hsp := spanG_bd D.size e f s
  unfold atE at h
  rw [if_neg (by rw [hr]; simp)] at h
  split at h
  · cases h
  · rename_i h2
    split at h
    · cases h
    · rename_i h3
      have h1 : 1 ≤ spanG D.size e f s := by
        have hz := hD.hz2
        unfold spanG
        have := secs_bd (m := totG e f s) (s := (D.size : Int)) (totG_bd e f s).1
        rw [if_pos ⟨hr, by omega, by omega⟩]; omega
      have hc := hD.cnt
      exact ⟨(spanG D.size e f s - 1).toNat, by omega, rfl, by omega⟩
theorem finU0 {post : Value → List HP → Prop} {v : Value} {l l' : List HP} (k : Weak l l') (h : post v (bytesHP (.slice none 0 0) [] :: l')) : fin post v l σ :=
  ⟨_, fun w s => Sat.ownS_nil (Sat.weak k w s), h⟩
theorem readE_zero {D : DiskN} {i : Int} (h : D.readE i = 0) : 0 ≤ i ∧ i < D.count := by
  unfold DiskN.readE at h
  split at h
  · cases h
  · split at h
    · cases h
    · omega
set_option maxHeartbeats 4000000 in
theorem slot_Read (d : Nat) (D : DiskN) (which e f s : Int) (hD : D.WF) (ho : D.ops ≤ 100000000000) [hg : InG F] :
    Fn Tryz.prog σ 22 #[.pointer (some ⟨d, 0, none⟩), int which, geoV e f s] (diskHP d D :: F)
      (fun v l' => ∃ u, v = .tuple #[slotV (readR D which e f s).2.2 u, int (readR D which e f s).1] ∧ l' = bytesHP u (readR D which e f s).2.2.image :: diskHP d (readR D which e f s).2.1 :: F) := by
  refine Fn.of Tryz.func22 rfl Tryz.ntmps22 rfl ?_
  repeat' (first | (apply JO.ru; exact rfl; exact rfl; exact rfl; (first | (apply Ru.move; exact rfl) | (apply Ru.assign; exact rfl) | (apply Ru.loadAN; exact rfl; (repeat (first | exact Pick.here | apply Pick.there)); exact rfl; exact rfl))) | refine JC.seq ?_ | refine JC.region ?_ | refine JO.nil ?_ | refine JE.thenN ?_ | (apply JO.do; exact rfl; exact rfl; exact rfl; (first | (apply Do.allocN; exact rfl) | apply Do.alloc); rintro _ _ ⟨_, rfl, rfl⟩) | (apply JO.do; exact rfl; exact rfl; exact rfl; (first | (apply Do.boxN; exact rfl; exact rfl) | (apply Do.box; exact rfl)); rintro _ _ ⟨_, rfl, rfl⟩))
  rename_i gb ob
  refine JO.heap (Sat.weak (l' := diskHP d D :: arr ob 46 [int 0, int 0, u64 0, .slice none 0 0] :: arr gb 23 [int e, int f, int s] :: F) (by repeat (first | exact Weak.refl | (apply Weak.cons; (first | exact Pick.here | exact Pick.there Pick.here | exact Pick.there (Pick.there Pick.here) | exact Pick.there (Pick.there (Pick.there Pick.here)) | exact Pick.there (Pick.there (Pick.there (Pick.there Pick.here))) | exact Pick.there (Pick.there (Pick.there (Pick.there (Pick.there Pick.here)))) | exact Pick.there (Pick.there (Pick.there (Pick.there (Pick.there (Pick.there Pick.here))))) | exact Pick.there (Pick.there (Pick.there (Pick.there (Pick.there (Pick.there (Pick.there Pick.here)))))))) | apply Weak.drop))) ?_
  (apply JO.do; exact rfl; exact rfl; exact rfl; (apply Do.call; exact rfl; exact slot_at d D which e f s hD); rintro _ _ (⟨hE, db, fb, rfl, rfl⟩ | ⟨hE, rfl, rfl⟩))
  · have hfi := atE_first hE
    obtain ⟨m, hm1, hm2, hm3⟩ := atE_span hD hE
    obtain ⟨fi, hfe⟩ : ∃ fi, which * spanG D.size e f s = fi := ⟨_, rfl⟩
    have hfe2 : firstOf D which e f s = fi := hfe
    rw [hfe] at hfi ⊢
    rw [hm1]
    repeat' (first | (apply JO.ru; exact rfl; exact rfl; exact rfl; (first | (apply Ru.move; exact rfl) | (apply Ru.loadN; exact rfl; (repeat (first | exact Pick.here | apply Pick.there)); exact rfl) | (apply Ru.fieldAddr; exact rfl) | (apply Ru.assign; exact rfl) | (apply Ru.neq; exact rfl; exact rfl; (first | exact ndecF (by omega) | exact ndecT (by omega))) | (apply Ru.extractN; exact rfl; exact rfl))) | refine JC.seq ?_ | refine JC.region ?_ | refine JO.nil ?_ | refine JE.thenN ?_ | refine JC.skip ?_ | refine JC.condF rfl ?_ | (apply JO.do; exact rfl; exact rfl; exact rfl; (first | (apply Do.allocN; exact rfl) | apply Do.alloc); rintro _ _ ⟨_, rfl, rfl⟩) | (apply JO.do0; exact rfl; exact rfl; (first | (apply Do.storeAN; exact rfl; exact rfl; (repeat (first | exact Pick.here | apply Pick.there)); exact rfl; exact rfl; exact rfl; exact rfl) | (apply Do.storeA; exact rfl; exact rfl; (repeat (first | exact Pick.here | apply Pick.there)); exact rfl; exact rfl; exact rfl)); rintro _ _ ⟨rfl, rfl⟩))
    rename_i pb
    refine JO.heap (Sat.weak (l' := slotL d D db fb fi (arr pb 105 [int m, int D.size, rdV db fb, wrV db fb] :: arr ob 46 [int 0, int 0, u64 0, .slice none 0 0] :: arr gb 23 [int e, int f, int s] :: F)) (by repeat (first | exact Weak.refl | (apply Weak.cons; (first | exact Pick.here | exact Pick.there Pick.here | exact Pick.there (Pick.there Pick.here) | exact Pick.there (Pick.there (Pick.there Pick.here)) | exact Pick.there (Pick.there (Pick.there (Pick.there Pick.here))) | exact Pick.there (Pick.there (Pick.there (Pick.there (Pick.there Pick.here)))) | exact Pick.there (Pick.there (Pick.there (Pick.there (Pick.there (Pick.there Pick.here))))) | exact Pick.there (Pick.there (Pick.there (Pick.there (Pick.there (Pick.there (Pick.there Pick.here)))))))) | apply Weak.drop))) ?_
    have hrd := slot_rd (σ := σ) d D db fb fi 0 hD (by omega) (by omega) (F := arr pb 105 [int m, int D.size, rdV db fb, wrV db fb] :: arr ob 46 [int 0, int 0, u64 0, .slice none 0 0] :: arr gb 23 [int e, int f, int s] :: F)
    rw [Int.add_zero] at hrd
    (apply JO.do; exact rfl; exact rfl; exact rfl; (apply Do.callV (f := 104); exact rfl; exact rfl; exact hrd); rintro _ _ (⟨hR, u, rfl, rfl⟩ | ⟨hR, rfl, rfl⟩))
    · refine JO.ownR Pick.here fun hru _ _ => ?_
      repeat' (first | (apply JO.ru; exact rfl; exact rfl; exact rfl; (first | (apply Ru.move; exact rfl) | (apply Ru.assign; exact rfl) | (apply Ru.neq; exact rfl; exact rfl; (first | exact ndecF (by omega) | exact ndecT (by omega))) | (apply Ru.extractN; exact rfl; exact rfl))) | refine JC.seq ?_ | refine JC.region ?_ | refine JO.nil ?_ | refine JE.thenN ?_ | refine JC.skip ?_ | refine JC.condF rfl ?_)
      obtain ⟨bs, hbs⟩ : ∃ bs, D.cur fi.toNat = bs := ⟨_, rfl⟩
      rw [hbs] at hru ⊢
      have hbl : bs.length ≤ 100000000 := by
        have h1 := readE_zero hR
        have h2 := hD.cur (i := fi.toNat) (by omega)
        have h3 := hD.hz2
        rw [hbs] at h2; omega
      (apply JO.do; exact rfl; exact rfl; exact rfl; (apply Do.call; exact rfl; exact head_Decode u bs hbl hru); rintro _ _ ⟨rfl, rfl⟩)
      obtain ⟨H, hH⟩ : ∃ H, decH bs = H := ⟨_, rfl⟩
      rw [hH]
      obtain ⟨he, hf, hs, hlen, hq, hsum⟩ := H
      unfold HeadN.val
      dsimp only
      repeat' (first | (apply JO.ru; exact rfl; exact rfl; exact rfl; (first | (apply Ru.move; exact rfl) | (apply Ru.fieldAddr; exact rfl) | (apply Ru.assign; exact rfl) | (apply Ru.extractN; exact rfl; exact rfl) | (apply Ru.loadAN; exact rfl; (repeat (first | exact Pick.here | apply Pick.there)); exact rfl; exact rfl) | (apply Ru.buildN; exact rfl; exact rfl))) | refine JC.seq ?_ | refine JC.region ?_ | refine JO.nil ?_ | refine JE.thenN ?_ | refine JE.thenR ?_ | refine JE.blockR ?_ | refine JC.block ?_ | refine JC.ret ?_ | refine JC.condT rfl ?_ | refine JC.condF rfl ?_ | (apply JO.splitN; exact rfl; exact rfl; exact rfl; (apply Ru.neq; exact rfl; exact rfl; exact rfl); all_goals intro _) | (apply JO.do; exact rfl; exact rfl; exact rfl; (first | (apply Do.allocN; exact rfl) | apply Do.alloc); rintro _ _ ⟨_, rfl, rfl⟩) | (apply JO.do0; exact rfl; exact rfl; (first | (apply Do.storeAN; exact rfl; exact rfl; (repeat (first | exact Pick.here | apply Pick.there)); exact rfl; exact rfl; exact rfl; exact rfl) | (apply Do.storeA; exact rfl; exact rfl; (repeat (first | exact Pick.here | apply Pick.there)); exact rfl; exact rfl; exact rfl)); rintro _ _ ⟨rfl, rfl⟩) | (apply JE.done2; exact rfl; (first | (apply Res.tmp; exact rfl) | (apply Res.cell; exact rfl; (repeat (first | exact Pick.here | apply Pick.there)); exact rfl) | (apply Res.cellAN; exact rfl; (repeat (first | exact Pick.here | apply Pick.there)); exact rfl; exact rfl) | (apply Res.cellA; exact rfl; (repeat (first | exact Pick.here | apply Pick.there)); exact rfl; exact rfl)); (first | (apply Res.tmp; exact rfl) | (apply Res.cell; exact rfl; (repeat (first | exact Pick.here | apply Pick.there)); exact rfl) | (apply Res.cellAN; exact rfl; (repeat (first | exact Pick.here | apply Pick.there)); exact rfl; exact rfl) | (apply Res.cellA; exact rfl; (repeat (first | exact Pick.here | apply Pick.there)); exact rfl; exact rfl))))
      · rename_i hb heq
        by_cases hG : he = e ∧ hf = f ∧ hs = s
        · obtain ⟨rfl, rfl, rfl⟩ := hG
          (apply JO.ru; exact rfl; exact rfl; exact rfl; (apply Ru.neqF (b := true); exact rfl; exact rfl; simp [eqVs, eqV]))
          repeat' (first | (apply JO.ru; exact rfl; exact rfl; exact rfl; (first | (apply Ru.loadN; exact rfl; (repeat (first | exact Pick.here | apply Pick.there)); exact rfl) | (apply Ru.fieldAddr; exact rfl) | (apply Ru.assign; exact rfl) | (apply Ru.loadAN; exact rfl; (repeat (first | exact Pick.here | apply Pick.there)); exact rfl; exact rfl))) | refine JC.seq ?_ | refine JC.region ?_ | refine JO.nil ?_ | refine JE.thenN ?_ | refine JE.blockN ?_ | refine JC.skip ?_ | refine JC.condF rfl ?_)
          have e0 : readR D which he hf hs = bodyR D.tick fi m ⟨he, hf, hs, hlen, hq, hsum⟩ := by
            unfold readR
            rw [if_neg (by rw [hE]; simp), hfe2, if_neg (by simpa using hR), hbs, if_neg (by simpa using heq), hH, if_pos ⟨rfl, rfl, rfl⟩, hm2]
          rw [e0]
          refine JO.heap (Sat.weak (l' := slotL d D.tick db fb fi (arr hb 114 [int he, int hf, int hs, int hlen, u64 hq, u32 hsum] :: arr ob 46 [int 0, int 0, u64 0, .slice none 0 0] :: F)) (by repeat (first | exact Weak.refl | (apply Weak.cons; (first | exact Pick.here | exact Pick.there Pick.here | exact Pick.there (Pick.there Pick.here) | exact Pick.there (Pick.there (Pick.there Pick.here)) | exact Pick.there (Pick.there (Pick.there (Pick.there Pick.here))) | exact Pick.there (Pick.there (Pick.there (Pick.there (Pick.there Pick.here)))) | exact Pick.there (Pick.there (Pick.there (Pick.there (Pick.there (Pick.there Pick.here))))) | exact Pick.there (Pick.there (Pick.there (Pick.there (Pick.there (Pick.there (Pick.there Pick.here)))))))) | apply Weak.drop))) ?_
          have hwh := place_whole (σ := σ) d D.tick db fb fi hlen m hD.tick (by show D.ops + 1 + m ≤ _; omega) hm3 hfi (F := arr hb 114 [int he, int hf, int hs, int hlen, u64 hq, u32 hsum] :: arr ob 46 [int 0, int 0, u64 0, .slice none 0 0] :: F)
          (apply JO.do; exact rfl; exact rfl; exact rfl; (apply Do.call; exact rfl; exact hwh); rintro _ _ (⟨k, hk1, hk2, hk3, rfl, rfl⟩ | ⟨hk, (⟨hl0, hl1, u2, rfl, rfl⟩ | ⟨hl, rfl, rfl⟩)⟩))
          · have e1 : bodyR D.tick fi m ⟨he, hf, hs, hlen, hq, hsum⟩ = (bodyE D.tick fi k, D.tick.ticks (k + 1), .zero) := by
              unfold bodyR; rw [badK_some hk1 hk2 hk3]
            rw [e1]
            repeat' (first | (apply JO.ru; exact rfl; exact rfl; exact rfl; (first | (apply Ru.move; exact rfl) | (apply Ru.assign; exact rfl) | (apply Ru.neq; exact rfl; exact rfl; (first | exact ndecF (by omega) | exact ndecT (by omega))) | (apply Ru.extractN; exact rfl; exact rfl) | (apply Ru.buildN; exact rfl; exact rfl))) | refine JC.seq ?_ | refine JC.region ?_ | refine JO.nil ?_ | refine JE.thenN ?_ | refine JE.thenR ?_ | refine JE.blockR ?_ | refine JC.block ?_ | refine JC.ret ?_ | refine JC.condT rfl ?_ | (apply JO.do0; exact rfl; exact rfl; (first | (apply Do.storeAN; exact rfl; exact rfl; (repeat (first | exact Pick.here | apply Pick.there)); exact rfl; exact rfl; exact rfl; exact rfl) | (apply Do.storeA; exact rfl; exact rfl; (repeat (first | exact Pick.here | apply Pick.there)); exact rfl; exact rfl; exact rfl)); rintro _ _ ⟨rfl, rfl⟩) | (apply JE.done2; exact rfl; (first | (apply Res.tmp; exact rfl) | (apply Res.cell; exact rfl; (repeat (first | exact Pick.here | apply Pick.there)); exact rfl) | (apply Res.cellAN; exact rfl; (repeat (first | exact Pick.here | apply Pick.there)); exact rfl; exact rfl) | (apply Res.cellA; exact rfl; (repeat (first | exact Pick.here | apply Pick.there)); exact rfl; exact rfl)); (first | (apply Res.tmp; exact rfl) | (apply Res.cell; exact rfl; (repeat (first | exact Pick.here | apply Pick.there)); exact rfl) | (apply Res.cellAN; exact rfl; (repeat (first | exact Pick.here | apply Pick.there)); exact rfl; exact rfl) | (apply Res.cellA; exact rfl; (repeat (first | exact Pick.here | apply Pick.there)); exact rfl; exact rfl))))
            exact finU0 (l' := diskHP d (D.tick.ticks (k + 1)) :: F) (by repeat (first | exact Weak.refl | (apply Weak.cons; (first | exact Pick.here | exact Pick.there Pick.here | exact Pick.there (Pick.there Pick.here) | exact Pick.there (Pick.there (Pick.there Pick.here)) | exact Pick.there (Pick.there (Pick.there (Pick.there Pick.here))) | exact Pick.there (Pick.there (Pick.there (Pick.there (Pick.there Pick.here)))) | exact Pick.there (Pick.there (Pick.there (Pick.there (Pick.there (Pick.there Pick.here))))) | exact Pick.there (Pick.there (Pick.there (Pick.there (Pick.there (Pick.there (Pick.there Pick.here)))))))) | apply Weak.drop)) ⟨_, rfl, rfl⟩
          · have hbl2 := body_len hD.tick hfi.1 m hk
            have hms : m * D.tick.size ≤ 4096 * 4096 := Nat.mul_le_mul hm3 hD.hz2
            obtain ⟨img, himg⟩ : ∃ img, (D.tick.body fi m).take hlen.toNat = img := ⟨_, rfl⟩
            have hil : img.length = hlen.toNat := by rw [← himg, List.length_take]; omega
            have e1 : bodyR D.tick fi m ⟨he, hf, hs, hlen, hq, hsum⟩ = if crcSum img = hsum then (0, D.tick.ticks m, ⟨2, 0, hq, img⟩) else (0, D.tick.ticks m, ⟨0, 8, 0, []⟩) := by
              unfold bodyR; rw [badK_none hk]; dsimp only; rw [if_pos ⟨hl0, hl1⟩, himg]
            rw [himg, ← hil]
            refine JO.ownR Pick.here fun hri _ hsh => ?_
            rcases hsh with ⟨rfl, _⟩ | ⟨bu, cu, rfl, _⟩
            all_goals
              repeat' (first | (first | (apply JO.ru; exact rfl; exact rfl; exact rfl; (first | (apply Ru.move; exact rfl) | (apply Ru.loadN; exact rfl; (repeat (first | exact Pick.here | apply Pick.there)); exact rfl) | (apply Ru.fieldAddr; exact rfl) | (apply Ru.assign; exact rfl) | (apply Ru.neq; exact rfl; exact rfl; (first | exact ndecF (by omega) | exact ndecT (by omega))) | (apply Ru.extractN; exact rfl; exact rfl) | (apply Ru.buildN; exact rfl; exact rfl))) | refine JC.seq ?_ | refine JC.region ?_ | refine JO.nil ?_ | refine JE.thenN ?_ | refine JE.thenR ?_ | refine JE.blockN ?_ | refine JE.blockR ?_ | refine JC.block ?_ | refine JC.ret ?_ | refine JC.skip ?_ | refine JC.condT rfl ?_ | refine JC.condF rfl ?_ | (apply JQ.ru; exact rfl; exact rfl; exact rfl; (first | (apply Ru.move; exact rfl) | (apply Ru.loadN; exact rfl; (repeat (first | exact Pick.here | apply Pick.there)); exact rfl) | (apply Ru.fieldAddr; exact rfl) | (apply Ru.assign; exact rfl))) | (apply JQ.splitN; exact rfl; exact rfl; exact rfl; (apply Ru.neq; exact rfl; exact rfl; exact rfl); all_goals intro _) | refine JQ.nil ?_ | (apply JO.do0; exact rfl; exact rfl; (first | (apply Do.storeAN; exact rfl; exact rfl; (repeat (first | exact Pick.here | apply Pick.there)); exact rfl; exact rfl; exact rfl; exact rfl) | (apply Do.storeA; exact rfl; exact rfl; (repeat (first | exact Pick.here | apply Pick.there)); exact rfl; exact rfl; exact rfl)); rintro _ _ ⟨rfl, rfl⟩) | refine JC.regionQ mixed (by decide +kernel) ?_ | (apply JE.done2; exact rfl; (first | (apply Res.tmp; exact rfl) | (apply Res.cell; exact rfl; (repeat (first | exact Pick.here | apply Pick.there)); exact rfl) | (apply Res.cellAN; exact rfl; (repeat (first | exact Pick.here | apply Pick.there)); exact rfl; exact rfl) | (apply Res.cellA; exact rfl; (repeat (first | exact Pick.here | apply Pick.there)); exact rfl; exact rfl)); (first | (apply Res.tmp; exact rfl) | (apply Res.cell; exact rfl; (repeat (first | exact Pick.here | apply Pick.there)); exact rfl) | (apply Res.cellAN; exact rfl; (repeat (first | exact Pick.here | apply Pick.there)); exact rfl; exact rfl) | (apply Res.cellA; exact rfl; (repeat (first | exact Pick.here | apply Pick.there)); exact rfl; exact rfl)))) | (apply JQ.call; exact rfl; exact rfl; exact rfl; exact crc_Sum _ img (by omega) hri; (rintro _ _ ⟨rfl, rfl⟩; exact ⟨rfl, rfl⟩)))
              · rename_i hc
                rw [if_pos hc] at e1
                rw [e1]
                exact ⟨bytesHP _ img :: diskHP d (D.tick.ticks m) :: F, Sat.weak (by repeat (first | exact Weak.refl | (apply Weak.cons; (first | exact Pick.here | exact Pick.there Pick.here | exact Pick.there (Pick.there Pick.here) | exact Pick.there (Pick.there (Pick.there Pick.here)) | exact Pick.there (Pick.there (Pick.there (Pick.there Pick.here))) | exact Pick.there (Pick.there (Pick.there (Pick.there (Pick.there Pick.here)))) | exact Pick.there (Pick.there (Pick.there (Pick.there (Pick.there (Pick.there Pick.here))))) | exact Pick.there (Pick.there (Pick.there (Pick.there (Pick.there (Pick.there (Pick.there Pick.here)))))))) | apply Weak.drop)), _, rfl, rfl⟩
              · rename_i hc
                rw [if_neg hc] at e1
                rw [e1]
                exact finU0 (l' := diskHP d (D.tick.ticks m) :: F) (by repeat (first | exact Weak.refl | (apply Weak.cons; (first | exact Pick.here | exact Pick.there Pick.here | exact Pick.there (Pick.there Pick.here) | exact Pick.there (Pick.there (Pick.there Pick.here)) | exact Pick.there (Pick.there (Pick.there (Pick.there Pick.here))) | exact Pick.there (Pick.there (Pick.there (Pick.there (Pick.there Pick.here)))) | exact Pick.there (Pick.there (Pick.there (Pick.there (Pick.there (Pick.there Pick.here))))) | exact Pick.there (Pick.there (Pick.there (Pick.there (Pick.there (Pick.there (Pick.there Pick.here)))))))) | apply Weak.drop)) ⟨_, rfl, rfl⟩
          · have e1 : bodyR D.tick fi m ⟨he, hf, hs, hlen, hq, hsum⟩ = (1, D.tick.ticks m, .zero) := by
              unfold bodyR; rw [badK_none hk]; dsimp only; rw [if_neg hl]
            rw [e1]
            repeat' (first | (apply JO.ru; exact rfl; exact rfl; exact rfl; (first | (apply Ru.move; exact rfl) | (apply Ru.assign; exact rfl) | (apply Ru.neq; exact rfl; exact rfl; (first | exact ndecF (by omega) | exact ndecT (by omega))) | (apply Ru.extractN; exact rfl; exact rfl) | (apply Ru.buildN; exact rfl; exact rfl))) | refine JC.seq ?_ | refine JC.region ?_ | refine JO.nil ?_ | refine JE.thenN ?_ | refine JE.thenR ?_ | refine JE.blockR ?_ | refine JC.block ?_ | refine JC.ret ?_ | refine JC.condT rfl ?_ | (apply JO.do0; exact rfl; exact rfl; (first | (apply Do.storeAN; exact rfl; exact rfl; (repeat (first | exact Pick.here | apply Pick.there)); exact rfl; exact rfl; exact rfl; exact rfl) | (apply Do.storeA; exact rfl; exact rfl; (repeat (first | exact Pick.here | apply Pick.there)); exact rfl; exact rfl; exact rfl)); rintro _ _ ⟨rfl, rfl⟩) | (apply JE.done2; exact rfl; (first | (apply Res.tmp; exact rfl) | (apply Res.cell; exact rfl; (repeat (first | exact Pick.here | apply Pick.there)); exact rfl) | (apply Res.cellAN; exact rfl; (repeat (first | exact Pick.here | apply Pick.there)); exact rfl; exact rfl) | (apply Res.cellA; exact rfl; (repeat (first | exact Pick.here | apply Pick.there)); exact rfl; exact rfl)); (first | (apply Res.tmp; exact rfl) | (apply Res.cell; exact rfl; (repeat (first | exact Pick.here | apply Pick.there)); exact rfl) | (apply Res.cellAN; exact rfl; (repeat (first | exact Pick.here | apply Pick.there)); exact rfl; exact rfl) | (apply Res.cellA; exact rfl; (repeat (first | exact Pick.here | apply Pick.there)); exact rfl; exact rfl))))
            exact finU0 (l' := diskHP d (D.tick.ticks m) :: F) (by repeat (first | exact Weak.refl | (apply Weak.cons; (first | exact Pick.here | exact Pick.there Pick.here | exact Pick.there (Pick.there Pick.here) | exact Pick.there (Pick.there (Pick.there Pick.here)) | exact Pick.there (Pick.there (Pick.there (Pick.there Pick.here))) | exact Pick.there (Pick.there (Pick.there (Pick.there (Pick.there Pick.here)))) | exact Pick.there (Pick.there (Pick.there (Pick.there (Pick.there (Pick.there Pick.here))))) | exact Pick.there (Pick.there (Pick.there (Pick.there (Pick.there (Pick.there (Pick.there Pick.here)))))))) | apply Weak.drop)) ⟨_, rfl, rfl⟩
        · (apply JO.ru; exact rfl; exact rfl; exact rfl; (apply Ru.neqF (b := false); exact rfl; exact rfl; (simp [eqVs, eqV]; omega)))
          repeat' (first | (apply JO.ru; exact rfl; exact rfl; exact rfl; (first | (apply Ru.assign; exact rfl) | (apply Ru.buildN; exact rfl; exact rfl))) | refine JC.seq ?_ | refine JC.region ?_ | refine JO.nil ?_ | refine JE.thenN ?_ | refine JE.thenR ?_ | refine JE.blockR ?_ | refine JC.ret ?_ | refine JC.condT rfl ?_ | (apply JO.do0; exact rfl; exact rfl; (first | (apply Do.storeAN; exact rfl; exact rfl; (repeat (first | exact Pick.here | apply Pick.there)); exact rfl; exact rfl; exact rfl; exact rfl) | (apply Do.storeA; exact rfl; exact rfl; (repeat (first | exact Pick.here | apply Pick.there)); exact rfl; exact rfl; exact rfl)); rintro _ _ ⟨rfl, rfl⟩) | (apply JE.done2; exact rfl; (first | (apply Res.tmp; exact rfl) | (apply Res.cell; exact rfl; (repeat (first | exact Pick.here | apply Pick.there)); exact rfl) | (apply Res.cellAN; exact rfl; (repeat (first | exact Pick.here | apply Pick.there)); exact rfl; exact rfl) | (apply Res.cellA; exact rfl; (repeat (first | exact Pick.here | apply Pick.there)); exact rfl; exact rfl)); (first | (apply Res.tmp; exact rfl) | (apply Res.cell; exact rfl; (repeat (first | exact Pick.here | apply Pick.there)); exact rfl) | (apply Res.cellAN; exact rfl; (repeat (first | exact Pick.here | apply Pick.there)); exact rfl; exact rfl) | (apply Res.cellA; exact rfl; (repeat (first | exact Pick.here | apply Pick.there)); exact rfl; exact rfl))))
          have e0 : readR D which e f s = (0, D.tick, ⟨1, 0, 0, []⟩) := by
            unfold readR
            rw [if_neg (by rw [hE]; simp), hfe2, if_neg (by simpa using hR), hbs, if_neg (by simpa using heq), hH, if_neg hG]
          rw [e0]
          exact finU0 (l' := diskHP d D.tick :: F) (by repeat (first | exact Weak.refl | (apply Weak.cons; (first | exact Pick.here | exact Pick.there Pick.here | exact Pick.there (Pick.there Pick.here) | exact Pick.there (Pick.there (Pick.there Pick.here)) | exact Pick.there (Pick.there (Pick.there (Pick.there Pick.here))) | exact Pick.there (Pick.there (Pick.there (Pick.there (Pick.there Pick.here)))) | exact Pick.there (Pick.there (Pick.there (Pick.there (Pick.there (Pick.there Pick.here))))) | exact Pick.there (Pick.there (Pick.there (Pick.there (Pick.there (Pick.there (Pick.there Pick.here)))))))) | apply Weak.drop)) ⟨_, rfl, rfl⟩
      · rename_i hb heq
        have e0 : readR D which e f s = (0, D.tick, ⟨0, decE bs, 0, []⟩) := by
          unfold readR
          rw [if_neg (by rw [hE]; simp), hfe2, if_neg (by simpa using hR), hbs, if_pos heq]
        rw [e0]
        exact finU0 (l' := diskHP d D.tick :: F) (by repeat (first | exact Weak.refl | (apply Weak.cons; (first | exact Pick.here | exact Pick.there Pick.here | exact Pick.there (Pick.there Pick.here) | exact Pick.there (Pick.there (Pick.there Pick.here)) | exact Pick.there (Pick.there (Pick.there (Pick.there Pick.here))) | exact Pick.there (Pick.there (Pick.there (Pick.there (Pick.there Pick.here)))) | exact Pick.there (Pick.there (Pick.there (Pick.there (Pick.there (Pick.there Pick.here))))) | exact Pick.there (Pick.there (Pick.there (Pick.there (Pick.there (Pick.there (Pick.there Pick.here)))))))) | apply Weak.drop)) ⟨_, rfl, rfl⟩
    · have e0 : readR D which e f s = (D.readE fi, D.tick, .zero) := by
        unfold readR; rw [if_neg (by rw [hE]; simp), hfe2, if_pos hR]
      rw [e0]
      repeat' (first | (apply JO.ru; exact rfl; exact rfl; exact rfl; (first | (apply Ru.move; exact rfl) | (apply Ru.assign; exact rfl) | (apply Ru.neq; exact rfl; exact rfl; (first | exact ndecF (by omega) | exact ndecT (by omega))) | (apply Ru.extractN; exact rfl; exact rfl) | (apply Ru.buildN; exact rfl; exact rfl))) | refine JC.seq ?_ | refine JC.region ?_ | refine JO.nil ?_ | refine JE.thenN ?_ | refine JE.thenR ?_ | refine JC.ret ?_ | refine JC.condT rfl ?_ | (apply JO.do0; exact rfl; exact rfl; (first | (apply Do.storeAN; exact rfl; exact rfl; (repeat (first | exact Pick.here | apply Pick.there)); exact rfl; exact rfl; exact rfl; exact rfl) | (apply Do.storeA; exact rfl; exact rfl; (repeat (first | exact Pick.here | apply Pick.there)); exact rfl; exact rfl; exact rfl)); rintro _ _ ⟨rfl, rfl⟩) | (apply JE.done2; exact rfl; (first | (apply Res.tmp; exact rfl) | (apply Res.cell; exact rfl; (repeat (first | exact Pick.here | apply Pick.there)); exact rfl) | (apply Res.cellAN; exact rfl; (repeat (first | exact Pick.here | apply Pick.there)); exact rfl; exact rfl) | (apply Res.cellA; exact rfl; (repeat (first | exact Pick.here | apply Pick.there)); exact rfl; exact rfl)); (first | (apply Res.tmp; exact rfl) | (apply Res.cell; exact rfl; (repeat (first | exact Pick.here | apply Pick.there)); exact rfl) | (apply Res.cellAN; exact rfl; (repeat (first | exact Pick.here | apply Pick.there)); exact rfl; exact rfl) | (apply Res.cellA; exact rfl; (repeat (first | exact Pick.here | apply Pick.there)); exact rfl; exact rfl))))
      exact finU0 (l' := diskHP d D.tick :: F) (by repeat (first | exact Weak.refl | (apply Weak.cons; (first | exact Pick.here | exact Pick.there Pick.here | exact Pick.there (Pick.there Pick.here) | exact Pick.there (Pick.there (Pick.there Pick.here)) | exact Pick.there (Pick.there (Pick.there (Pick.there Pick.here))) | exact Pick.there (Pick.there (Pick.there (Pick.there (Pick.there Pick.here)))) | exact Pick.there (Pick.there (Pick.there (Pick.there (Pick.there (Pick.there Pick.here))))) | exact Pick.there (Pick.there (Pick.there (Pick.there (Pick.there (Pick.there (Pick.there Pick.here)))))))) | apply Weak.drop)) ⟨_, rfl, rfl⟩
  · have e0 : readR D which e f s = (atE D which e f s, D, .zero) := by
      unfold readR; rw [if_pos hE]
    rw [e0]
    repeat' (first | (apply JO.ru; exact rfl; exact rfl; exact rfl; (first | (apply Ru.move; exact rfl) | (apply Ru.assign; exact rfl) | (apply Ru.neq; exact rfl; exact rfl; (first | exact ndecF (by omega) | exact ndecT (by omega))) | (apply Ru.extractN; exact rfl; exact rfl) | (apply Ru.buildN; exact rfl; exact rfl))) | refine JC.seq ?_ | refine JC.region ?_ | refine JO.nil ?_ | refine JE.thenN ?_ | refine JE.thenR ?_ | refine JC.ret ?_ | refine JC.condT rfl ?_ | (apply JO.do; exact rfl; exact rfl; exact rfl; (first | (apply Do.allocN; exact rfl) | apply Do.alloc); rintro _ _ ⟨_, rfl, rfl⟩) | (apply JO.do0; exact rfl; exact rfl; (first | (apply Do.storeAN; exact rfl; exact rfl; (repeat (first | exact Pick.here | apply Pick.there)); exact rfl; exact rfl; exact rfl; exact rfl) | (apply Do.storeA; exact rfl; exact rfl; (repeat (first | exact Pick.here | apply Pick.there)); exact rfl; exact rfl; exact rfl)); rintro _ _ ⟨rfl, rfl⟩) | (apply JE.done2; exact rfl; (first | (apply Res.tmp; exact rfl) | (apply Res.cell; exact rfl; (repeat (first | exact Pick.here | apply Pick.there)); exact rfl) | (apply Res.cellAN; exact rfl; (repeat (first | exact Pick.here | apply Pick.there)); exact rfl; exact rfl) | (apply Res.cellA; exact rfl; (repeat (first | exact Pick.here | apply Pick.there)); exact rfl; exact rfl)); (first | (apply Res.tmp; exact rfl) | (apply Res.cell; exact rfl; (repeat (first | exact Pick.here | apply Pick.there)); exact rfl) | (apply Res.cellAN; exact rfl; (repeat (first | exact Pick.here | apply Pick.there)); exact rfl; exact rfl) | (apply Res.cellA; exact rfl; (repeat (first | exact Pick.here | apply Pick.there)); exact rfl; exact rfl))))
    exact finU0 (l' := diskHP d D :: F) (by repeat (first | exact Weak.refl | (apply Weak.cons; (first | exact Pick.here | exact Pick.there Pick.here | exact Pick.there (Pick.there Pick.here) | exact Pick.there (Pick.there (Pick.there Pick.here)) | exact Pick.there (Pick.there (Pick.there (Pick.there Pick.here))) | exact Pick.there (Pick.there (Pick.there (Pick.there (Pick.there Pick.here)))) | exact Pick.there (Pick.there (Pick.there (Pick.there (Pick.there (Pick.there Pick.here))))) | exact Pick.there (Pick.there (Pick.there (Pick.there (Pick.there (Pick.there (Pick.there Pick.here)))))))) | apply Weak.drop)) ⟨_, rfl, rfl⟩
end Go.Sep
/- slot: each call, where what it answers is known. -/
namespace Go.Sep
open Go Go.Proofs
attribute [local irreducible] JO JC JE JA JQ JB JI Mid Inv Weak ownS Ru Do Fn Sat Pick Take arr pt star ex Holds bodyPost Post Exit.then Exit.inBlock Res
variable {σ : Sig} {F : List HP}
attribute [local irreducible] diskHP cacheHP planHP rowHP
theorem slot_ReadE {d : Nat} {D D' : DiskN} {which e f s er st why sq : Int} {img : List UInt8} (h : readR D which e f s = (er, D', ⟨st, why, sq, img⟩)) (hD : D.WF) (ho : D.ops ≤ 100000000000) [hg : InG F] :
    Fn Tryz.prog σ 22 #[.pointer (some ⟨d, 0, none⟩), int which, geoV e f s] (diskHP d D :: F)
      (fun v l' => ∃ u, v = .tuple #[.agg #[int st, int why, u64 sq, u], int er] ∧ l' = bytesHP u img :: diskHP d D' :: F) := by
  have := slot_Read (σ := σ) (F := F) d D which e f s hD ho
  rw [h] at this; exact this
theorem slot_WipeE {d : Nat} {D D' : DiskN} {which e f s er : Int} (h : wipeR D which e f s = (er, D')) (hD : D.WF) (ho : D.ops ≤ 1000000000000) (hw : D.writes ≤ 1000000000000) [hg : InG F] :
    Fn Tryz.prog σ 20 #[.pointer (some ⟨d, 0, none⟩), int which, geoV e f s] (diskHP d D :: F) (fun v l' => v = int er ∧ l' = diskHP d D' :: F) := by
  have := slot_WipeR (σ := σ) (F := F) d D which e f s hD ho hw
  rw [h] at this; exact this
theorem slot_SealE {d : Nat} {D D' : DiskN} {which e f s q er : Int} {v : Value} {bs : List UInt8} (h : sealR D which e f s q bs = (er, D')) (hq0 : 0 ≤ q) (hbl : bs.length ≤ 100000000) (hD : D.WF) (ho : D.ops ≤ 1000000000000) (hw : D.writes ≤ 1000000000000) {l : List HP} [hg : InG l] (hb : RdS σ l v (bs.map byte)) :
    Fn Tryz.prog σ 18 #[.pointer (some ⟨d, 0, none⟩), int which, geoV e f s, u64 q, v] (diskHP d D :: l) (fun r l' => r = int er ∧ l' = diskHP d D' :: l) := by
  have := slot_SealR (σ := σ) d D which e f s q v bs hq0 hbl hD ho hw hb
  rw [h] at this; exact this
theorem slot_DataE {d : Nat} {D D' : DiskN} {which e f s er : Int} {v : Value} {bs : List UInt8} (h : dataR D which e f s bs = (er, D')) (hbl : bs.length ≤ 100000000) (hD : D.WF) (ho : D.ops ≤ 100000000000) (hw : D.writes ≤ 100000000000) {l : List HP} [hg : InG l] (hb : RdS σ l v (bs.map byte)) :
    Fn Tryz.prog σ 16 #[.pointer (some ⟨d, 0, none⟩), int which, geoV e f s, v] (diskHP d D :: l) (fun r l' => r = int er ∧ l' = diskHP d D' :: l) := by
  have := slot_Data (σ := σ) d D which e f s v bs hbl hD ho hw hb
  rw [h] at this; exact this
end Go.Sep
/- Calls that may panic; what is deferred. -/
namespace Go.Sep
open Go

def PostX (σ : Sig) (RX : Ending → List HP → Prop) : Ending → World → Prop := fun e w' => ∃ l', RX e l' ∧ Sat σ w' l'
/-- The function f, called with args in a heap l, returns or panics: RX tells which, and what the heap is then. -/
def FnX (P : Program) (σ : Sig) (f : FuncId) (args : Array Value) (l : List HP) (RX : Ending → List HP → Prop) : Prop :=
  ∀ w, Sat σ w l → Calls P f args w (PostX σ RX)
/-- How a call ends that may give up for an error's number. -/
def endOf (T : TypeId) (e : Int) : Ending := if e = 0 then .returned (.tuple #[]) else .panicked [{ v := .iface T (.int .i64 e), recovered := false }]

section
variable {P : Program} {σ : Sig} {n : Nat} {ds : List Deferred} {ops : Array Oper} {Q : Exit → Act → World → Prop} {rest : List Oper} {env : Env} {l r : List HP} {o : Oper}
  {dst : Option Tmp} {ty : TypeId} {pos : String} {af : Array Edge} {gd : Option (Nat × Bool)}

theorem Fn.x {f : FuncId} {args : Array Value} {post : Value → List HP → Prop} (h : Fn P σ f args l post) : FnX P σ f args l (fun e l' => ∃ v, e = .returned v ∧ post v l') := by
  intro w s
  refine (h w s).mono ?_
  rintro e w' ⟨v, l', rfl, p, s'⟩
  exact ⟨l', ⟨v, rfl, p⟩, s'⟩
theorem FnX.heap {f : FuncId} {args : Array Value} {l0 : List HP} {RX : Ending → List HP → Prop} (k : Weak l l0) (h : FnX P σ f args l0 RX) : FnX P σ f args l RX := fun w s => h w (Sat.weak k w s)
theorem FnX.mono {f : FuncId} {args : Array Value} {RX RX' : Ending → List HP → Prop} (h : FnX P σ f args l RX) (k : ∀ e l', RX e l' → RX' e l') : FnX P σ f args l RX' := by
  intro w s
  refine (h w s).mono ?_
  rintro e w' ⟨l', p, s'⟩
  exact ⟨l', k _ _ p, s'⟩
theorem FnX.of {f : FuncId} {fn : Func} {c : Code} {args : List Value} {RX : Ending → List HP → Prop} (hf : P.funcs[f]? = some fn) (hb : fn.body = some c) (hn : fn.ntmps = n) (ha : Nat.ble args.length n = true)
    (h : JC P σ n [] c (bodyPost P fn (PostX σ RX)) (argEnv 0 args) l) : FnX P σ f args.toArray l RX := by
  intro w s
  refine calls_of_wp hf hb ?_
  have ha' : args.length ≤ n := by simpa using ha
  simp only [List.size_toArray, hn]
  exact h _ _ (kn_args ha') rfl s

/-- A call that may panic. -/
theorem JO.callX {f : FuncId} {x : Operand} {xs : Array Operand} {ts : Array TypeId} {vs : List Value} {c d : Array Value} {D : Nat} {RX : Ending → List HP → Prop} [HasBody P f] (hg : o.guard = none) (ho : o = ⟨some D, .call ⟨.value x, xs, ts⟩, ty, pos, af, gd⟩) (hlt : Nat.blt D n = true)
    (hf : ev env x = some (.func (.func f) c d)) (hx : xs.toList.mapM (ev env) = some vs) (h : FnX P σ f (c ++ vs.toArray ++ d) l RX)
    (hr : ∀ e l', RX e l' → match e with
      | .returned v => JO P σ n ds ops Q rest ((D, v) :: env) l'
      | .panicked ch => JE σ n ds Q (.panic ch) env l'
      | .outgrown => False) : JO P σ n ds ops Q (o :: rest) env l := by
  subst ho
  intro a w ka kd s
  refine wpList_plain hg fun K hK => ?_
  have e : xs.map a.eval = vs.toArray := by apply Array.ext'; rw [Array.toList_map]; exact mapM_ev ka _ _ hx
  have hb := HasBody.run (P := P) (f := f) (c ++ vs.toArray ++ d) w
  unfold Oper.wp
  have he : (execOp a.eval ⟨some D, .call ⟨.value x, xs, ts⟩, ty, pos, af, gd⟩).run P w = .ok (.enter f (c ++ vs.toArray ++ d)) w := by
    simp only [execOp, resolve, ka.ev hf, Deferred.ofValue, e, Sem.run_bind, Sem.run_pure, Result.andThen_ok, invoke]
    simpa using hb
  rw [he, Oper.upon_enter]
  refine (h w s).mono ?_
  rintro en w' ⟨l', p, s'⟩
  have := hr en l' p
  cases en with
  | returned v => exact hK _ _ (this _ _ (ka.put D v hlt) (by rw [Act.put_defers']; exact kd) s')
  | panicked ch => exact this _ _ ka kd s'
  | outgrown => exact this.elim
/-- A panic. -/
theorem JO.panic {x : Operand} {T : TypeId} {v : Value} (hg : o.guard = none) (ho : o = ⟨dst, .panic x, ty, pos, af, gd⟩) (hx : ev env x = some (.iface T v)) (h : JE σ n ds Q (.panic [{ v := .iface T v, recovered := false }]) env l) : JO P σ n ds ops Q (o :: rest) env l := by
  subst ho
  intro a w ka kd s
  refine wpList_plain hg fun K hK => ?_
  unfold Oper.wp
  have he : (execOp a.eval ⟨dst, .panic x, ty, pos, af, gd⟩).run P w = .halt (.panic (.iface T v)) w := by
    simp [execOp, ka.ev hx, Instr.panic, goPanic]
  rw [he, Oper.upon_panic]
  exact h _ _ ka kd s
/-- What is deferred. -/
theorem JO.defer {f : FuncId} {x : Operand} {c d : Array Value} (hg : o.guard = none) (ho : o = ⟨none, .defer ⟨.value x, #[], #[]⟩, ty, pos, af, gd⟩) (hx : ev env x = some (.func (.func f) c d))
    (h : JO P σ n ({ target := .fn (.func f) d, args := c } :: ds) ops Q rest env l) : JO P σ n ds ops Q (o :: rest) env l := by
  subst ho
  intro a w ka kd s
  refine wpList_plain hg fun K hK => ?_
  unfold Oper.wp
  have he : (execOp a.eval ⟨none, .defer ⟨.value x, #[], #[]⟩, ty, pos, af, gd⟩).run P w = .ok (.defer { target := .fn (.func f) d, args := c }) w := by
    simp [execOp, resolve, ka.ev hx, Deferred.ofValue]
  rw [he, Oper.upon_defer]
  refine hK _ _ (h _ _ ⟨ka.size, ka.know⟩ ?_ s)
  show _ :: a.defers = _
  rw [kd]

theorem JE.thenP {K : Act → World → Prop} {ch : List PanicEntry} (h : JE σ n ds Q (.panic ch) env l) : JE σ n ds (Exit.then K Q) (.panic ch) env l := h
theorem JE.blockP {i : Nat} {ch : List PanicEntry} (h : JE σ n ds Q (.panic ch) env l) : JE σ n ds (Exit.inBlock i Q) (.panic ch) env l := h
def finX (RX : Ending → List HP → Prop) (e : Ending) (l : List HP) : Prop := ∃ l', Weak l l' ∧ RX e l'
theorem JE.doneXP {fn : Func} {RX : Ending → List HP → Prop} {ch : List PanicEntry} (h : finX RX (.panicked ch) l) : JE σ n [] (bodyPost P fn (PostX σ RX)) (.panic ch) env l := by
  intro a w k d s
  obtain ⟨l', e, p⟩ := h
  exact ⟨d, l', p, Sat.weak e w s⟩
theorem JE.doneX0 {fn : Func} {RX : Ending → List HP → Prop} (hr : fn.results = #[]) (h : finX RX (.returned (.tuple #[])) l) : JE σ n [] (bodyPost P fn (PostX σ RX)) .ret env l := by
  intro a w k d s
  obtain ⟨l', e, p⟩ := h
  exact ⟨d, .tuple #[], results_none hr _ _ _, l', p, Sat.weak e w s⟩
theorem JE.doneX0N {fn : Func} {RX : Ending → List HP → Prop} (hr : fn.results = #[]) (h : finX RX (.returned (.tuple #[])) l) : JE σ n [] (bodyPost P fn (PostX σ RX)) .normal env l := by
  intro a w k d s
  obtain ⟨l', e, p⟩ := h
  exact ⟨d, .tuple #[], results_none hr _ _ _, l', p, Sat.weak e w s⟩
theorem Fn.ofD {f : FuncId} {fn : Func} {c : Code} {args : List Value} {post : Value → List HP → Prop} (hf : P.funcs[f]? = some fn) (hb : fn.body = some c) (hn : fn.ntmps = n) (ha : Nat.ble args.length n = true)
    (h : JC P σ n [] c (bodyPostD P fn (Post σ post)) (argEnv 0 args) l) : Fn P σ f args.toArray l post := by
  intro w s
  refine calls_of_wp_defers hf hb ?_
  have ha' : args.length ≤ n := by simpa using ha
  simp only [List.size_toArray, hn]
  exact h _ _ (kn_args ha') rfl s
/-- A deferred call: before it the mode is u, behind it u'. -/
def FnD (P : Program) (σ : Sig) (f : FuncId) (args : Array Value) (u u' : FrameMode) (l l' : List HP) : Prop :=
  ∀ w, Sat σ w l → CallsD P f args u w fun e m w' => (∃ v, e = .returned v) ∧ m = u' ∧ Sat σ w' l'
theorem JE.deferR {fn : Func} {post : Value → List HP → Prop} {f : FuncId} {d c : Array Value} {u' : FrameMode} {l' : List HP} {rv : ResultVar} {v : Value} (hb : HasBody P f) (hD : FnD P σ f (c ++ d) .returning u' l l') (hu : settle u' = .returning)
    (hr : fn.results = #[rv]) (hv : Res P σ n env l' rv v) (h : fin post v l' σ) : JE σ n [{ target := .fn (.func f) d, args := c }] (bodyPostD P fn (Post σ post)) .ret env l := by
  intro a w k kd s
  show Leaves P fn a.tmps _ a.defers .returning w
  rw [kd]
  refine leaves_cons (by simp) (f := f) (args := c ++ d) (by simp only [invoke]; exact hb.run _ _) ?_
  refine (hD w s).mono ?_
  rintro e m w' ⟨⟨u, rfl⟩, rfl, s'⟩
  show Leaves P fn a.tmps _ [] (settle m) w'
  rw [hu]
  obtain ⟨l2, e2, p⟩ := h
  refine ⟨v, ?_, v, l2, rfl, p, e2 w' s'⟩
  rw [results_eq, hr]
  simp [hv a w' k s']
theorem JE.deferP {fn : Func} {post : Value → List HP → Prop} {f : FuncId} {d c : Array Value} {ch : List PanicEntry} {u' : FrameMode} {l' : List HP} {rv : ResultVar} {v : Value} (hb : HasBody P f) (hD : FnD P σ f (c ++ d) (.panicking ch) u' l l') (hu : settle u' = .returning)
    (hr : fn.results = #[rv]) (hv : Res P σ n env l' rv v) (h : fin post v l' σ) : JE σ n [{ target := .fn (.func f) d, args := c }] (bodyPostD P fn (Post σ post)) (.panic ch) env l := by
  intro a w k kd s
  show Leaves P fn a.tmps _ a.defers (.panicking ch) w
  rw [kd]
  refine leaves_cons (by simp) (f := f) (args := c ++ d) (by simp only [invoke]; exact hb.run _ _) ?_
  refine (hD w s).mono ?_
  rintro e m w' ⟨⟨u, rfl⟩, rfl, s'⟩
  show Leaves P fn a.tmps _ [] (settle m) w'
  rw [hu]
  obtain ⟨l2, e2, p⟩ := h
  refine ⟨v, ?_, v, l2, rfl, p, e2 w' s'⟩
  rw [results_eq, hr]
  simp [hv a w' k s']
theorem Ru.neqI1 {x y : Operand} {t T t' : TypeId} {v : Value} {ms : Array (String × TypeId)} [UT P t (.interface ms)] (hx : ev env x = some (.iface T v)) (hy : ev env y = some .nilIface) : Ru P σ n env l ⟨dst, .binOp .neq t x y t', ty, pos, af, gd⟩ (.bool true) := by
  intro a w kn _
  have h1 := UT.run (P := P) (t := t) w
  have h2 := equal_at (P := P) (w := w) (t := t) (x := .iface T v) (y := .nilIface) (b := false) (fun k => by simp [Op.equalIn, h1])
  have hg : (eqGuard .neq t x y (.iface T v) .nilIface).run P w = .ok () w := by simp [eqGuard]
  rw [run_bin (kn.ev hx) (kn.ev hy), hg]
  simp only [binOp]
  simp [h2]
theorem Ru.neqI0 {x : Operand} {t t' : TypeId} {ms : Array (String × TypeId)} [UT P t (.interface ms)] (hx : ev env x = some .nilIface) : Ru P σ n env l ⟨dst, .binOp .neq t x (.const .nilIface) t', ty, pos, af, gd⟩ (.bool false) := by
  intro a w kn _
  have h1 := UT.run (P := P) (t := t) w
  have h2 := equal_at (P := P) (w := w) (t := t) (x := .nilIface) (y := .nilIface) (b := true) (fun k => by simp [Op.equalIn, h1])
  have hy : a.eval (.const .nilIface) = .nilIface := rfl
  have hg : (eqGuard .neq t x (.const .nilIface) .nilIface .nilIface).run P w = .ok () w := by simp [eqGuard]
  rw [run_bin (kn.ev hx) hy, hg]
  simp only [binOp]
  simp [h2]
theorem Ru.assertOk {x : Operand} {t T : TypeId} {v : Value} {d : TypeDesc} [UT P T d] (hx : ev env x = some (.iface T v)) (hd : (match d with | .interface _ => false | _ => true) = true := by rfl) : Ru P σ n env l ⟨dst, .typeAssert x t T true, ty, pos, af, gd⟩ (.tuple #[v, .bool true]) := by
  intro a w kn _
  have h1 := UT.run (P := P) (t := T) w
  cases d <;> simp_all [execOp, kn.ev hx, Instr.typeAssert]
/-- What a deferred call that recovers is to end with. -/
def EndD (σ : Sig) (l' : List HP) : Exit → Act → World → Prop := fun e a w => (e = .normal ∨ e = .ret) ∧ a.defers = [] ∧ Sat σ w l'
theorem JE.endD {l' : List HP} (k : Weak l l') : JE σ n [] (EndD σ l') .normal env l := fun _ w _ d s => ⟨.inl rfl, d, Sat.weak k w s⟩
theorem JE.endDr {l' : List HP} (k : Weak l l') : JE σ n [] (EndD σ l') .ret env l := fun _ w _ d s => ⟨.inr rfl, d, Sat.weak k w s⟩
theorem FnD.recover {f : FuncId} {fn : Func} {args : List Value} {u u' : FrameMode} {l' : List HP} {v : Value} {id d1 d2 : Nat} {y : Code} {ty1 ty2 : TypeId} {pos1 pos2 : String} {af1 af2 : Array Edge}
    (hf : P.funcs[f]? = some fn) (hb : fn.body = some (.seq (.region id #[⟨some d1, .call ⟨.builtin .recover, #[], #[]⟩, ty1, pos1, af1, none⟩, ⟨some d2, .assign (.tmp d1), ty2, pos2, af2, none⟩] false) y)) (hn : fn.ntmps = n) (ha : Nat.ble args.length n = true)
    (h1 : Nat.blt d1 n = true) (h2 : Nat.blt d2 n = true) (hr : fn.results = #[])
    (hrec : ∀ (c₀ : Frame) (cs : List Frame), c₀.mode = u → (recoverD (c₀ :: cs) = some (v, { c₀ with mode := u' } :: cs)) ∨ (recoverD (c₀ :: cs) = none ∧ v = .nilIface ∧ u' = u))
    (h : JC P σ n [] y (EndD σ l') ((d2, v) :: (d1, v) :: argEnv 0 args) l) : FnD P σ f args.toArray u u' l l' := by
  intro w s
  have ha' : args.length ≤ n := by simpa using ha
  refine callsD_of_wpS hf hb ?_
  intro c₀ cs hu
  simp only [List.size_toArray, hn]
  have k0 := kn_args (args := args) ha'
  obtain ⟨a, hA⟩ : ∃ a : Act, ({ tmps := args.toArray ++ Array.replicate (n - args.length) undef, defers := [] } : Act) = a := ⟨_, rfl⟩
  have kd : a.defers = [] := by rw [← hA]
  rw [hA] at k0 ⊢
  have k1 := k0.put d1 v h1
  have k2 := k1.put d2 v h2
  have hev : (a.put (some d1) v).eval (.tmp d1) = v := k1.ev (by show look ((d1, v) :: _) d1 = some v; simp [look])
  have key : ∀ (Fs : List Frame), Fs = { c₀ with mode := u' } :: cs → y.wpS P (bodyPostS P fn c₀ cs fun e m w' => (∃ v, e = .returned v) ∧ m = u' ∧ Sat σ w' l') ((a.put (some d1) v).put (some d2) v) Fs w := by
    rintro Fs rfl
    refine wpS_of_wp (wp_mono (h _ w k2 (by rw [Act.put_defers', Act.put_defers']; exact kd) s) ?_)
    rintro e a' w' ⟨he, hd, s'⟩
    rcases he with rfl | rfl
    · exact ⟨hd, u', rfl, .tuple #[], results_none hr _ _ _, ⟨_, rfl⟩, rfl, s'⟩
    · exact ⟨hd, u', rfl, .tuple #[], results_none hr _ _ _, ⟨_, rfl⟩, rfl, s'⟩
  refine wpS_seq (wpS_region ?_)
  have hc : ({ c₀ with mode := u } : Frame) = c₀ := by subst hu; rfl
  show wpOpsS P _ _ [0, 1] a (c₀ :: cs) w
  have hx1 : (execOp a.eval ⟨some d1, .call ⟨.builtin .recover, #[], #[]⟩, ty1, pos1, af1, none⟩).run P w = .ok .recover w := by
    simp [execOp, resolve, invoke, builtin]
  have hx2 : ∀ a' : Act, (execOp a'.eval ⟨some d2, .assign (.tmp d1), ty2, pos2, af2, none⟩).run P w = .ok (.value (a'.eval (.tmp d1))) w := fun a' => by simp [execOp]
  have w1 : ∀ (q : Array Oper) (a' : Act), Region.wanted ⟨some d1, .call ⟨.builtin .recover, #[], #[]⟩, ty1, pos1, af1, none⟩ (yielded q a'.tmps) = true := fun q a' => rfl
  have w2 : ∀ (q : Array Oper) (a' : Act), Region.wanted ⟨some d2, .assign (.tmp d1), ty2, pos2, af2, none⟩ (yielded q a'.tmps) = true := fun q a' => rfl
  rcases hrec c₀ cs hu with e | ⟨e, rfl, rfl⟩
  · simp only [wpOpsS, List.getElem?_toArray, List.getElem?_cons_zero, List.getElem?_cons_succ, w1, w2, if_true, hx1, e, hx2, hev, Oper.upon_value]
    exact key _ rfl
  · simp only [wpOpsS, List.getElem?_toArray, List.getElem?_cons_zero, List.getElem?_cons_succ, w1, w2, if_true, hx1, e, hx2, hev, Oper.upon_value]
    exact key _ (by rw [hc])
end
end Go.Sep
/- shadow: what gives up, and what is tried. -/
namespace Go.Sep
open Go Go.Proofs
attribute [local irreducible] JO JC JE JA JQ JB JI Mid Inv Weak ownS Ru Do Fn Sat Pick Take arr pt star ex Holds bodyPost Post Exit.then Exit.inBlock Res
variable {σ : Sig} {F : List HP}
attribute [local irreducible] diskHP cacheHP planHP rowHP FnX PostX
abbrev errT : Nat := 29
theorem shadow_must (e : Int) : FnX Tryz.prog σ 87 #[int e] F (fun en l => en = endOf errT e ∧ l = F) := by
  refine FnX.of Tryz.func87 rfl Tryz.ntmps87 rfl ?_
  repeat' (first | (first | (apply JO.ru; exact rfl; exact rfl; exact rfl; ((apply Ru.move; exact rfl))) | refine JC.seq ?_ | refine JC.region ?_ | refine JO.nil ?_ | refine JE.thenN ?_ | refine JC.skip ?_ | refine JC.condT rfl ?_ | refine JC.condF rfl ?_ | (apply JO.splitN; exact rfl; exact rfl; exact rfl; (apply Ru.neq; exact rfl; exact rfl; exact rfl); all_goals intro _)) | (first | refine JE.doneXP ?_ | refine JE.doneX0N rfl ?_ | (apply JO.ru; exact rfl; exact rfl; exact rfl; (apply Ru.makeIface; exact rfl; exact rfl)) | (apply JO.panic; exact rfl; exact rfl; exact rfl)))
  · rename_i h
    exact ⟨F, Weak.refl, by rw [endOf, if_pos h], rfl⟩
  · rename_i h
    exact ⟨F, Weak.refl, by rw [endOf, if_neg h], rfl⟩
theorem tried1_r (eb : Nat) (ve : Int) : FnD Tryz.prog σ 128 #[.pointer (some ⟨eb, 0, none⟩)] .returning .returning (arr eb errT [int ve] :: F) (arr eb errT [int ve] :: F) := by
  refine FnD.recover (v := .nilIface) Tryz.func128 rfl Tryz.ntmps128 rfl rfl rfl rfl (fun c₀ cs hu => .inr ⟨by simp [recoverD, hu], rfl, rfl⟩) ?_
  repeat' (first | (first | (apply JO.ru; exact rfl; exact rfl; exact rfl; ((apply Ru.move; exact rfl))) | refine JC.seq ?_ | refine JC.region ?_ | refine JO.nil ?_ | refine JE.thenN ?_ | refine JC.skip ?_ | refine JC.condF rfl ?_) | ((apply JO.ru; exact rfl; exact rfl; exact rfl; (first | (apply Ru.neqI1; exact rfl; exact rfl) | (apply Ru.neqI0; exact rfl) | (apply Ru.assertOk; exact rfl; exact rfl)))))
  exact JE.endD Weak.refl
theorem tried1_p (eb : Nat) (ve e : Int) : FnD Tryz.prog σ 128 #[.pointer (some ⟨eb, 0, none⟩)] (.panicking [{ v := .iface errT (int e), recovered := false }]) (.panicking [{ v := .iface errT (int e), recovered := true }]) (arr eb errT [int ve] :: F) (arr eb errT [int e] :: F) := by
  refine FnD.recover (v := .iface errT (int e)) Tryz.func128 rfl Tryz.ntmps128 rfl rfl rfl rfl (fun c₀ cs hu => .inl (by simp [recoverD, hu])) ?_
  repeat' (first | (first | (apply JO.ru; exact rfl; exact rfl; exact rfl; (first | (apply Ru.move; exact rfl) | (apply Ru.extractN; exact rfl; exact rfl))) | refine JC.seq ?_ | refine JC.region ?_ | refine JO.nil ?_ | refine JE.thenN ?_ | refine JC.condT rfl ?_ | (apply JO.do0; exact rfl; exact rfl; (first | (apply Do.storeN; exact rfl; exact rfl; exact rfl; (repeat (first | exact Pick.here | apply Pick.there)); exact rfl; exact rfl) | (apply Do.store; exact rfl; exact rfl; exact rfl; (repeat (first | exact Pick.here | apply Pick.there)); exact rfl)); rintro _ _ ⟨rfl, rfl⟩)) | ((apply JO.ru; exact rfl; exact rfl; exact rfl; (first | (apply Ru.neqI1; exact rfl; exact rfl) | (apply Ru.neqI0; exact rfl) | (apply Ru.assertOk; exact rfl; exact rfl)))))
  exact JE.endD Weak.refl
theorem shadow_tried {g : FuncId} {caps : Array Value} {r : Int} {l L' : List HP} [HasBody Tryz.prog g] (h : ∀ p, FnX Tryz.prog σ g caps (p :: l) (fun en l'' => en = endOf errT r ∧ l'' = p :: L')) :
    Fn Tryz.prog σ 85 #[.func (.func g) #[] caps] l (fun v l' => v = int r ∧ l' = L') := by
  refine Fn.ofD Tryz.func85 rfl Tryz.ntmps85 rfl ?_
  repeat' (first | (apply JO.ru; exact rfl; exact rfl; exact rfl; ((apply Ru.makeFunc; exact rfl; exact rfl))) | refine JC.seq ?_ | refine JC.region ?_ | refine JO.nil ?_ | refine JE.thenN ?_ | (apply JO.do; exact rfl; exact rfl; exact rfl; (first | (apply Do.allocN; exact rfl) | apply Do.alloc); rintro _ _ ⟨_, rfl, rfl⟩))
  refine JO.defer rfl rfl rfl ?_
  repeat' (first | (apply JO.ru; exact rfl; exact rfl; exact rfl; ((apply Ru.move; exact rfl))) | refine JC.seq ?_ | refine JC.region ?_ | refine JO.nil ?_ | refine JE.thenN ?_)
  rename_i eb
  have h1 := h (arr eb errT [int 0])
  by_cases hr : r = 0
  · subst hr
    refine JO.callX (c := #[]) (d := caps) (vs := []) rfl rfl rfl rfl rfl (by simpa using h1) ?_
    rintro en l' ⟨rfl, rfl⟩
    show JO _ _ _ _ _ _ _ _ _
    repeat' (first | refine JC.seq ?_ | refine JC.region ?_ | refine JO.nil ?_ | refine JE.thenN ?_ | refine JC.ret ?_ | (apply JO.do0; exact rfl; exact rfl; (first | (apply Do.storeN; exact rfl; exact rfl; exact rfl; (repeat (first | exact Pick.here | apply Pick.there)); exact rfl; exact rfl) | (apply Do.store; exact rfl; exact rfl; exact rfl; (repeat (first | exact Pick.here | apply Pick.there)); exact rfl)); rintro _ _ ⟨rfl, rfl⟩))
    exact JE.deferR inferInstance (tried1_r eb 0) rfl rfl (by (apply Res.cell; exact rfl; exact Pick.here; exact rfl)) ⟨L', Sat.weak (by repeat (first | exact Weak.refl | (apply Weak.cons; (first | exact Pick.here | exact Pick.there Pick.here | exact Pick.there (Pick.there Pick.here) | exact Pick.there (Pick.there (Pick.there Pick.here)) | exact Pick.there (Pick.there (Pick.there (Pick.there Pick.here))) | exact Pick.there (Pick.there (Pick.there (Pick.there (Pick.there Pick.here)))) | exact Pick.there (Pick.there (Pick.there (Pick.there (Pick.there (Pick.there Pick.here))))) | exact Pick.there (Pick.there (Pick.there (Pick.there (Pick.there (Pick.there (Pick.there Pick.here)))))))) | apply Weak.drop)), rfl, rfl⟩
  · refine JO.callX (c := #[]) (d := caps) (vs := []) rfl rfl rfl rfl rfl (by simpa using h1) ?_
    rintro en l' ⟨rfl, rfl⟩
    rw [endOf, if_neg hr]
    show JE _ _ _ _ _ _ _
    repeat' (first | (fail) | (refine JE.thenP ?_))
    exact JE.deferP inferInstance (tried1_p eb 0 r) rfl rfl (by (apply Res.cell; exact rfl; exact Pick.here; exact rfl)) ⟨L', Sat.weak (by repeat (first | exact Weak.refl | (apply Weak.cons; (first | exact Pick.here | exact Pick.there Pick.here | exact Pick.there (Pick.there Pick.here) | exact Pick.there (Pick.there (Pick.there Pick.here)) | exact Pick.there (Pick.there (Pick.there (Pick.there Pick.here))) | exact Pick.there (Pick.there (Pick.there (Pick.there (Pick.there Pick.here)))) | exact Pick.there (Pick.there (Pick.there (Pick.there (Pick.there (Pick.there Pick.here))))) | exact Pick.there (Pick.there (Pick.there (Pick.there (Pick.there (Pick.there (Pick.there Pick.here)))))))) | apply Weak.drop)), rfl, rfl⟩
end Go.Sep
/- shadow: an image laid, so that it lasts ahead of its head. -/
namespace Go.Sep
open Go Go.Proofs
attribute [local irreducible] JO JC JE JA JQ JB JI Mid Inv Weak ownS Ru Do Fn Sat Pick Take arr pt star ex Holds bodyPost Post Exit.then Exit.inBlock Res
variable {σ : Sig} {F : List HP}
attribute [local irreducible] diskHP cacheHP planHP rowHP FnX PostX
def syncR (D : DiskN) : Int × DiskN := if D.failing = true then (3, D.tick) else (0, D.tick.sync)
def layR (D : DiskN) (which e f s q : Int) (bs : List UInt8) : Int × DiskN :=
  if (dataR D which e f s bs).1 ≠ 0 then dataR D which e f s bs
  else if (syncR (dataR D which e f s bs).2).1 ≠ 0 then syncR (dataR D which e f s bs).2
  else if (sealR (syncR (dataR D which e f s bs).2).2 which e f s q bs).1 ≠ 0 then sealR (syncR (dataR D which e f s bs).2).2 which e f s q bs
  else syncR (sealR (syncR (dataR D which e f s bs).2).2 which e f s q bs).2
/-- What stays of a disk whatever is done: its shape; how much its counts grow. -/
structure Grows (D E : DiskN) (n : Nat) : Prop where
  wf : E.WF
  size : E.size = D.size
  count : E.count = D.count
  plan : E.planned = D.planned
  lo : D.ops ≤ E.ops
  ops : E.ops ≤ D.ops + n
  writes : E.writes ≤ D.writes + n
theorem Grows.refl {D : DiskN} (h : D.WF) (n : Nat) : Grows D D n := ⟨h, rfl, rfl, rfl, Nat.le_refl _, Nat.le_add_right _ _, Nat.le_add_right _ _⟩
theorem Grows.trans {D E G : DiskN} {n m : Nat} (h : Grows D E n) (k : Grows E G m) : Grows D G (n + m) :=
  ⟨k.wf, k.size.trans h.size, k.count.trans h.count, k.plan.trans h.plan, Nat.le_trans h.lo k.lo, by have := h.ops; have := k.ops; omega, by have := h.writes; have := k.writes; omega⟩
theorem Grows.mono {D E : DiskN} {n m : Nat} (h : Grows D E n) (k : n ≤ m) : Grows D E m := ⟨h.wf, h.size, h.count, h.plan, h.lo, by have := h.ops; omega, by have := h.writes; omega⟩
theorem Grows.tick {D : DiskN} (h : D.WF) : Grows D D.tick 1 := ⟨h.tick, rfl, rfl, rfl, Nat.le_succ _, Nat.le_refl _, Nat.le_succ _⟩
theorem Grows.ticks {D : DiskN} (h : D.WF) (n : Nat) : Grows D (D.ticks n) n := ⟨h.ticks n, rfl, rfl, rfl, Nat.le_add_right _ _, Nat.le_refl _, Nat.le_add_right _ _⟩
theorem Grows.put {D : DiskN} (h : D.WF) {i : Int} {bs : List UInt8} (h0 : 0 ≤ i) (h1 : i < D.count) (h2 : bs.length = D.size) : Grows D (D.put i bs) 1 := ⟨h.put h0 h1 h2, rfl, rfl, rfl, Nat.le_succ _, Nat.le_refl _, Nat.le_refl _⟩
theorem Grows.sync {D : DiskN} (h : D.WF) : Grows D D.tick.sync 1 := by
  obtain ⟨a, b, c⟩ := sync_wf h.tick
  have hr := settled_rest h.tick D.tick.keys.length
  have e1 : D.tick.sync.ops = D.ops + 1 := hr.1
  have e2 : D.tick.sync.writes = D.writes := hr.2.1
  exact ⟨a, b, c, hr.2.2, by omega, by omega, by omega⟩
theorem syncR_grows {D : DiskN} (h : D.WF) : Grows D (syncR D).2 1 := by
  unfold syncR
  split
  · exact Grows.tick h
  · exact Grows.sync h
theorem dataGo_grows : ∀ (ps : List (List UInt8)) (E : DiskN) (first : Int) (i : Nat), E.WF → Grows E (dataGo first i E ps).2 ps.length
  | [], E, first, i, h => Grows.refl h _
  | x :: r, E, first, i, h => by
    rw [dataGo]
    split
    · exact (Grows.tick h).mono (by rw [List.length_cons]; omega)
    · rename_i hw
      have hw' : E.writeE (first + (1 + (i : Int))) x.length = 0 := by omega
      have hz := writeE_zero hw'
      have g := Grows.put h hz.1 hz.2.1 hz.2.2
      have := g.trans (dataGo_grows r _ first (i + 1) g.wf)
      exact this.mono (by rw [List.length_cons]; omega)
theorem dataR_grows {D : DiskN} (h : D.WF) (which e f s : Int) (bs : List UInt8) : Grows D (dataR D which e f s bs).2 bs.length := by
  unfold dataR
  split
  · exact Grows.refl h _
  · split
    · exact Grows.refl h _
    · refine (dataGo_grows _ D _ 0 h).mono ?_
      rw [pieces_length]
      have := secs_bd (m := (bs.length : Int)) (s := (D.size : Int)) (by omega)
      omega
theorem atE_size {D : DiskN} {which e f s : Int} (h : atE D which e f s = 0) : 32 ≤ D.size := by
  have hr := atE_right h
  unfold atE at h
  rw [if_neg (by rw [hr]; simp)] at h
  split at h
  · cases h
  · omega
theorem sealR_grows {D : DiskN} (h : D.WF) (which e f s q : Int) (bs : List UInt8) : Grows D (sealR D which e f s q bs).2 1 := by
  unfold sealR
  split
  · exact Grows.refl h _
  · rename_i ha
    split
    · exact Grows.refl h _
    · split
      · exact Grows.tick h
      · rename_i hw
        have hz := writeE_zero (by omega : D.writeE (firstOf D which e f s) D.size = 0)
        have hs := atE_size (by omega : atE D which e f s = 0)
        exact Grows.put h hz.1 hz.2.1 (padB_length (by rw [enc_length]; omega))
theorem wipeR_grows {D : DiskN} (h : D.WF) (which e f s : Int) : Grows D (wipeR D which e f s).2 1 := by
  unfold wipeR
  split
  · exact Grows.refl h _
  · split
    · exact Grows.tick h
    · rename_i hw
      have hz := writeE_zero (by omega : D.writeE (firstOf D which e f s) D.size = 0)
      exact Grows.put h hz.1 hz.2.1 (padB_length (by simp))
theorem layR_grows {D : DiskN} (h : D.WF) (which e f s q : Int) (bs : List UInt8) : Grows D (layR D which e f s q bs).2 (bs.length + 3) := by
  have g1 := dataR_grows h which e f s bs
  have g2 := g1.trans (syncR_grows g1.wf)
  have g3 := g2.trans (sealR_grows g2.wf which e f s q bs)
  have g4 := g3.trans (syncR_grows g3.wf)
  unfold layR
  split
  · exact g1.mono (by omega)
  · split
    · exact g2.mono (by omega)
    · split
      · exact g3.mono (by omega)
      · exact g4.mono (by omega)
theorem disk_SyncR (d : Nat) (D : DiskN) (hD : D.WF) (ho : D.ops ≤ 1000000000000) (hw : D.writes ≤ 1000000) :
    Fn Tryz.prog σ 25 #[.pointer (some ⟨d, 0, none⟩)] (diskHP d D :: F) (fun v l => v = int (syncR D).1 ∧ l = diskHP d (syncR D).2 :: F) := by
  refine (disk_Sync d D hD ho hw).mono ?_
  rintro v l' (⟨h1, rfl, rfl⟩ | ⟨h1, rfl, rfl⟩)
  · unfold syncR; rw [if_pos h1]; exact ⟨rfl, rfl⟩
  · unfold syncR; rw [if_neg (by rw [h1]; simp)]; exact ⟨rfl, rfl⟩
theorem JO.must {P : Program} {n : Nat} {ds : List Deferred} {ops : Array Oper} {Q : Exit → Act → World → Prop} {rest : List Oper} {env : Env} {l : List HP} {o : Oper} {ty : TypeId} {pos : String} {af : Array Edge} {gd : Option (Nat × Bool)} {x : Operand} {ts : Array TypeId} {D g : Nat} {T : TypeId} {e : Int} [HasBody P g]
    (hg : o.guard = none) (ho : o = ⟨some D, .call ⟨.value (.func g), #[x], ts⟩, ty, pos, af, gd⟩) (hlt : Nat.blt D n = true) (hx : ev env x = some (int e)) (hm : FnX P σ g #[int e] l (fun en l' => en = endOf T e ∧ l' = l))
    (h0 : e = 0 → JO P σ n ds ops Q rest ((D, .tuple #[]) :: env) l) (h1 : e ≠ 0 → JE σ n ds Q (.panic [{ v := .iface T (int e), recovered := false }]) env l) : JO P σ n ds ops Q (o :: rest) env l := by
  refine JO.callX (c := #[]) (d := #[]) (vs := [int e]) hg ho hlt rfl (by simp [hx]) (by simpa using hm) ?_
  rintro en l' ⟨rfl, rfl⟩
  by_cases h : e = 0
  · rw [endOf, if_pos h]; exact h0 h
  · rw [endOf, if_neg h]; exact h1 h
set_option maxHeartbeats 4000000 in
theorem shadow_lay (d : Nat) (D : DiskN) (which e f s q : Int) (v : Value) (bs : List UInt8) (hq0 : 0 ≤ q) (hbl : bs.length ≤ 100000) (hD : D.WF) (ho : D.ops ≤ 10000000000) (hw : D.writes ≤ 100000) {l : List HP} [hg : InG l] (hb : RdS σ l v (bs.map byte)) :
    FnX Tryz.prog σ 89 #[.pointer (some ⟨d, 0, none⟩), int which, geoV e f s, u64 q, v] (diskHP d D :: l) (fun en l' => en = endOf errT (layR D which e f s q bs).1 ∧ l' = diskHP d (layR D which e f s q bs).2 :: l) := by
  have g1 := dataR_grows hD which e f s bs
  have g2 := g1.trans (syncR_grows g1.wf)
  have g3 := g2.trans (sealR_grows g2.wf which e f s q bs)
  obtain ⟨D1, hD1⟩ : ∃ x, dataR D which e f s bs = x := ⟨_, rfl⟩
  obtain ⟨D2, hD2⟩ : ∃ x, syncR D1.2 = x := ⟨_, rfl⟩
  obtain ⟨D3, hD3⟩ : ∃ x, sealR D2.2 which e f s q bs = x := ⟨_, rfl⟩
  obtain ⟨D4, hD4⟩ : ∃ x, syncR D3.2 = x := ⟨_, rfl⟩
  have hR : layR D which e f s q bs = if D1.1 ≠ 0 then D1 else if D2.1 ≠ 0 then D2 else if D3.1 ≠ 0 then D3 else D4 := by
    unfold layR; rw [hD1, hD2, hD3, hD4]
  rw [hD1] at g1 g2 g3
  rw [hD2] at g2 g3
  rw [hD3] at g3
  have o1 := g1.ops; have o2 := g2.ops; have o3 := g3.ops
  have w1 := g1.writes; have w2 := g2.writes; have w3 := g3.writes
  obtain ⟨pv, cv, rfl, hcv, hrv⟩ := id hb
  have c1 := fun (G : List HP) [InG G] (hv : RdS σ G (.slice pv (bs.map byte).length cv) (bs.map byte)) => slot_Data (σ := σ) d D which e f s _ bs (by omega) hD (by omega) (by omega) (l := G) hv
  simp only [hD1] at c1
  have c2 := fun (G : List HP) => disk_SyncR (σ := σ) (F := G) d D1.2 g1.wf (by omega) (by omega)
  simp only [hD2] at c2
  have c3 := fun (G : List HP) [InG G] (hv : RdS σ G (.slice pv (bs.map byte).length cv) (bs.map byte)) => slot_SealR (σ := σ) d D2.2 which e f s q _ bs hq0 (by omega) g2.wf (by omega) (by omega) (l := G) hv
  simp only [hD3] at c3
  have c4 := fun (G : List HP) => disk_SyncR (σ := σ) (F := G) d D3.2 g3.wf (by omega) (by omega)
  simp only [hD4] at c4
  rw [hR]
  refine FnX.of Tryz.func89 rfl Tryz.ntmps89 rfl ?_
  repeat' (first | (apply JO.ru; exact rfl; exact rfl; exact rfl; (first | (apply Ru.move; exact rfl) | (apply Ru.loadAN; exact rfl; (repeat (first | exact Pick.here | apply Pick.there)); exact rfl; exact rfl))) | refine JC.seq ?_ | refine JC.region ?_ | refine JO.nil ?_ | refine JE.thenN ?_ | (apply JO.do; exact rfl; exact rfl; exact rfl; (first | (apply Do.boxN; exact rfl; exact rfl) | (apply Do.box; exact rfl)); rintro _ _ ⟨_, rfl, rfl⟩))
  refine JO.pick (Pick.there Pick.here) ?_
  (apply JO.do; exact rfl; exact rfl; exact rfl; (apply Do.call; exact rfl; exact c1 _ hb.cons); rintro _ _ ⟨rfl, rfl⟩)
  refine JO.must rfl rfl rfl rfl (shadow_must _) (fun h => ?_) (fun h => ?_)
  · rw [if_neg (not_not_intro h)]
    repeat' (first | (apply JO.ru; exact rfl; exact rfl; exact rfl; ((apply Ru.move; exact rfl))) | refine JC.seq ?_ | refine JC.region ?_ | refine JO.nil ?_ | refine JE.thenN ?_)
    (apply JO.do; exact rfl; exact rfl; exact rfl; (apply Do.call; exact rfl; exact c2 _); rintro _ _ ⟨rfl, rfl⟩)
    refine JO.must rfl rfl rfl rfl (shadow_must _) (fun h => ?_) (fun h => ?_)
    · rw [if_neg (not_not_intro h)]
      repeat' (first | (apply JO.ru; exact rfl; exact rfl; exact rfl; (first | (apply Ru.move; exact rfl) | (apply Ru.loadAN; exact rfl; (repeat (first | exact Pick.here | apply Pick.there)); exact rfl; exact rfl))) | refine JC.seq ?_ | refine JC.region ?_ | refine JO.nil ?_ | refine JE.thenN ?_)
      (apply JO.do; exact rfl; exact rfl; exact rfl; (apply Do.call; exact rfl; exact c3 _ hb.cons); rintro _ _ ⟨rfl, rfl⟩)
      refine JO.must rfl rfl rfl rfl (shadow_must _) (fun h => ?_) (fun h => ?_)
      · rw [if_neg (not_not_intro h)]
        repeat' (first | (apply JO.ru; exact rfl; exact rfl; exact rfl; ((apply Ru.move; exact rfl))) | refine JC.region ?_ | refine JO.nil ?_ | refine JE.thenN ?_)
        (apply JO.do; exact rfl; exact rfl; exact rfl; (apply Do.call; exact rfl; exact c4 _); rintro _ _ ⟨rfl, rfl⟩)
        refine JO.must rfl rfl rfl rfl (shadow_must _) (fun h => ?_) (fun h => ?_)
        · repeat' (first | (refine JO.nil ?_) | (refine JE.doneX0N rfl ?_))
          exact ⟨_, (by repeat (first | exact Weak.refl | (apply Weak.cons; (first | exact Pick.here | exact Pick.there Pick.here | exact Pick.there (Pick.there Pick.here) | exact Pick.there (Pick.there (Pick.there Pick.here)) | exact Pick.there (Pick.there (Pick.there (Pick.there Pick.here))) | exact Pick.there (Pick.there (Pick.there (Pick.there (Pick.there Pick.here)))) | exact Pick.there (Pick.there (Pick.there (Pick.there (Pick.there (Pick.there Pick.here))))) | exact Pick.there (Pick.there (Pick.there (Pick.there (Pick.there (Pick.there (Pick.there Pick.here)))))))) | apply Weak.drop)), by rw [endOf, if_pos h], rfl⟩
        · repeat' (first | (fail) | (refine JE.doneXP ?_))
          exact ⟨_, (by repeat (first | exact Weak.refl | (apply Weak.cons; (first | exact Pick.here | exact Pick.there Pick.here | exact Pick.there (Pick.there Pick.here) | exact Pick.there (Pick.there (Pick.there Pick.here)) | exact Pick.there (Pick.there (Pick.there (Pick.there Pick.here))) | exact Pick.there (Pick.there (Pick.there (Pick.there (Pick.there Pick.here)))) | exact Pick.there (Pick.there (Pick.there (Pick.there (Pick.there (Pick.there Pick.here))))) | exact Pick.there (Pick.there (Pick.there (Pick.there (Pick.there (Pick.there (Pick.there Pick.here)))))))) | apply Weak.drop)), by rw [endOf, if_neg h], rfl⟩
      · repeat' (first | (fail) | (first | refine JE.thenP ?_ | refine JE.doneXP ?_))
        rw [if_pos h]
        exact ⟨_, (by repeat (first | exact Weak.refl | (apply Weak.cons; (first | exact Pick.here | exact Pick.there Pick.here | exact Pick.there (Pick.there Pick.here) | exact Pick.there (Pick.there (Pick.there Pick.here)) | exact Pick.there (Pick.there (Pick.there (Pick.there Pick.here))) | exact Pick.there (Pick.there (Pick.there (Pick.there (Pick.there Pick.here)))) | exact Pick.there (Pick.there (Pick.there (Pick.there (Pick.there (Pick.there Pick.here))))) | exact Pick.there (Pick.there (Pick.there (Pick.there (Pick.there (Pick.there (Pick.there Pick.here)))))))) | apply Weak.drop)), by rw [endOf, if_neg h], rfl⟩
    · repeat' (first | (fail) | (first | refine JE.thenP ?_ | refine JE.doneXP ?_))
      rw [if_pos h]
      exact ⟨_, (by repeat (first | exact Weak.refl | (apply Weak.cons; (first | exact Pick.here | exact Pick.there Pick.here | exact Pick.there (Pick.there Pick.here) | exact Pick.there (Pick.there (Pick.there Pick.here)) | exact Pick.there (Pick.there (Pick.there (Pick.there Pick.here))) | exact Pick.there (Pick.there (Pick.there (Pick.there (Pick.there Pick.here)))) | exact Pick.there (Pick.there (Pick.there (Pick.there (Pick.there (Pick.there Pick.here))))) | exact Pick.there (Pick.there (Pick.there (Pick.there (Pick.there (Pick.there (Pick.there Pick.here)))))))) | apply Weak.drop)), by rw [endOf, if_neg h], rfl⟩
  · repeat' (first | (fail) | (first | refine JE.thenP ?_ | refine JE.doneXP ?_))
    rw [if_pos h]
    exact ⟨_, (by repeat (first | exact Weak.refl | (apply Weak.cons; (first | exact Pick.here | exact Pick.there Pick.here | exact Pick.there (Pick.there Pick.here) | exact Pick.there (Pick.there (Pick.there Pick.here)) | exact Pick.there (Pick.there (Pick.there (Pick.there Pick.here))) | exact Pick.there (Pick.there (Pick.there (Pick.there (Pick.there Pick.here)))) | exact Pick.there (Pick.there (Pick.there (Pick.there (Pick.there (Pick.there Pick.here))))) | exact Pick.there (Pick.there (Pick.there (Pick.there (Pick.there (Pick.there (Pick.there Pick.here)))))))) | apply Weak.drop)), by rw [endOf, if_neg h], rfl⟩
end Go.Sep
/- append of made bytes. -/
namespace Go.Sep
open Go
section
variable {P : Program} {σ : Sig} {n : Nat} {env : Env} {l r : List HP} {dst : Option Tmp} {ty : TypeId} {pos : String} {af : Array Edge} {gd : Option (Nat × Bool)}
theorem zeroCells_one (z0 : Value) (m : Nat) : Builtin.zeroCells #[z0] m = (List.replicate m z0).toArray := by
  apply Array.ext'
  apply List.ext_getElem
  · simp [Builtin.zeroCells]
  · intro i h1 h2
    simp [Builtin.zeroCells, Nat.mod_one]
theorem Do.appendMake {x y : Operand} {t e t' : TypeId} {k m : Nat} {zv z0 : Value} {i : TypeInfo} {v : Value} {xs : List Value} [UT P t (.slice e)] [UT P t' (.int .i64)] [SZ P e 1] [TI P e i] [ZV P e zv]
    (hx : ev env x = some v) (hy : ev env y = some (.int .i64 (m : Int))) (hp : Pick (ownS v e 1 k xs) l r)
    (hsz : (k + m) * i.bytes ≤ 140737488355328) (hb : Nat.beq i.bytes 0 = false := by rfl) (hz : zv.cells = #[z0] := by rfl) (h1 : z0.oneCell' = true := by rfl) :
    Do P σ n env l ⟨dst, .call ⟨.builtin .append, #[x, y], #[t, t']⟩, ty, pos, af, gd⟩ (fun v' l' => l' = ownS v' e 1 (k + m) (xs ++ List.replicate m z0) :: r ∧ (v' = .slice none 0 0 → v = .slice none 0 0 ∧ m = 0)) := by
  refine Do.value fun a w kn s => ?_
  have e1 := UT.run (P := P) (t := t) w
  have e2 := UT.run (P := P) (t := t') w
  have e3 := SZ.eq (P := P) (t := e) w
  have e4 := TI.eq (P := P) (t := e) w
  have e5 := ZV.eq (P := P) (t := e) w
  have hb' : i.bytes ≠ 0 := Nat.ne_of_beq_eq_false hb
  have hb1 : 1 ≤ i.bytes := Nat.one_le_iff_ne_zero.2 hb'
  have hkm : k + m ≤ 140737488355328 := Nat.le_trans (Nat.le_mul_of_pos_right _ hb1) hsz
  have hmb : m * i.bytes ≤ 140737488355328 := Nat.le_trans (Nat.mul_le_mul_right _ (Nat.le_add_left _ _)) hsz
  have hwr : IntKind.i64.wrap (m : Int) = (m : Int) := wrapI (by omega) (by omega)
  have hw0 : IntKind.i64.wrap 0 = 0 := by decide +kernel
  have hopen := (s.perm hp).ownS
  have hrun : ∀ res w', (Builtin.append_ #[t, t'] ty #[v, .int .i64 m]).run P w = .ok res w' → (execOp a.eval ⟨dst, .call ⟨.builtin .append, #[x, y], #[t, t']⟩, ty, pos, af, gd⟩).run P w = .ok (.value res) w' := by
    intro res w' h
    simp [execOp, resolve, invoke, builtin, kn.ev hx, kn.ev hy, h]
  have m0 : ¬ ((m : Int) < 0) := by omega
  have m1 : ¬ (281474976710656 < (m : Int) * (i.bytes : Int)) := by
    have : (m : Int) * (i.bytes : Int) = ((m * i.bytes : Nat) : Int) := by simp
    rw [this]; omega
  have grow : ∀ (base : Option Addr) (cap : Nat), v = .slice base k cap → cap < k + m → (Builtin.firstCells 1 k v).run P w = .ok xs.toArray w → ∃ res w' l', (Builtin.append_ #[t, t'] ty #[v, .int .i64 m]).run P w = .ok res w' ∧ Sat σ w' l' ∧ l' = ownS res e 1 (k + m) (xs ++ List.replicate m z0) :: r ∧ (res = .slice none 0 0 → v = .slice none 0 0 ∧ m = 0) := by
    intro base cap hv hcap hold
    subst hv
    have hfit := growslice_fits (need := k + m) (old := cap) hcap hsz
    have hx' : xs.length = k * 1 := by
      rcases hopen with ⟨q1, q2, q3, _⟩ | ⟨_, _, _, _, _, q, _⟩
      · subst q2; subst q3; simp
      · exact q
    have hd := (s.perm hp).drop.drew
    have hd2 : Sat σ ({ w with drawn := w.drawn + 1 } : World) r := hd
    obtain ⟨cp, hcp⟩ : ∃ cp, (Question.appendCap (k + m) cap e).cut (w.tape w.drawn (.appendCap (k + m) cap e)) = cp := ⟨_, rfl⟩
    have hcut : k + m ≤ cp := by rw [← hcp]; simp [Question.cut]
    have hnew := hd2.newRow e (xs.toArray ++ (List.replicate m z0).toArray ++ (List.replicate (cp - (k + m)) z0).toArray)
    have hcs : (xs.toArray ++ (List.replicate m z0).toArray ++ (List.replicate (cp - (k + m)) z0).toArray).toList = (xs ++ List.replicate m z0) ++ List.replicate (cp - (k + m)) z0 := by simp
    rw [hcs] at hnew
    refine ⟨.slice (some ⟨w.heap.size, 0, none⟩) (k + m) cp, _, _, ?_, Sat.ownS_arr hcut (by rw [List.length_append, hx', List.length_replicate]; omega) ?_ hnew, rfl, fun h => by cases h⟩
    · have hold' : ∀ w2 : World, w2.heap = w.heap → (Builtin.firstCells 1 k (.slice base k cap)).run P w2 = .ok xs.toArray w2 := by
        intro w2 hw2
        have hs2 : Sat σ { w with drawn := w2.drawn } l := s
        rcases hopen with ⟨q1, q2, q3, _⟩ | ⟨b, cap', spare', q1, q2, q3, q4, q5⟩
        · cases q1; subst q3; simp [Builtin.firstCells]
        · cases q1
          have hl2 := run_loadPart (P := P) (w := w2) (b := b) (o := 0) (vs := xs ++ spare') (m := k * 1) (fun i => by
            have := q5.cell i
            simp only [World.cell?, hw2] at this ⊢
            exact this) (by rw [List.length_append]; omega)
          simp only [Builtin.firstCells]
          rw [hl2, List.drop_zero, ← q3, List.take_left]
      have n1 : ¬ (k + m ≤ cap) := by omega
      have n2 : ¬ (((k + m : Nat) : Int) > IntKind.i64.max) := by simp [IntKind.max, IntKind.signed, IntKind.bits]; omega
      have n3 : ¬ (Builtin.nextslicecap (k + m) cap * i.bytes > 2 ^ 48) := by omega
      have n2' : ¬ ((k : Int) + (m : Int) > IntKind.i64.max) := by have := n2; push_cast at this; exact this
      have q0 := zeroCells_one z0
      rcases Nat.eq_zero_or_pos m with hm0 | hm0
      · subst hm0
        simp only [Nat.add_zero] at n1 n3 hcp
        have n2'' : ¬ ((9223372036854775807 : Int) < k) := by omega
        simp [Builtin.append_, asInt, asIntOf, hw0, e1, e2, e3, e4, e5, n1, n2'', n3, hb', hcp, TI.eq (P := P) (t := e) w.drew, ZV.eq (P := P) (t := e) w.drew, hold' w.drew rfl, Question.forced, hold' { w with drawn := w.drawn + 1 } rfl, newRow, hz, q0]
        rfl
      · have hm0' : ¬ m = 0 := by omega
        have n2'' : ¬ ((9223372036854775807 : Int) < k + m) := by omega
        simp [Builtin.append_, asInt, asIntOf, hw0, e1, e2, e3, e4, e5, hwr, m0, m1, n1, n2'', n3, hb', hcp, TI.eq (P := P) (t := e) w.drew, ZV.eq (P := P) (t := e) w.drew, hold' w.drew rfl, Question.forced, hold' { w with drawn := w.drawn + 1 } rfl, newRow, hz, q0, hm0']
        rfl
    · refine Nat.le_of_eq (Eq.symm ?_)
      rw [List.length_append, List.length_append, hx', List.length_replicate, List.length_replicate]
      omega
  rcases hopen with ⟨q1, q2, q3, _⟩ | ⟨b, cap, spare, q1, q2, q3, q4, q5⟩
  · subst q2; subst q3
    by_cases h0 : m = 0
    · subst h0
      refine ⟨.slice none 0 0, w, _, hrun _ _ ?_, Sat.ownS_nil (E := e) (z := 1) (s.perm hp).drop, by simp, fun _ => ⟨q1, rfl⟩⟩
      subst q1
      simp [Builtin.append_, asInt, asIntOf, hw0, e1, e2, e3, e4]
    · obtain ⟨res, w', l', g1, g2, g3⟩ := grow none 0 q1 (by omega) (by subst q1; simp [Builtin.firstCells])
      exact ⟨res, w', l', hrun _ _ g1, g2, g3⟩
  · by_cases hroom : k + m ≤ cap
    · have hle : (List.replicate m z0).length ≤ spare.length := by
        have h3 : cap * 1 ≤ xs.length + spare.length := by rw [← List.length_append]; exact q4
        rw [List.length_replicate]; omega
      obtain ⟨w', hr, s'⟩ := Sat.storeCells (P := P) (σ := σ) (List.replicate m z0) (xs ++ spare) xs.length 0 w (fun q hq => by rw [List.eq_of_mem_replicate hq]; exact h1) (by rw [List.length_append]; omega) q5
      rw [Nat.add_zero, splice_append _ _ _ hle] at s'
      have hal : Addr.add ⟨b, 0, none⟩ k = ⟨b, xs.length, none⟩ := by simp [Addr.add, q3]; intro h; exact h.symm
      have hal1 : Addr.add ⟨b, 0, none⟩ (k * 1) = ⟨b, xs.length, none⟩ := by rw [Nat.mul_one]; exact hal
      refine ⟨.slice (some ⟨b, 0, none⟩) (k + m) cap, w', _, hrun _ _ ?_, Sat.ownS_arr hroom (by rw [List.length_append, q3, List.length_replicate]; omega) (by
        have h3 : cap * 1 ≤ xs.length + spare.length := by rw [← List.length_append]; exact q4
        rw [List.length_append, List.length_append, List.length_drop]; omega) s', rfl, fun h => by cases h⟩
      subst q1
      rcases Nat.eq_zero_or_pos m with hm0 | hm0
      · subst hm0
        have hr2 : (storeCells ⟨b, xs.length, none⟩ []).run P w = .ok () w' := hr
        have hroom' : k ≤ cap := hroom
        simp [Builtin.append_, asInt, asIntOf, hw0, e1, e2, e3, e4, hroom', hal, hwr, hr2]
      · have hm0' : ¬ m = 0 := by omega
        simp [Builtin.append_, asInt, asIntOf, hw0, e1, e2, e3, e4, e5, hroom, hal, hwr, m0, m1, hm0', hz, zeroCells_one, hr]
    · obtain ⟨res, w', l', g1, g2, g3⟩ := grow (some ⟨b, 0, none⟩) cap q1 (by omega) (by
        subst q1
        have hl2 := run_loadPart (P := P) (w := w) (b := b) (o := 0) (vs := xs ++ spare) (m := k * 1) (fun i => q5.cell i) (by rw [List.length_append]; omega)
        simp only [Builtin.firstCells]
        rw [hl2, List.drop_zero, ← q3, List.take_left])
      exact ⟨res, w', l', hrun _ _ g1, g2, g3⟩
theorem JO.guardU {ds : List Deferred} {ops : Array Oper} {Q : Exit → Act → World → Prop} {rest : List Oper} {o : Oper} {g : Nat} {b : Bool} {og : Oper} {d d' : Nat} (hg : o.guard = some (g, b)) (ho : ops[g]? = some og) (hd : og.dst = some d) (hv : look env d = some undef)
    (hd' : o.dst = some d') (hlt : Nat.blt d' n = true)
    (k : JO P σ n ds ops Q rest ((d', undef) :: env) l) : JO P σ n ds ops Q (o :: rest) env l := by
  intro a w ka kd s
  have hw : Region.wanted o (yielded ops a.tmps) = false := by
    simp [Region.wanted, hg, yielded, ho, hd, ka.know d _ hv, undef]
  unfold wpList
  rw [if_neg (by simp [hw]), hd']
  exact k _ _ (ka.put d' _ hlt) kd s
theorem JO.tail1 {ds : List Deferred} {ops : Array Oper} {Q : Exit → Act → World → Prop} {rest : List Oper} {p1 : HP} {v : Value} {E k : Nat} {xs : List Value}
    (h : RdS σ (ownS v E 1 k xs :: r) v xs → JO P σ n ds ops Q rest env (p1 :: ownS v E 1 k xs :: r)) : JO P σ n ds ops Q rest env (p1 :: ownS v E 1 k xs :: r) :=
  fun a w ka kd s => h (Sat.ownR (Sat.drop s)).1 a w ka kd s
end
end Go.Sep
