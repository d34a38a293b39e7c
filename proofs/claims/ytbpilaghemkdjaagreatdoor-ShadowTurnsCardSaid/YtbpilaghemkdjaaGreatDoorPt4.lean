/- Part 4: head: what any bytes are; What is one's own, behind three others; slot: sealed; slot: what its calls answer, as functions of the disk; The shelf's contracts on a map's keys, sorted, at this dump; A map's keys, sorted, as the heap logic has it; The disk: what isn't synced yet; The disk: synced; What lies on a disk, sector by sector: no program in sight; Heads, and images in pieces: no program in sight; slot: wiped, sealed, laid: what each answers as a function of the disk; slot: read; slot: each call, where what it answers is known; A slot's calls on a disk on which nothing fails: no program in sight; What a crash leaves: no program in sight; The disk: crashed; The statements' own small functions: two lists of bytes the same; a fresh disk; What arguments read as; a statement's last step, out of a contract; A statement's post-condition, where nothing that was there has turned; the table. -/
import Derived.Test.YtbpilaghemkdjaaGreatDoorPt3
import Derived.Shelf.SlIterI.Nil
import Derived.Shelf.SortM.Plain
import Derived.Shelf.SortM.SortNone
import Derived.Ground.GgzProg
import Derived.Ground.SlgmProg
import Derived.ProofKit
import Derived.Carry
import Derived.Deep.Slices
import Derived.OpenShut
import Derived.Test.YtbpilaghemkdjaaGreatDoorRows
import Derived.LaidMore
import Derived.Stop.Joined
set_option linter.all false
/- head: what any bytes are. -/
namespace Go.Sep
open Go Go.Proofs
attribute [local irreducible] JO JC JE JA JQ JB JI Mid Inv Weak ownS Ru Do Fn Sat Pick Take arr pt star ex Holds bodyPost Post Exit.then Exit.inBlock Res
variable {σ : Sig} {F : List HP}
def decRaw (bs : List UInt8) : HeadN := ⟨(bs.getD 5 0).toNat, (bs.getD 6 0).toNat, (bs.getD 7 0).toNat, leNum ((bs.drop 8).take 4), leNum ((bs.drop 12).take 8), leNum ((bs.drop 20).take 4)⟩
def decE (bs : List UInt8) : Int :=
  if bs.length < 28 then 5
  else if bs.take 4 ≠ [75, 69, 69, 80] then 6
  else if (bs.getD 4 0).toNat ≠ 1 then 7
  else if crcSum (bs.take 24) ≠ leNum ((bs.drop 24).take 4) then 8
  else if (decRaw bs).right = true then 0 else 9
def decH (bs : List UInt8) : HeadN := if decE bs = 0 then decRaw bs else .zero

theorem rd_part {l : List HP} {b o len cap : Nat} {bs : List UInt8} (h : RdS σ l (.slice (some ⟨b, o, none⟩) len cap) (bs.map byte)) (i j m : Int) (h0 : 0 ≤ i) (hij : i ≤ j) (hj : j ≤ len) (hm : j ≤ m) :
    RdS σ l (.slice (some ⟨b, o + i.toNat * 1, none⟩) (j - i).toNat (m - i).toNat) (((bs.drop i.toNat).take (j - i).toNat).map byte) := by
  have := h.part i.toNat (j - i).toNat (m - i).toNat (by omega) (by omega)
  rwa [← List.map_drop, ← List.map_take] at this
theorem rd_cell' {l : List HP} {bs : List UInt8} {b o : Nat} (hc : ∀ w, Sat σ w l → ∀ i u, (bs.map byte)[i]? = some u → w.cell? ⟨b, o + i, none⟩ = some u) (i : Nat) (hi : i < bs.length) :
    ∀ w, Sat σ w l → w.cell? ⟨b, o + (i : Int).toNat * 1, none⟩ = some (byte (bs.getD i 0)) := by
  have := rd_cell (σ := σ) hc hi (k := (i : Int)) (by omega)
  rw [List.getD_eq_getElem?_getD, List.getElem?_eq_getElem hi]
  exact this

set_option maxHeartbeats 2000000 in
theorem head_Decode (v : Value) (bs : List UInt8) (hlen : bs.length ≤ 100000000) {l : List HP} (hb : RdS σ l v (bs.map byte)) [hg : InG l] : Fn Tryz.prog σ 74 #[v] l (fun v l' => v = .tuple #[(decH bs).val, int (decE bs)] ∧ l' = l) := by
  have hb0 := hb
  obtain ⟨p, cap, rfl, hcap, hr⟩ := hb
  have hl : (bs.map byte).length = bs.length := by simp
  unfold decH
  by_cases c1 : bs.length < 28
  · have e : decE bs = 5 := by unfold decE; rw [if_pos c1]
    rw [e]
    refine Fn.of Tryz.func74 rfl Tryz.ntmps74 rfl ?_
    repeat' (first | (apply JO.ru; exact rfl; exact rfl; exact rfl; (first | (apply Ru.move; exact rfl) | (apply Ru.assign; exact rfl) | (apply Ru.lenS; exact rfl) | (apply Ru.lss; exact rfl; exact rfl; (first | exact decT (by omega) | exact decF (by omega))) | (apply Ru.buildN; exact rfl; exact rfl))) | refine JC.seq ?_ | refine JC.region ?_ | refine JO.nil ?_ | refine JE.thenN ?_ | refine JE.thenR ?_ | refine JE.blockR ?_ | refine JC.block ?_ | refine JC.ret ?_ | refine JC.condT rfl ?_ | (apply JO.do; exact rfl; exact rfl; exact rfl; (first | (apply Do.allocN; exact rfl) | apply Do.alloc); rintro _ _ ⟨_, rfl, rfl⟩) | (apply JO.do0; exact rfl; exact rfl; (first | (apply Do.storeAN; exact rfl; exact rfl; (repeat (first | exact Pick.here | apply Pick.there)); exact rfl; exact rfl; exact rfl; exact rfl) | (apply Do.storeA; exact rfl; exact rfl; (repeat (first | exact Pick.here | apply Pick.there)); exact rfl; exact rfl; exact rfl)); rintro _ _ ⟨rfl, rfl⟩) | (apply JE.done2; exact rfl; (first | (apply Res.tmp; exact rfl) | (apply Res.cell; exact rfl; (repeat (first | exact Pick.here | apply Pick.there)); exact rfl) | (apply Res.cellAN; exact rfl; (repeat (first | exact Pick.here | apply Pick.there)); exact rfl; exact rfl) | (apply Res.cellA; exact rfl; (repeat (first | exact Pick.here | apply Pick.there)); exact rfl; exact rfl)); (first | (apply Res.tmp; exact rfl) | (apply Res.cell; exact rfl; (repeat (first | exact Pick.here | apply Pick.there)); exact rfl) | (apply Res.cellAN; exact rfl; (repeat (first | exact Pick.here | apply Pick.there)); exact rfl; exact rfl) | (apply Res.cellA; exact rfl; (repeat (first | exact Pick.here | apply Pick.there)); exact rfl; exact rfl))))
    refine finD (finS ?_); exact ⟨rfl, rfl⟩
  have hx : ∃ b o, p = some ⟨b, o, none⟩ ∧ ∀ w, Sat σ w l → ∀ i u, (bs.map byte)[i]? = some u → w.cell? ⟨b, o + i, none⟩ = some u := by
    rcases hr with h | h
    · rw [h] at hl; simp at hl; omega
    · exact h
  obtain ⟨b, o, rfl, hc⟩ := hx
  by_cases c2 : bs.take 4 = [75, 69, 69, 80]
  case neg =>
    have e : decE bs = 6 := by unfold decE; rw [if_neg c1, if_pos c2]
    rw [e]
    refine Fn.of Tryz.func74 rfl Tryz.ntmps74 rfl ?_
    repeat' (first | (apply JO.ru; exact rfl; exact rfl; exact rfl; (first | (apply Ru.move; exact rfl) | (apply Ru.assign; exact rfl) | (apply Ru.lenS; exact rfl) | (apply Ru.lss; exact rfl; exact rfl; (first | exact decT (by omega) | exact decF (by omega))) | (apply Ru.sliceS; exact rfl; exact rfl; exact rfl; exact rfl; (first | exact fun _ => rfl | exact fun h => nomatch h); omega; omega; omega))) | refine JC.seq ?_ | refine JC.region ?_ | refine JO.nil ?_ | refine JE.thenN ?_ | refine JC.block ?_ | refine JC.condF rfl ?_ | (apply JO.do; exact rfl; exact rfl; exact rfl; (first | (apply Do.allocN; exact rfl) | apply Do.alloc); rintro _ _ ⟨_, rfl, rfl⟩))
    (apply JO.ru; exact rfl; exact rfl; exact rfl; (apply Ru.bytesStr; exact rfl; exact (rd_part hb0 0 4 cap (by omega) (by omega) (by omega) (by omega)).cons))
    (apply JO.ru; exact rfl; exact rfl; exact rfl; (apply Ru.neqS (r := true); exact rfl; exact rfl; (rw [ByteArray.toList_eq, ByteArray.toList_eq]; simpa using c2)))
    repeat' (first | (apply JO.ru; exact rfl; exact rfl; exact rfl; (first | (apply Ru.assign; exact rfl) | (apply Ru.buildN; exact rfl; exact rfl))) | refine JC.seq ?_ | refine JC.region ?_ | refine JO.nil ?_ | refine JE.thenN ?_ | refine JE.thenR ?_ | refine JE.blockR ?_ | refine JC.ret ?_ | refine JC.condT rfl ?_ | (apply JO.do0; exact rfl; exact rfl; (first | (apply Do.storeAN; exact rfl; exact rfl; (repeat (first | exact Pick.here | apply Pick.there)); exact rfl; exact rfl; exact rfl; exact rfl) | (apply Do.storeA; exact rfl; exact rfl; (repeat (first | exact Pick.here | apply Pick.there)); exact rfl; exact rfl; exact rfl)); rintro _ _ ⟨rfl, rfl⟩) | (apply JE.done2; exact rfl; (first | (apply Res.tmp; exact rfl) | (apply Res.cell; exact rfl; (repeat (first | exact Pick.here | apply Pick.there)); exact rfl) | (apply Res.cellAN; exact rfl; (repeat (first | exact Pick.here | apply Pick.there)); exact rfl; exact rfl) | (apply Res.cellA; exact rfl; (repeat (first | exact Pick.here | apply Pick.there)); exact rfl; exact rfl)); (first | (apply Res.tmp; exact rfl) | (apply Res.cell; exact rfl; (repeat (first | exact Pick.here | apply Pick.there)); exact rfl) | (apply Res.cellAN; exact rfl; (repeat (first | exact Pick.here | apply Pick.there)); exact rfl; exact rfl) | (apply Res.cellA; exact rfl; (repeat (first | exact Pick.here | apply Pick.there)); exact rfl; exact rfl))))
    refine finD (finS ?_); exact ⟨rfl, rfl⟩
  by_cases c3 : (bs.getD 4 0).toNat = 1
  case neg =>
    have e : decE bs = 7 := by unfold decE; rw [if_neg c1, if_neg (by simpa using c2), if_pos c3]
    rw [e]
    refine Fn.of Tryz.func74 rfl Tryz.ntmps74 rfl ?_
    repeat' (first | (apply JO.ru; exact rfl; exact rfl; exact rfl; (first | (apply Ru.move; exact rfl) | (apply Ru.assign; exact rfl) | (apply Ru.lenS; exact rfl) | (apply Ru.lss; exact rfl; exact rfl; (first | exact decT (by omega) | exact decF (by omega))) | (apply Ru.sliceS; exact rfl; exact rfl; exact rfl; exact rfl; (first | exact fun _ => rfl | exact fun h => nomatch h); omega; omega; omega))) | refine JC.seq ?_ | refine JC.region ?_ | refine JO.nil ?_ | refine JE.thenN ?_ | refine JC.block ?_ | refine JC.condF rfl ?_ | (apply JO.do; exact rfl; exact rfl; exact rfl; (first | (apply Do.allocN; exact rfl) | apply Do.alloc); rintro _ _ ⟨_, rfl, rfl⟩))
    (apply JO.ru; exact rfl; exact rfl; exact rfl; (apply Ru.bytesStr; exact rfl; exact (rd_part hb0 0 4 cap (by omega) (by omega) (by omega) (by omega)).cons))
    (apply JO.ru; exact rfl; exact rfl; exact rfl; (apply Ru.neqS (r := false); exact rfl; exact rfl; (rw [ByteArray.toList_eq, ByteArray.toList_eq]; simpa using c2)))
    repeat' (first | (apply JO.ru; exact rfl; exact rfl; exact rfl; (first | (apply Ru.move; exact rfl) | (apply Ru.assign; exact rfl) | (apply Ru.indexAddr; exact rfl; exact rfl; omega; omega))) | refine JC.seq ?_ | refine JC.region ?_ | refine JO.nil ?_ | refine JE.thenN ?_ | refine JC.condF rfl ?_)
    (apply JO.ru; exact rfl; exact rfl; exact rfl; (apply Ru.loadC; exact rfl; exact fun w s => rd_cell' hc 4 (by omega) w (Sat.drop s)))
    repeat' (first | (apply JO.ru; exact rfl; exact rfl; exact rfl; (first | (apply Ru.assign; exact rfl) | (apply Ru.neq; exact rfl; exact rfl; (first | exact ndecF (by omega) | exact ndecT (by omega))) | (apply Ru.buildN; exact rfl; exact rfl))) | refine JC.seq ?_ | refine JC.region ?_ | refine JO.nil ?_ | refine JE.thenN ?_ | refine JE.thenR ?_ | refine JE.blockR ?_ | refine JC.ret ?_ | refine JC.condT rfl ?_ | (apply JO.do0; exact rfl; exact rfl; (first | (apply Do.storeAN; exact rfl; exact rfl; (repeat (first | exact Pick.here | apply Pick.there)); exact rfl; exact rfl; exact rfl; exact rfl) | (apply Do.storeA; exact rfl; exact rfl; (repeat (first | exact Pick.here | apply Pick.there)); exact rfl; exact rfl; exact rfl)); rintro _ _ ⟨rfl, rfl⟩) | (apply JE.done2; exact rfl; (first | (apply Res.tmp; exact rfl) | (apply Res.cell; exact rfl; (repeat (first | exact Pick.here | apply Pick.there)); exact rfl) | (apply Res.cellAN; exact rfl; (repeat (first | exact Pick.here | apply Pick.there)); exact rfl; exact rfl) | (apply Res.cellA; exact rfl; (repeat (first | exact Pick.here | apply Pick.there)); exact rfl; exact rfl)); (first | (apply Res.tmp; exact rfl) | (apply Res.cell; exact rfl; (repeat (first | exact Pick.here | apply Pick.there)); exact rfl) | (apply Res.cellAN; exact rfl; (repeat (first | exact Pick.here | apply Pick.there)); exact rfl; exact rfl) | (apply Res.cellA; exact rfl; (repeat (first | exact Pick.here | apply Pick.there)); exact rfl; exact rfl))))
    refine finD (finS ?_); exact ⟨rfl, rfl⟩
  by_cases c4 : crcSum (bs.take 24) = leNum ((bs.drop 24).take 4)
  case neg =>
    have e : decE bs = 8 := by unfold decE; rw [if_neg c1, if_neg (by simpa using c2), if_neg (by simpa using c3), if_pos c4]
    rw [e]
    refine Fn.of Tryz.func74 rfl Tryz.ntmps74 rfl ?_
    repeat' (first | (apply JO.ru; exact rfl; exact rfl; exact rfl; (first | (apply Ru.move; exact rfl) | (apply Ru.assign; exact rfl) | (apply Ru.lenS; exact rfl) | (apply Ru.lss; exact rfl; exact rfl; (first | exact decT (by omega) | exact decF (by omega))) | (apply Ru.sliceS; exact rfl; exact rfl; exact rfl; exact rfl; (first | exact fun _ => rfl | exact fun h => nomatch h); omega; omega; omega))) | refine JC.seq ?_ | refine JC.region ?_ | refine JO.nil ?_ | refine JE.thenN ?_ | refine JC.block ?_ | refine JC.condF rfl ?_ | (apply JO.do; exact rfl; exact rfl; exact rfl; (first | (apply Do.allocN; exact rfl) | apply Do.alloc); rintro _ _ ⟨_, rfl, rfl⟩))
    (apply JO.ru; exact rfl; exact rfl; exact rfl; (apply Ru.bytesStr; exact rfl; exact (rd_part hb0 0 4 cap (by omega) (by omega) (by omega) (by omega)).cons))
    (apply JO.ru; exact rfl; exact rfl; exact rfl; (apply Ru.neqS (r := false); exact rfl; exact rfl; (rw [ByteArray.toList_eq, ByteArray.toList_eq]; simpa using c2)))
    repeat' (first | (apply JO.ru; exact rfl; exact rfl; exact rfl; (first | (apply Ru.move; exact rfl) | (apply Ru.assign; exact rfl) | (apply Ru.indexAddr; exact rfl; exact rfl; omega; omega))) | refine JC.seq ?_ | refine JC.region ?_ | refine JO.nil ?_ | refine JE.thenN ?_ | refine JC.condF rfl ?_)
    (apply JO.ru; exact rfl; exact rfl; exact rfl; (apply Ru.loadC; exact rfl; exact fun w s => rd_cell' hc 4 (by omega) w (Sat.drop s)))
    repeat' (first | (apply JO.ru; exact rfl; exact rfl; exact rfl; (first | (apply Ru.assign; exact rfl) | (apply Ru.neq; exact rfl; exact rfl; (first | exact ndecF (by omega) | exact ndecT (by omega))))) | refine JC.seq ?_ | refine JO.nil ?_ | refine JE.thenN ?_ | refine JC.condF rfl ?_ | (apply JQ.ru; exact rfl; exact rfl; exact rfl; (first | (apply Ru.move; exact rfl) | (apply Ru.sliceS; exact rfl; exact rfl; exact rfl; exact rfl; (first | exact fun _ => rfl | exact fun h => nomatch h); omega; omega; omega))) | refine JC.regionQ mixed (by decide +kernel) ?_)
    (apply JQ.call; exact rfl; exact rfl; exact rfl; exact crc_Sum _ (bs.take 24) (by rw [List.length_take]; omega) (rd_part hb0 0 24 cap (by omega) (by omega) (by omega) (by omega)).cons; (rintro _ _ ⟨rfl, rfl⟩; exact ⟨rfl, rfl⟩))
    repeat' ((apply JQ.ru; exact rfl; exact rfl; exact rfl; (first | (apply Ru.move; exact rfl) | (apply Ru.sliceS; exact rfl; exact rfl; exact rfl; exact rfl; (first | exact fun _ => rfl | exact fun h => nomatch h); omega; omega; omega))))
    (apply JQ.call; exact rfl; exact rfl; exact rfl; exact head_take32 _ ((bs.drop 24).take 4) (by rw [List.length_take]; omega) (rd_part hb0 24 28 cap (by omega) (by omega) (by omega) (by omega)).cons; (rintro _ _ ⟨rfl, rfl⟩; exact ⟨rfl, rfl⟩))
    (apply JQ.ru; exact rfl; exact rfl; exact rfl; (apply Ru.neq; exact rfl; exact rfl; exact ndecT c4))
    repeat' (first | (apply JO.ru; exact rfl; exact rfl; exact rfl; (first | (apply Ru.assign; exact rfl) | (apply Ru.buildN; exact rfl; exact rfl))) | refine JC.seq ?_ | refine JC.region ?_ | refine JO.nil ?_ | refine JE.thenN ?_ | refine JE.thenR ?_ | refine JE.blockR ?_ | refine JC.ret ?_ | refine JC.condT rfl ?_ | (apply JQ.ru; exact rfl; exact rfl; exact rfl; ((apply Ru.assign; exact rfl))) | refine JQ.nil ?_ | (apply JO.do0; exact rfl; exact rfl; (first | (apply Do.storeAN; exact rfl; exact rfl; (repeat (first | exact Pick.here | apply Pick.there)); exact rfl; exact rfl; exact rfl; exact rfl) | (apply Do.storeA; exact rfl; exact rfl; (repeat (first | exact Pick.here | apply Pick.there)); exact rfl; exact rfl; exact rfl)); rintro _ _ ⟨rfl, rfl⟩) | (apply JE.done2; exact rfl; (first | (apply Res.tmp; exact rfl) | (apply Res.cell; exact rfl; (repeat (first | exact Pick.here | apply Pick.there)); exact rfl) | (apply Res.cellAN; exact rfl; (repeat (first | exact Pick.here | apply Pick.there)); exact rfl; exact rfl) | (apply Res.cellA; exact rfl; (repeat (first | exact Pick.here | apply Pick.there)); exact rfl; exact rfl)); (first | (apply Res.tmp; exact rfl) | (apply Res.cell; exact rfl; (repeat (first | exact Pick.here | apply Pick.there)); exact rfl) | (apply Res.cellAN; exact rfl; (repeat (first | exact Pick.here | apply Pick.there)); exact rfl; exact rfl) | (apply Res.cellA; exact rfl; (repeat (first | exact Pick.here | apply Pick.there)); exact rfl; exact rfl))))
    refine finD (finS ?_); exact ⟨rfl, rfl⟩
  refine Fn.of Tryz.func74 rfl Tryz.ntmps74 rfl ?_
  repeat' (first | (apply JO.ru; exact rfl; exact rfl; exact rfl; (first | (apply Ru.move; exact rfl) | (apply Ru.assign; exact rfl) | (apply Ru.lenS; exact rfl) | (apply Ru.lss; exact rfl; exact rfl; (first | exact decT (by omega) | exact decF (by omega))) | (apply Ru.sliceS; exact rfl; exact rfl; exact rfl; exact rfl; (first | exact fun _ => rfl | exact fun h => nomatch h); omega; omega; omega))) | refine JC.seq ?_ | refine JC.region ?_ | refine JO.nil ?_ | refine JE.thenN ?_ | refine JC.block ?_ | refine JC.condF rfl ?_ | (apply JO.do; exact rfl; exact rfl; exact rfl; (first | (apply Do.allocN; exact rfl) | apply Do.alloc); rintro _ _ ⟨_, rfl, rfl⟩))
  (apply JO.ru; exact rfl; exact rfl; exact rfl; (apply Ru.bytesStr; exact rfl; exact (rd_part hb0 0 4 cap (by omega) (by omega) (by omega) (by omega)).cons))
  (apply JO.ru; exact rfl; exact rfl; exact rfl; (apply Ru.neqS (r := false); exact rfl; exact rfl; (rw [ByteArray.toList_eq, ByteArray.toList_eq]; simpa using c2)))
  repeat' (first | (apply JO.ru; exact rfl; exact rfl; exact rfl; (first | (apply Ru.move; exact rfl) | (apply Ru.assign; exact rfl) | (apply Ru.indexAddr; exact rfl; exact rfl; omega; omega))) | refine JC.seq ?_ | refine JC.region ?_ | refine JO.nil ?_ | refine JE.thenN ?_ | refine JC.condF rfl ?_)
  (apply JO.ru; exact rfl; exact rfl; exact rfl; (apply Ru.loadC; exact rfl; exact fun w s => rd_cell' hc 4 (by omega) w (Sat.drop s)))
  repeat' (first | (apply JO.ru; exact rfl; exact rfl; exact rfl; (first | (apply Ru.assign; exact rfl) | (apply Ru.neq; exact rfl; exact rfl; (first | exact ndecF (by omega) | exact ndecT (by omega))))) | refine JC.seq ?_ | refine JO.nil ?_ | refine JE.thenN ?_ | refine JC.condF rfl ?_ | (apply JQ.ru; exact rfl; exact rfl; exact rfl; (first | (apply Ru.move; exact rfl) | (apply Ru.sliceS; exact rfl; exact rfl; exact rfl; exact rfl; (first | exact fun _ => rfl | exact fun h => nomatch h); omega; omega; omega))) | refine JC.regionQ mixed (by decide +kernel) ?_)
  (apply JQ.call; exact rfl; exact rfl; exact rfl; exact crc_Sum _ (bs.take 24) (by rw [List.length_take]; omega) (rd_part hb0 0 24 cap (by omega) (by omega) (by omega) (by omega)).cons; (rintro _ _ ⟨rfl, rfl⟩; exact ⟨rfl, rfl⟩))
  repeat' ((apply JQ.ru; exact rfl; exact rfl; exact rfl; (first | (apply Ru.move; exact rfl) | (apply Ru.sliceS; exact rfl; exact rfl; exact rfl; exact rfl; (first | exact fun _ => rfl | exact fun h => nomatch h); omega; omega; omega))))
  (apply JQ.call; exact rfl; exact rfl; exact rfl; exact head_take32 _ ((bs.drop 24).take 4) (by rw [List.length_take]; omega) (rd_part hb0 24 28 cap (by omega) (by omega) (by omega) (by omega)).cons; (rintro _ _ ⟨rfl, rfl⟩; exact ⟨rfl, rfl⟩))
  (apply JQ.ru; exact rfl; exact rfl; exact rfl; (apply Ru.neq; exact rfl; exact rfl; exact ndecF c4))
  repeat' (first | refine JC.seq ?_ | refine JE.thenN ?_ | refine JE.blockN ?_ | refine JC.skip ?_ | refine JC.condF rfl ?_ | (apply JQ.ru; exact rfl; exact rfl; exact rfl; ((apply Ru.assign; exact rfl))) | refine JQ.nil ?_)
  refine JC.mid (fun q : Nat × Nat => [(2, .pointer (some ⟨q.1, 0, none⟩)), (3, int 0), (4, .pointer (some ⟨q.2, 0, none⟩))]) (fun q => arr q.2 114 (decRaw bs).val.cells.toList :: arr q.1 114 HeadN.zero.val.cells.toList :: l) (fun _ => True) ?_ ?_
  · rintro ⟨q1, q2⟩ _
    dsimp only
    by_cases c5 : (decRaw bs).right = true
    · have e : decE bs = 0 := by unfold decE; rw [if_neg c1, if_neg (by simpa using c2), if_neg (by simpa using c3), if_neg (by simpa using c4), if_pos c5]
      rw [e]
      repeat' (first | (first | (apply JO.ru; exact rfl; exact rfl; exact rfl; (first | (apply Ru.assign; exact rfl) | (apply Ru.not; exact rfl) | (apply Ru.loadAN; exact rfl; (repeat (first | exact Pick.here | apply Pick.there)); exact rfl; exact rfl))) | refine JC.seq ?_ | refine JC.region ?_ | refine JO.nil ?_ | refine JE.thenN ?_ | refine JC.ret ?_ | refine JC.skip ?_ | refine JC.condF rfl ?_ | (apply JO.do0; exact rfl; exact rfl; (first | (apply Do.storeAN; exact rfl; exact rfl; (repeat (first | exact Pick.here | apply Pick.there)); exact rfl; exact rfl; exact rfl; exact rfl) | (apply Do.storeA; exact rfl; exact rfl; (repeat (first | exact Pick.here | apply Pick.there)); exact rfl; exact rfl; exact rfl)); rintro _ _ ⟨rfl, rfl⟩) | (apply JE.done2; exact rfl; (first | (apply Res.tmp; exact rfl) | (apply Res.cell; exact rfl; (repeat (first | exact Pick.here | apply Pick.there)); exact rfl) | (apply Res.cellAN; exact rfl; (repeat (first | exact Pick.here | apply Pick.there)); exact rfl; exact rfl) | (apply Res.cellA; exact rfl; (repeat (first | exact Pick.here | apply Pick.there)); exact rfl; exact rfl)); (first | (apply Res.tmp; exact rfl) | (apply Res.cell; exact rfl; (repeat (first | exact Pick.here | apply Pick.there)); exact rfl) | (apply Res.cellAN; exact rfl; (repeat (first | exact Pick.here | apply Pick.there)); exact rfl; exact rfl) | (apply Res.cellA; exact rfl; (repeat (first | exact Pick.here | apply Pick.there)); exact rfl; exact rfl)))) | ((first | (apply JO.do; exact rfl; exact rfl; exact rfl; (apply Do.call; exact rfl; exact head_right (decRaw bs)); rintro _ _ ⟨rfl, hq⟩; obtain rfl := hq.symm) | (apply JQ.call; exact rfl; exact rfl; exact rfl; exact head_right (decRaw bs); (rintro _ _ ⟨rfl, rfl⟩; exact ⟨rfl, rfl⟩))); rw [c5]))
      refine finD (finD (finS ?_)); exact ⟨rfl, rfl⟩
    · have e : decE bs = 9 := by unfold decE; rw [if_neg c1, if_neg (by simpa using c2), if_neg (by simpa using c3), if_neg (by simpa using c4), if_neg c5]
      rw [e]
      simp only [Bool.not_eq_true] at c5
      repeat' (first | (first | (apply JO.ru; exact rfl; exact rfl; exact rfl; (first | (apply Ru.assign; exact rfl) | (apply Ru.not; exact rfl) | (apply Ru.loadAN; exact rfl; (repeat (first | exact Pick.here | apply Pick.there)); exact rfl; exact rfl) | (apply Ru.buildN; exact rfl; exact rfl))) | refine JC.seq ?_ | refine JC.region ?_ | refine JO.nil ?_ | refine JE.thenN ?_ | refine JE.thenR ?_ | refine JC.ret ?_ | refine JC.condT rfl ?_ | (apply JO.do0; exact rfl; exact rfl; (first | (apply Do.storeAN; exact rfl; exact rfl; (repeat (first | exact Pick.here | apply Pick.there)); exact rfl; exact rfl; exact rfl; exact rfl) | (apply Do.storeA; exact rfl; exact rfl; (repeat (first | exact Pick.here | apply Pick.there)); exact rfl; exact rfl; exact rfl)); rintro _ _ ⟨rfl, rfl⟩) | (apply JE.done2; exact rfl; (first | (apply Res.tmp; exact rfl) | (apply Res.cell; exact rfl; (repeat (first | exact Pick.here | apply Pick.there)); exact rfl) | (apply Res.cellAN; exact rfl; (repeat (first | exact Pick.here | apply Pick.there)); exact rfl; exact rfl) | (apply Res.cellA; exact rfl; (repeat (first | exact Pick.here | apply Pick.there)); exact rfl; exact rfl)); (first | (apply Res.tmp; exact rfl) | (apply Res.cell; exact rfl; (repeat (first | exact Pick.here | apply Pick.there)); exact rfl) | (apply Res.cellAN; exact rfl; (repeat (first | exact Pick.here | apply Pick.there)); exact rfl; exact rfl) | (apply Res.cellA; exact rfl; (repeat (first | exact Pick.here | apply Pick.there)); exact rfl; exact rfl)))) | ((first | (apply JO.do; exact rfl; exact rfl; exact rfl; (apply Do.call; exact rfl; exact head_right (decRaw bs)); rintro _ _ ⟨rfl, hq⟩; obtain rfl := hq.symm) | (apply JQ.call; exact rfl; exact rfl; exact rfl; exact head_right (decRaw bs); (rintro _ _ ⟨rfl, rfl⟩; exact ⟨rfl, rfl⟩))); rw [c5]))
      refine finD (finD (finS ?_)); exact ⟨rfl, rfl⟩
  refine JC.regionB l mixed ?_
  repeat' (first | (apply JB.ru; exact rfl; exact rfl; exact rfl; exact rfl; (apply Ru.loadC; exact rfl; exact rd_cell' hc 5 (by omega)); decide +kernel; decide +kernel; (first | exact fun _ h => h | exact fun _ h => Sat.drop h | exact fun _ h => Sat.drop (Sat.drop h)); (simp only [Nat.reduceAdd, Nat.reducePow, Nat.reduceMul, Nat.zero_or, Nat.or_zero, Nat.reduceXor, Nat.reduceOr]; try exact rfl)) | (apply JB.ru; exact rfl; exact rfl; exact rfl; exact rfl; (apply Ru.loadC; exact rfl; exact rd_cell' hc 6 (by omega)); decide +kernel; decide +kernel; (first | exact fun _ h => h | exact fun _ h => Sat.drop h | exact fun _ h => Sat.drop (Sat.drop h)); (simp only [Nat.reduceAdd, Nat.reducePow, Nat.reduceMul, Nat.zero_or, Nat.or_zero, Nat.reduceXor, Nat.reduceOr]; try exact rfl)) | (apply JB.ru; exact rfl; exact rfl; exact rfl; exact rfl; (apply Ru.loadC; exact rfl; exact rd_cell' hc 7 (by omega)); decide +kernel; decide +kernel; (first | exact fun _ h => h | exact fun _ h => Sat.drop h | exact fun _ h => Sat.drop (Sat.drop h)); (simp only [Nat.reduceAdd, Nat.reducePow, Nat.reduceMul, Nat.zero_or, Nat.or_zero, Nat.reduceXor, Nat.reduceOr]; try exact rfl)) | (show JI _ _ _ _ _ _ _ _ _ 15 _ _; apply JI.do; exact rfl; exact rfl; exact rfl; exact rfl; (apply Do.call; exact rfl; exact head_take32 _ ((bs.drop 8).take 4) (by rw [List.length_take]; omega) (by first | exact (rd_part hb0 8 12 cap (by omega) (by omega) (by omega) (by omega)).cons | exact (rd_part hb0 8 12 cap (by omega) (by omega) (by omega) (by omega)).cons.cons)); (simp only [Nat.reduceAdd, Nat.reducePow, Nat.reduceMul, Nat.zero_or, Nat.or_zero, Nat.reduceXor, Nat.reduceOr]; try exact rfl); rintro _ _ ⟨rfl, rfl⟩; refine ⟨(by (first | exact fun _ h => h | exact fun _ h => Sat.drop h | exact fun _ h => Sat.drop (Sat.drop h))), ?_⟩) | (show JI _ _ _ _ _ _ _ _ _ 19 _ _; apply JI.do; exact rfl; exact rfl; exact rfl; exact rfl; (apply Do.call; exact rfl; exact head_take64 _ ((bs.drop 12).take 8) (by rw [List.length_take]; omega) (by first | exact (rd_part hb0 12 20 cap (by omega) (by omega) (by omega) (by omega)).cons | exact (rd_part hb0 12 20 cap (by omega) (by omega) (by omega) (by omega)).cons.cons)); (simp only [Nat.reduceAdd, Nat.reducePow, Nat.reduceMul, Nat.zero_or, Nat.or_zero, Nat.reduceXor, Nat.reduceOr]; try exact rfl); rintro _ _ ⟨rfl, rfl⟩; refine ⟨(by (first | exact fun _ h => h | exact fun _ h => Sat.drop h | exact fun _ h => Sat.drop (Sat.drop h))), ?_⟩) | (show JI _ _ _ _ _ _ _ _ _ 22 _ _; apply JI.do; exact rfl; exact rfl; exact rfl; exact rfl; (apply Do.call; exact rfl; exact head_take32 _ ((bs.drop 20).take 4) (by rw [List.length_take]; omega) (by first | exact (rd_part hb0 20 24 cap (by omega) (by omega) (by omega) (by omega)).cons | exact (rd_part hb0 20 24 cap (by omega) (by omega) (by omega) (by omega)).cons.cons)); (simp only [Nat.reduceAdd, Nat.reducePow, Nat.reduceMul, Nat.zero_or, Nat.or_zero, Nat.reduceXor, Nat.reduceOr]; try exact rfl); rintro _ _ ⟨rfl, rfl⟩; refine ⟨(by (first | exact fun _ h => h | exact fun _ h => Sat.drop h | exact fun _ h => Sat.drop (Sat.drop h))), ?_⟩) | (first | (apply JB.ru; exact rfl; exact rfl; exact rfl; exact rfl; (first | (apply Ru.move; exact rfl) | (apply Ru.indexAddr; exact rfl; exact rfl; omega; omega) | (apply Ru.buildN; exact rfl; exact rfl) | (apply Ru.conv; exact rfl; exact rfl) | (apply Ru.sliceS; exact rfl; exact rfl; exact rfl; exact rfl; (first | exact fun _ => rfl | exact fun h => nomatch h); omega; omega; omega)); decide +kernel; decide +kernel; (first | exact fun _ h => h | exact fun _ h => Sat.drop h | exact fun _ h => Sat.drop (Sat.drop h) | exact fun _ h => Sat.drop (Sat.drop (Sat.drop h)) | exact fun _ h => Sat.drop (Sat.drop (Sat.drop (Sat.drop h)))); (simp only [Nat.reduceAdd, Nat.reducePow, Nat.reduceMul, Nat.zero_or, Nat.or_zero, Nat.reduceXor, Nat.reduceOr]; try exact rfl)) | (apply JB.nil; exact rfl) | (apply JI.do; exact rfl; exact rfl; exact rfl; exact rfl; (first | (apply Do.allocN; exact rfl) | apply Do.alloc); (simp only [Nat.reduceAdd, Nat.reducePow, Nat.reduceMul, Nat.zero_or, Nat.or_zero, Nat.reduceXor, Nat.reduceOr]; try exact rfl); rintro _ _ ⟨_, rfl, rfl⟩; refine ⟨(by (first | exact fun _ h => h | exact fun _ h => Sat.drop h | exact fun _ h => Sat.drop (Sat.drop h) | exact fun _ h => Sat.drop (Sat.drop (Sat.drop h)) | exact fun _ h => Sat.drop (Sat.drop (Sat.drop (Sat.drop h))))), ?_⟩) | (apply JI.do0; exact rfl; exact rfl; exact rfl; (first | (apply Do.storeAN; exact rfl; exact rfl; (repeat (first | exact Pick.here | apply Pick.there)); exact rfl; exact rfl; exact rfl; exact rfl) | (apply Do.storeA; exact rfl; exact rfl; (repeat (first | exact Pick.here | apply Pick.there)); exact rfl; exact rfl; exact rfl)); (simp only [Nat.reduceAdd, Nat.reducePow, Nat.reduceMul, Nat.zero_or, Nat.or_zero, Nat.reduceXor, Nat.reduceOr]; try exact rfl); rintro _ _ ⟨rfl, rfl⟩; refine ⟨(by (first | exact fun _ h => h | exact fun _ h => Sat.drop h | exact fun _ h => Sat.drop (Sat.drop h) | exact fun _ h => Sat.drop (Sat.drop (Sat.drop h)) | exact fun _ h => Sat.drop (Sat.drop (Sat.drop (Sat.drop h))))), ?_⟩)) | (refine JB.two 15 24 (by decide +kernel) ?_ ?_) | (refine JB.two 19 24 (by decide +kernel) ?_ ?_) | (refine JB.two 22 24 (by decide +kernel) ?_ ?_) | (refine JB.one 15 (by decide +kernel) ?_) | (refine JB.one 19 (by decide +kernel) ?_) | (refine JB.one 22 (by decide +kernel) ?_) | (refine JB.one 24 (by decide +kernel) ?_) | (refine JB.one 25 (by decide +kernel) ?_))
  all_goals
    have w5 : IntKind.i64.wrap ((bs.getD 5 0).toNat : Int) = (bs.getD 5 0).toNat := by have := UInt8.toNat_lt (bs.getD 5 0); exact wrapI (by omega) (by omega)
    have w6 : IntKind.i64.wrap ((bs.getD 6 0).toNat : Int) = (bs.getD 6 0).toNat := by have := UInt8.toNat_lt (bs.getD 6 0); exact wrapI (by omega) (by omega)
    have w7 : IntKind.i64.wrap ((bs.getD 7 0).toNat : Int) = (bs.getD 7 0).toNat := by have := UInt8.toNat_lt (bs.getD 7 0); exact wrapI (by omega) (by omega)
    have w8 : IntKind.i64.wrap (leNum ((bs.drop 8).take 4)) = leNum ((bs.drop 8).take 4) := by
      have h1 := leNum_bd ((bs.drop 8).take 4)
      have h2 := pow256_le (i := ((bs.drop 8).take 4).length) (j := 4) (by rw [List.length_take]; omega)
      exact wrapI (by omega) (by omega)
    refine JE.mid (_, _) trivial ⟨rfl, rfl, rfl, trivial⟩ ?_
    rw [w5, w6, w7, w8]
    exact fun _ h => h
end Go.Sep
/- What is one's own, behind three others. -/
namespace Go.Sep
open Go
variable {σ : Sig}
theorem JO.tail3 {P : Program} {n : Nat} {ds : List Deferred} {ops : Array Oper} {Q : Exit → Act → World → Prop} {rest : List Oper} {env : Env} {p1 p2 p3 : HP} {r : List HP} {v : Value} {E k : Nat} {xs : List Value}
    (h : RdS σ (ownS v E 1 k xs :: r) v xs → JO P σ n ds ops Q rest env (p1 :: p2 :: p3 :: ownS v E 1 k xs :: r)) : JO P σ n ds ops Q rest env (p1 :: p2 :: p3 :: ownS v E 1 k xs :: r) :=
  fun a w ka kd s => h (Sat.ownR (Sat.drop (Sat.drop (Sat.drop s)))).1 a w ka kd s
theorem JO.tail4 {P : Program} {n : Nat} {ds : List Deferred} {ops : Array Oper} {Q : Exit → Act → World → Prop} {rest : List Oper} {env : Env} {p1 p2 p3 : HP} {l : List HP} {v : Value} {cs : List Value}
    (hv : RdS σ l v cs) (h : RdS σ l v cs → JO P σ n ds ops Q rest env (p1 :: p2 :: p3 :: l)) : JO P σ n ds ops Q rest env (p1 :: p2 :: p3 :: l) := h hv
theorem arr_cell {b E : Nat} {vs : List Value} {l r : List HP} (hp : Pick (arr b E vs) l r) : ∀ w, Sat σ w l → ∀ o, w.cell? ⟨b, o, none⟩ = vs[o]? := fun _ s o => (s.perm hp).cell o
end Go.Sep
/- slot: sealed. -/
namespace Go.Sep
open Go Go.Proofs
attribute [local irreducible] JO JC JE JA JQ JB JI Mid Inv Weak ownS Ru Do Fn Sat Pick Take arr pt star ex Holds bodyPost Post Exit.then Exit.inBlock Res
variable {σ : Sig} {F : List HP}
attribute [local irreducible] diskHP cacheHP planHP rowHP
def sealHead (bs : List UInt8) (e f s q : Int) : HeadN := ⟨e, f, s, bs.length, q, crcSum bs⟩
theorem atE_right {D : DiskN} {which e f s : Int} (h : atE D which e f s = 0) : rightG e f s = true := by
  unfold atE at h
  split at h
  · cases h
  · rename_i hr; simpa using hr
set_option maxHeartbeats 4000000 in
theorem slot_Seal (d : Nat) (D : DiskN) (which e f s q : Int) (v : Value) (bs : List UInt8) (hq0 : 0 ≤ q) (hbl : bs.length ≤ 100000000) (hD : D.WF) (ho : D.ops ≤ 1000000000000) (hw : D.writes ≤ 1000000000000) {l : List HP} [hg : InG l] (hb : RdS σ l v (bs.map byte)) :
    Fn Tryz.prog σ 18 #[.pointer (some ⟨d, 0, none⟩), int which, geoV e f s, u64 q, v] (diskHP d D :: l)
      (fun r l' => (atE D which e f s ≠ 0 ∧ r = int (atE D which e f s) ∧ l' = diskHP d D :: l) ∨ (atE D which e f s = 0 ∧ (bs.length : Int) ≠ totG e f s ∧ r = int 1 ∧ l' = diskHP d D :: l) ∨
        (atE D which e f s = 0 ∧ (bs.length : Int) = totG e f s ∧
        ((D.writeE (which * spanG D.size e f s) D.size = 0 ∧ r = int 0 ∧ l' = diskHP d (D.put (which * spanG D.size e f s) (padB (enc (sealHead bs e f s q)) D.size)) :: l) ∨
         (D.writeE (which * spanG D.size e f s) D.size ≠ 0 ∧ r = int (D.writeE (which * spanG D.size e f s) D.size) ∧ l' = diskHP d D.tick :: l)))) := by
  obtain ⟨pv, cv, rfl, hcv, hrv⟩ := id hb
  have hl : (bs.map byte).length = bs.length := by simp
  have hcs := crcSum_bd bs
  refine Fn.of Tryz.func18 rfl Tryz.ntmps18 rfl ?_
  repeat' (first | (apply JO.ru; exact rfl; exact rfl; exact rfl; (first | (apply Ru.move; exact rfl) | (apply Ru.assign; exact rfl) | (apply Ru.loadAN; exact rfl; (repeat (first | exact Pick.here | apply Pick.there)); exact rfl; exact rfl))) | refine JC.seq ?_ | refine JC.region ?_ | refine JO.nil ?_ | refine JE.thenN ?_ | (apply JO.do; exact rfl; exact rfl; exact rfl; (first | (apply Do.boxN; exact rfl; exact rfl) | (apply Do.box; exact rfl)); rintro _ _ ⟨_, rfl, rfl⟩))
  rename_i gb
  refine JO.heap (Sat.weak (l' := diskHP d D :: arr gb 23 [int e, int f, int s] :: l) (by repeat (first | exact Weak.refl | (apply Weak.cons; (first | exact Pick.here | exact Pick.there Pick.here | exact Pick.there (Pick.there Pick.here) | exact Pick.there (Pick.there (Pick.there Pick.here)) | exact Pick.there (Pick.there (Pick.there (Pick.there Pick.here))) | exact Pick.there (Pick.there (Pick.there (Pick.there (Pick.there Pick.here)))) | exact Pick.there (Pick.there (Pick.there (Pick.there (Pick.there (Pick.there Pick.here))))) | exact Pick.there (Pick.there (Pick.there (Pick.there (Pick.there (Pick.there (Pick.there Pick.here)))))))) | apply Weak.drop))) ?_
  (apply JO.do; exact rfl; exact rfl; exact rfl; (apply Do.call; exact rfl; exact slot_at d D which e f s hD); rintro _ _ (⟨hE, db, fb, rfl, rfl⟩ | ⟨hE, rfl, rfl⟩))
  · have hfi := atE_first hE
    have hri := atE_right hE
    repeat' (first | (first | (apply JO.ru; exact rfl; exact rfl; exact rfl; (first | (apply Ru.move; exact rfl) | (apply Ru.assign; exact rfl) | (apply Ru.lenS; exact rfl) | (apply Ru.neq; exact rfl; exact rfl; (first | exact ndecF (by omega) | exact ndecT (by omega))) | (apply Ru.extractN; exact rfl; exact rfl) | (apply Ru.loadAN; exact rfl; (repeat (first | exact Pick.here | apply Pick.there)); exact rfl; exact rfl))) | refine JC.seq ?_ | refine JC.region ?_ | refine JO.nil ?_ | refine JE.thenN ?_ | refine JE.thenR ?_ | refine JE.blockN ?_ | refine JE.blockR ?_ | refine JC.block ?_ | refine JC.ret ?_ | refine JC.skip ?_ | refine JC.condT rfl ?_ | refine JC.condF rfl ?_ | (apply JO.splitN; exact rfl; exact rfl; exact rfl; (apply Ru.neq; exact rfl; exact rfl; exact rfl); all_goals intro _) | (apply JO.do; exact rfl; exact rfl; exact rfl; (first | (apply Do.allocN; exact rfl) | apply Do.alloc); rintro _ _ ⟨_, rfl, rfl⟩) | (apply JO.do0; exact rfl; exact rfl; (first | (apply Do.storeAN; exact rfl; exact rfl; (repeat (first | exact Pick.here | apply Pick.there)); exact rfl; exact rfl; exact rfl; exact rfl) | (apply Do.storeA; exact rfl; exact rfl; (repeat (first | exact Pick.here | apply Pick.there)); exact rfl; exact rfl; exact rfl)); rintro _ _ ⟨rfl, rfl⟩) | (apply JE.done1; exact rfl; (first | (apply Res.tmp; exact rfl) | (apply Res.cell; exact rfl; (repeat (first | exact Pick.here | apply Pick.there)); exact rfl) | (apply Res.cellAN; exact rfl; (repeat (first | exact Pick.here | apply Pick.there)); exact rfl; exact rfl) | (apply Res.cellA; exact rfl; (repeat (first | exact Pick.here | apply Pick.there)); exact rfl; exact rfl)))) | (first | (apply JO.do; exact rfl; exact rfl; exact rfl; (apply Do.call; exact rfl; exact geo_Total _ _ _); rintro _ _ ⟨rfl, hq⟩; obtain rfl := hq.symm) | (apply JQ.call; exact rfl; exact rfl; exact rfl; exact geo_Total _ _ _; (rintro _ _ ⟨rfl, rfl⟩; exact ⟨rfl, rfl⟩))))
    · rename_i pb heq
      rw [hl] at heq
      have hright : (sealHead bs e f s q).right = true := by simp [HeadN.right, sealHead, hri, heq]
      refine JC.regionB (arr pb 105 [int (spanG D.size e f s - 1), int D.size, rdV db fb, wrV db fb] :: slotL d D db fb (which * spanG D.size e f s) (arr gb 23 [int e, int f, int s] :: l)) mixed ?_
      repeat' ((apply JB.ru; exact rfl; exact rfl; exact rfl; exact rfl; (first | (apply Ru.move; exact rfl) | (apply Ru.lenS; exact rfl) | (apply Ru.loadAN; exact rfl; (repeat (first | exact Pick.here | apply Pick.there)); exact rfl; exact rfl)); decide +kernel; decide +kernel; (first | exact fun _ h => h | exact fun _ h => Sat.drop h | exact fun _ h => Sat.drop (Sat.drop h) | exact fun _ h => Sat.drop (Sat.drop (Sat.drop h)) | exact fun _ h => Sat.drop (Sat.drop (Sat.drop (Sat.drop h)))); (simp only [Nat.reduceAdd, Nat.reducePow, Nat.reduceMul, Nat.zero_or, Nat.or_zero, Nat.reduceXor, Nat.reduceOr]; try exact rfl)))
      refine JB.one 5 (by decide +kernel) ?_
      (apply JI.do; exact rfl; exact rfl; exact rfl; exact rfl; (apply Do.call; exact rfl; exact crc_Sum _ bs (by omega) hb.cons.cons.cons.cons.cons); (simp only [Nat.reduceAdd, Nat.reducePow, Nat.reduceMul, Nat.zero_or, Nat.or_zero, Nat.reduceXor, Nat.reduceOr]; try exact rfl); rintro _ _ ⟨rfl, rfl⟩; refine ⟨fun _ s => s, ?_⟩)
      repeat' ((apply JB.ru; exact rfl; exact rfl; exact rfl; exact rfl; ((apply Ru.buildN; exact rfl; exact rfl)); decide +kernel; decide +kernel; (first | exact fun _ h => h | exact fun _ h => Sat.drop h | exact fun _ h => Sat.drop (Sat.drop h) | exact fun _ h => Sat.drop (Sat.drop (Sat.drop h)) | exact fun _ h => Sat.drop (Sat.drop (Sat.drop (Sat.drop h)))); (simp only [Nat.reduceAdd, Nat.reducePow, Nat.reduceMul, Nat.zero_or, Nat.or_zero, Nat.reduceXor, Nat.reduceOr]; try exact rfl)))
      refine JB.one 7 (by decide +kernel) ?_
      (apply JI.do; exact rfl; exact rfl; exact rfl; exact rfl; (apply Do.call; exact rfl; (rw [hl]; exact head_Encode (sealHead bs e f s q) hq0 hcs.1)); (simp only [Nat.reduceAdd, Nat.reducePow, Nat.reduceMul, Nat.zero_or, Nat.or_zero, Nat.reduceXor, Nat.reduceOr]; try exact rfl); rintro _ _ (⟨_, u, rfl, rfl⟩ | ⟨hf, _, _⟩))
      · refine ⟨fun _ s => s.drop, ?_⟩
        repeat' (first | (apply JB.ru; exact rfl; exact rfl; exact rfl; exact rfl; (first | (apply Ru.move; exact rfl) | (apply Ru.assign; exact rfl) | (apply Ru.extractN; exact rfl; exact rfl)); decide +kernel; decide +kernel; (first | exact fun _ h => h | exact fun _ h => Sat.drop h | exact fun _ h => Sat.drop (Sat.drop h) | exact fun _ h => Sat.drop (Sat.drop (Sat.drop h)) | exact fun _ h => Sat.drop (Sat.drop (Sat.drop (Sat.drop h)))); (simp only [Nat.reduceAdd, Nat.reducePow, Nat.reduceMul, Nat.zero_or, Nat.or_zero, Nat.reduceXor, Nat.reduceOr]; try exact rfl)) | (apply JB.nil; exact rfl))
        repeat' (first | (apply JO.ru; exact rfl; exact rfl; exact rfl; (first | (apply Ru.move; exact rfl) | (apply Ru.neq; exact rfl; exact rfl; (first | exact ndecF (by omega) | exact ndecT (by omega))) | (apply Ru.loadAN; exact rfl; (repeat (first | exact Pick.here | apply Pick.there)); exact rfl; exact rfl))) | refine JC.seq ?_ | refine JC.region ?_ | refine JO.nil ?_ | refine JE.thenN ?_ | refine JC.skip ?_ | refine JC.condF rfl ?_)
        have hel : (enc (sealHead bs e f s q)).length = 28 := rfl
        have hsz : 32 ≤ D.size := by
          unfold atE at hE
          rw [if_neg (by rw [hri]; simp)] at hE
          split at hE
          · cases hE
          · omega
        refine JO.heap (Sat.weak (l' := slotL d D db fb (which * spanG D.size e f s) (ownS u 5 1 28 ((enc (sealHead bs e f s q)).map byte) :: arr pb 105 [int (spanG D.size e f s - 1), int D.size, rdV db fb, wrV db fb] :: arr gb 23 [int e, int f, int s] :: l)) (by repeat (first | exact Weak.refl | (apply Weak.cons; (first | exact Pick.here | exact Pick.there Pick.here | exact Pick.there (Pick.there Pick.here) | exact Pick.there (Pick.there (Pick.there Pick.here)) | exact Pick.there (Pick.there (Pick.there (Pick.there Pick.here))) | exact Pick.there (Pick.there (Pick.there (Pick.there (Pick.there Pick.here)))) | exact Pick.there (Pick.there (Pick.there (Pick.there (Pick.there (Pick.there Pick.here))))) | exact Pick.there (Pick.there (Pick.there (Pick.there (Pick.there (Pick.there (Pick.there Pick.here)))))))) | apply Weak.drop))) ?_
        refine JO.tail3 fun hrd => ?_
        have hfst := place_first (σ := σ) d D db fb (which * spanG D.size e f s) (spanG D.size e f s - 1) u (enc (sealHead bs e f s q)) hD ho hw (by omega) ⟨hfi.1, by omega⟩ (l := ownS u 5 1 28 ((enc (sealHead bs e f s q)).map byte) :: arr pb 105 [int (spanG D.size e f s - 1), int D.size, rdV db fb, wrV db fb] :: arr gb 23 [int e, int f, int s] :: l) hrd
        repeat' (fail)
        (apply JO.do; exact rfl; exact rfl; exact rfl; (apply Do.call; exact rfl; exact hfst); rintro _ _ (⟨hW, rfl, rfl⟩ | ⟨hW, rfl, rfl⟩))
        · repeat' (first | (apply JO.ru; exact rfl; exact rfl; exact rfl; ((apply Ru.assign; exact rfl))) | refine JO.nil ?_ | refine JE.thenN ?_ | refine JC.ret ?_ | (apply JE.done1; exact rfl; (first | (apply Res.tmp; exact rfl) | (apply Res.cell; exact rfl; (repeat (first | exact Pick.here | apply Pick.there)); exact rfl) | (apply Res.cellAN; exact rfl; (repeat (first | exact Pick.here | apply Pick.there)); exact rfl; exact rfl) | (apply Res.cellA; exact rfl; (repeat (first | exact Pick.here | apply Pick.there)); exact rfl; exact rfl))))
          exact ⟨diskHP d (D.put (which * spanG D.size e f s) (padB (enc (sealHead bs e f s q)) D.size)) :: l, Sat.weak (by repeat (first | exact Weak.refl | (apply Weak.cons; (first | exact Pick.here | exact Pick.there Pick.here | exact Pick.there (Pick.there Pick.here) | exact Pick.there (Pick.there (Pick.there Pick.here)) | exact Pick.there (Pick.there (Pick.there (Pick.there Pick.here))) | exact Pick.there (Pick.there (Pick.there (Pick.there (Pick.there Pick.here)))) | exact Pick.there (Pick.there (Pick.there (Pick.there (Pick.there (Pick.there Pick.here))))) | exact Pick.there (Pick.there (Pick.there (Pick.there (Pick.there (Pick.there (Pick.there Pick.here)))))))) | apply Weak.drop)), .inr (.inr ⟨hE, heq, .inl ⟨hW, rfl, rfl⟩⟩)⟩
        · repeat' (first | (apply JO.ru; exact rfl; exact rfl; exact rfl; ((apply Ru.assign; exact rfl))) | refine JO.nil ?_ | refine JE.thenN ?_ | refine JC.ret ?_ | (apply JE.done1; exact rfl; (first | (apply Res.tmp; exact rfl) | (apply Res.cell; exact rfl; (repeat (first | exact Pick.here | apply Pick.there)); exact rfl) | (apply Res.cellAN; exact rfl; (repeat (first | exact Pick.here | apply Pick.there)); exact rfl; exact rfl) | (apply Res.cellA; exact rfl; (repeat (first | exact Pick.here | apply Pick.there)); exact rfl; exact rfl))))
          exact ⟨diskHP d D.tick :: l, Sat.weak (by repeat (first | exact Weak.refl | (apply Weak.cons; (first | exact Pick.here | exact Pick.there Pick.here | exact Pick.there (Pick.there Pick.here) | exact Pick.there (Pick.there (Pick.there Pick.here)) | exact Pick.there (Pick.there (Pick.there (Pick.there Pick.here))) | exact Pick.there (Pick.there (Pick.there (Pick.there (Pick.there Pick.here)))) | exact Pick.there (Pick.there (Pick.there (Pick.there (Pick.there (Pick.there Pick.here))))) | exact Pick.there (Pick.there (Pick.there (Pick.there (Pick.there (Pick.there (Pick.there Pick.here)))))))) | apply Weak.drop)), .inr (.inr ⟨hE, heq, .inr ⟨hW, rfl, rfl⟩⟩)⟩
      · rw [hright] at hf; cases hf
    · rename_i heq
      rw [hl] at heq
      exact ⟨diskHP d D :: l, Sat.weak (by repeat (first | exact Weak.refl | (apply Weak.cons; (first | exact Pick.here | exact Pick.there Pick.here | exact Pick.there (Pick.there Pick.here) | exact Pick.there (Pick.there (Pick.there Pick.here)) | exact Pick.there (Pick.there (Pick.there (Pick.there Pick.here))) | exact Pick.there (Pick.there (Pick.there (Pick.there (Pick.there Pick.here)))) | exact Pick.there (Pick.there (Pick.there (Pick.there (Pick.there (Pick.there Pick.here))))) | exact Pick.there (Pick.there (Pick.there (Pick.there (Pick.there (Pick.there (Pick.there Pick.here)))))))) | apply Weak.drop)), .inr (.inl ⟨hE, heq, rfl, rfl⟩)⟩
  · repeat' (first | (apply JO.ru; exact rfl; exact rfl; exact rfl; (first | (apply Ru.move; exact rfl) | (apply Ru.assign; exact rfl) | (apply Ru.neq; exact rfl; exact rfl; (first | exact ndecF (by omega) | exact ndecT (by omega))) | (apply Ru.extractN; exact rfl; exact rfl))) | refine JC.seq ?_ | refine JC.region ?_ | refine JO.nil ?_ | refine JE.thenN ?_ | refine JE.thenR ?_ | refine JE.blockR ?_ | refine JC.block ?_ | refine JC.ret ?_ | refine JC.condT rfl ?_ | (apply JO.do; exact rfl; exact rfl; exact rfl; (first | (apply Do.allocN; exact rfl) | apply Do.alloc); rintro _ _ ⟨_, rfl, rfl⟩) | (apply JO.do0; exact rfl; exact rfl; (first | (apply Do.storeAN; exact rfl; exact rfl; (repeat (first | exact Pick.here | apply Pick.there)); exact rfl; exact rfl; exact rfl; exact rfl) | (apply Do.storeA; exact rfl; exact rfl; (repeat (first | exact Pick.here | apply Pick.there)); exact rfl; exact rfl; exact rfl)); rintro _ _ ⟨rfl, rfl⟩) | (apply JE.done1; exact rfl; (first | (apply Res.tmp; exact rfl) | (apply Res.cell; exact rfl; (repeat (first | exact Pick.here | apply Pick.there)); exact rfl) | (apply Res.cellAN; exact rfl; (repeat (first | exact Pick.here | apply Pick.there)); exact rfl; exact rfl) | (apply Res.cellA; exact rfl; (repeat (first | exact Pick.here | apply Pick.there)); exact rfl; exact rfl))))
    exact ⟨diskHP d D :: l, Sat.weak (by repeat (first | exact Weak.refl | (apply Weak.cons; (first | exact Pick.here | exact Pick.there Pick.here | exact Pick.there (Pick.there Pick.here) | exact Pick.there (Pick.there (Pick.there Pick.here)) | exact Pick.there (Pick.there (Pick.there (Pick.there Pick.here))) | exact Pick.there (Pick.there (Pick.there (Pick.there (Pick.there Pick.here)))) | exact Pick.there (Pick.there (Pick.there (Pick.there (Pick.there (Pick.there Pick.here))))) | exact Pick.there (Pick.there (Pick.there (Pick.there (Pick.there (Pick.there (Pick.there Pick.here)))))))) | apply Weak.drop)), .inl ⟨hE, rfl, rfl⟩⟩
end Go.Sep
/- slot: what its calls answer, as functions of the disk. -/
namespace Go.Sep
open Go Go.Proofs

/-- A slot's first sector; how many follow it. -/
def firstOf (D : DiskN) (which e f s : Int) : Int := which * spanG D.size e f s
def manyOf (D : DiskN) (e f s : Int) : Nat := (spanG D.size e f s - 1).toNat
def wipeR (D : DiskN) (which e f s : Int) : Int × DiskN :=
  if atE D which e f s ≠ 0 then (atE D which e f s, D)
  else if D.writeE (firstOf D which e f s) D.size ≠ 0 then (D.writeE (firstOf D which e f s) D.size, D.tick)
  else (0, D.put (firstOf D which e f s) (padB [] D.size))
def sealR (D : DiskN) (which e f s q : Int) (bs : List UInt8) : Int × DiskN :=
  if atE D which e f s ≠ 0 then (atE D which e f s, D)
  else if (bs.length : Int) ≠ totG e f s then (1, D)
  else if D.writeE (firstOf D which e f s) D.size ≠ 0 then (D.writeE (firstOf D which e f s) D.size, D.tick)
  else (0, D.put (firstOf D which e f s) (padB (enc (sealHead bs e f s q)) D.size))
def dataGo (first : Int) : Nat → DiskN → List (List UInt8) → Int × DiskN
  | _, D, [] => (0, D)
  | i, D, x :: r => if D.writeE (first + (1 + (i : Int))) x.length ≠ 0 then (D.writeE (first + (1 + (i : Int))) x.length, D.tick) else dataGo first (i + 1) (D.put (first + (1 + (i : Int))) x) r
def pieces (bs : List UInt8) (z n : Nat) : List (List UInt8) := (List.range n).map fun i => ((padB bs (n * z)).drop (i * z)).take z
def dataR (D : DiskN) (which e f s : Int) (bs : List UInt8) : Int × DiskN :=
  if atE D which e f s ≠ 0 then (atE D which e f s, D)
  else if (bs.length : Int) ≠ totG e f s then (1, D)
  else dataGo (firstOf D which e f s) 0 D (pieces bs D.size (secs bs.length D.size).toNat)
structure SlotN where
  (state why seq : Int)
  image : List UInt8
def SlotN.zero : SlotN := ⟨0, 0, 0, []⟩
def badK (D : DiskN) (first : Int) (many : Nat) : Option Nat := (List.range many).find? fun k => !decide (bodyE D first k = 0)
theorem badK_none {D : DiskN} {first : Int} {many : Nat} (h : ∀ j, j < many → bodyE D first j = 0) : badK D first many = none := by
  unfold badK
  rw [List.find?_eq_none]
  intro k hk
  simp [h k (List.mem_range.1 hk)]
theorem badK_some {D : DiskN} {first : Int} {many k : Nat} (hk : k < many) (h : ∀ j, j < k → bodyE D first j = 0) (h2 : bodyE D first k ≠ 0) : badK D first many = some k := by
  unfold badK
  rw [List.find?_range_eq_some]
  refine ⟨by simpa using h2, List.mem_range.2 hk, fun j hj => by simpa using h j hj⟩
theorem badK_cases (D : DiskN) (first : Int) (many : Nat) : (badK D first many = none ∧ ∀ j, j < many → bodyE D first j = 0) ∨ ∃ k, badK D first many = some k ∧ k < many ∧ (∀ j, j < k → bodyE D first j = 0) ∧ bodyE D first k ≠ 0 := by
  cases q : badK D first many with
  | none =>
    left
    refine ⟨rfl, fun j hj => ?_⟩
    unfold badK at q
    rw [List.find?_eq_none] at q
    simpa using q j (List.mem_range.2 hj)
  | some k =>
    right
    unfold badK at q
    rw [List.find?_range_eq_some] at q
    obtain ⟨h1, h2, h3⟩ := q
    exact ⟨k, rfl, List.mem_range.1 h2, fun j hj => by simpa using h3 j hj, by simpa using h1⟩
/-- What a slot whose head is right comes to. -/
def bodyR (D : DiskN) (first : Int) (many : Nat) (h : HeadN) : Int × DiskN × SlotN :=
  match badK D first many with
  | some k => (bodyE D first k, D.ticks (k + 1), .zero)
  | none =>
    if 0 ≤ h.len ∧ h.len ≤ (D.body first many).length then
      if crcSum ((D.body first many).take h.len.toNat) = h.sum then (0, D.ticks many, ⟨2, 0, h.seq, (D.body first many).take h.len.toNat⟩)
      else (0, D.ticks many, ⟨0, 8, 0, []⟩)
    else (1, D.ticks many, .zero)
def readR (D : DiskN) (which e f s : Int) : Int × DiskN × SlotN :=
  if atE D which e f s ≠ 0 then (atE D which e f s, D, .zero)
  else if D.readE (firstOf D which e f s) ≠ 0 then (D.readE (firstOf D which e f s), D.tick, .zero)
  else if decE (D.cur (firstOf D which e f s).toNat) ≠ 0 then (0, D.tick, ⟨0, decE (D.cur (firstOf D which e f s).toNat), 0, []⟩)
  else if ((decH (D.cur (firstOf D which e f s).toNat)).e = e ∧ (decH (D.cur (firstOf D which e f s).toNat)).f = f ∧ (decH (D.cur (firstOf D which e f s).toNat)).s = s) then
    bodyR D.tick (firstOf D which e f s) (manyOf D e f s) (decH (D.cur (firstOf D which e f s).toNat))
  else (0, D.tick, ⟨1, 0, 0, []⟩)
end Go.Sep
/- The shelf's contracts on a map's keys, sorted, at this dump. -/
namespace Go.Proofs
open Go.RowKit Go.Maps Go.Sort Go.Shelf
def Tryz.keysA_ren : Go.Shelf.Ren := ⟨fun | 7 => 84 | 10 => 127 | n => n, fun | 23 => 118 | 26 => 3 | 3 => 35 | 28 => 128 | 0 => 0 | 27 => 127 | 33 => 139 | 4 => 4 | n => n, fun | n => n⟩
theorem Tryz.keysA : Go.Proofs.SlLaysZI.n7 Tryz.prog Tryz.keysA_ren := {
  mixed := by kernel_rfl
  f7 := ⟨Tryz.f84.name, by decide, Tryz.func84.trans (congrArg some (by kernel_rfl))⟩
  f10 := ⟨Tryz.f127.name, by decide, Tryz.func127.trans (congrArg some (by kernel_rfl))⟩
  t0 := Tryz.underlying0
  a0 := Tryz.isAgg0
  z0 := Tryz.sizeOf0
  v0 := Tryz.zeroValue0
  t4 := Tryz.underlying4
  a4 := Tryz.isAgg4
  z4 := Tryz.sizeOf4
  v4 := Tryz.zeroValue4
  t23 := Tryz.underlying118
  a23 := Tryz.isAgg118
  z23 := Tryz.sizeOf118
  v23 := Tryz.zeroValue118
  t26 := Tryz.underlying3
  a26 := Tryz.isAgg3
  z26 := Tryz.sizeOf3
  v26 := Tryz.zeroValue3
  t27 := Tryz.underlying127
  a27 := Tryz.isAgg127
  z27 := Tryz.sizeOf127
  v27 := Tryz.zeroValue127
  t28 := Tryz.underlying128
  a28 := Tryz.isAgg128
  z28 := Tryz.sizeOf128
  v28 := Tryz.zeroValue128
  t33 := Tryz.underlying139
  a33 := Tryz.isAgg139
  z33 := Tryz.sizeOf139
  v33 := Tryz.zeroValue139 }
def Tryz.sortedA_ren : Go.Shelf.Ren := ⟨fun | 6 => 83 | 8 => 125 | 9 => 126 | 11 => 137 | 13 => 139 | 12 => 138 | 23 => 152 | 24 => 153 | 14 => 143 | 15 => 144 | 16 => 145 | 17 => 146 | 18 => 147 | 19 => 148 | 20 => 149 | 21 => 150 | 22 => 151 | 25 => 156 | 26 => 157 | 27 => 158 | 28 => 159 | 29 => 160 | 30 => 161 | 31 => 162 | n => n, fun | 26 => 3 | 28 => 128 | 24 => 55 | 0 => 0 | 3 => 3 | 37 => 159 | 48 => 111 | 50 => 34 | 4 => 4 | 40 => 172 | 39 => 171 | 45 => 176 | 5 => 5 | 9 => 9 | 51 => 185 | 55 => 188 | 57 => 190 | 58 => 191 | 33 => 139 | n => n, fun | n => n⟩
theorem Tryz.sortedA : Go.Proofs.SlLaysZI.n6 Tryz.prog Tryz.sortedA_ren := {
  mixed := by kernel_rfl
  f6 := ⟨Tryz.f83.name, by decide, Tryz.func83.trans (congrArg some (by kernel_rfl))⟩
  f8 := ⟨Tryz.f125.name, by decide, Tryz.func125.trans (congrArg some (by kernel_rfl))⟩
  f11 := ⟨Tryz.f137.name, by decide, Tryz.func137.trans (congrArg some (by kernel_rfl))⟩
  t0 := Tryz.underlying0
  a0 := Tryz.isAgg0
  z0 := Tryz.sizeOf0
  v0 := Tryz.zeroValue0
  t24 := Tryz.underlying55
  a24 := Tryz.isAgg55
  z24 := Tryz.sizeOf55
  v24 := Tryz.zeroValue55
  t26 := Tryz.underlying3
  a26 := Tryz.isAgg3
  z26 := Tryz.sizeOf3
  v26 := Tryz.zeroValue3
  t28 := Tryz.underlying128
  a28 := Tryz.isAgg128
  z28 := Tryz.sizeOf128
  v28 := Tryz.zeroValue128
  i26 := by kernel_rfl }
def Tryz.sortA_ren : Go.Shelf.Ren := ⟨fun | 5 => 126 | 8 => 139 | 7 => 138 | 19 => 152 | 20 => 153 | 10 => 143 | 11 => 144 | 12 => 145 | 13 => 146 | 14 => 147 | 15 => 148 | 16 => 149 | 17 => 150 | 18 => 151 | 30 => 156 | 31 => 157 | 32 => 158 | 33 => 159 | 34 => 160 | 35 => 161 | 40 => 162 | n => n, fun | 23 => 55 | 25 => 3 | 3 => 3 | 32 => 159 | 22 => 55 | 0 => 0 | 44 => 111 | 46 => 34 | 4 => 4 | 36 => 172 | 35 => 171 | 41 => 176 | 5 => 5 | 9 => 9 | 53 => 185 | 57 => 188 | 63 => 190 | 64 => 191 | n => n, fun | n => n⟩
theorem Tryz.sortA : Go.Proofs.SlLaysM.n5 Tryz.prog Tryz.sortA_ren := {
  mixed := by kernel_rfl
  f5 := ⟨Tryz.f126.name, by decide, Tryz.func126.trans (congrArg some (by kernel_rfl))⟩
  f7 := ⟨Tryz.f138.name, by decide, Tryz.func138.trans (congrArg some (by kernel_rfl))⟩
  f8 := Tryz.func139.trans (congrArg some (by kernel_rfl))
  f10 := ⟨Tryz.f143.name, by decide, Tryz.func143.trans (congrArg some (by kernel_rfl))⟩
  f11 := ⟨Tryz.f144.name, by decide, Tryz.func144.trans (congrArg some (by kernel_rfl))⟩
  f12 := ⟨Tryz.f145.name, by decide, Tryz.func145.trans (congrArg some (by kernel_rfl))⟩
  f13 := ⟨Tryz.f146.name, by decide, Tryz.func146.trans (congrArg some (by kernel_rfl))⟩
  f14 := ⟨Tryz.f147.name, by decide, Tryz.func147.trans (congrArg some (by kernel_rfl))⟩
  f15 := ⟨Tryz.f148.name, by decide, Tryz.func148.trans (congrArg some (by kernel_rfl))⟩
  f16 := ⟨Tryz.f149.name, by decide, Tryz.func149.trans (congrArg some (by kernel_rfl))⟩
  f17 := ⟨Tryz.f150.name, by decide, Tryz.func150.trans (congrArg some (by kernel_rfl))⟩
  f18 := ⟨Tryz.f151.name, by decide, Tryz.func151.trans (congrArg some (by kernel_rfl))⟩
  f19 := Tryz.func152.trans (congrArg some (by kernel_rfl))
  f20 := Tryz.func153.trans (congrArg some (by kernel_rfl))
  f30 := ⟨Tryz.f156.name, by decide, Tryz.func156.trans (congrArg some (by kernel_rfl))⟩
  f31 := Tryz.func157.trans (congrArg some (by kernel_rfl))
  f32 := Tryz.func158.trans (congrArg some (by kernel_rfl))
  f33 := ⟨Tryz.f159.name, by decide, Tryz.func159.trans (congrArg some (by kernel_rfl))⟩
  f34 := ⟨Tryz.f160.name, by decide, Tryz.func160.trans (congrArg some (by kernel_rfl))⟩
  f35 := ⟨Tryz.f161.name, by decide, Tryz.func161.trans (congrArg some (by kernel_rfl))⟩
  f40 := ⟨Tryz.f162.name, by decide, Tryz.func162.trans (congrArg some (by kernel_rfl))⟩
  t0 := Tryz.underlying0
  a0 := Tryz.isAgg0
  z0 := Tryz.sizeOf0
  v0 := Tryz.zeroValue0
  t3 := Tryz.underlying3
  a3 := Tryz.isAgg3
  z3 := Tryz.sizeOf3
  v3 := Tryz.zeroValue3
  t4 := Tryz.underlying4
  a4 := Tryz.isAgg4
  z4 := Tryz.sizeOf4
  v4 := Tryz.zeroValue4
  t5 := Tryz.underlying5
  a5 := Tryz.isAgg5
  z5 := Tryz.sizeOf5
  v5 := Tryz.zeroValue5
  t9 := Tryz.underlying9
  a9 := Tryz.isAgg9
  z9 := Tryz.sizeOf9
  v9 := Tryz.zeroValue9
  t22 := Tryz.underlying55
  a22 := Tryz.isAgg55
  z22 := Tryz.sizeOf55
  v22 := Tryz.zeroValue55
  t23 := Tryz.underlying55
  a23 := Tryz.isAgg55
  z23 := Tryz.sizeOf55
  v23 := Tryz.zeroValue55
  t25 := Tryz.underlying3
  a25 := Tryz.isAgg3
  z25 := Tryz.sizeOf3
  v25 := Tryz.zeroValue3
  t32 := Tryz.underlying159
  a32 := Tryz.isAgg159
  z32 := Tryz.sizeOf159
  v32 := Tryz.zeroValue159
  t35 := Tryz.underlying171
  a35 := Tryz.isAgg171
  z35 := Tryz.sizeOf171
  v35 := Tryz.zeroValue171
  t36 := Tryz.underlying172
  a36 := Tryz.isAgg172
  z36 := Tryz.sizeOf172
  v36 := Tryz.zeroValue172
  t41 := Tryz.underlying176
  a41 := Tryz.isAgg176
  z41 := Tryz.sizeOf176
  v41 := Tryz.zeroValue176
  t44 := Tryz.underlying111
  a44 := Tryz.isAgg111
  z44 := Tryz.sizeOf111
  v44 := Tryz.zeroValue111
  t46 := Tryz.underlying34
  a46 := Tryz.isAgg34
  z46 := Tryz.sizeOf34
  v46 := Tryz.zeroValue34
  t53 := Tryz.underlying185
  a53 := Tryz.isAgg185
  z53 := Tryz.sizeOf185
  v53 := Tryz.zeroValue185
  t57 := Tryz.underlying188
  a57 := Tryz.isAgg188
  z57 := Tryz.sizeOf188
  v57 := Tryz.zeroValue188
  t63 := Tryz.underlying190
  a63 := Tryz.isAgg190
  z63 := Tryz.sizeOf190
  v63 := Tryz.zeroValue190
  t64 := Tryz.underlying191
  a64 := Tryz.isAgg191
  z64 := Tryz.sizeOf191
  v64 := Tryz.zeroValue191 }
theorem Tryz.sortsA (m : Nat) : AnyZI.SortsIn Tryz.prog Tryz.sortedA_ren Fence.wide m :=
  ⟨fun blk off cap ss W hH hblk hsz => callsIn_wide.2 (AnyM.slices_Sort_int Tryz.sortA blk off cap ss W hH hblk hsz),
   fun p cap W => callsIn_wide.2 (AnyM.slices_Sort_int_none Tryz.sortA p cap W)⟩
end Go.Proofs
/- A map's keys, sorted, as the heap logic has it. -/
namespace Go.Sep
open Go Go.Proofs Go.RowKit Go.Maps Go.Sort Go.Shelf Go.WideElems
variable {σ : Sig} {F : List HP}

theorem Sat.ofBelow {w w' : World} {l : List HP} (s : Sat σ w l) (hb : Below w.heap.size w w') : Sat σ w' l := by
  refine ⟨?_, Holds.mono (fun b o h => ?_) s.2⟩
  · rw [← s.1]; simp only [sigOf, hb.os, hb.tape, hb.output]
  · have hlt : b < w.heap.size := (Array.getElem?_eq_some_iff.1 h).1
    show w'.heap[b]? = some o
    rw [hb.block b hlt]; exact h
theorem Sat.ofBelowNew {w w' : World} {l : List HP} (s : Sat σ w l) (hb : Below w.heap.size w w') {g : Nat} {o : Obj} (hg : w.heap.size ≤ g) (ho : w'.heap[g]? = some o) : Sat σ w' (pt g o :: l) := by
  refine ⟨(s.ofBelow hb).1, fun x => if x = g then some o else none, heapOf w, fun x y q => ?_, fun x y q => ?_, fun x => ?_, ?_, s.2⟩
  · by_cases hx : x = g
    · subst hx; simp at q; subst q; exact ho
    · simp [hx] at q
  · have hlt : x < w.heap.size := (Array.getElem?_eq_some_iff.1 q).1
    show w'.heap[x]? = some y
    rw [hb.block x hlt]; exact q
  · by_cases hx : x = g
    · subst hx; right
      show w.heap[x]? = none
      exact Array.getElem?_eq_none hg
    · left; simp [hx]
  · simp [pt]
theorem Sat.ofOwnsRow {w w' : World} {l : List HP} {E n : Nat} {v : Value} {xs : List Value} (s : Sat σ w l) (hb : Below w.heap.size w w') (hr : w'.ownsRow w.heap.size E 1 v n xs) : Sat σ w' (Sep.ownS v E 1 n xs :: l) := by
  obtain ⟨hx, h⟩ := hr
  rcases h with ⟨rfl, rfl⟩ | ⟨g, cap, cur, rfl, hg, ho, hn, _, hc, ht⟩
  · obtain rfl : xs = [] := List.eq_nil_of_length_eq_zero (by simpa using hx)
    exact Sat.ownS_nil (s.ofBelow hb)
  · have s1 := s.ofBelowNew hb hg ho
    have e : cur.toList = xs ++ cur.toList.drop n := by
      rw [Nat.mul_one] at ht
      rw [← ht, List.take_append_drop]
    refine Sat.ownS_arr (xs := xs) (spare := cur.toList.drop n) (z := 1) hn hx (by rw [← e]; simp [hc]) ?_
    rw [← e]
    exact Sat.arr.2 ⟨0, 0, .inl rfl, s1⟩

def RB : Value → Option (DataW Nat × List MemPlace) := fun _ => some (.lit (.bool true), [])
def toI : Value → Int
  | .int _ n => n
  | _ => 0
theorem Sat.ownsMap {P : Program} {kt : TypeId} (hk : P.underlying kt = some (.int .i64)) {w : World} {b : Nat} {es : List (Int × Value)} {l : List HP} (s : Sat σ w (Sep.mapI b es :: l)) (hl : es.length ≤ 1000000) :
    ∃ D0 : DataW Nat, w.ownsMap P kt RB b es.length D0 ∧ (intKeys D0).Perm (es.map (·.1)) := by
  obtain ⟨a, ck, hm, s1⟩ := s.mapI
  have hb : w.heap[b]? = some (.map a ck) := s1.get
  have hlen : a.size = es.length := by
    have := congrArg List.length hm.ents
    simpa using this
  have hkey : ∀ x ∈ a.toList, keyOf P kt x.key = some (.int .i64 (toI x.key)) ∧ x.key = .int .i64 (toI x.key) := by
    intro x hx
    have h1 : (x.key, x.val) ∈ a.toList.map (fun e => (e.key, e.val)) := List.mem_map.2 ⟨x, hx, rfl⟩
    rw [hm.ents] at h1
    obtain ⟨p, hp1, hp2⟩ := List.mem_map.1 h1
    injection hp2 with hp2 _
    rw [← hp2]
    have hr := hm.rng p hp1
    exact ⟨keyOf_int_mk hk (by simp [Lit.wf, IntKind.min, IntKind.max, IntKind.bits, IntKind.signed]; omega), rfl⟩
  have hrd : ∀ x ∈ a.toList, Go.WideElems.rd P kt RB x = some (.int .i64 (toI x.key), .lit (.bool true)) := by
    intro x hx
    simp [Go.WideElems.rd, (hkey x hx).1, RB]
  refine ⟨.map ((a.toList.map (Go.WideElems.rg P kt RB)).foldr DataW.insert []), ⟨a, ck, hb, ⟨?_, hm.stamped, fun x hx => ⟨_, hrd x hx⟩⟩, by omega, rfl⟩, ?_⟩
  · rw [hlen]; unfold maxLen; omega
  · refine (List.Perm.map _ (Go.WideShapes.sorted_perm _)).trans ?_
    rw [List.map_map]
    have e1 : a.toList.map ((fun p : Lit × DataW Nat => intOf p.1) ∘ Go.WideElems.rg P kt RB) = a.toList.map fun x => toI x.key := by
      apply List.map_congr_left
      intro x hx
      simp only [Function.comp, Go.WideElems.rg_of (hrd x hx)]
      rfl
    have e2 : (a.toList.map fun x => toI x.key) = (a.toList.map (fun e => (e.key, e.val))).map fun q => toI q.1 := by rw [List.map_map]; rfl
    have e3 : (es.map (fun p => (Value.int .i64 p.1, p.2))).map (fun q => toI q.1) = es.map (·.1) := by rw [List.map_map]; rfl
    have : a.toList.map ((fun p : Lit × DataW Nat => intOf p.1) ∘ Go.WideElems.rg P kt RB) = es.map (·.1) := by rw [e1, e2, hm.ents, e3]
    rw [← this]

set_option maxHeartbeats 1000000 in
theorem slices_Sorted (a cm : Nat) (es : List (Int × Value)) (hl : es.length ≤ 1000000) {l r r2 : List HP} (hp : Pick (mapI cm es) l r) (hq : Pick (arr a 118 [.map (some cm)]) l r2) :
    Fn Tryz.prog σ 83 #[.func (.func 127) #[] #[.pointer (some ⟨a, 0, none⟩)]] l
      (fun v l' => ∃ ss : List Int, ss.Perm (es.map (·.1)) ∧ l' = ownS v 3 1 ss.length ((ss.mergeSort (fun x y => decide (x ≤ y))).map (Value.int .i64)) :: l) := by
  intro w s
  obtain ⟨D0, hown, hperm⟩ := (s.perm hp).ownsMap (P := Tryz.prog) (kt := 3) Tryz.underlying3 hl
  have hsz := hown.size_le
  have hcell : w.cell? ⟨a, 0, none⟩ = some (.map (some cm)) := by rw [(s.perm hq).cell]; rfl
  have hlt : a < w.heap.size := by
    rcases Nat.lt_or_ge a w.heap.size with h | h
    · exact h
    · rw [World.cell?, Array.getElem?_eq_none h] at hcell; cases hcell
  refine (callsIn_wide (n := 6)).1 ?_
  have hseq : SeqGives Fence.wide 3 Tryz.prog 127 #[.pointer (some ⟨a, 0, none⟩)] encZ (fun ss => ss.Perm (intKeys D0)) (Maps.size D0) w :=
    AnyZI.keys_gives (ρ := Tryz.keysA_ren) { Tryz.keysA with } Fence.wide _ trivial rfl (by omega) a cm _ D0 _ hlt hcell hown
  have cS := AnyZI.sorted_in Tryz.sortedA Fence.wide 6 trivial trivial trivial trivial rfl (by omega) (Tryz.sortsA _) (enters_of Tryz.func126 (by kernel_rfl) rfl) 127 #[.pointer (some ⟨a, 0, none⟩)] trivial (enters_of Tryz.func127 (by kernel_rfl) rfl) _ _ (by unfold maxLen; omega) (by omega) w hseq
  refine CallsIn.mono cS ?_
  rintro e w' ⟨v, ss, rfl, hS, hrow, _, hbel⟩
  exact ⟨v, _, rfl, ⟨ss, hS.trans hperm, rfl⟩, s.ofOwnsRow hbel hrow⟩
end Go.Sep
/- The disk: what isn't synced yet. -/
namespace Go.Sep
open Go Go.Proofs
attribute [local irreducible] JO JC JE JA JQ JB JI Mid Inv Weak ownS Ru Do Fn Sat Pick Take arr pt star ex Holds bodyPost Post Exit.then Exit.inBlock Res
variable {σ : Sig} {F : List HP}
attribute [local irreducible] diskHP cacheHP planHP rowHP
theorem maps_Keys (cm : Nat) : Fn Tryz.prog σ 84 #[.map (some cm)] F (fun v l => ∃ a, v = .func (.func 127) #[] #[.pointer (some ⟨a, 0, none⟩)] ∧ l = arr a 118 [.map (some cm)] :: F) := by
  refine Fn.of Tryz.func84 rfl Tryz.ntmps84 rfl ?_
  repeat' (first | (apply JO.ru; exact rfl; exact rfl; exact rfl; (first | (apply Ru.assign; exact rfl) | (apply Ru.makeFunc; exact rfl; exact rfl))) | refine JC.seq ?_ | refine JC.region ?_ | refine JO.nil ?_ | refine JE.thenN ?_ | refine JC.ret ?_ | (apply JO.do; exact rfl; exact rfl; exact rfl; (first | (apply Do.boxN; exact rfl; exact rfl) | (apply Do.box; exact rfl)); rintro _ _ ⟨_, rfl, rfl⟩) | (apply JE.done1; exact rfl; (first | (apply Res.tmp; exact rfl) | (apply Res.cell; exact rfl; (repeat (first | exact Pick.here | apply Pick.there)); exact rfl) | (apply Res.cellAN; exact rfl; (repeat (first | exact Pick.here | apply Pick.there)); exact rfl; exact rfl) | (apply Res.cellA; exact rfl; (repeat (first | exact Pick.here | apply Pick.there)); exact rfl; exact rfl))))
  refine finS ?_; exact ⟨_, rfl, rfl⟩

def DiskN.keys (D : DiskN) : List Int := (D.cached.map (·.1)).mergeSort (fun x y => decide (x ≤ y))
theorem DiskN.keys_length (D : DiskN) : D.keys.length = D.cached.length := by simp [DiskN.keys]
set_option maxHeartbeats 1000000 in
theorem disk_Unsynced (d : Nat) (D : DiskN) (hD : D.WF) (hw : D.writes ≤ 1000000) :
    Fn Tryz.prog σ 35 #[.pointer (some ⟨d, 0, none⟩)] (diskHP d D :: F) (fun v l => l = ownS v 3 1 D.keys.length (D.keys.map int) :: diskHP d D :: F) := by
  have hfew := hD.few
  refine Fn.disk fun lv cm pm => ?_
  refine Fn.of Tryz.func35 rfl Tryz.ntmps35 rfl ?_
  repeat' (first | (apply JO.ru; exact rfl; exact rfl; exact rfl; (first | (apply Ru.move; exact rfl) | (apply Ru.loadN; exact rfl; (repeat (first | exact Pick.here | apply Pick.there)); exact rfl) | (apply Ru.fieldAddr; exact rfl) | (apply Ru.nilP; exact rfl) | (apply Ru.assign; exact rfl))) | refine JC.seq ?_ | refine JC.region ?_ | refine JO.nil ?_ | refine JE.thenN ?_)
  (apply JO.do; exact rfl; exact rfl; exact rfl; (apply Do.call; exact rfl; exact maps_Keys cm); rintro _ _ ⟨a, rfl, rfl⟩)
  refine JO.cache (Pick.there (Pick.there (Pick.there Pick.here))) fun R hR => ?_
  have hRl : R.length = D.cached.length := by rw [hR]; simp
  (apply JO.do; exact rfl; exact rfl; exact rfl; (apply Do.call; exact rfl; exact slices_Sorted a cm _ (by rw [List.length_map]; omega) Pick.here (Pick.there (Pick.there Pick.here))); rintro v _ ⟨ss, hss, rfl⟩)
  have e : (R.map fun (p : Int × Value × List UInt8) => (p.1, p.2.1)).map (·.1) = D.cached.map (·.1) := by rw [hR, List.map_map, List.map_map]; rfl
  rw [e] at hss
  have hk : ss.mergeSort (fun x y => decide (x ≤ y)) = D.keys := Go.mergeSort_of_perm_i hss
  have hkl : ss.length = D.keys.length := by rw [← hk]; simp
  rw [hk, hkl]
  repeat' (first | (apply JO.ru; exact rfl; exact rfl; exact rfl; ((apply Ru.assign; exact rfl))) | refine JO.nil ?_ | refine JE.thenN ?_ | refine JC.ret ?_ | (apply JE.done1; exact rfl; (first | (apply Res.tmp; exact rfl) | (apply Res.cell; exact rfl; (repeat (first | exact Pick.here | apply Pick.there)); exact rfl) | (apply Res.cellAN; exact rfl; (repeat (first | exact Pick.here | apply Pick.there)); exact rfl; exact rfl) | (apply Res.cellA; exact rfl; (repeat (first | exact Pick.here | apply Pick.there)); exact rfl; exact rfl))))
  refine ⟨ownS v 3 1 D.keys.length (D.keys.map int) :: diskHP d D :: F, fun w s => ?_, rfl⟩
  have s1 := Sat.weak (l' := opn2 d D lv cm pm R (ownS v 3 1 D.keys.length (D.keys.map int) :: F)) (by repeat (first | exact Weak.refl | (apply Weak.cons; (first | exact Pick.here | exact Pick.there Pick.here | exact Pick.there (Pick.there Pick.here) | exact Pick.there (Pick.there (Pick.there Pick.here)) | exact Pick.there (Pick.there (Pick.there (Pick.there Pick.here))) | exact Pick.there (Pick.there (Pick.there (Pick.there (Pick.there Pick.here)))) | exact Pick.there (Pick.there (Pick.there (Pick.there (Pick.there (Pick.there Pick.here))))) | exact Pick.there (Pick.there (Pick.there (Pick.there (Pick.there (Pick.there (Pick.there Pick.here)))))))) | apply Weak.drop)) w s
  exact Sat.weak (l' := ownS v 3 1 D.keys.length (D.keys.map int) :: diskHP d D :: F) (by repeat (first | exact Weak.refl | (apply Weak.cons; (first | exact Pick.here | exact Pick.there Pick.here | exact Pick.there (Pick.there Pick.here) | exact Pick.there (Pick.there (Pick.there Pick.here)) | exact Pick.there (Pick.there (Pick.there (Pick.there Pick.here))) | exact Pick.there (Pick.there (Pick.there (Pick.there (Pick.there Pick.here)))) | exact Pick.there (Pick.there (Pick.there (Pick.there (Pick.there (Pick.there Pick.here))))) | exact Pick.there (Pick.there (Pick.there (Pick.there (Pick.there (Pick.there (Pick.there Pick.here)))))))) | apply Weak.drop)) w (Sat.close hR s1)
end Go.Sep
/- The disk: synced. -/
namespace Go.Sep
open Go Go.Proofs
attribute [local irreducible] JO JC JE JA JQ JB JI Mid Inv Weak ownS Ru Do Fn Sat Pick Take arr pt star ex Holds bodyPost Post Exit.then Exit.inBlock Res
variable {σ : Sig} {F : List HP}
attribute [local irreducible] diskHP cacheHP planHP rowHP
theorem disk_failsC (d : Nat) (D : DiskN) (ho : D.ops ≤ 1000000000000) : Fn Tryz.prog σ 78 #[.pointer (some ⟨d, 0, none⟩)] (diskHP d D :: F) (fun v l => v = .bool D.failing ∧ l = diskHP d D.tick :: F) :=
  Fn.diskD fun lv cm pm => disk_fails d D lv cm pm ho
def settled (D : DiskN) (j : Nat) : DiskN := (D.keys.take j).foldl DiskN.settle D
theorem settled_succ {D : DiskN} {j : Nat} {k : Int} (h : D.keys[j]? = some k) : settled D (j + 1) = (settled D j).settle k := by
  simp [settled, List.take_add_one, h]
theorem settled_wf {D : DiskN} (h : D.WF) (j : Nat) : (settled D j).WF ∧ (settled D j).size = D.size ∧ (settled D j).count = D.count := by
  have key : ∀ (l : List Int) (D : DiskN), D.WF → (l.foldl DiskN.settle D).WF ∧ (l.foldl DiskN.settle D).size = D.size ∧ (l.foldl DiskN.settle D).count = D.count := by
    intro l
    induction l with
    | nil => intro D h; exact ⟨h, rfl, rfl⟩
    | cons k l ih =>
      intro D h
      obtain ⟨a1, a2, a3, _⟩ := h.settle k
      obtain ⟨b1, b2, b3⟩ := ih _ a1
      exact ⟨b1, b2.trans a2, b3.trans a3⟩
  exact key _ D h
theorem keys_range {D : DiskN} (h : D.WF) {j : Nat} {k : Int} (hk : D.keys[j]? = some k) : 0 ≤ k ∧ k < D.count := by
  have h1 : k ∈ D.keys := List.mem_of_getElem? hk
  have h2 : k ∈ D.cached.map (·.1) := (List.mergeSort_perm _ _).mem_iff.1 h1
  obtain ⟨p, hp, rfl⟩ := List.mem_map.1 h2
  have := h.cach p hp
  exact ⟨this.1, this.2.1⟩

set_option maxHeartbeats 4000000 in
theorem disk_Sync (d : Nat) (D : DiskN) (hD : D.WF) (ho : D.ops ≤ 1000000000000) (hw : D.writes ≤ 1000000) :
    Fn Tryz.prog σ 25 #[.pointer (some ⟨d, 0, none⟩)] (diskHP d D :: F)
      (fun v l => (D.failing = true ∧ v = int 3 ∧ l = diskHP d D.tick :: F) ∨ (D.failing = false ∧ v = int 0 ∧ l = diskHP d (settled D.tick D.tick.keys.length) :: F)) := by
  refine Fn.of Tryz.func25 rfl Tryz.ntmps25 rfl ?_
  by_cases hf : D.failing = true
  · rw [hf]
    repeat' (first | (first | (apply JO.ru; exact rfl; exact rfl; exact rfl; (first | (apply Ru.move; exact rfl) | (apply Ru.assign; exact rfl))) | refine JC.seq ?_ | refine JC.region ?_ | refine JO.nil ?_ | refine JE.thenN ?_ | refine JE.thenR ?_ | refine JC.ret ?_ | refine JC.condT rfl ?_ | (apply JE.done1; exact rfl; (first | (apply Res.tmp; exact rfl) | (apply Res.cell; exact rfl; (repeat (first | exact Pick.here | apply Pick.there)); exact rfl) | (apply Res.cellAN; exact rfl; (repeat (first | exact Pick.here | apply Pick.there)); exact rfl; exact rfl) | (apply Res.cellA; exact rfl; (repeat (first | exact Pick.here | apply Pick.there)); exact rfl; exact rfl)))) | ((apply JO.do; exact rfl; exact rfl; exact rfl; (apply Do.call; exact rfl; exact disk_failsC d D ho); rintro _ _ ⟨rfl, rfl⟩); rw [hf]))
    refine finS ?_; exact .inl ⟨rfl, rfl, rfl⟩
  have hf' : D.failing = false := by simpa using hf
  have hwf := hD.tick
  have hfew : D.tick.cached.length ≤ 1000000 := Nat.le_trans hD.few hw
  have hkl := D.tick.keys_length
  rw [hf']
  repeat' (first | (first | (apply JO.ru; exact rfl; exact rfl; exact rfl; (first | (apply Ru.move; exact rfl) | (apply Ru.assign; exact rfl))) | refine JC.seq ?_ | refine JC.region ?_ | refine JO.nil ?_ | refine JE.thenN ?_ | refine JC.skip ?_ | refine JC.condF rfl ?_) | ((apply JO.do; exact rfl; exact rfl; exact rfl; (apply Do.call; exact rfl; exact disk_failsC d D ho); rintro _ _ ⟨rfl, rfl⟩); rw [hf']) | (apply JO.do; exact rfl; exact rfl; exact rfl; (apply Do.call; exact rfl; exact disk_Unsynced d D.tick hwf hw); rintro v _ rfl))
  refine JO.ownR Pick.here fun _ _ hsh => ?_
  obtain ⟨p, c, rfl, hp⟩ : ∃ p c, v = .slice p D.tick.keys.length c ∧ (p = none ∧ D.tick.keys.length = 0 ∨ ∃ b, p = some ⟨b, 0, none⟩) := by
    rcases hsh with ⟨rfl, h⟩ | ⟨b, c, rfl, _⟩
    · exact ⟨none, 0, by rw [h], .inl ⟨rfl, h⟩⟩
    · exact ⟨_, c, rfl, .inr ⟨b, rfl⟩⟩
  repeat' (first | (apply JO.ru; exact rfl; exact rfl; exact rfl; (first | (apply Ru.move; exact rfl) | (apply Ru.lenS; exact rfl))) | refine JO.nil ?_ | refine JE.thenN ?_ | refine JC.block ?_)
  refine JC.loop (fun j : Nat => [(0, .pointer (some ⟨d, 0, none⟩)), (8, .slice p D.tick.keys.length c), (9, int D.tick.keys.length), (10, int j)]) (fun j => ownS (.slice p D.tick.keys.length c) 3 1 D.tick.keys.length (D.tick.keys.map int) :: diskHP d (settled D.tick j) :: F) (fun j => j ≤ D.tick.keys.length) (fun j => D.tick.keys.length - j) 0 (Nat.zero_le _) ⟨rfl, rfl, rfl, rfl, trivial⟩ (fun _ h => h) ?_
  intro j hj
  repeat' (first | (apply JO.ru; exact rfl; exact rfl; exact rfl; ((apply Ru.assign; exact rfl))) | refine JC.seq ?_ | refine JC.region ?_ | refine JO.nil ?_ | refine JE.thenN ?_ | refine JE.thenE ?_ | refine JE.blockE ?_ | refine JC.block ?_ | refine JC.ret ?_ | refine JC.skip ?_ | refine JC.exit ?_ | refine JC.condT rfl ?_ | refine JC.condF rfl ?_ | (apply JO.split; exact rfl; exact rfl; exact rfl; ((apply Ru.lss; exact rfl; exact rfl; exact rfl)); all_goals intro _) | (apply JE.done1; exact rfl; (first | (apply Res.tmp; exact rfl) | (apply Res.cell; exact rfl; (repeat (first | exact Pick.here | apply Pick.there)); exact rfl) | (apply Res.cellAN; exact rfl; (repeat (first | exact Pick.here | apply Pick.there)); exact rfl; exact rfl) | (apply Res.cellA; exact rfl; (repeat (first | exact Pick.here | apply Pick.there)); exact rfl; exact rfl))))
  · rename_i hlt
    obtain ⟨k, hk⟩ : ∃ k, D.tick.keys[j]? = some k := ⟨_, List.getElem?_eq_getElem (by omega)⟩
    obtain ⟨hr0, hr1⟩ := keys_range hwf hk
    obtain ⟨i, rfl⟩ := Int.eq_ofNat_of_zero_le hr0
    obtain ⟨b0, rfl⟩ : ∃ b, p = some ⟨b, 0, none⟩ := by
      rcases hp with ⟨_, h⟩ | h
      · omega
      · exact h
    refine JO.ownR Pick.here fun hrd _ _ => ?_
    obtain ⟨p', cap', e, _, hr2⟩ := hrd
    injection e with e1 e2 e3
    subst e1
    rcases hr2 with h | ⟨b', o', e4, hc⟩
    · have := congrArg List.length h
      rw [List.length_map, List.length_nil] at this
      omega
    cases e4
    repeat' ((apply JO.ru; exact rfl; exact rfl; exact rfl; ((apply Ru.indexAddr; exact rfl; exact rfl; omega; omega))))
    (apply JO.ru; exact rfl; exact rfl; exact rfl; (apply Ru.loadC; exact rfl; exact rd_row (i := j) (u := int i) hc (by rw [List.getElem?_map, hk]; rfl) _ (by simp)))
    repeat' (first | (apply JO.ru; exact rfl; exact rfl; exact rfl; ((apply Ru.assign; exact rfl))) | refine JC.seq ?_ | refine JO.nil ?_ | refine JE.thenN ?_)
    have hss := settled_succ hk
    obtain ⟨hEw, hEs, hEc⟩ := settled_wf hwf j
    obtain ⟨E, hE⟩ : ∃ E, settled D.tick j = E := ⟨_, rfl⟩
    rw [hE] at hss hEw hEs hEc ⊢
    have hi : i < E.count := by omega
    have hroom := hEw.room hi
    have hsm := hEw.small
    have g0 : (i + 1) * E.size = i * E.size + E.size := Nat.succ_mul i E.size
    have hz := hEw.hz
    refine JC.disk (Pick.there Pick.here) fun lv cm pm => ?_
    refine JC.cache (Pick.there (Pick.there Pick.here)) fun R hR => ?_
    refine JC.heap (Sat.weak (l' := bytesHP lv E.data :: mapI cm (R.map fun p => (p.1, p.2.1)) :: star (R.map rowHP) :: arr d 121 (diskCells E lv cm pm) :: planHP pm E.planned :: ownS (.slice (some ⟨b0, 0, none⟩) D.tick.keys.length c) 3 1 D.tick.keys.length (D.tick.keys.map int) :: F) (by repeat (first | exact Weak.refl | (apply Weak.cons; (first | exact Pick.here | exact Pick.there Pick.here | exact Pick.there (Pick.there Pick.here) | exact Pick.there (Pick.there (Pick.there Pick.here)) | exact Pick.there (Pick.there (Pick.there (Pick.there Pick.here))) | exact Pick.there (Pick.there (Pick.there (Pick.there (Pick.there Pick.here)))) | exact Pick.there (Pick.there (Pick.there (Pick.there (Pick.there (Pick.there Pick.here))))) | exact Pick.there (Pick.there (Pick.there (Pick.there (Pick.there (Pick.there (Pick.there Pick.here)))))))) | apply Weak.drop))) ?_
    refine JC.own (fun _ h _ => (by omega)) ?_
    rintro b cap spare rfl hcap hxs hsp
    have hlk : lookI (R.map fun (p : Int × Value × List UInt8) => (p.1, p.2.1)) (i : Int) = (lookI R (i : Int)).map (·.1) := lookI_map (·.1) R i
    have hlc2 : lookI E.cached (i : Int) = (lookI R (i : Int)).map (·.2) := hR ▸ lookI_map (·.2) R i
    cases q : lookI R (i : Int) with
    | none =>
      rw [q] at hlk hlc2
      simp only [Option.map_none] at hlk hlc2
      refine JC.regionB (mapI cm (R.map fun p => (p.1, p.2.1)) :: star (R.map rowHP) :: arr d 121 (diskCells E (.slice (some ⟨b, 0, none⟩) E.data.length cap) cm pm) :: planHP pm E.planned :: ownS (.slice (some ⟨b0, 0, none⟩) D.tick.keys.length c) 3 1 D.tick.keys.length (D.tick.keys.map int) :: F) mixed ?_
      repeat' (first | ((apply JB.ru; exact rfl; exact rfl; exact rfl; exact rfl; (first | (apply Ru.move; exact rfl) | (apply Ru.loadN; exact rfl; (repeat (first | exact Pick.here | apply Pick.there)); exact rfl) | (apply Ru.fieldAddr; exact rfl) | (apply Ru.nilP; exact rfl)); decide +kernel; decide +kernel; (first | exact fun _ h => h | exact fun _ h => Sat.drop h | exact fun _ h => Sat.drop (Sat.drop h) | exact fun _ h => Sat.drop (Sat.drop (Sat.drop h)) | exact fun _ h => Sat.drop (Sat.drop (Sat.drop (Sat.drop h)))); (simp only [Nat.reduceAdd, Nat.reducePow, Nat.reduceMul, Nat.zero_or, Nat.or_zero, Nat.reduceXor, Nat.reduceOr]; try exact rfl))) | (apply JB.ru; exact rfl; exact rfl; exact rfl; exact rfl; (apply Ru.lookupO0; exact rfl; exact rfl; exact Pick.here; exact hlk); decide +kernel; decide +kernel; exact fun _ h => Sat.drop h; (simp only [Nat.reduceAdd, Nat.reducePow, Nat.reduceMul, Nat.zero_or, Nat.or_zero, Nat.reduceXor, Nat.reduceOr]; try exact rfl)))
      refine JB.one 2 (by decide +kernel) ?_
      (apply JI.do; exact rfl; exact rfl; exact rfl; exact rfl; (apply Do.call; exact rfl; exact disk_at d E.size i b E.data.length cap _ _ _ _ hz (by omega) hcap hroom (Pick.there (Pick.there (Pick.there Pick.here)))); (simp only [Nat.reduceAdd, Nat.reducePow, Nat.reduceMul, Nat.zero_or, Nat.or_zero, Nat.reduceXor, Nat.reduceOr]; try exact rfl); rintro _ _ ⟨rfl, hq⟩; obtain rfl := hq.symm; refine ⟨fun _ s => s.drop, ?_⟩)
      refine JB.one 9 (by decide +kernel) ?_
      (apply JI.do; exact rfl; exact rfl; exact rfl; exact rfl; (apply Do.copy (ys := []); exact rfl; exact rfl; exact Pick.here; exact RdS.nil; (rw [List.length_append, List.length_map]; omega); (intro q hq; cases hq)); (simp only [Nat.reduceAdd, Nat.reducePow, Nat.reduceMul, Nat.zero_or, Nat.or_zero, Nat.reduceXor, Nat.reduceOr]; try exact rfl); rintro _ _ ⟨rfl, rfl⟩; refine ⟨fun _ s => s.drop, ?_⟩)
      rw [List.take_nil, splice]
      repeat' ((apply JB.nil; exact rfl))
      repeat' (first | (apply JO.ru; exact rfl; exact rfl; exact rfl; (first | (apply Ru.move; exact rfl) | (apply Ru.loadN; exact rfl; (repeat (first | exact Pick.here | apply Pick.there)); exact rfl) | (apply Ru.fieldAddr; exact rfl) | (apply Ru.nilP; exact rfl))) | refine JC.region ?_ | refine JE.thenN ?_)
      (apply JO.do0; exact rfl; exact rfl; (apply Do.deleteI; exact rfl; exact rfl; exact Pick.there Pick.here); rintro _ _ ⟨rfl, rfl⟩)
      repeat' (first | (apply JO.ru; exact rfl; exact rfl; exact rfl; (first | (apply Ru.move; exact rfl) | (apply Ru.add; exact rfl; exact rfl; (first | exact wrapI (by omega) (by omega) | exact rfl)))) | refine JC.region ?_ | refine JO.nil ?_ | refine JE.thenN ?_ | refine JE.blockN ?_)
      refine JE.round (j + 1) (by omega) (by omega) ⟨rfl, rfl, rfl, rfl, trivial⟩ ?_
      have hset : E.settle (i : Int) = E := by unfold DiskN.settle; rw [hlc2]
      have hidx : idxI (R.map fun (p : Int × Value × List UInt8) => (p.1, p.2.1)) (i : Int) = none := by
        unfold lookI at hlk
        simpa using hlk
      intro w s
      rw [hss, hset]
      rw [del_none hidx] at s
      have s1 := Sat.ownS_arr (k := E.data.length) (cap := cap) (z := 1) hcap hxs hsp (s.perm (.swap _ _ _))
      have s4 := Sat.weak (l' := opn2 d E (.slice (some ⟨b, 0, none⟩) E.data.length cap) cm pm R (ownS (.slice (some ⟨b0, 0, none⟩) D.tick.keys.length c) 3 1 D.tick.keys.length (D.tick.keys.map int) :: F)) (by repeat (first | exact Weak.refl | (apply Weak.cons; (first | exact Pick.here | exact Pick.there Pick.here | exact Pick.there (Pick.there Pick.here) | exact Pick.there (Pick.there (Pick.there Pick.here)) | exact Pick.there (Pick.there (Pick.there (Pick.there Pick.here))) | exact Pick.there (Pick.there (Pick.there (Pick.there (Pick.there Pick.here)))) | exact Pick.there (Pick.there (Pick.there (Pick.there (Pick.there (Pick.there Pick.here))))) | exact Pick.there (Pick.there (Pick.there (Pick.there (Pick.there (Pick.there (Pick.there Pick.here)))))))) | apply Weak.drop)) w s1
      exact Sat.weak (by repeat (first | exact Weak.refl | (apply Weak.cons; (first | exact Pick.here | exact Pick.there Pick.here | exact Pick.there (Pick.there Pick.here) | exact Pick.there (Pick.there (Pick.there Pick.here)) | exact Pick.there (Pick.there (Pick.there (Pick.there Pick.here))) | exact Pick.there (Pick.there (Pick.there (Pick.there (Pick.there Pick.here)))) | exact Pick.there (Pick.there (Pick.there (Pick.there (Pick.there (Pick.there Pick.here))))) | exact Pick.there (Pick.there (Pick.there (Pick.there (Pick.there (Pick.there (Pick.there Pick.here)))))))) | apply Weak.drop)) w (Sat.close hR s4)
    | some u =>
      rw [q] at hlk hlc2
      simp only [Option.map_some] at hlk hlc2
      refine JC.rowR (lookI_mem q) (Pick.there (Pick.there Pick.here)) fun hrow => ?_
      refine JC.regionB (mapI cm (R.map fun p => (p.1, p.2.1)) :: star (R.map rowHP) :: arr d 121 (diskCells E (.slice (some ⟨b, 0, none⟩) E.data.length cap) cm pm) :: planHP pm E.planned :: ownS (.slice (some ⟨b0, 0, none⟩) D.tick.keys.length c) 3 1 D.tick.keys.length (D.tick.keys.map int) :: F) mixed ?_
      repeat' (first | ((apply JB.ru; exact rfl; exact rfl; exact rfl; exact rfl; (first | (apply Ru.move; exact rfl) | (apply Ru.loadN; exact rfl; (repeat (first | exact Pick.here | apply Pick.there)); exact rfl) | (apply Ru.fieldAddr; exact rfl) | (apply Ru.nilP; exact rfl)); decide +kernel; decide +kernel; (first | exact fun _ h => h | exact fun _ h => Sat.drop h | exact fun _ h => Sat.drop (Sat.drop h) | exact fun _ h => Sat.drop (Sat.drop (Sat.drop h)) | exact fun _ h => Sat.drop (Sat.drop (Sat.drop (Sat.drop h)))); (simp only [Nat.reduceAdd, Nat.reducePow, Nat.reduceMul, Nat.zero_or, Nat.or_zero, Nat.reduceXor, Nat.reduceOr]; try exact rfl))) | (apply JB.ru; exact rfl; exact rfl; exact rfl; exact rfl; (apply Ru.lookupO0; exact rfl; exact rfl; exact Pick.here; exact hlk); decide +kernel; decide +kernel; exact fun _ h => Sat.drop h; (simp only [Nat.reduceAdd, Nat.reducePow, Nat.reduceMul, Nat.zero_or, Nat.or_zero, Nat.reduceXor, Nat.reduceOr]; try exact rfl)))
      have hul : u.2.length = E.size := (hEw.cach _ (lookI_mem hlc2)).2.2
      have hul' : (u.2.map byte).length = u.2.length := by simp
      refine JB.one 2 (by decide +kernel) ?_
      (apply JI.do; exact rfl; exact rfl; exact rfl; exact rfl; (apply Do.call; exact rfl; exact disk_at d E.size i b E.data.length cap _ _ _ _ hz (by omega) hcap hroom (Pick.there (Pick.there (Pick.there Pick.here)))); (simp only [Nat.reduceAdd, Nat.reducePow, Nat.reduceMul, Nat.zero_or, Nat.or_zero, Nat.reduceXor, Nat.reduceOr]; try exact rfl); rintro _ _ ⟨rfl, hq⟩; obtain rfl := hq.symm; refine ⟨fun _ s => s.drop, ?_⟩)
      refine JB.one 9 (by decide +kernel) ?_
      obtain ⟨ku, pu, cu, hu1⟩ : ∃ k p c, u.1 = .slice p k c ∧ k = u.2.length := by
        obtain ⟨pp, cc, h1, _, _⟩ := hrow
        exact ⟨_, pp, cc, h1, hul'⟩
      obtain ⟨hu1, rfl⟩ := hu1
      dsimp only at hrow
      rw [hu1] at hrow ⊢
      (apply JI.do; exact rfl; exact rfl; exact rfl; exact rfl; (apply Do.copy (ys := u.2.map byte); exact rfl; exact rfl; exact Pick.here; exact hrow; (rw [List.length_append, List.length_map]; omega); exact byteOne _); (simp only [Nat.reduceAdd, Nat.reducePow, Nat.reduceMul, Nat.zero_or, Nat.or_zero, Nat.reduceXor, Nat.reduceOr]; try exact rfl); rintro _ _ ⟨rfl, rfl⟩; refine ⟨fun _ s => s.drop, ?_⟩)
      have hcp : splice (E.data.map byte ++ spare) (i * E.size) ((u.2.map byte).take (min u.2.length E.size)) = (setSec E.data E.size i u.2).map byte ++ spare := by
        rw [List.take_of_length_le (by rw [hul']; omega), splice_at _ _ _ (by simp only [List.length_append, List.length_map]; omega)]
        have e1 : i * E.size ≤ (E.data.map byte).length := by rw [List.length_map]; omega
        rw [List.take_append_of_le_length e1, List.drop_append_of_le_length (by simp only [List.length_map]; omega)]
        simp [setSec]
      rw [hcp]
      repeat' ((apply JB.nil; exact rfl))
      repeat' (first | (apply JO.ru; exact rfl; exact rfl; exact rfl; (first | (apply Ru.move; exact rfl) | (apply Ru.loadN; exact rfl; (repeat (first | exact Pick.here | apply Pick.there)); exact rfl) | (apply Ru.fieldAddr; exact rfl) | (apply Ru.nilP; exact rfl))) | refine JC.region ?_ | refine JE.thenN ?_)
      (apply JO.do0; exact rfl; exact rfl; (apply Do.deleteI; exact rfl; exact rfl; exact Pick.there Pick.here); rintro _ _ ⟨rfl, rfl⟩)
      repeat' (first | (apply JO.ru; exact rfl; exact rfl; exact rfl; (first | (apply Ru.move; exact rfl) | (apply Ru.add; exact rfl; exact rfl; (first | exact wrapI (by omega) (by omega) | exact rfl)))) | refine JC.region ?_ | refine JO.nil ?_ | refine JE.thenN ?_ | refine JE.blockN ?_)
      refine JE.round (j + 1) (by omega) (by omega) ⟨rfl, rfl, rfl, rfl, trivial⟩ ?_
      have hset : E.settle (i : Int) = { E with data := setSec E.data E.size i u.2, cached := delI E.cached i } := by unfold DiskN.settle; rw [hlc2]; rfl
      have hsl := setSec_length (data := E.data) (size := E.size) (i := i) (bs := u.2) (by omega)
      have em : delI (R.map fun (p : Int × Value × List UInt8) => (p.1, p.2.1)) (i : Int) = (delI R (i : Int)).map fun p => (p.1, p.2.1) := delI_map (·.1) R i
      have ec : delI E.cached (i : Int) = (delI R (i : Int)).map fun p => (p.1, p.2.2) := by rw [hR]; exact delI_map (·.2) R i
      intro w s
      rw [hss, hset]
      rw [em] at s
      have s0 := Sat.weak (l' := arr b 5 ((setSec E.data E.size i u.2).map byte ++ spare) :: star (R.map rowHP) :: mapI cm ((delI R (i : Int)).map fun p => (p.1, p.2.1)) :: arr d 121 (diskCells E (.slice (some ⟨b, 0, none⟩) E.data.length cap) cm pm) :: planHP pm E.planned :: ownS (.slice (some ⟨b0, 0, none⟩) D.tick.keys.length c) 3 1 D.tick.keys.length (D.tick.keys.map int) :: F) (by repeat (first | exact Weak.refl | (apply Weak.cons; (first | exact Pick.here | exact Pick.there Pick.here | exact Pick.there (Pick.there Pick.here) | exact Pick.there (Pick.there (Pick.there Pick.here)) | exact Pick.there (Pick.there (Pick.there (Pick.there Pick.here))) | exact Pick.there (Pick.there (Pick.there (Pick.there (Pick.there Pick.here)))) | exact Pick.there (Pick.there (Pick.there (Pick.there (Pick.there (Pick.there Pick.here))))) | exact Pick.there (Pick.there (Pick.there (Pick.there (Pick.there (Pick.there (Pick.there Pick.here)))))))) | apply Weak.drop)) w s
      have s1 := Sat.ownS_arr (k := (setSec E.data E.size i u.2).length) (cap := cap) (z := 1) (by omega) (by rw [List.length_map]; omega) (by rw [List.length_append, List.length_map, hsl, ← List.length_map (f := byte), ← List.length_append]; exact hsp) s0
      rw [hsl] at s1
      have s2 := Sat.weak (l' := star (R.map rowHP) :: ownS (.slice (some ⟨b, 0, none⟩) E.data.length cap) 5 1 E.data.length ((setSec E.data E.size i u.2).map byte) :: mapI cm ((delI R (i : Int)).map fun p => (p.1, p.2.1)) :: arr d 121 (diskCells E (.slice (some ⟨b, 0, none⟩) E.data.length cap) cm pm) :: planHP pm E.planned :: ownS (.slice (some ⟨b0, 0, none⟩) D.tick.keys.length c) 3 1 D.tick.keys.length (D.tick.keys.map int) :: F) (by repeat (first | exact Weak.refl | (apply Weak.cons; (first | exact Pick.here | exact Pick.there Pick.here | exact Pick.there (Pick.there Pick.here) | exact Pick.there (Pick.there (Pick.there Pick.here)) | exact Pick.there (Pick.there (Pick.there (Pick.there Pick.here))) | exact Pick.there (Pick.there (Pick.there (Pick.there (Pick.there Pick.here)))) | exact Pick.there (Pick.there (Pick.there (Pick.there (Pick.there (Pick.there Pick.here))))) | exact Pick.there (Pick.there (Pick.there (Pick.there (Pick.there (Pick.there (Pick.there Pick.here)))))))) | apply Weak.drop)) w s1
      have s3 := Sat.delRows (k := (i : Int)) s2
      have e9 : ownS (.slice (some ⟨b, 0, none⟩) E.data.length cap) 5 1 E.data.length ((setSec E.data E.size i u.2).map byte) = bytesHP (.slice (some ⟨b, 0, none⟩) E.data.length cap) (setSec E.data E.size i u.2) := by rw [← hsl]
      rw [e9] at s3
      have s4 := Sat.weak (l' := opn2 d { E with data := setSec E.data E.size i u.2, cached := delI E.cached i } (.slice (some ⟨b, 0, none⟩) E.data.length cap) cm pm (delI R (i : Int)) (ownS (.slice (some ⟨b0, 0, none⟩) D.tick.keys.length c) 3 1 D.tick.keys.length (D.tick.keys.map int) :: F)) (by repeat (first | exact Weak.refl | (apply Weak.cons; (first | exact Pick.here | exact Pick.there Pick.here | exact Pick.there (Pick.there Pick.here) | exact Pick.there (Pick.there (Pick.there Pick.here)) | exact Pick.there (Pick.there (Pick.there (Pick.there Pick.here))) | exact Pick.there (Pick.there (Pick.there (Pick.there (Pick.there Pick.here)))) | exact Pick.there (Pick.there (Pick.there (Pick.there (Pick.there (Pick.there Pick.here))))) | exact Pick.there (Pick.there (Pick.there (Pick.there (Pick.there (Pick.there (Pick.there Pick.here)))))))) | apply Weak.drop)) w s3
      exact Sat.weak (by repeat (first | exact Weak.refl | (apply Weak.cons; (first | exact Pick.here | exact Pick.there Pick.here | exact Pick.there (Pick.there Pick.here) | exact Pick.there (Pick.there (Pick.there Pick.here)) | exact Pick.there (Pick.there (Pick.there (Pick.there Pick.here))) | exact Pick.there (Pick.there (Pick.there (Pick.there (Pick.there Pick.here)))) | exact Pick.there (Pick.there (Pick.there (Pick.there (Pick.there (Pick.there Pick.here))))) | exact Pick.there (Pick.there (Pick.there (Pick.there (Pick.there (Pick.there (Pick.there Pick.here)))))))) | apply Weak.drop)) w (Sat.close ec s4)
  · obtain rfl : j = D.tick.keys.length := by omega
    refine ⟨_, Sat.weak (by repeat (first | exact Weak.refl | (apply Weak.cons; (first | exact Pick.here | exact Pick.there Pick.here | exact Pick.there (Pick.there Pick.here) | exact Pick.there (Pick.there (Pick.there Pick.here)) | exact Pick.there (Pick.there (Pick.there (Pick.there Pick.here))) | exact Pick.there (Pick.there (Pick.there (Pick.there (Pick.there Pick.here)))) | exact Pick.there (Pick.there (Pick.there (Pick.there (Pick.there (Pick.there Pick.here))))) | exact Pick.there (Pick.there (Pick.there (Pick.there (Pick.there (Pick.there (Pick.there Pick.here)))))))) | apply Weak.drop)), .inr ⟨rfl, rfl, rfl⟩⟩
end Go.Sep
/- What lies on a disk, sector by sector: no program in sight. -/
namespace Go.Sep
open Go Go.Proofs

theorem lookI_updI {α : Type} : ∀ (R : List (Int × α)) (k j : Int) (v : α), lookI (updI R k v) j = if j = k then some v else lookI R j
  | [], k, j, v => by
    simp only [updI, lookI_cons]
  | (k', v') :: R, k, j, v => by
    simp only [updI]
    by_cases h : k = k'
    · subst h
      rw [if_pos rfl, lookI_cons, lookI_cons]
      by_cases hj : j = k
      · subst hj; simp
      · simp [hj]
    · rw [if_neg h, lookI_cons, lookI_cons, lookI_updI R k j v]
      by_cases hj : j = k'
      · subst hj
        have : ¬ j = k := fun e => h e.symm
        simp [this]
      · simp [hj]
theorem lookI_none_of {α : Type} {R : List (Int × α)} {k : Int} (h : k ∉ R.map (·.1)) : lookI R k = none := by
  cases q : lookI R k with
  | none => rfl
  | some v => exact absurd (List.mem_map.2 ⟨_, lookI_mem q, rfl⟩) h
theorem lookI_some_of {α : Type} : ∀ {R : List (Int × α)} {k : Int}, k ∈ R.map (·.1) → ∃ v, lookI R k = some v
  | (k', v') :: R, k, h => by
    rw [lookI_cons]
    by_cases e : k = k'
    · exact ⟨v', by rw [if_pos e]⟩
    · rw [if_neg e]
      rw [List.map_cons, List.mem_cons] at h
      rcases h with h | h
      · exact absurd h e
      · exact lookI_some_of h
  | [], k, h => by simp at h
theorem lookI_delI {α : Type} : ∀ (R : List (Int × α)) (k j : Int), (R.map (·.1)).Nodup → lookI (delI R k) j = if j = k then none else lookI R j
  | [], k, j, _ => by
    simp only [delI]
    split <;> rfl
  | (k', v') :: R, k, j, hn => by
    rw [List.map_cons, List.nodup_cons] at hn
    simp only [delI]
    by_cases h : k = k'
    · subst h
      rw [if_pos rfl, lookI_cons]
      by_cases hj : j = k
      · subst hj; rw [if_pos rfl]; exact lookI_none_of hn.1
      · simp [hj]
    · rw [if_neg h, lookI_cons, lookI_cons, lookI_delI R k j hn.2]
      by_cases hj : j = k'
      · subst hj
        have : ¬ j = k := fun e => h e.symm
        simp [this]
      · simp [hj]
theorem delI_keys {α : Type} : ∀ (R : List (Int × α)) (k : Int), (R.map (·.1)).Nodup → (delI R k).map (·.1) = (R.map (·.1)).filter (fun j => !decide (j = k))
  | [], k, _ => rfl
  | (k', v') :: R, k, hn => by
    rw [List.map_cons, List.nodup_cons] at hn
    simp only [delI]
    by_cases h : k = k'
    · subst h
      rw [if_pos rfl, List.map_cons, List.filter_cons_of_neg (by simp), List.filter_eq_self.2]
      intro a ha
      have : a ≠ k := fun e => hn.1 (e ▸ ha)
      simpa using this
    · rw [if_neg h, List.map_cons, List.map_cons, List.filter_cons_of_pos (by simpa using fun e : k' = k => h e.symm), delI_keys R k hn.2]

/-! ### Sectors -/
theorem sec_set {data : List UInt8} {size i j : Nat} {bs : List UInt8} (hb : bs.length = size) (hi : (i + 1) * size ≤ data.length) (hj : (j + 1) * size ≤ data.length) :
    ((setSec data size i bs).drop (j * size)).take size = if j = i then bs else (data.drop (j * size)).take size := by
  rw [Nat.succ_mul] at hi hj
  unfold setSec
  have hl : (data.take (i * size)).length = i * size := by rw [List.length_take]; omega
  by_cases h : j = i
  · subst h
    rw [if_pos rfl, List.append_assoc, List.drop_append_of_le_length (by omega), List.drop_eq_nil_of_le (by omega), List.nil_append, List.take_append_of_le_length (by omega), List.take_of_length_le (by omega)]
  · rw [if_neg h]
    by_cases hlt : j < i
    · have h2 : (j + 1) * size ≤ i * size := Nat.mul_le_mul_right _ hlt
      rw [Nat.succ_mul] at h2
      rw [List.append_assoc, List.drop_append_of_le_length (by omega), List.take_append_of_le_length (by rw [List.length_drop]; omega), List.drop_take, List.take_take]
      congr 1
      omega
    · have h2 : (i + 1) * size ≤ j * size := Nat.mul_le_mul_right _ (by omega)
      rw [Nat.succ_mul] at h2
      rw [List.drop_append, List.drop_eq_nil_of_le (by rw [List.length_append, hl, hb]; omega), List.nil_append, List.drop_drop, List.length_append, hl, hb]
      congr 2
      omega
variable {D : DiskN}
theorem cur_put (i : Nat) (bs : List UInt8) (j : Nat) : (D.put (i : Int) bs).cur j = if j = i then bs else D.cur j := by
  unfold DiskN.cur DiskN.put
  rw [lookI_updI]
  by_cases h : j = i
  · subst h; simp
  · have : ¬ ((j : Int) = (i : Int)) := by omega
    rw [if_neg this, if_neg h]; rfl
theorem cur_ticks (k j : Nat) : (D.ticks k).cur j = D.cur j := rfl
theorem cur_tick (j : Nat) : D.tick.cur j = D.cur j := rfl
theorem room_of (h : D.WF) {j : Nat} (hj : j < D.count) : (j + 1) * D.size ≤ D.data.length := h.room hj
theorem cur_settle (h : D.WF) (k : Int) {j : Nat} (hj : j < D.count) : (D.settle k).cur j = D.cur j := by
  unfold DiskN.settle
  cases q : lookI D.cached k with
  | none => rfl
  | some bs =>
    obtain ⟨h1, h2, h3⟩ := h.cach _ (lookI_mem q)
    dsimp only at h1 h2 h3 ⊢
    obtain ⟨i, rfl⟩ := Int.eq_ofNat_of_zero_le h1
    have hi : i < D.count := by omega
    unfold DiskN.cur DiskN.sector
    dsimp only
    rw [lookI_delI _ _ _ h.nodup, Int.toNat_natCast, sec_set h3 (h.room hi) (h.room hj)]
    by_cases e : j = i
    · subst e; rw [if_pos rfl, if_pos rfl, q]; rfl
    · have : ¬ ((j : Int) = (i : Int)) := by omega
      rw [if_neg this, if_neg e]
theorem look_settle (h : D.WF) (k j : Int) : lookI (D.settle k).cached j = if j = k then none else lookI D.cached j := by
  unfold DiskN.settle
  cases q : lookI D.cached k with
  | none =>
    by_cases e : j = k
    · subst e; rw [if_pos rfl]; exact q
    · rw [if_neg e]
  | some bs => exact lookI_delI _ _ _ h.nodup
theorem settled_cur (h : D.WF) (n : Nat) {j : Nat} (hj : j < D.count) : (settled D n).cur j = D.cur j := by
  induction n with
  | zero => rfl
  | succ n ih =>
    cases q : D.keys[n]? with
    | none =>
      rw [List.getElem?_eq_none_iff] at q
      have e : settled D (n + 1) = settled D n := by
        unfold settled
        rw [List.take_of_length_le (by omega), List.take_of_length_le (by omega)]
      rw [e, ih]
    | some k =>
      obtain ⟨a1, a2, a3⟩ := settled_wf h n
      rw [settled_succ q, cur_settle a1 k (by rw [a3]; exact hj), ih]
theorem settled_look (h : D.WF) (n : Nat) (j : Int) : lookI (settled D n).cached j = if j ∈ D.keys.take n then none else lookI D.cached j := by
  induction n with
  | zero => simp [settled]
  | succ n ih =>
    cases q : D.keys[n]? with
    | none =>
      rw [List.getElem?_eq_none_iff] at q
      have e : settled D (n + 1) = settled D n := by
        unfold settled
        rw [List.take_of_length_le (by omega), List.take_of_length_le (by omega)]
      rw [e, ih, List.take_of_length_le (by omega), List.take_of_length_le (by omega)]
    | some k =>
      obtain ⟨a1, a2, a3⟩ := settled_wf h n
      rw [settled_succ q, look_settle a1, ih, List.take_add_one, q]
      by_cases e : j = k
      · subst e; simp
      · simp [e]
theorem mem_keys {j : Int} : j ∈ D.keys ↔ j ∈ D.cached.map (·.1) := (List.mergeSort_perm _ _).mem_iff
/-- The disk as it is when all that is cached has come to last. -/
def DiskN.sync (D : DiskN) : DiskN := settled D D.keys.length
theorem look_none {α : Type} {R : List (Int × α)} (h : ∀ j, lookI R j = none) : R = [] := by
  cases R with
  | nil => rfl
  | cons p R => have := h p.1; rw [lookI_cons, if_pos rfl] at this; cases this
theorem sync_cached (h : D.WF) : D.sync.cached = [] := by
  refine look_none fun j => ?_
  unfold DiskN.sync
  rw [settled_look h, List.take_of_length_le (Nat.le_refl _)]
  split
  · rfl
  · rename_i hj
    rw [mem_keys] at hj
    exact lookI_none_of hj
theorem sync_cur (h : D.WF) {j : Nat} (hj : j < D.count) : D.sync.cur j = D.cur j := settled_cur h _ hj
theorem sync_wf (h : D.WF) : D.sync.WF ∧ D.sync.size = D.size ∧ D.sync.count = D.count := settled_wf h _
theorem settled_rest (h : D.WF) (n : Nat) : (settled D n).ops = D.ops ∧ (settled D n).writes = D.writes ∧ (settled D n).planned = D.planned := by
  have key : ∀ (l : List Int) (D : DiskN), D.WF → (l.foldl DiskN.settle D).ops = D.ops ∧ (l.foldl DiskN.settle D).writes = D.writes ∧ (l.foldl DiskN.settle D).planned = D.planned := by
    intro l
    induction l with
    | nil => intro D h; exact ⟨rfl, rfl, rfl⟩
    | cons k l ih =>
      intro D h
      obtain ⟨a1, a2, a3, a4, a5, a6⟩ := h.settle k
      obtain ⟨b1, b2, b3⟩ := ih _ a1
      exact ⟨b1.trans a4, b2.trans a5, b3.trans a6⟩
  exact key _ D h
theorem sync_sector (h : D.WF) {j : Nat} (hj : j < D.count) : D.sync.sector j = D.cur j := by
  have := sync_cur h hj
  unfold DiskN.cur at this
  rw [sync_cached h] at this
  exact this
end Go.Sep
/- Heads, and images in pieces: no program in sight. -/
namespace Go.Sep
open Go Go.Proofs

/-! ### A head is read as it was laid -/
theorem leN_id {m : Nat} {n : Int} (h0 : 0 ≤ n) (h1 : n < 256 ^ m) : leNum (leBytes m n) = n := by
  rw [leNum_leBytes m n h0, Int.emod_eq_of_lt h0 h1]
theorem take24 (h : HeadN) (m : Nat) : (padB (enc h) m).take 24 = encBody h := rfl
theorem drop24 (h : HeadN) (m : Nat) : ((padB (enc h) m).drop 24).take 4 = leBytes 4 (crcSum (encBody h)) := rfl
theorem dropL (h : HeadN) (m : Nat) : ((padB (enc h) m).drop 8).take 4 = leBytes 4 (IntKind.u32.wrap h.len) := rfl
theorem dropS (h : HeadN) (m : Nat) : ((padB (enc h) m).drop 12).take 8 = leBytes 8 h.seq := rfl
theorem dropC (h : HeadN) (m : Nat) : ((padB (enc h) m).drop 20).take 4 = leBytes 4 h.sum := rfl
theorem enc_length (h : HeadN) : (enc h).length = 28 := rfl
theorem byteN {n : Int} (h0 : 0 ≤ n) (h1 : n < 256) : ((UInt8.ofNat (n % 256).toNat).toNat : Int) = n := by
  rw [UInt8.toNat_ofNat']; omega
theorem dec_enc {h : HeadN} (hr : h.right = true) (hq : 0 ≤ h.seq ∧ h.seq < 18446744073709551616) (hs : 0 ≤ h.sum ∧ h.sum < 4294967296) {m : Nat} (hm : 28 ≤ m) : decE (padB (enc h) m) = 0 ∧ decH (padB (enc h) m) = h := by
  have hb : rightG h.e h.f h.s = true ∧ h.len = totG h.e h.f h.s := by unfold HeadN.right at hr; simpa using hr
  have hb' : 0 ≤ h.e ∧ h.e ≤ 10 ∧ 0 ≤ h.f ∧ h.f ≤ 64 ∧ 0 ≤ h.s ∧ h.s ≤ 128 := by simpa [rightG] using hb.1
  have ht := totG_bd h.e h.f h.s
  have hc := crcSum_bd (encBody h)
  have hraw : decRaw (padB (enc h) m) = h := by
    have e5 : (padB (enc h) m).getD 5 0 = UInt8.ofNat (h.e % 256).toNat := rfl
    have e6 : (padB (enc h) m).getD 6 0 = UInt8.ofNat (h.f % 256).toNat := rfl
    have e7 : (padB (enc h) m).getD 7 0 = UInt8.ofNat (h.s % 256).toNat := rfl
    unfold decRaw
    rw [e5, e6, e7, dropL, dropS, dropC, byteN (by omega) (by omega), byteN (by omega) (by omega), byteN (by omega) (by omega), wrapU32 (by omega) (by omega), leN_id (by omega) (by omega), leN_id hq.1 (by omega), leN_id hs.1 (by omega)]
  have he : decE (padB (enc h) m) = 0 := by
    unfold decE
    have hl : ¬ (padB (enc h) m).length < 28 := by
      rw [padB_length (by rw [enc_length]; exact hm)]; omega
    have h4 : (padB (enc h) m).take 4 = [75, 69, 69, 80] := rfl
    have e4 : ((padB (enc h) m).getD 4 0).toNat = 1 := rfl
    rw [if_neg hl, if_neg (by rw [h4]; simp), if_neg (by rw [e4]; simp), take24, drop24, leN_id hc.1 (by omega), if_neg (by simp), hraw, if_pos hr]
  exact ⟨he, by unfold decH; rw [if_pos he]; exact hraw⟩
/-- Zeroes are no head. -/
theorem dec_zero {m : Nat} (hm : 28 ≤ m) : decE (padB [] m) = 6 := by
  obtain ⟨k, rfl⟩ : ∃ k, m = k + 28 := ⟨m - 28, by omega⟩
  unfold decE
  rw [if_neg (by simp [padB]), if_pos]
  simp [padB, List.replicate_succ]

/-! ### Pieces -/
theorem flat_pieces (L : List UInt8) (z : Nat) : ∀ n, n * z ≤ L.length → ((List.range n).map fun i => (L.drop (i * z)).take z).flatten = L.take (n * z)
  | 0, _ => by simp
  | n + 1, h => by
    rw [Nat.succ_mul] at h
    rw [List.range_succ, List.map_append, List.flatten_append, flat_pieces L z n (by omega)]
    simp only [List.map_cons, List.map_nil, List.flatten_cons, List.flatten_nil, List.append_nil]
    rw [Nat.succ_mul, List.take_add]
theorem pieces_length (bs : List UInt8) (z n : Nat) : (pieces bs z n).length = n := by simp [pieces]
theorem pieces_flat {bs : List UInt8} {z n : Nat} (h : bs.length ≤ n * z) : (pieces bs z n).flatten = padB bs (n * z) := by
  have hl := padB_length h
  unfold pieces
  rw [flat_pieces _ _ _ (by omega), List.take_of_length_le (by omega)]
theorem pieces_each {bs : List UInt8} {z n : Nat} (h : bs.length ≤ n * z) : ∀ x ∈ pieces bs z n, x.length = z := by
  intro x hx
  obtain ⟨i, hi, rfl⟩ := List.mem_map.1 hx
  have hi' := List.mem_range.1 hi
  have h2 : (i + 1) * z ≤ n * z := Nat.mul_le_mul_right _ hi'
  rw [Nat.succ_mul] at h2
  rw [List.length_take, List.length_drop, padB_length h]; omega
theorem padB_take {bs : List UInt8} {m : Nat} : (padB bs m).take bs.length = bs := by simp [padB]
/-- Enough sectors. -/
theorem secs_room {m z : Int} (h0 : 0 ≤ m) (h1 : 1 ≤ z) (h2 : z ≤ 4096) : 0 ≤ secs m z ∧ m ≤ secs m z * z := by
  unfold secs
  by_cases hm : m < 1
  · rw [if_pos (.inl hm)]; omega
  · rw [if_neg (by omega)]
    have h3 := Int.emod_nonneg (m - 1) (by omega : z ≠ 0)
    have h4 := Int.emod_lt_of_pos (m - 1) (by omega : 0 < z)
    have h5 := Int.mul_ediv_add_emod (m - 1) z
    have h6 : 0 ≤ (m - 1) / z := Int.ediv_nonneg (by omega) (by omega)
    refine ⟨by omega, ?_⟩
    rw [Int.add_mul, Int.one_mul, Int.mul_comm]
    omega
end Go.Sep
/- slot: wiped, sealed, laid: what each answers as a function of the disk. -/
namespace Go.Sep
open Go Go.Proofs
attribute [local irreducible] JO JC JE JA JQ JB JI Mid Inv Weak ownS Ru Do Fn Sat Pick Take arr pt star ex Holds bodyPost Post Exit.then Exit.inBlock Res
variable {σ : Sig} {F : List HP}
attribute [local irreducible] diskHP cacheHP planHP rowHP
theorem slot_WipeR (d : Nat) (D : DiskN) (which e f s : Int) (hD : D.WF) (ho : D.ops ≤ 1000000000000) (hw : D.writes ≤ 1000000000000) [hg : InG F] :
    Fn Tryz.prog σ 20 #[.pointer (some ⟨d, 0, none⟩), int which, geoV e f s] (diskHP d D :: F) (fun v l' => v = int (wipeR D which e f s).1 ∧ l' = diskHP d (wipeR D which e f s).2 :: F) := by
  refine (slot_Wipe d D which e f s hD ho hw).mono ?_
  rintro v l' (⟨h1, rfl, rfl⟩ | ⟨h1, (⟨h2, rfl, rfl⟩ | ⟨h2, rfl, rfl⟩)⟩) <;> unfold wipeR firstOf <;> simp [*]
theorem slot_SealR (d : Nat) (D : DiskN) (which e f s q : Int) (v : Value) (bs : List UInt8) (hq0 : 0 ≤ q) (hbl : bs.length ≤ 100000000) (hD : D.WF) (ho : D.ops ≤ 1000000000000) (hw : D.writes ≤ 1000000000000) {l : List HP} [hg : InG l] (hb : RdS σ l v (bs.map byte)) :
    Fn Tryz.prog σ 18 #[.pointer (some ⟨d, 0, none⟩), int which, geoV e f s, u64 q, v] (diskHP d D :: l) (fun r l' => r = int (sealR D which e f s q bs).1 ∧ l' = diskHP d (sealR D which e f s q bs).2 :: l) := by
  refine (slot_Seal d D which e f s q v bs hq0 hbl hD ho hw hb).mono ?_
  rintro v l' (⟨h1, rfl, rfl⟩ | ⟨h1, h3, rfl, rfl⟩ | ⟨h1, h3, (⟨h2, rfl, rfl⟩ | ⟨h2, rfl, rfl⟩)⟩) <;> unfold sealR firstOf <;> simp [*]
theorem writeE_zero {D : DiskN} {i : Int} {n : Nat} (h : D.writeE i n = 0) : 0 ≤ i ∧ i < D.count ∧ n = D.size := by
  unfold DiskN.writeE at h
  split at h
  · cases h
  · split at h
    · cases h
    · split at h
      · cases h
      · split at h
        · cases h
        · omega
theorem piece_at {bs : List UInt8} {z n i : Nat} (h : i < n) : (pieces bs z n)[i]? = some (((padB bs (n * z)).drop (i * z)).take z) := by
  unfold pieces; rw [List.getElem?_map, List.getElem?_range h]; rfl
set_option maxHeartbeats 4000000 in
theorem slot_Data (d : Nat) (D : DiskN) (which e f s : Int) (v : Value) (bs : List UInt8) (hbl : bs.length ≤ 100000000) (hD : D.WF) (ho : D.ops ≤ 100000000000) (hw : D.writes ≤ 100000000000) {l : List HP} [hg : InG l] (hb : RdS σ l v (bs.map byte)) :
    Fn Tryz.prog σ 16 #[.pointer (some ⟨d, 0, none⟩), int which, geoV e f s, v] (diskHP d D :: l) (fun r l' => r = int (dataR D which e f s bs).1 ∧ l' = diskHP d (dataR D which e f s bs).2 :: l) := by
  obtain ⟨pv, cv, rfl, hcv, hrv⟩ := id hb
  have hl : (bs.map byte).length = bs.length := by simp
  have hz := hD.hz
  have hz2 := hD.hz2
  refine Fn.of Tryz.func16 rfl Tryz.ntmps16 rfl ?_
  repeat' (first | (apply JO.ru; exact rfl; exact rfl; exact rfl; (first | (apply Ru.move; exact rfl) | (apply Ru.assign; exact rfl) | (apply Ru.loadAN; exact rfl; (repeat (first | exact Pick.here | apply Pick.there)); exact rfl; exact rfl))) | refine JC.seq ?_ | refine JC.region ?_ | refine JO.nil ?_ | refine JE.thenN ?_ | (apply JO.do; exact rfl; exact rfl; exact rfl; (first | (apply Do.boxN; exact rfl; exact rfl) | (apply Do.box; exact rfl)); rintro _ _ ⟨_, rfl, rfl⟩))
  rename_i gb
  refine JO.heap (Sat.weak (l' := diskHP d D :: arr gb 23 [int e, int f, int s] :: l) (by repeat (first | exact Weak.refl | (apply Weak.cons; (first | exact Pick.here | exact Pick.there Pick.here | exact Pick.there (Pick.there Pick.here) | exact Pick.there (Pick.there (Pick.there Pick.here)) | exact Pick.there (Pick.there (Pick.there (Pick.there Pick.here))) | exact Pick.there (Pick.there (Pick.there (Pick.there (Pick.there Pick.here)))) | exact Pick.there (Pick.there (Pick.there (Pick.there (Pick.there (Pick.there Pick.here))))) | exact Pick.there (Pick.there (Pick.there (Pick.there (Pick.there (Pick.there (Pick.there Pick.here)))))))) | apply Weak.drop))) ?_
  (apply JO.do; exact rfl; exact rfl; exact rfl; (apply Do.call; exact rfl; exact slot_at d D which e f s hD); rintro _ _ (⟨hE, db, fb, rfl, rfl⟩ | ⟨hE, rfl, rfl⟩))
  · have hfi := atE_first hE
    repeat' (first | (first | (apply JO.ru; exact rfl; exact rfl; exact rfl; (first | (apply Ru.move; exact rfl) | (apply Ru.loadN; exact rfl; (repeat (first | exact Pick.here | apply Pick.there)); exact rfl) | (apply Ru.fieldAddr; exact rfl) | (apply Ru.assign; exact rfl) | (apply Ru.lenS; exact rfl) | (apply Ru.neq; exact rfl; exact rfl; (first | exact ndecF (by omega) | exact ndecT (by omega))) | (apply Ru.extractN; exact rfl; exact rfl) | (apply Ru.loadAN; exact rfl; (repeat (first | exact Pick.here | apply Pick.there)); exact rfl; exact rfl))) | refine JC.seq ?_ | refine JC.region ?_ | refine JO.nil ?_ | refine JE.thenN ?_ | refine JE.thenR ?_ | refine JE.blockN ?_ | refine JE.blockR ?_ | refine JC.block ?_ | refine JC.ret ?_ | refine JC.skip ?_ | refine JC.condT rfl ?_ | refine JC.condF rfl ?_ | (apply JO.splitN; exact rfl; exact rfl; exact rfl; (apply Ru.neq; exact rfl; exact rfl; exact rfl); all_goals intro _) | (apply JO.do; exact rfl; exact rfl; exact rfl; (first | (apply Do.allocN; exact rfl) | apply Do.alloc); rintro _ _ ⟨_, rfl, rfl⟩) | (apply JO.do0; exact rfl; exact rfl; (first | (apply Do.storeAN; exact rfl; exact rfl; (repeat (first | exact Pick.here | apply Pick.there)); exact rfl; exact rfl; exact rfl; exact rfl) | (apply Do.storeA; exact rfl; exact rfl; (repeat (first | exact Pick.here | apply Pick.there)); exact rfl; exact rfl; exact rfl)); rintro _ _ ⟨rfl, rfl⟩) | (apply JE.done1; exact rfl; (first | (apply Res.tmp; exact rfl) | (apply Res.cell; exact rfl; (repeat (first | exact Pick.here | apply Pick.there)); exact rfl) | (apply Res.cellAN; exact rfl; (repeat (first | exact Pick.here | apply Pick.there)); exact rfl; exact rfl) | (apply Res.cellA; exact rfl; (repeat (first | exact Pick.here | apply Pick.there)); exact rfl; exact rfl)))) | (first | (apply JO.do; exact rfl; exact rfl; exact rfl; (apply Do.call; exact rfl; exact geo_Total _ _ _); rintro _ _ ⟨rfl, hq⟩; obtain rfl := hq.symm) | (apply JQ.call; exact rfl; exact rfl; exact rfl; exact geo_Total _ _ _; (rintro _ _ ⟨rfl, rfl⟩; exact ⟨rfl, rfl⟩))))
    · rename_i pb heq
      rw [hl] at heq
      have e0 : dataR D which e f s bs = dataGo (firstOf D which e f s) 0 D (pieces bs D.size (secs bs.length D.size).toNat) := by
        unfold dataR; rw [if_neg (by rw [hE]; simp), if_neg (by simpa using heq)]
      obtain ⟨n, hn⟩ : ∃ n, (secs bs.length D.size).toNat = n := ⟨_, rfl⟩
      have hns := secs_bd (m := (bs.length : Int)) (s := (D.size : Int)) (by omega)
      obtain ⟨ps, hps⟩ : ∃ ps, pieces bs D.size n = ps := ⟨_, rfl⟩
      obtain ⟨fi, hfe⟩ : ∃ fi, which * spanG D.size e f s = fi := ⟨_, rfl⟩
      have hfe2 : firstOf D which e f s = fi := hfe
      have hpl : ps.length = n := by rw [← hps]; simp [pieces]
      rw [hn, hps, hfe2] at e0
      rw [e0]
      rw [hfe] at hfi ⊢
      (apply JO.do; exact rfl; exact rfl; exact rfl; (apply Do.call; exact rfl; exact image_Cut _ bs D.size ⟨hz, hz2⟩ hbl hb.cons.cons.cons.cons.cons); rintro _ _ ⟨u, a, rfl, rfl⟩)
      rw [hn]
      refine JO.ownR Pick.here fun hrd _ hsh => ?_
      obtain ⟨p, c, rfl⟩ : ∃ p c, u = .slice p n c := by
        rcases hsh with ⟨rfl, h⟩ | ⟨b, c, rfl, _⟩
        · exact ⟨none, 0, by rw [h]⟩
        · exact ⟨_, c, rfl⟩
      clear hsh hrd
      repeat' (first | (apply JO.ru; exact rfl; exact rfl; exact rfl; (first | (apply Ru.move; exact rfl) | (apply Ru.assign; exact rfl) | (apply Ru.lenS; exact rfl) | (apply Ru.extractN; exact rfl; exact rfl))) | refine JC.seq ?_ | refine JC.region ?_ | refine JO.nil ?_ | refine JE.thenN ?_ | refine JC.block ?_)
      refine JC.loop (fun x : Nat × DiskN => [(9, .pointer (some ⟨pb, 0, none⟩)), (40, .slice p n c), (41, int n), (42, int x.1)])
        (fun x => slotL d x.2 db fb fi (ownS (.slice p n c) 35 1 n (cutRows a D.size n) :: arr a 5 ((padB bs (n * D.size)).map byte) :: arr pb 105 [int (spanG D.size e f s - 1), int D.size, rdV db fb, wrV db fb] :: l))
        (fun x => x.1 ≤ n ∧ dataGo fi 0 D ps = dataGo fi x.1 x.2 (ps.drop x.1) ∧ x.2.WF ∧ x.2.size = D.size ∧ x.2.ops = D.ops + x.1 ∧ x.2.writes = D.writes + x.1) (fun x => n - x.1) (0, D) ⟨Nat.zero_le _, rfl, hD, rfl, rfl, rfl⟩ ⟨rfl, rfl, rfl, rfl, trivial⟩ (Sat.weak (by repeat (first | exact Weak.refl | (apply Weak.cons; (first | exact Pick.here | exact Pick.there Pick.here | exact Pick.there (Pick.there Pick.here) | exact Pick.there (Pick.there (Pick.there Pick.here)) | exact Pick.there (Pick.there (Pick.there (Pick.there Pick.here))) | exact Pick.there (Pick.there (Pick.there (Pick.there (Pick.there Pick.here)))) | exact Pick.there (Pick.there (Pick.there (Pick.there (Pick.there (Pick.there Pick.here))))) | exact Pick.there (Pick.there (Pick.there (Pick.there (Pick.there (Pick.there (Pick.there Pick.here)))))))) | apply Weak.drop))) ?_
      rintro ⟨i, E⟩ ⟨hi, hgo, hE1, hE2, hE3, hE4⟩
      dsimp only at hi hgo hE1 hE2 hE3 hE4 ⊢
      repeat' (first | (apply JO.ru; exact rfl; exact rfl; exact rfl; (first | (apply Ru.move; exact rfl) | (apply Ru.assign; exact rfl))) | refine JC.seq ?_ | refine JC.region ?_ | refine JO.nil ?_ | refine JE.thenN ?_ | refine JE.thenE ?_ | refine JE.blockE ?_ | refine JC.block ?_ | refine JC.ret ?_ | refine JC.skip ?_ | refine JC.exit ?_ | refine JC.condT rfl ?_ | refine JC.condF rfl ?_ | (apply JO.split; exact rfl; exact rfl; exact rfl; ((apply Ru.lss; exact rfl; exact rfl; exact rfl)); all_goals intro _) | (apply JE.done1; exact rfl; (first | (apply Res.tmp; exact rfl) | (apply Res.cell; exact rfl; (repeat (first | exact Pick.here | apply Pick.there)); exact rfl) | (apply Res.cellAN; exact rfl; (repeat (first | exact Pick.here | apply Pick.there)); exact rfl; exact rfl) | (apply Res.cellA; exact rfl; (repeat (first | exact Pick.here | apply Pick.there)); exact rfl; exact rfl))))
      · rename_i hlt
        have hlt' : i < n := by omega
        have hpi : ps[i]? = some (((padB bs (n * D.size)).drop (i * D.size)).take D.size) := by rw [← hps]; exact piece_at hlt'
        have hroom : bs.length ≤ n * D.size := by
          have := (secs_room (m := (bs.length : Int)) (z := (D.size : Int)) (by omega) (by omega) (by omega)).2
          have e9 : secs (bs.length : Int) (D.size : Int) = (n : Int) := by omega
          rw [e9, ← Int.natCast_mul] at this
          omega
        have hpl2 := pieces_each (z := D.size) hroom
        have hPB := padB_length hroom
        have hsm : (i + 1) * D.size ≤ n * D.size := Nat.mul_le_mul_right _ hlt'
        rw [Nat.succ_mul] at hsm
        obtain ⟨x, hx⟩ : ∃ x, ((padB bs (n * D.size)).drop (i * D.size)).take D.size = x := ⟨_, rfl⟩
        rw [hx] at hpi
        have hxl : x.length = D.size := hpl2 x (by rw [hps]; exact List.mem_of_getElem? hpi)
        have hdr : ps.drop i = x :: ps.drop (i + 1) := by
          obtain ⟨h1, h2⟩ := List.getElem?_eq_some_iff.1 hpi
          rw [List.drop_eq_getElem_cons h1, h2]
        rw [hdr, dataGo, hxl] at hgo
        refine JO.ownR (Pick.there (Pick.there (Pick.there Pick.here))) fun hrd2 _ _ => ?_
        obtain ⟨p', cap', e, _, hr2⟩ := hrd2
        injection e with e1 e2 e3
        subst e1; clear e2 e3
        rcases hr2 with h | ⟨b', o', e4, hc⟩
        · have := congrArg List.length h
          simp [cutRows] at this
          omega
        cases e4
        repeat' ((apply JO.ru; exact rfl; exact rfl; exact rfl; ((apply Ru.indexAddr; exact rfl; exact rfl; omega; omega))))
        (apply JO.ru; exact rfl; exact rfl; exact rfl; (apply Ru.loadC; exact rfl; exact rd_row (i := i) (u := .slice (some ⟨a, i * D.size, none⟩) D.size D.size) hc (by unfold cutRows; rw [List.getElem?_map, List.getElem?_range hlt']; rfl) _ (by simp)))
        repeat' (first | (apply JO.ru; exact rfl; exact rfl; exact rfl; (first | (apply Ru.move; exact rfl) | (apply Ru.loadN; exact rfl; (repeat (first | exact Pick.here | apply Pick.there)); exact rfl) | (apply Ru.fieldAddr; exact rfl) | (apply Ru.assign; exact rfl) | (apply Ru.add; exact rfl; exact rfl; (first | exact wrapI (by omega) (by omega) | exact rfl)))) | refine JC.seq ?_ | refine JC.region ?_ | refine JO.nil ?_ | refine JE.thenN ?_)
        have hrd3 : RdS σ (ownS (.slice (some ⟨b', o', none⟩) n c) 35 1 n (cutRows a D.size n) :: arr a 5 ((padB bs (n * D.size)).map byte) :: arr pb 105 [int (spanG D.size e f s - 1), int D.size, rdV db fb, wrV db fb] :: l) (.slice (some ⟨a, i * D.size, none⟩) D.size D.size) (x.map byte) := by
          have := RdS.arr (σ := σ) (l := ownS (.slice (some ⟨b', o', none⟩) n c) 35 1 n (cutRows a D.size n) :: arr a 5 ((padB bs (n * D.size)).map byte) :: arr pb 105 [int (spanG D.size e f s - 1), int D.size, rdV db fb, wrV db fb] :: l) (Pick.there Pick.here) (i * D.size) D.size D.size (by rw [List.length_map]; omega) (Nat.le_refl _)
          rwa [← List.map_drop, ← List.map_take, hx] at this
        have hwr := slot_wr (σ := σ) d E db fb fi (1 + (i : Int)) (.slice (some ⟨a, i * D.size, none⟩) D.size D.size) x hE1 (by omega) (by omega) (by omega) (by omega) hrd3
        rw [hxl] at hwr
        (apply JO.do; exact rfl; exact rfl; exact rfl; (apply Do.callV (f := 106); exact rfl; exact rfl; exact hwr); rintro _ _ (⟨hW, rfl, rfl⟩ | ⟨hW, rfl, rfl⟩))
        · rw [if_neg (by simpa using hW)] at hgo
          repeat' (first | (apply JO.ru; exact rfl; exact rfl; exact rfl; (first | (apply Ru.move; exact rfl) | (apply Ru.assign; exact rfl) | (apply Ru.neq; exact rfl; exact rfl; (first | exact ndecF (by omega) | exact ndecT (by omega))) | (apply Ru.add; exact rfl; exact rfl; (first | exact wrapI (by omega) (by omega) | exact rfl)))) | refine JC.seq ?_ | refine JC.region ?_ | refine JO.nil ?_ | refine JE.thenN ?_ | refine JE.blockN ?_ | refine JC.skip ?_ | refine JC.condF rfl ?_)
          have hwz := writeE_zero hW
          exact JE.round (i + 1, E.put (fi + (1 + (i : Int))) x) ⟨hlt', hgo, hE1.put hwz.1 hwz.2.1 (by omega), hE2, by show E.ops + 1 = _; omega, by show E.writes + 1 = _; omega⟩ (by show n - (i + 1) < n - i; omega) ⟨rfl, rfl, rfl, rfl, trivial⟩ (fun _ h => h)
        · rw [if_pos (by simpa using hW)] at hgo
          rw [hgo]
          repeat' (first | (apply JO.ru; exact rfl; exact rfl; exact rfl; (first | (apply Ru.move; exact rfl) | (apply Ru.assign; exact rfl) | (apply Ru.neq; exact rfl; exact rfl; (first | exact ndecF (by omega) | exact ndecT (by omega))))) | refine JC.seq ?_ | refine JC.region ?_ | refine JO.nil ?_ | refine JE.thenN ?_ | refine JE.thenR ?_ | refine JE.blockR ?_ | refine JC.ret ?_ | refine JC.condT rfl ?_ | (apply JE.done1; exact rfl; (first | (apply Res.tmp; exact rfl) | (apply Res.cell; exact rfl; (repeat (first | exact Pick.here | apply Pick.there)); exact rfl) | (apply Res.cellAN; exact rfl; (repeat (first | exact Pick.here | apply Pick.there)); exact rfl; exact rfl) | (apply Res.cellA; exact rfl; (repeat (first | exact Pick.here | apply Pick.there)); exact rfl; exact rfl))))
          exact ⟨diskHP d E.tick :: l, Sat.weak (by repeat (first | exact Weak.refl | (apply Weak.cons; (first | exact Pick.here | exact Pick.there Pick.here | exact Pick.there (Pick.there Pick.here) | exact Pick.there (Pick.there (Pick.there Pick.here)) | exact Pick.there (Pick.there (Pick.there (Pick.there Pick.here))) | exact Pick.there (Pick.there (Pick.there (Pick.there (Pick.there Pick.here)))) | exact Pick.there (Pick.there (Pick.there (Pick.there (Pick.there (Pick.there Pick.here))))) | exact Pick.there (Pick.there (Pick.there (Pick.there (Pick.there (Pick.there (Pick.there Pick.here)))))))) | apply Weak.drop)), rfl, rfl⟩
      · obtain rfl : i = n := by omega
        rw [List.drop_eq_nil_of_le (by omega), dataGo] at hgo
        rw [hgo]
        exact ⟨diskHP d E :: l, Sat.weak (by repeat (first | exact Weak.refl | (apply Weak.cons; (first | exact Pick.here | exact Pick.there Pick.here | exact Pick.there (Pick.there Pick.here) | exact Pick.there (Pick.there (Pick.there Pick.here)) | exact Pick.there (Pick.there (Pick.there (Pick.there Pick.here))) | exact Pick.there (Pick.there (Pick.there (Pick.there (Pick.there Pick.here)))) | exact Pick.there (Pick.there (Pick.there (Pick.there (Pick.there (Pick.there Pick.here))))) | exact Pick.there (Pick.there (Pick.there (Pick.there (Pick.there (Pick.there (Pick.there Pick.here)))))))) | apply Weak.drop)), rfl, rfl⟩
    · rename_i heq
      rw [hl] at heq
      have e0 : dataR D which e f s bs = (1, D) := by
        unfold dataR; rw [if_neg (by rw [hE]; simp), if_pos heq]
      rw [e0]
      exact ⟨diskHP d D :: l, Sat.weak (by repeat (first | exact Weak.refl | (apply Weak.cons; (first | exact Pick.here | exact Pick.there Pick.here | exact Pick.there (Pick.there Pick.here) | exact Pick.there (Pick.there (Pick.there Pick.here)) | exact Pick.there (Pick.there (Pick.there (Pick.there Pick.here))) | exact Pick.there (Pick.there (Pick.there (Pick.there (Pick.there Pick.here)))) | exact Pick.there (Pick.there (Pick.there (Pick.there (Pick.there (Pick.there Pick.here))))) | exact Pick.there (Pick.there (Pick.there (Pick.there (Pick.there (Pick.there (Pick.there Pick.here)))))))) | apply Weak.drop)), rfl, rfl⟩
  · have e0 : dataR D which e f s bs = (atE D which e f s, D) := by
      unfold dataR; rw [if_pos hE]
    rw [e0]
    repeat' (first | (apply JO.ru; exact rfl; exact rfl; exact rfl; (first | (apply Ru.move; exact rfl) | (apply Ru.assign; exact rfl) | (apply Ru.neq; exact rfl; exact rfl; (first | exact ndecF (by omega) | exact ndecT (by omega))) | (apply Ru.extractN; exact rfl; exact rfl))) | refine JC.seq ?_ | refine JC.region ?_ | refine JO.nil ?_ | refine JE.thenN ?_ | refine JE.thenR ?_ | refine JE.blockR ?_ | refine JC.block ?_ | refine JC.ret ?_ | refine JC.condT rfl ?_ | (apply JO.do; exact rfl; exact rfl; exact rfl; (first | (apply Do.allocN; exact rfl) | apply Do.alloc); rintro _ _ ⟨_, rfl, rfl⟩) | (apply JO.do0; exact rfl; exact rfl; (first | (apply Do.storeAN; exact rfl; exact rfl; (repeat (first | exact Pick.here | apply Pick.there)); exact rfl; exact rfl; exact rfl; exact rfl) | (apply Do.storeA; exact rfl; exact rfl; (repeat (first | exact Pick.here | apply Pick.there)); exact rfl; exact rfl; exact rfl)); rintro _ _ ⟨rfl, rfl⟩) | (apply JE.done1; exact rfl; (first | (apply Res.tmp; exact rfl) | (apply Res.cell; exact rfl; (repeat (first | exact Pick.here | apply Pick.there)); exact rfl) | (apply Res.cellAN; exact rfl; (repeat (first | exact Pick.here | apply Pick.there)); exact rfl; exact rfl) | (apply Res.cellA; exact rfl; (repeat (first | exact Pick.here | apply Pick.there)); exact rfl; exact rfl))))
    exact ⟨diskHP d D :: l, Sat.weak (by repeat (first | exact Weak.refl | (apply Weak.cons; (first | exact Pick.here | exact Pick.there Pick.here | exact Pick.there (Pick.there Pick.here) | exact Pick.there (Pick.there (Pick.there Pick.here)) | exact Pick.there (Pick.there (Pick.there (Pick.there Pick.here))) | exact Pick.there (Pick.there (Pick.there (Pick.there (Pick.there Pick.here)))) | exact Pick.there (Pick.there (Pick.there (Pick.there (Pick.there (Pick.there Pick.here))))) | exact Pick.there (Pick.there (Pick.there (Pick.there (Pick.there (Pick.there (Pick.there Pick.here)))))))) | apply Weak.drop)), rfl, rfl⟩
end Go.Sep
/- slot: read. -/
namespace Go.Sep
open Go Go.Proofs
attribute [local irreducible] JO JC JE JA JQ JB JI Mid Inv Weak ownS Ru Do Fn Sat Pick Take arr pt star ex Holds bodyPost Post Exit.then Exit.inBlock Res
variable {σ : Sig} {F : List HP}
attribute [local irreducible] diskHP cacheHP planHP rowHP
abbrev slotV (s : SlotN) (u : Value) : Value := .agg #[int s.state, int s.why, u64 s.seq, u]
theorem atE_span {D : DiskN} {which e f s : Int} (hD : D.WF) (h : atE D which e f s = 0) : ∃ m : Nat, spanG D.size e f s - 1 = m ∧ manyOf D e f s = m ∧ m ≤ 4096 := by
  have hr := atE_right h
  have hsp := spanG_bd D.size e f s
  unfold atE at h
  rw [if_neg (by rw [hr]; simp)] at h
  split at h
  · cases h
  · rename_i h2
    split at h
    · cases h
    · rename_i h3
      have h1 : 1 ≤ spanG D.size e f s := by
        have hz := hD.hz2
        unfold spanG
        have := secs_bd (m := totG e f s) (s := (D.size : Int)) (totG_bd e f s).1
        rw [if_pos ⟨hr, by omega, by omega⟩]; omega
      have hc := hD.cnt
      exact ⟨(spanG D.size e f s - 1).toNat, by omega, rfl, by omega⟩
theorem finU0 {post : Value → List HP → Prop} {v : Value} {l l' : List HP} (k : Weak l l') (h : post v (bytesHP (.slice none 0 0) [] :: l')) : fin post v l σ :=
  ⟨_, fun w s => Sat.ownS_nil (Sat.weak k w s), h⟩
theorem readE_zero {D : DiskN} {i : Int} (h : D.readE i = 0) : 0 ≤ i ∧ i < D.count := by
  unfold DiskN.readE at h
  split at h
  · cases h
  · split at h
    · cases h
    · omega
set_option maxHeartbeats 4000000 in
theorem slot_Read (d : Nat) (D : DiskN) (which e f s : Int) (hD : D.WF) (ho : D.ops ≤ 100000000000) [hg : InG F] :
    Fn Tryz.prog σ 22 #[.pointer (some ⟨d, 0, none⟩), int which, geoV e f s] (diskHP d D :: F)
      (fun v l' => ∃ u, v = .tuple #[slotV (readR D which e f s).2.2 u, int (readR D which e f s).1] ∧ l' = bytesHP u (readR D which e f s).2.2.image :: diskHP d (readR D which e f s).2.1 :: F) := by
  refine Fn.of Tryz.func22 rfl Tryz.ntmps22 rfl ?_
  repeat' (first | (apply JO.ru; exact rfl; exact rfl; exact rfl; (first | (apply Ru.move; exact rfl) | (apply Ru.assign; exact rfl) | (apply Ru.loadAN; exact rfl; (repeat (first | exact Pick.here | apply Pick.there)); exact rfl; exact rfl))) | refine JC.seq ?_ | refine JC.region ?_ | refine JO.nil ?_ | refine JE.thenN ?_ | (apply JO.do; exact rfl; exact rfl; exact rfl; (first | (apply Do.allocN; exact rfl) | apply Do.alloc); rintro _ _ ⟨_, rfl, rfl⟩) | (apply JO.do; exact rfl; exact rfl; exact rfl; (first | (apply Do.boxN; exact rfl; exact rfl) | (apply Do.box; exact rfl)); rintro _ _ ⟨_, rfl, rfl⟩))
  rename_i gb ob
  refine JO.heap (Sat.weak (l' := diskHP d D :: arr ob 46 [int 0, int 0, u64 0, .slice none 0 0] :: arr gb 23 [int e, int f, int s] :: F) (by repeat (first | exact Weak.refl | (apply Weak.cons; (first | exact Pick.here | exact Pick.there Pick.here | exact Pick.there (Pick.there Pick.here) | exact Pick.there (Pick.there (Pick.there Pick.here)) | exact Pick.there (Pick.there (Pick.there (Pick.there Pick.here))) | exact Pick.there (Pick.there (Pick.there (Pick.there (Pick.there Pick.here)))) | exact Pick.there (Pick.there (Pick.there (Pick.there (Pick.there (Pick.there Pick.here))))) | exact Pick.there (Pick.there (Pick.there (Pick.there (Pick.there (Pick.there (Pick.there Pick.here)))))))) | apply Weak.drop))) ?_
  (apply JO.do; exact rfl; exact rfl; exact rfl; (apply Do.call; exact rfl; exact slot_at d D which e f s hD); rintro _ _ (⟨hE, db, fb, rfl, rfl⟩ | ⟨hE, rfl, rfl⟩))
  · have hfi := atE_first hE
    obtain ⟨m, hm1, hm2, hm3⟩ := atE_span hD hE
    obtain ⟨fi, hfe⟩ : ∃ fi, which * spanG D.size e f s = fi := ⟨_, rfl⟩
    have hfe2 : firstOf D which e f s = fi := hfe
    rw [hfe] at hfi ⊢
    rw [hm1]
    repeat' (first | (apply JO.ru; exact rfl; exact rfl; exact rfl; (first | (apply Ru.move; exact rfl) | (apply Ru.loadN; exact rfl; (repeat (first | exact Pick.here | apply Pick.there)); exact rfl) | (apply Ru.fieldAddr; exact rfl) | (apply Ru.assign; exact rfl) | (apply Ru.neq; exact rfl; exact rfl; (first | exact ndecF (by omega) | exact ndecT (by omega))) | (apply Ru.extractN; exact rfl; exact rfl))) | refine JC.seq ?_ | refine JC.region ?_ | refine JO.nil ?_ | refine JE.thenN ?_ | refine JC.skip ?_ | refine JC.condF rfl ?_ | (apply JO.do; exact rfl; exact rfl; exact rfl; (first | (apply Do.allocN; exact rfl) | apply Do.alloc); rintro _ _ ⟨_, rfl, rfl⟩) | (apply JO.do0; exact rfl; exact rfl; (first | (apply Do.storeAN; exact rfl; exact rfl; (repeat (first | exact Pick.here | apply Pick.there)); exact rfl; exact rfl; exact rfl; exact rfl) | (apply Do.storeA; exact rfl; exact rfl; (repeat (first | exact Pick.here | apply Pick.there)); exact rfl; exact rfl; exact rfl)); rintro _ _ ⟨rfl, rfl⟩))
    rename_i pb
    refine JO.heap (Sat.weak (l' := slotL d D db fb fi (arr pb 105 [int m, int D.size, rdV db fb, wrV db fb] :: arr ob 46 [int 0, int 0, u64 0, .slice none 0 0] :: arr gb 23 [int e, int f, int s] :: F)) (by repeat (first | exact Weak.refl | (apply Weak.cons; (first | exact Pick.here | exact Pick.there Pick.here | exact Pick.there (Pick.there Pick.here) | exact Pick.there (Pick.there (Pick.there Pick.here)) | exact Pick.there (Pick.there (Pick.there (Pick.there Pick.here))) | exact Pick.there (Pick.there (Pick.there (Pick.there (Pick.there Pick.here)))) | exact Pick.there (Pick.there (Pick.there (Pick.there (Pick.there (Pick.there Pick.here))))) | exact Pick.there (Pick.there (Pick.there (Pick.there (Pick.there (Pick.there (Pick.there Pick.here)))))))) | apply Weak.drop))) ?_
    have hrd := slot_rd (σ := σ) d D db fb fi 0 hD (by omega) (by omega) (F := arr pb 105 [int m, int D.size, rdV db fb, wrV db fb] :: arr ob 46 [int 0, int 0, u64 0, .slice none 0 0] :: arr gb 23 [int e, int f, int s] :: F)
    rw [Int.add_zero] at hrd
    (apply JO.do; exact rfl; exact rfl; exact rfl; (apply Do.callV (f := 104); exact rfl; exact rfl; exact hrd); rintro _ _ (⟨hR, u, rfl, rfl⟩ | ⟨hR, rfl, rfl⟩))
    · refine JO.ownR Pick.here fun hru _ _ => ?_
      repeat' (first | (apply JO.ru; exact rfl; exact rfl; exact rfl; (first | (apply Ru.move; exact rfl) | (apply Ru.assign; exact rfl) | (apply Ru.neq; exact rfl; exact rfl; (first | exact ndecF (by omega) | exact ndecT (by omega))) | (apply Ru.extractN; exact rfl; exact rfl))) | refine JC.seq ?_ | refine JC.region ?_ | refine JO.nil ?_ | refine JE.thenN ?_ | refine JC.skip ?_ | refine JC.condF rfl ?_)
      obtain ⟨bs, hbs⟩ : ∃ bs, D.cur fi.toNat = bs := ⟨_, rfl⟩
      rw [hbs] at hru ⊢
      have hbl : bs.length ≤ 100000000 := by
        have h1 := readE_zero hR
        have h2 := hD.cur (i := fi.toNat) (by omega)
        have h3 := hD.hz2
        rw [hbs] at h2; omega
      (apply JO.do; exact rfl; exact rfl; exact rfl; (apply Do.call; exact rfl; exact head_Decode u bs hbl hru); rintro _ _ ⟨rfl, rfl⟩)
      obtain ⟨H, hH⟩ : ∃ H, decH bs = H := ⟨_, rfl⟩
      rw [hH]
      obtain ⟨he, hf, hs, hlen, hq, hsum⟩ := H
      unfold HeadN.val
      dsimp only
      repeat' (first | (apply JO.ru; exact rfl; exact rfl; exact rfl; (first | (apply Ru.move; exact rfl) | (apply Ru.fieldAddr; exact rfl) | (apply Ru.assign; exact rfl) | (apply Ru.extractN; exact rfl; exact rfl) | (apply Ru.loadAN; exact rfl; (repeat (first | exact Pick.here | apply Pick.there)); exact rfl; exact rfl) | (apply Ru.buildN; exact rfl; exact rfl))) | refine JC.seq ?_ | refine JC.region ?_ | refine JO.nil ?_ | refine JE.thenN ?_ | refine JE.thenR ?_ | refine JE.blockR ?_ | refine JC.block ?_ | refine JC.ret ?_ | refine JC.condT rfl ?_ | refine JC.condF rfl ?_ | (apply JO.splitN; exact rfl; exact rfl; exact rfl; (apply Ru.neq; exact rfl; exact rfl; exact rfl); all_goals intro _) | (apply JO.do; exact rfl; exact rfl; exact rfl; (first | (apply Do.allocN; exact rfl) | apply Do.alloc); rintro _ _ ⟨_, rfl, rfl⟩) | (apply JO.do0; exact rfl; exact rfl; (first | (apply Do.storeAN; exact rfl; exact rfl; (repeat (first | exact Pick.here | apply Pick.there)); exact rfl; exact rfl; exact rfl; exact rfl) | (apply Do.storeA; exact rfl; exact rfl; (repeat (first | exact Pick.here | apply Pick.there)); exact rfl; exact rfl; exact rfl)); rintro _ _ ⟨rfl, rfl⟩) | (apply JE.done2; exact rfl; (first | (apply Res.tmp; exact rfl) | (apply Res.cell; exact rfl; (repeat (first | exact Pick.here | apply Pick.there)); exact rfl) | (apply Res.cellAN; exact rfl; (repeat (first | exact Pick.here | apply Pick.there)); exact rfl; exact rfl) | (apply Res.cellA; exact rfl; (repeat (first | exact Pick.here | apply Pick.there)); exact rfl; exact rfl)); (first | (apply Res.tmp; exact rfl) | (apply Res.cell; exact rfl; (repeat (first | exact Pick.here | apply Pick.there)); exact rfl) | (apply Res.cellAN; exact rfl; (repeat (first | exact Pick.here | apply Pick.there)); exact rfl; exact rfl) | (apply Res.cellA; exact rfl; (repeat (first | exact Pick.here | apply Pick.there)); exact rfl; exact rfl))))
      · rename_i hb heq
        by_cases hG : he = e ∧ hf = f ∧ hs = s
        · obtain ⟨rfl, rfl, rfl⟩ := hG
          (apply JO.ru; exact rfl; exact rfl; exact rfl; (apply Ru.neqF (b := true); exact rfl; exact rfl; simp [eqVs, eqV]))
          repeat' (first | (apply JO.ru; exact rfl; exact rfl; exact rfl; (first | (apply Ru.loadN; exact rfl; (repeat (first | exact Pick.here | apply Pick.there)); exact rfl) | (apply Ru.fieldAddr; exact rfl) | (apply Ru.assign; exact rfl) | (apply Ru.loadAN; exact rfl; (repeat (first | exact Pick.here | apply Pick.there)); exact rfl; exact rfl))) | refine JC.seq ?_ | refine JC.region ?_ | refine JO.nil ?_ | refine JE.thenN ?_ | refine JE.blockN ?_ | refine JC.skip ?_ | refine JC.condF rfl ?_)
          have e0 : readR D which he hf hs = bodyR D.tick fi m ⟨he, hf, hs, hlen, hq, hsum⟩ := by
            unfold readR
            rw [if_neg (by rw [hE]; simp), hfe2, if_neg (by simpa using hR), hbs, if_neg (by simpa using heq), hH, if_pos ⟨rfl, rfl, rfl⟩, hm2]
          rw [e0]
          refine JO.heap (Sat.weak (l' := slotL d D.tick db fb fi (arr hb 114 [int he, int hf, int hs, int hlen, u64 hq, u32 hsum] :: arr ob 46 [int 0, int 0, u64 0, .slice none 0 0] :: F)) (by repeat (first | exact Weak.refl | (apply Weak.cons; (first | exact Pick.here | exact Pick.there Pick.here | exact Pick.there (Pick.there Pick.here) | exact Pick.there (Pick.there (Pick.there Pick.here)) | exact Pick.there (Pick.there (Pick.there (Pick.there Pick.here))) | exact Pick.there (Pick.there (Pick.there (Pick.there (Pick.there Pick.here)))) | exact Pick.there (Pick.there (Pick.there (Pick.there (Pick.there (Pick.there Pick.here))))) | exact Pick.there (Pick.there (Pick.there (Pick.there (Pick.there (Pick.there (Pick.there Pick.here)))))))) | apply Weak.drop))) ?_
          have hwh := place_whole (σ := σ) d D.tick db fb fi hlen m hD.tick (by show D.ops + 1 + m ≤ _; omega) hm3 hfi (F := arr hb 114 [int he, int hf, int hs, int hlen, u64 hq, u32 hsum] :: arr ob 46 [int 0, int 0, u64 0, .slice none 0 0] :: F)
          (apply JO.do; exact rfl; exact rfl; exact rfl; (apply Do.call; exact rfl; exact hwh); rintro _ _ (⟨k, hk1, hk2, hk3, rfl, rfl⟩ | ⟨hk, (⟨hl0, hl1, u2, rfl, rfl⟩ | ⟨hl, rfl, rfl⟩)⟩))
          · have e1 : bodyR D.tick fi m ⟨he, hf, hs, hlen, hq, hsum⟩ = (bodyE D.tick fi k, D.tick.ticks (k + 1), .zero) := by
              unfold bodyR; rw [badK_some hk1 hk2 hk3]
            rw [e1]
            repeat' (first | (apply JO.ru; exact rfl; exact rfl; exact rfl; (first | (apply Ru.move; exact rfl) | (apply Ru.assign; exact rfl) | (apply Ru.neq; exact rfl; exact rfl; (first | exact ndecF (by omega) | exact ndecT (by omega))) | (apply Ru.extractN; exact rfl; exact rfl) | (apply Ru.buildN; exact rfl; exact rfl))) | refine JC.seq ?_ | refine JC.region ?_ | refine JO.nil ?_ | refine JE.thenN ?_ | refine JE.thenR ?_ | refine JE.blockR ?_ | refine JC.block ?_ | refine JC.ret ?_ | refine JC.condT rfl ?_ | (apply JO.do0; exact rfl; exact rfl; (first | (apply Do.storeAN; exact rfl; exact rfl; (repeat (first | exact Pick.here | apply Pick.there)); exact rfl; exact rfl; exact rfl; exact rfl) | (apply Do.storeA; exact rfl; exact rfl; (repeat (first | exact Pick.here | apply Pick.there)); exact rfl; exact rfl; exact rfl)); rintro _ _ ⟨rfl, rfl⟩) | (apply JE.done2; exact rfl; (first | (apply Res.tmp; exact rfl) | (apply Res.cell; exact rfl; (repeat (first | exact Pick.here | apply Pick.there)); exact rfl) | (apply Res.cellAN; exact rfl; (repeat (first | exact Pick.here | apply Pick.there)); exact rfl; exact rfl) | (apply Res.cellA; exact rfl; (repeat (first | exact Pick.here | apply Pick.there)); exact rfl; exact rfl)); (first | (apply Res.tmp; exact rfl) | (apply Res.cell; exact rfl; (repeat (first | exact Pick.here | apply Pick.there)); exact rfl) | (apply Res.cellAN; exact rfl; (repeat (first | exact Pick.here | apply Pick.there)); exact rfl; exact rfl) | (apply Res.cellA; exact rfl; (repeat (first | exact Pick.here | apply Pick.there)); exact rfl; exact rfl))))
            exact finU0 (l' := diskHP d (D.tick.ticks (k + 1)) :: F) (by repeat (first | exact Weak.refl | (apply Weak.cons; (first | exact Pick.here | exact Pick.there Pick.here | exact Pick.there (Pick.there Pick.here) | exact Pick.there (Pick.there (Pick.there Pick.here)) | exact Pick.there (Pick.there (Pick.there (Pick.there Pick.here))) | exact Pick.there (Pick.there (Pick.there (Pick.there (Pick.there Pick.here)))) | exact Pick.there (Pick.there (Pick.there (Pick.there (Pick.there (Pick.there Pick.here))))) | exact Pick.there (Pick.there (Pick.there (Pick.there (Pick.there (Pick.there (Pick.there Pick.here)))))))) | apply Weak.drop)) ⟨_, rfl, rfl⟩
          · have hbl2 := body_len hD.tick hfi.1 m hk
            have hms : m * D.tick.size ≤ 4096 * 4096 := Nat.mul_le_mul hm3 hD.hz2
            obtain ⟨img, himg⟩ : ∃ img, (D.tick.body fi m).take hlen.toNat = img := ⟨_, rfl⟩
            have hil : img.length = hlen.toNat := by rw [← himg, List.length_take]; omega
            have e1 : bodyR D.tick fi m ⟨he, hf, hs, hlen, hq, hsum⟩ = if crcSum img = hsum then (0, D.tick.ticks m, ⟨2, 0, hq, img⟩) else (0, D.tick.ticks m, ⟨0, 8, 0, []⟩) := by
              unfold bodyR; rw [badK_none hk]; dsimp only; rw [if_pos ⟨hl0, hl1⟩, himg]
            rw [himg, ← hil]
            refine JO.ownR Pick.here fun hri _ hsh => ?_
            rcases hsh with ⟨rfl, _⟩ | ⟨bu, cu, rfl, _⟩
            all_goals
              repeat' (first | (first | (apply JO.ru; exact rfl; exact rfl; exact rfl; (first | (apply Ru.move; exact rfl) | (apply Ru.loadN; exact rfl; (repeat (first | exact Pick.here | apply Pick.there)); exact rfl) | (apply Ru.fieldAddr; exact rfl) | (apply Ru.assign; exact rfl) | (apply Ru.neq; exact rfl; exact rfl; (first | exact ndecF (by omega) | exact ndecT (by omega))) | (apply Ru.extractN; exact rfl; exact rfl) | (apply Ru.buildN; exact rfl; exact rfl))) | refine JC.seq ?_ | refine JC.region ?_ | refine JO.nil ?_ | refine JE.thenN ?_ | refine JE.thenR ?_ | refine JE.blockN ?_ | refine JE.blockR ?_ | refine JC.block ?_ | refine JC.ret ?_ | refine JC.skip ?_ | refine JC.condT rfl ?_ | refine JC.condF rfl ?_ | (apply JQ.ru; exact rfl; exact rfl; exact rfl; (first | (apply Ru.move; exact rfl) | (apply Ru.loadN; exact rfl; (repeat (first | exact Pick.here | apply Pick.there)); exact rfl) | (apply Ru.fieldAddr; exact rfl) | (apply Ru.assign; exact rfl))) | (apply JQ.splitN; exact rfl; exact rfl; exact rfl; (apply Ru.neq; exact rfl; exact rfl; exact rfl); all_goals intro _) | refine JQ.nil ?_ | (apply JO.do0; exact rfl; exact rfl; (first | (apply Do.storeAN; exact rfl; exact rfl; (repeat (first | exact Pick.here | apply Pick.there)); exact rfl; exact rfl; exact rfl; exact rfl) | (apply Do.storeA; exact rfl; exact rfl; (repeat (first | exact Pick.here | apply Pick.there)); exact rfl; exact rfl; exact rfl)); rintro _ _ ⟨rfl, rfl⟩) | refine JC.regionQ mixed (by decide +kernel) ?_ | (apply JE.done2; exact rfl; (first | (apply Res.tmp; exact rfl) | (apply Res.cell; exact rfl; (repeat (first | exact Pick.here | apply Pick.there)); exact rfl) | (apply Res.cellAN; exact rfl; (repeat (first | exact Pick.here | apply Pick.there)); exact rfl; exact rfl) | (apply Res.cellA; exact rfl; (repeat (first | exact Pick.here | apply Pick.there)); exact rfl; exact rfl)); (first | (apply Res.tmp; exact rfl) | (apply Res.cell; exact rfl; (repeat (first | exact Pick.here | apply Pick.there)); exact rfl) | (apply Res.cellAN; exact rfl; (repeat (first | exact Pick.here | apply Pick.there)); exact rfl; exact rfl) | (apply Res.cellA; exact rfl; (repeat (first | exact Pick.here | apply Pick.there)); exact rfl; exact rfl)))) | (apply JQ.call; exact rfl; exact rfl; exact rfl; exact crc_Sum _ img (by omega) hri; (rintro _ _ ⟨rfl, rfl⟩; exact ⟨rfl, rfl⟩)))
              · rename_i hc
                rw [if_pos hc] at e1
                rw [e1]
                exact ⟨bytesHP _ img :: diskHP d (D.tick.ticks m) :: F, Sat.weak (by repeat (first | exact Weak.refl | (apply Weak.cons; (first | exact Pick.here | exact Pick.there Pick.here | exact Pick.there (Pick.there Pick.here) | exact Pick.there (Pick.there (Pick.there Pick.here)) | exact Pick.there (Pick.there (Pick.there (Pick.there Pick.here))) | exact Pick.there (Pick.there (Pick.there (Pick.there (Pick.there Pick.here)))) | exact Pick.there (Pick.there (Pick.there (Pick.there (Pick.there (Pick.there Pick.here))))) | exact Pick.there (Pick.there (Pick.there (Pick.there (Pick.there (Pick.there (Pick.there Pick.here)))))))) | apply Weak.drop)), _, rfl, rfl⟩
              · rename_i hc
                rw [if_neg hc] at e1
                rw [e1]
                exact finU0 (l' := diskHP d (D.tick.ticks m) :: F) (by repeat (first | exact Weak.refl | (apply Weak.cons; (first | exact Pick.here | exact Pick.there Pick.here | exact Pick.there (Pick.there Pick.here) | exact Pick.there (Pick.there (Pick.there Pick.here)) | exact Pick.there (Pick.there (Pick.there (Pick.there Pick.here))) | exact Pick.there (Pick.there (Pick.there (Pick.there (Pick.there Pick.here)))) | exact Pick.there (Pick.there (Pick.there (Pick.there (Pick.there (Pick.there Pick.here))))) | exact Pick.there (Pick.there (Pick.there (Pick.there (Pick.there (Pick.there (Pick.there Pick.here)))))))) | apply Weak.drop)) ⟨_, rfl, rfl⟩
          · have e1 : bodyR D.tick fi m ⟨he, hf, hs, hlen, hq, hsum⟩ = (1, D.tick.ticks m, .zero) := by
              unfold bodyR; rw [badK_none hk]; dsimp only; rw [if_neg hl]
            rw [e1]
            repeat' (first | (apply JO.ru; exact rfl; exact rfl; exact rfl; (first | (apply Ru.move; exact rfl) | (apply Ru.assign; exact rfl) | (apply Ru.neq; exact rfl; exact rfl; (first | exact ndecF (by omega) | exact ndecT (by omega))) | (apply Ru.extractN; exact rfl; exact rfl) | (apply Ru.buildN; exact rfl; exact rfl))) | refine JC.seq ?_ | refine JC.region ?_ | refine JO.nil ?_ | refine JE.thenN ?_ | refine JE.thenR ?_ | refine JE.blockR ?_ | refine JC.block ?_ | refine JC.ret ?_ | refine JC.condT rfl ?_ | (apply JO.do0; exact rfl; exact rfl; (first | (apply Do.storeAN; exact rfl; exact rfl; (repeat (first | exact Pick.here | apply Pick.there)); exact rfl; exact rfl; exact rfl; exact rfl) | (apply Do.storeA; exact rfl; exact rfl; (repeat (first | exact Pick.here | apply Pick.there)); exact rfl; exact rfl; exact rfl)); rintro _ _ ⟨rfl, rfl⟩) | (apply JE.done2; exact rfl; (first | (apply Res.tmp; exact rfl) | (apply Res.cell; exact rfl; (repeat (first | exact Pick.here | apply Pick.there)); exact rfl) | (apply Res.cellAN; exact rfl; (repeat (first | exact Pick.here | apply Pick.there)); exact rfl; exact rfl) | (apply Res.cellA; exact rfl; (repeat (first | exact Pick.here | apply Pick.there)); exact rfl; exact rfl)); (first | (apply Res.tmp; exact rfl) | (apply Res.cell; exact rfl; (repeat (first | exact Pick.here | apply Pick.there)); exact rfl) | (apply Res.cellAN; exact rfl; (repeat (first | exact Pick.here | apply Pick.there)); exact rfl; exact rfl) | (apply Res.cellA; exact rfl; (repeat (first | exact Pick.here | apply Pick.there)); exact rfl; exact rfl))))
            exact finU0 (l' := diskHP d (D.tick.ticks m) :: F) (by repeat (first | exact Weak.refl | (apply Weak.cons; (first | exact Pick.here | exact Pick.there Pick.here | exact Pick.there (Pick.there Pick.here) | exact Pick.there (Pick.there (Pick.there Pick.here)) | exact Pick.there (Pick.there (Pick.there (Pick.there Pick.here))) | exact Pick.there (Pick.there (Pick.there (Pick.there (Pick.there Pick.here)))) | exact Pick.there (Pick.there (Pick.there (Pick.there (Pick.there (Pick.there Pick.here))))) | exact Pick.there (Pick.there (Pick.there (Pick.there (Pick.there (Pick.there (Pick.there Pick.here)))))))) | apply Weak.drop)) ⟨_, rfl, rfl⟩
        · (apply JO.ru; exact rfl; exact rfl; exact rfl; (apply Ru.neqF (b := false); exact rfl; exact rfl; (simp [eqVs, eqV]; omega)))
          repeat' (first | (apply JO.ru; exact rfl; exact rfl; exact rfl; (first | (apply Ru.assign; exact rfl) | (apply Ru.buildN; exact rfl; exact rfl))) | refine JC.seq ?_ | refine JC.region ?_ | refine JO.nil ?_ | refine JE.thenN ?_ | refine JE.thenR ?_ | refine JE.blockR ?_ | refine JC.ret ?_ | refine JC.condT rfl ?_ | (apply JO.do0; exact rfl; exact rfl; (first | (apply Do.storeAN; exact rfl; exact rfl; (repeat (first | exact Pick.here | apply Pick.there)); exact rfl; exact rfl; exact rfl; exact rfl) | (apply Do.storeA; exact rfl; exact rfl; (repeat (first | exact Pick.here | apply Pick.there)); exact rfl; exact rfl; exact rfl)); rintro _ _ ⟨rfl, rfl⟩) | (apply JE.done2; exact rfl; (first | (apply Res.tmp; exact rfl) | (apply Res.cell; exact rfl; (repeat (first | exact Pick.here | apply Pick.there)); exact rfl) | (apply Res.cellAN; exact rfl; (repeat (first | exact Pick.here | apply Pick.there)); exact rfl; exact rfl) | (apply Res.cellA; exact rfl; (repeat (first | exact Pick.here | apply Pick.there)); exact rfl; exact rfl)); (first | (apply Res.tmp; exact rfl) | (apply Res.cell; exact rfl; (repeat (first | exact Pick.here | apply Pick.there)); exact rfl) | (apply Res.cellAN; exact rfl; (repeat (first | exact Pick.here | apply Pick.there)); exact rfl; exact rfl) | (apply Res.cellA; exact rfl; (repeat (first | exact Pick.here | apply Pick.there)); exact rfl; exact rfl))))
          have e0 : readR D which e f s = (0, D.tick, ⟨1, 0, 0, []⟩) := by
            unfold readR
            rw [if_neg (by rw [hE]; simp), hfe2, if_neg (by simpa using hR), hbs, if_neg (by simpa using heq), hH, if_neg hG]
          rw [e0]
          exact finU0 (l' := diskHP d D.tick :: F) (by repeat (first | exact Weak.refl | (apply Weak.cons; (first | exact Pick.here | exact Pick.there Pick.here | exact Pick.there (Pick.there Pick.here) | exact Pick.there (Pick.there (Pick.there Pick.here)) | exact Pick.there (Pick.there (Pick.there (Pick.there Pick.here))) | exact Pick.there (Pick.there (Pick.there (Pick.there (Pick.there Pick.here)))) | exact Pick.there (Pick.there (Pick.there (Pick.there (Pick.there (Pick.there Pick.here))))) | exact Pick.there (Pick.there (Pick.there (Pick.there (Pick.there (Pick.there (Pick.there Pick.here)))))))) | apply Weak.drop)) ⟨_, rfl, rfl⟩
      · rename_i hb heq
        have e0 : readR D which e f s = (0, D.tick, ⟨0, decE bs, 0, []⟩) := by
          unfold readR
          rw [if_neg (by rw [hE]; simp), hfe2, if_neg (by simpa using hR), hbs, if_pos heq]
        rw [e0]
        exact finU0 (l' := diskHP d D.tick :: F) (by repeat (first | exact Weak.refl | (apply Weak.cons; (first | exact Pick.here | exact Pick.there Pick.here | exact Pick.there (Pick.there Pick.here) | exact Pick.there (Pick.there (Pick.there Pick.here)) | exact Pick.there (Pick.there (Pick.there (Pick.there Pick.here))) | exact Pick.there (Pick.there (Pick.there (Pick.there (Pick.there Pick.here)))) | exact Pick.there (Pick.there (Pick.there (Pick.there (Pick.there (Pick.there Pick.here))))) | exact Pick.there (Pick.there (Pick.there (Pick.there (Pick.there (Pick.there (Pick.there Pick.here)))))))) | apply Weak.drop)) ⟨_, rfl, rfl⟩
    · have e0 : readR D which e f s = (D.readE fi, D.tick, .zero) := by
        unfold readR; rw [if_neg (by rw [hE]; simp), hfe2, if_pos hR]
      rw [e0]
      repeat' (first | (apply JO.ru; exact rfl; exact rfl; exact rfl; (first | (apply Ru.move; exact rfl) | (apply Ru.assign; exact rfl) | (apply Ru.neq; exact rfl; exact rfl; (first | exact ndecF (by omega) | exact ndecT (by omega))) | (apply Ru.extractN; exact rfl; exact rfl) | (apply Ru.buildN; exact rfl; exact rfl))) | refine JC.seq ?_ | refine JC.region ?_ | refine JO.nil ?_ | refine JE.thenN ?_ | refine JE.thenR ?_ | refine JC.ret ?_ | refine JC.condT rfl ?_ | (apply JO.do0; exact rfl; exact rfl; (first | (apply Do.storeAN; exact rfl; exact rfl; (repeat (first | exact Pick.here | apply Pick.there)); exact rfl; exact rfl; exact rfl; exact rfl) | (apply Do.storeA; exact rfl; exact rfl; (repeat (first | exact Pick.here | apply Pick.there)); exact rfl; exact rfl; exact rfl)); rintro _ _ ⟨rfl, rfl⟩) | (apply JE.done2; exact rfl; (first | (apply Res.tmp; exact rfl) | (apply Res.cell; exact rfl; (repeat (first | exact Pick.here | apply Pick.there)); exact rfl) | (apply Res.cellAN; exact rfl; (repeat (first | exact Pick.here | apply Pick.there)); exact rfl; exact rfl) | (apply Res.cellA; exact rfl; (repeat (first | exact Pick.here | apply Pick.there)); exact rfl; exact rfl)); (first | (apply Res.tmp; exact rfl) | (apply Res.cell; exact rfl; (repeat (first | exact Pick.here | apply Pick.there)); exact rfl) | (apply Res.cellAN; exact rfl; (repeat (first | exact Pick.here | apply Pick.there)); exact rfl; exact rfl) | (apply Res.cellA; exact rfl; (repeat (first | exact Pick.here | apply Pick.there)); exact rfl; exact rfl))))
      exact finU0 (l' := diskHP d D.tick :: F) (by repeat (first | exact Weak.refl | (apply Weak.cons; (first | exact Pick.here | exact Pick.there Pick.here | exact Pick.there (Pick.there Pick.here) | exact Pick.there (Pick.there (Pick.there Pick.here)) | exact Pick.there (Pick.there (Pick.there (Pick.there Pick.here))) | exact Pick.there (Pick.there (Pick.there (Pick.there (Pick.there Pick.here)))) | exact Pick.there (Pick.there (Pick.there (Pick.there (Pick.there (Pick.there Pick.here))))) | exact Pick.there (Pick.there (Pick.there (Pick.there (Pick.there (Pick.there (Pick.there Pick.here)))))))) | apply Weak.drop)) ⟨_, rfl, rfl⟩
  · have e0 : readR D which e f s = (atE D which e f s, D, .zero) := by
      unfold readR; rw [if_pos hE]
    rw [e0]
    repeat' (first | (apply JO.ru; exact rfl; exact rfl; exact rfl; (first | (apply Ru.move; exact rfl) | (apply Ru.assign; exact rfl) | (apply Ru.neq; exact rfl; exact rfl; (first | exact ndecF (by omega) | exact ndecT (by omega))) | (apply Ru.extractN; exact rfl; exact rfl) | (apply Ru.buildN; exact rfl; exact rfl))) | refine JC.seq ?_ | refine JC.region ?_ | refine JO.nil ?_ | refine JE.thenN ?_ | refine JE.thenR ?_ | refine JC.ret ?_ | refine JC.condT rfl ?_ | (apply JO.do; exact rfl; exact rfl; exact rfl; (first | (apply Do.allocN; exact rfl) | apply Do.alloc); rintro _ _ ⟨_, rfl, rfl⟩) | (apply JO.do0; exact rfl; exact rfl; (first | (apply Do.storeAN; exact rfl; exact rfl; (repeat (first | exact Pick.here | apply Pick.there)); exact rfl; exact rfl; exact rfl; exact rfl) | (apply Do.storeA; exact rfl; exact rfl; (repeat (first | exact Pick.here | apply Pick.there)); exact rfl; exact rfl; exact rfl)); rintro _ _ ⟨rfl, rfl⟩) | (apply JE.done2; exact rfl; (first | (apply Res.tmp; exact rfl) | (apply Res.cell; exact rfl; (repeat (first | exact Pick.here | apply Pick.there)); exact rfl) | (apply Res.cellAN; exact rfl; (repeat (first | exact Pick.here | apply Pick.there)); exact rfl; exact rfl) | (apply Res.cellA; exact rfl; (repeat (first | exact Pick.here | apply Pick.there)); exact rfl; exact rfl)); (first | (apply Res.tmp; exact rfl) | (apply Res.cell; exact rfl; (repeat (first | exact Pick.here | apply Pick.there)); exact rfl) | (apply Res.cellAN; exact rfl; (repeat (first | exact Pick.here | apply Pick.there)); exact rfl; exact rfl) | (apply Res.cellA; exact rfl; (repeat (first | exact Pick.here | apply Pick.there)); exact rfl; exact rfl))))
    exact finU0 (l' := diskHP d D :: F) (by repeat (first | exact Weak.refl | (apply Weak.cons; (first | exact Pick.here | exact Pick.there Pick.here | exact Pick.there (Pick.there Pick.here) | exact Pick.there (Pick.there (Pick.there Pick.here)) | exact Pick.there (Pick.there (Pick.there (Pick.there Pick.here))) | exact Pick.there (Pick.there (Pick.there (Pick.there (Pick.there Pick.here)))) | exact Pick.there (Pick.there (Pick.there (Pick.there (Pick.there (Pick.there Pick.here))))) | exact Pick.there (Pick.there (Pick.there (Pick.there (Pick.there (Pick.there (Pick.there Pick.here)))))))) | apply Weak.drop)) ⟨_, rfl, rfl⟩
end Go.Sep
/- slot: each call, where what it answers is known. -/
namespace Go.Sep
open Go Go.Proofs
attribute [local irreducible] JO JC JE JA JQ JB JI Mid Inv Weak ownS Ru Do Fn Sat Pick Take arr pt star ex Holds bodyPost Post Exit.then Exit.inBlock Res
variable {σ : Sig} {F : List HP}
attribute [local irreducible] diskHP cacheHP planHP rowHP
theorem slot_ReadE {d : Nat} {D D' : DiskN} {which e f s er st why sq : Int} {img : List UInt8} (h : readR D which e f s = (er, D', ⟨st, why, sq, img⟩)) (hD : D.WF) (ho : D.ops ≤ 100000000000) [hg : InG F] :
    Fn Tryz.prog σ 22 #[.pointer (some ⟨d, 0, none⟩), int which, geoV e f s] (diskHP d D :: F)
      (fun v l' => ∃ u, v = .tuple #[.agg #[int st, int why, u64 sq, u], int er] ∧ l' = bytesHP u img :: diskHP d D' :: F) := by
  have := slot_Read (σ := σ) (F := F) d D which e f s hD ho
  rw [h] at this; exact this
theorem slot_WipeE {d : Nat} {D D' : DiskN} {which e f s er : Int} (h : wipeR D which e f s = (er, D')) (hD : D.WF) (ho : D.ops ≤ 1000000000000) (hw : D.writes ≤ 1000000000000) [hg : InG F] :
    Fn Tryz.prog σ 20 #[.pointer (some ⟨d, 0, none⟩), int which, geoV e f s] (diskHP d D :: F) (fun v l' => v = int er ∧ l' = diskHP d D' :: F) := by
  have := slot_WipeR (σ := σ) (F := F) d D which e f s hD ho hw
  rw [h] at this; exact this
theorem slot_SealE {d : Nat} {D D' : DiskN} {which e f s q er : Int} {v : Value} {bs : List UInt8} (h : sealR D which e f s q bs = (er, D')) (hq0 : 0 ≤ q) (hbl : bs.length ≤ 100000000) (hD : D.WF) (ho : D.ops ≤ 1000000000000) (hw : D.writes ≤ 1000000000000) {l : List HP} [hg : InG l] (hb : RdS σ l v (bs.map byte)) :
    Fn Tryz.prog σ 18 #[.pointer (some ⟨d, 0, none⟩), int which, geoV e f s, u64 q, v] (diskHP d D :: l) (fun r l' => r = int er ∧ l' = diskHP d D' :: l) := by
  have := slot_SealR (σ := σ) d D which e f s q v bs hq0 hbl hD ho hw hb
  rw [h] at this; exact this
theorem slot_DataE {d : Nat} {D D' : DiskN} {which e f s er : Int} {v : Value} {bs : List UInt8} (h : dataR D which e f s bs = (er, D')) (hbl : bs.length ≤ 100000000) (hD : D.WF) (ho : D.ops ≤ 100000000000) (hw : D.writes ≤ 100000000000) {l : List HP} [hg : InG l] (hb : RdS σ l v (bs.map byte)) :
    Fn Tryz.prog σ 16 #[.pointer (some ⟨d, 0, none⟩), int which, geoV e f s, v] (diskHP d D :: l) (fun r l' => r = int er ∧ l' = diskHP d D' :: l) := by
  have := slot_Data (σ := σ) d D which e f s v bs hbl hD ho hw hb
  rw [h] at this; exact this
end Go.Sep
/- A slot's calls on a disk on which nothing fails: no program in sight. -/
namespace Go.Sep
open Go Go.Proofs

structure Okd (D : DiskN) (z k : Nat) : Prop where
  wf : D.WF
  size : D.size = z
  count : D.count = k
  plan : D.planned = []
theorem Okd.failing {D : DiskN} {z k : Nat} (h : Okd D z k) : D.failing = false := by simp [DiskN.failing, h.plan]
theorem Okd.tick {D : DiskN} {z k : Nat} (h : Okd D z k) : Okd D.tick z k := ⟨h.wf.tick, h.size, h.count, h.plan⟩
theorem Okd.ticks {D : DiskN} {z k : Nat} (h : Okd D z k) (n : Nat) : Okd (D.ticks n) z k := ⟨h.wf.ticks n, h.size, h.count, h.plan⟩
theorem Okd.put {D : DiskN} {z k : Nat} (h : Okd D z k) {i : Nat} {bs : List UInt8} (hi : i < k) (hb : bs.length = z) : Okd (D.put (i : Int) bs) z k :=
  ⟨h.wf.put (by omega) (by rw [h.count]; omega) (by rw [h.size]; exact hb), h.size, h.count, h.plan⟩
theorem Okd.sync {D : DiskN} {z k : Nat} (h : Okd D z k) : Okd D.sync z k := by
  obtain ⟨a, b, c⟩ := sync_wf h.wf
  exact ⟨a, b.trans h.size, c.trans h.count, (settled_rest h.wf _).2.2.trans h.plan⟩
theorem Okd.readE {D : DiskN} {z k : Nat} (h : Okd D z k) {i : Nat} (hi : i < k) : D.readE (i : Int) = 0 := by
  unfold DiskN.readE
  rw [if_neg (by rw [h.failing]; decide), if_neg (by rw [h.count]; omega)]
theorem Okd.writeE {D : DiskN} {z k : Nat} (h : Okd D z k) {i : Nat} (hi : i < k) : D.writeE (i : Int) z = 0 := by
  unfold DiskN.writeE
  rw [if_neg (by rw [h.failing]; decide), if_neg (by omega), if_neg (by rw [h.count]; omega), if_neg (by rw [h.size]; simp)]
theorem freshN_ok {k z : Nat} (hk : k ≤ 4096) (hz : 1 ≤ z) (hz2 : z ≤ 4096) : Okd (freshN k z) z k := by
  have hl : (freshN k z).data.length = k * z := List.length_replicate
  have hc : (freshN k z).count = k := by unfold DiskN.count; rw [hl]; exact Nat.mul_div_cancel _ hz
  refine ⟨⟨hz, hz2, by rw [hl, hc]; rfl, by rw [hc]; exact hk, by intro p hp; simp [freshN] at hp, by simp [freshN], by simp [freshN]⟩, rfl, hc, rfl⟩
theorem fresh_cur {k z i : Nat} (hi : i < k) : (freshN k z).cur i = List.replicate z 0 := by
  have h2 : (i + 1) * z ≤ k * z := Nat.mul_le_mul_right _ hi
  rw [Nat.succ_mul] at h2
  show ((List.replicate (k * z) (0 : UInt8)).drop (i * z)).take z = _
  rw [List.drop_replicate, List.take_replicate]
  congr 1
  omega

/-- A slot that there is: which of the two, the sector's size, the slot's first sector, how many follow. -/
structure Here (z k : Nat) (which : Int) (e f s : Int) (fst many : Nat) : Prop where
  hright : rightG e f s = true
  hwhich : which = 0 ∨ which = 1
  hsize : 32 ≤ z ∧ z ≤ 4096
  hspan : spanG z e f s = 1 + (many : Int)
  hsecs : secs (totG e f s) z = (many : Int)
  hfirst : (fst : Int) = which * spanG z e f s
  hroom : 2 * spanG z e f s ≤ (k : Int)
theorem Here.of {z k : Nat} {which e f s : Int} (h1 : rightG e f s = true) (h2 : which = 0 ∨ which = 1) (h3 : 32 ≤ z ∧ z ≤ 4096) (h4 : 2 * spanG z e f s ≤ (k : Int)) :
    Here z k which e f s (which * spanG z e f s).toNat (secs (totG e f s) z).toNat := by
  have ht := totG_bd e f s
  have hs := secs_bd (m := totG e f s) (s := (z : Int)) ht.1
  have hsp : spanG z e f s = 1 + secs (totG e f s) z := by unfold spanG; rw [if_pos ⟨h1, by omega, by omega⟩]
  refine ⟨h1, h2, h3, by rw [hsp]; omega, by omega, ?_, h4⟩
  have : 0 ≤ which * spanG z e f s := by
    rcases h2 with rfl | rfl <;> omega
  omega
section
variable {D : DiskN} {z k fst many : Nat} {which e f s : Int}
theorem Here.lt (h : Here z k which e f s fst many) {j : Nat} (hj : j ≤ many) : fst + j < k := by
  have h1 := h.hspan; have h2 := h.hfirst; have h3 := h.hroom
  rcases h.hwhich with w | w <;> rw [w] at h2 <;> omega
theorem Here.atE (h : Here z k which e f s fst many) (hz : D.size = z) (hk : D.count = k) : atE D which e f s = 0 := by
  have h3 := h.hroom; have h4 := h.hsize
  unfold Go.Sep.atE
  rw [if_neg (by rw [h.hright]; simp), if_neg, if_neg]
  · rw [hk, hz]; omega
  · rw [hz]
    rcases h.hwhich with w | w <;> omega
theorem Here.firstOf (h : Here z k which e f s fst many) (hz : D.size = z) : firstOf D which e f s = (fst : Int) := by
  unfold Go.Sep.firstOf; rw [hz, h.hfirst]
theorem Here.manyOf (h : Here z k which e f s fst many) (hz : D.size = z) : manyOf D e f s = many := by
  unfold Go.Sep.manyOf; rw [hz, h.hspan]; omega
theorem Here.room' (h : Here z k which e f s fst many) : totG e f s ≤ (many : Int) * z := by
  have ht := totG_bd e f s
  have h1 := h.hsize
  have := (secs_room (m := totG e f s) (z := (z : Int)) ht.1 (by omega) (by omega)).2
  rw [h.hsecs] at this
  exact this

/-! ### Data -/
theorem dataGo_ok : ∀ (ps : List (List UInt8)) (D : DiskN) (i : Nat), Okd D z k → (∀ x ∈ ps, x.length = z) → fst + 1 + i + ps.length ≤ k →
    (dataGo (fst : Int) i D ps).1 = 0 ∧ Okd (dataGo (fst : Int) i D ps).2 z k ∧ (dataGo (fst : Int) i D ps).2.ops = D.ops + ps.length ∧ (dataGo (fst : Int) i D ps).2.writes = D.writes + ps.length ∧
      ∀ j, (dataGo (fst : Int) i D ps).2.cur j = if fst + 1 + i ≤ j ∧ j < fst + 1 + i + ps.length then ps.getD (j - (fst + 1 + i)) [] else D.cur j
  | [], D, i, h, _, _ => by
    refine ⟨rfl, h, rfl, rfl, fun j => ?_⟩
    rw [if_neg (by simp only [List.length_nil]; omega)]; rfl
  | x :: r, D, i, h, hx, hr => by
    have hxl := hx x List.mem_cons_self
    have hlt : fst + (1 + i) < k := by rw [List.length_cons] at hr; omega
    have e0 : (fst : Int) + (1 + (i : Int)) = ((fst + (1 + i) : Nat) : Int) := by omega
    have hw : D.writeE ((fst : Int) + (1 + (i : Int))) x.length = 0 := by rw [e0, hxl]; exact h.writeE hlt
    have e1 : dataGo (fst : Int) i D (x :: r) = dataGo (fst : Int) (i + 1) (D.put ((fst + (1 + i) : Nat) : Int) x) r := by
      rw [dataGo, if_neg (by rw [hw]; simp), e0]
    have hp := h.put (bs := x) hlt hxl
    obtain ⟨a1, a2, a3, a4, a5⟩ := dataGo_ok r (D.put ((fst + (1 + i) : Nat) : Int) x) (i + 1) hp (fun y hy => hx y (List.mem_cons_of_mem _ hy)) (by rw [List.length_cons] at hr; omega)
    rw [e1]
    refine ⟨a1, a2, by rw [a3, List.length_cons]; show D.ops + 1 + _ = _; omega, by rw [a4, List.length_cons]; show D.writes + 1 + _ = _; omega, fun j => ?_⟩
    rw [a5 j, List.length_cons]
    by_cases c1 : j = fst + (1 + i)
    · subst c1
      rw [if_neg (by omega), if_pos (by omega), cur_put, if_pos rfl]
      have : fst + (1 + i) - (fst + 1 + i) = 0 := by omega
      rw [this]; rfl
    · by_cases c2 : fst + 1 + (i + 1) ≤ j ∧ j < fst + 1 + (i + 1) + r.length
      · rw [if_pos c2, if_pos (by omega)]
        have : j - (fst + 1 + i) = (j - (fst + 1 + (i + 1))) + 1 := by omega
        rw [this, List.getD_cons_succ]
      · rw [if_neg c2, if_neg (by omega), cur_put, if_neg c1]
/-- The sectors of a slot's image. -/
def ImgIs (D : DiskN) (fst many : Nat) (bs : List UInt8) : Prop := ∀ j, j < many → D.cur (fst + 1 + j) = (pieces bs D.size many).getD j []
theorem data_ok (hh : Here z k which e f s fst many) (h : Okd D z k) {bs : List UInt8} (hb : (bs.length : Int) = totG e f s) :
    (dataR D which e f s bs).1 = 0 ∧ Okd (dataR D which e f s bs).2 z k ∧ (dataR D which e f s bs).2.ops = D.ops + many ∧ (dataR D which e f s bs).2.writes = D.writes + many ∧ ImgIs (dataR D which e f s bs).2 fst many bs ∧
      ∀ j, ¬ (fst + 1 ≤ j ∧ j < fst + 1 + many) → (dataR D which e f s bs).2.cur j = D.cur j := by
  have hn : (secs bs.length D.size).toNat = many := by rw [hb, h.size, hh.hsecs]; omega
  have e0 : dataR D which e f s bs = dataGo (fst : Int) 0 D (pieces bs z many) := by
    unfold dataR
    rw [if_neg (by rw [hh.atE h.size h.count]; simp), if_neg (by rw [hb]; simp), hh.firstOf h.size, hn, h.size]
  have hroom : bs.length ≤ many * z := by
    have := hh.room'
    rw [← hb, ← Int.natCast_mul] at this
    omega
  have hlt := hh.lt (Nat.le_refl many)
  obtain ⟨a1, a2, a3, a4, a5⟩ := dataGo_ok (fst := fst) (pieces bs z many) D 0 h (pieces_each hroom) (by rw [pieces_length]; omega)
  rw [pieces_length] at a3 a4 a5
  rw [e0]
  refine ⟨a1, a2, a3, a4, fun j hj => ?_, fun j hj => ?_⟩
  · rw [a5, if_pos (by omega), a2.size]
    congr 1; omega
  · rw [a5, if_neg (by omega)]

/-! ### Seal, Wipe -/
theorem seal_ok (hh : Here z k which e f s fst many) (h : Okd D z k) {bs : List UInt8} (hb : (bs.length : Int) = totG e f s) (q : Int) :
    sealR D which e f s q bs = (0, D.put (fst : Int) (padB (enc (sealHead bs e f s q)) z)) := by
  unfold sealR
  rw [if_neg (by rw [hh.atE h.size h.count]; simp), if_neg (by rw [hb]; simp), hh.firstOf h.size, h.size, if_neg]
  rw [h.writeE (by have := hh.lt (j := 0) (by omega); omega)]; simp
theorem wipe_ok (hh : Here z k which e f s fst many) (h : Okd D z k) : wipeR D which e f s = (0, D.put (fst : Int) (padB [] z)) := by
  unfold wipeR
  rw [if_neg (by rw [hh.atE h.size h.count]; simp), hh.firstOf h.size, h.size, if_neg]
  rw [h.writeE (by have := hh.lt (j := 0) (by omega); omega)]; simp

/-! ### Read -/
theorem body_of (hh : Here z k which e f s fst many) (hz : D.size = z) {bs : List UInt8} (hb : (bs.length : Int) = totG e f s) (hi : ImgIs D fst many bs) : D.body (fst : Int) many = padB bs (many * z) := by
  have hroom : bs.length ≤ many * z := by
    have := hh.room'
    rw [← hb, ← Int.natCast_mul] at this
    omega
  rw [← pieces_flat hroom]
  unfold DiskN.body DiskN.rows
  rw [List.map_map]
  congr 1
  apply List.ext_getElem
  · simp [pieces]
  · intro j h1 h2
    rw [List.length_map, List.length_range] at h1
    have e1 : ((fst : Int) + (1 + (j : Int))).toNat = fst + 1 + j := by omega
    simp only [List.getElem_map, List.getElem_range, Function.comp, e1]
    rw [hi j h1, hz, List.getD_eq_getElem?_getD, List.getElem?_eq_getElem h2]; rfl
theorem read_magic (hh : Here z k which e f s fst many) (h : Okd D z k) (hc : D.cur fst = padB [] z) : readR D which e f s = (0, D.tick, ⟨0, 6, 0, []⟩) := by
  have hl := hh.lt (j := 0) (by omega)
  have hd := dec_zero (m := z) (by have := hh.hsize; omega)
  unfold readR
  rw [if_neg (by rw [hh.atE h.size h.count]; simp), hh.firstOf h.size, if_neg (by rw [h.readE (by omega)]; simp), Int.toNat_natCast, hc, hd, if_pos (by decide)]
theorem read_good (hh : Here z k which e f s fst many) (h : Okd D z k) {bs : List UInt8} {q : Int} (hq : 0 ≤ q ∧ q < 18446744073709551616) (hb : (bs.length : Int) = totG e f s)
    (hc : D.cur fst = padB (enc (sealHead bs e f s q)) z) (hi : ImgIs D fst many bs) : readR D which e f s = (0, D.ticks (1 + many), ⟨2, 0, q, bs⟩) := by
  have hl := hh.lt (j := 0) (by omega)
  have hsz := hh.hsize
  have hcs := crcSum_bd bs
  have hright : (sealHead bs e f s q).right = true := by simp [HeadN.right, sealHead, hh.hright, hb]
  obtain ⟨d1, d2⟩ := dec_enc hright hq hcs (m := z) (by omega)
  have hbody := body_of hh h.size hb hi
  have hroom : bs.length ≤ many * z := by
    have := hh.room'
    rw [← hb, ← Int.natCast_mul] at this
    omega
  have hbad : badK D.tick (fst : Int) many = none := badK_none fun j hj => by
    have := hh.lt (j := 1 + j) (by omega)
    have e1 : (fst : Int) + (1 + (j : Int)) = ((fst + (1 + j) : Nat) : Int) := by omega
    unfold bodyE
    rw [e1]
    exact (h.tick.ticks j).readE this
  unfold readR
  rw [if_neg (by rw [hh.atE h.size h.count]; simp), hh.firstOf h.size, if_neg (by rw [h.readE (by omega)]; simp), Int.toNat_natCast, hc, d1, d2, if_neg (by simp), if_pos ⟨rfl, rfl, rfl⟩, hh.manyOf h.size]
  unfold bodyR
  rw [hbad]
  have hb2 : D.tick.body (fst : Int) many = padB bs (many * z) := hbody
  have hlen : (sealHead bs e f s q).len = (bs.length : Int) := rfl
  have hsum : (sealHead bs e f s q).sum = crcSum bs := rfl
  have hsq : (sealHead bs e f s q).seq = q := rfl
  dsimp only
  rw [hb2, hlen, hsum, hsq, padB_length hroom, if_pos ⟨by omega, by omega⟩, Int.toNat_natCast, padB_take, if_pos rfl]
  show (_, ({ D with ops := D.ops + 1 + many } : DiskN), _) = (_, ({ D with ops := D.ops + (1 + many) } : DiskN), _)
  rw [Nat.add_assoc]
theorem ImgIs.of_cur {bs : List UInt8} {D' : DiskN} (h : ImgIs D fst many bs) (hs : D'.size = D.size) (hc : ∀ j, j < many → D'.cur (fst + 1 + j) = D.cur (fst + 1 + j)) : ImgIs D' fst many bs := fun j hj => by rw [hc j hj, h j hj, hs]
end
end Go.Sep
/- What a crash leaves: no program in sight. -/
namespace Go.Sep
open Go Go.Proofs

structure TearN where
  kind : Int
  bytes : List UInt8
def TearN.zero : TearN := ⟨0, []⟩
/-- A sector of so many bytes, out of any. -/
def fit (bs : List UInt8) (m : Nat) : List UInt8 := padB (bs.take m) m
theorem fit_length (bs : List UInt8) (m : Nat) : (fit bs m).length = m := padB_length (by rw [List.length_take]; omega)
def DiskN.tear (D : DiskN) (i : Int) (t : TearN) : DiskN :=
  { D with
    data := if t.kind = 1 then setSec D.data D.size i.toNat (D.cur i.toNat) else if t.kind = 2 then setSec D.data D.size i.toNat (fit t.bytes D.size) else D.data
    cached := delI D.cached i }
def tornGo : Nat → List Int → List TearN → DiskN → DiskN
  | _, [], _, D => D
  | j, i :: r, ts, D => tornGo (j + 1) r ts (D.tear i (ts.getD j .zero))
/-- The first j of the sectors that are cached are torn. -/
def torn (D : DiskN) (ts : List TearN) (j : Nat) : DiskN := ((D.keys.take j).zipIdx).foldl (fun E p => E.tear p.1 (ts.getD p.2 .zero)) D
theorem torn_succ {D : DiskN} {ts : List TearN} {j : Nat} {i : Int} (h : D.keys[j]? = some i) : torn D ts (j + 1) = (torn D ts j).tear i (ts.getD j .zero) := by
  have hj : j < D.keys.length := by
    rcases Nat.lt_or_ge j D.keys.length with q | q
    · exact q
    · rw [List.getElem?_eq_none q] at h; cases h
  unfold torn
  rw [List.take_add_one, h, List.zipIdx_append, List.foldl_append]
  have : (D.keys.take j).length = j := by rw [List.length_take]; omega
  simp [this]
section
variable {D : DiskN}
theorem tear_wf (h : D.WF) {i : Nat} (hi : i < D.count) (t : TearN) : (D.tear (i : Int) t).WF ∧ (D.tear (i : Int) t).size = D.size ∧ (D.tear (i : Int) t).count = D.count := by
  have hr := h.room hi
  rw [Nat.succ_mul] at hr
  have hl : (D.tear (i : Int) t).data.length = D.data.length := by
    unfold DiskN.tear
    dsimp only
    rw [Int.toNat_natCast]
    split
    · exact setSec_length (by rw [h.cur hi]; omega)
    · split
      · exact setSec_length (by rw [fit_length]; omega)
      · rfl
  have hc : (D.tear (i : Int) t).count = D.count := by
    unfold DiskN.count
    rw [hl]; rfl
  refine ⟨⟨h.hz, h.hz2, by rw [hc, hl]; exact h.len, by rw [hc]; exact h.cnt, fun p hp => ?_, List.Nodup.sublist ((delI_sub _ _).map _) h.nodup, Nat.le_trans (delI_len _ _) h.few⟩, rfl, hc⟩
  have := h.cach p ((delI_sub _ _).mem hp)
  rw [hc]; exact this
theorem tear_rest (i : Int) (t : TearN) : (D.tear i t).ops = D.ops ∧ (D.tear i t).writes = D.writes ∧ (D.tear i t).planned = D.planned := ⟨rfl, rfl, rfl⟩
theorem tear_look (h : D.WF) (i j : Int) (t : TearN) : lookI (D.tear i t).cached j = if j = i then none else lookI D.cached j := lookI_delI _ _ _ h.nodup
/-- What lasts of a sector. -/
def leftOf (t : TearN) (size : Nat) (old next : List UInt8) : List UInt8 := if t.kind = 1 then next else if t.kind = 2 then fit t.bytes size else old
theorem tear_sector (h : D.WF) {i j : Nat} (hi : i < D.count) (hj : j < D.count) (t : TearN) : (D.tear (i : Int) t).sector j = if j = i then leftOf t D.size (D.sector i) (D.cur i) else D.sector j := by
  unfold DiskN.tear DiskN.sector leftOf
  dsimp only
  rw [Int.toNat_natCast]
  by_cases c1 : t.kind = 1
  · rw [if_pos c1, if_pos c1, sec_set (h.cur hi) (h.room hi) (h.room hj)]
  · rw [if_neg c1, if_neg c1]
    by_cases c2 : t.kind = 2
    · rw [if_pos c2, if_pos c2, sec_set (fit_length _ _) (h.room hi) (h.room hj)]
    · rw [if_neg c2, if_neg c2]
      by_cases e : j = i
      · subst e; rw [if_pos rfl]
      · rw [if_neg e]
theorem torn_facts (h : D.WF) (ts : List TearN) : ∀ n, n ≤ D.keys.length → (torn D ts n).WF ∧ (torn D ts n).size = D.size ∧ (torn D ts n).count = D.count ∧ (torn D ts n).ops = D.ops ∧ (torn D ts n).writes = D.writes ∧ (torn D ts n).planned = D.planned ∧
    ∀ j : Int, lookI (torn D ts n).cached j = if j ∈ D.keys.take n then none else lookI D.cached j
  | 0, _ => ⟨h, rfl, rfl, rfl, rfl, rfl, fun j => by simp [torn]⟩
  | n + 1, hn => by
    obtain ⟨a1, a2, a3, a4, a5, a6, a7⟩ := torn_facts h ts n (by omega)
    obtain ⟨i, hi⟩ : ∃ i, D.keys[n]? = some i := ⟨_, List.getElem?_eq_getElem (by omega)⟩
    obtain ⟨h0, h1⟩ := keys_range h hi
    obtain ⟨m, rfl⟩ := Int.eq_ofNat_of_zero_le h0
    have hm : m < (torn D ts n).count := by rw [a3]; omega
    obtain ⟨b1, b2, b3⟩ := tear_wf a1 hm (ts.getD n .zero)
    rw [torn_succ hi]
    refine ⟨b1, b2.trans a2, b3.trans a3, a4, a5, a6, fun j => ?_⟩
    rw [tear_look a1, a7, List.take_add_one, hi]
    by_cases e : j = (m : Int)
    · subst e; simp
    · simp [e]
def DiskN.crash (D : DiskN) (ts : List TearN) : DiskN := torn D ts D.keys.length
theorem crash_facts (h : D.WF) (ts : List TearN) : (D.crash ts).WF ∧ (D.crash ts).size = D.size ∧ (D.crash ts).count = D.count ∧ (D.crash ts).ops = D.ops ∧ (D.crash ts).writes = D.writes ∧ (D.crash ts).planned = D.planned ∧ (D.crash ts).cached = [] := by
  obtain ⟨a1, a2, a3, a4, a5, a6, a7⟩ := torn_facts h ts D.keys.length (Nat.le_refl _)
  refine ⟨a1, a2, a3, a4, a5, a6, look_none fun j => ?_⟩
  unfold DiskN.crash
  rw [a7, List.take_of_length_le (Nat.le_refl _)]
  split
  · rfl
  · rename_i hj
    rw [mem_keys] at hj
    exact lookI_none_of hj
/-- What isn't cached stays as it is. -/
theorem torn_sector (h : D.WF) (ts : List TearN) {j : Nat} (hj : j < D.count) : ∀ n, n ≤ D.keys.length → (j : Int) ∉ D.keys.take n → (torn D ts n).sector j = D.sector j
  | 0, _, _ => rfl
  | n + 1, hn, hk => by
    obtain ⟨a1, a2, a3, _⟩ := torn_facts h ts n (by omega)
    obtain ⟨i, hi⟩ : ∃ i, D.keys[n]? = some i := ⟨_, List.getElem?_eq_getElem (by omega)⟩
    obtain ⟨h0, h1⟩ := keys_range h hi
    obtain ⟨m, rfl⟩ := Int.eq_ofNat_of_zero_le h0
    rw [List.take_add_one, hi] at hk
    simp only [List.mem_append, Option.toList_some, List.mem_singleton, not_or] at hk
    rw [torn_succ hi, tear_sector a1 (by rw [a3]; omega) (by rw [a3]; exact hj), if_neg (by omega)]
    exact torn_sector h ts hj n (by omega) hk.1
theorem crash_sector (h : D.WF) (ts : List TearN) {j : Nat} (hj : j < D.count) (hk : lookI D.cached (j : Int) = none) : (D.crash ts).sector j = D.sector j := by
  refine torn_sector h ts hj _ (Nat.le_refl _) ?_
  rw [List.take_of_length_le (Nat.le_refl _), mem_keys]
  intro hm
  obtain ⟨v, hv⟩ := lookI_some_of hm
  rw [hk] at hv; cases hv
theorem crash_cur (h : D.WF) (ts : List TearN) {j : Nat} (hj : j < D.count) (hk : lookI D.cached (j : Int) = none) : (D.crash ts).cur j = D.cur j := by
  unfold DiskN.cur
  rw [(crash_facts h ts).2.2.2.2.2.2, hk]
  exact crash_sector h ts hj hk
end
end Go.Sep
/- The disk: crashed. -/
namespace Go.Sep
open Go Go.Proofs
attribute [local irreducible] JO JC JE JA JQ JB JI Mid Inv Weak ownS Ru Do Fn Sat Pick Take arr pt star ex Holds bodyPost Post Exit.then Exit.inBlock Res
variable {σ : Sig} {F : List HP}
/-- The tears that a slice reads as. -/
def RdT (σ : Sig) (l : List HP) (v : Value) (ts : List TearN) : Prop :=
  ∃ p cap, v = .slice p ts.length cap ∧ ts.length ≤ cap ∧ (ts = [] ∨ ∃ b o, p = some ⟨b, o, none⟩ ∧ ∀ (i : Nat) (t : TearN), ts[i]? = some t → ∃ q c, t.bytes.length ≤ c ∧
    (∀ w, Sat σ w l → ∀ j u, ([int t.kind, .slice q t.bytes.length c] : List Value)[j]? = some u → w.cell? ⟨b, o + (i : Int).toNat * 2 + j, none⟩ = some u) ∧ RdS σ l (.slice q t.bytes.length c) (t.bytes.map byte))
theorem keys_nodup {D : DiskN} (h : D.WF) : D.keys.Nodup := (List.mergeSort_perm _ _).nodup_iff.2 h.nodup
theorem not_take {α : Type} {l : List α} (h : l.Nodup) {j : Nat} {k : α} (hk : l[j]? = some k) : k ∉ l.take j := by
  intro hm
  obtain ⟨h1, h2⟩ := List.getElem?_eq_some_iff.1 hk
  have e : l = l.take j ++ l.drop j := (List.take_append_drop j l).symm
  rw [e, List.nodup_append] at h
  exact h.2.2 k hm k (by rw [List.drop_eq_getElem_cons h1, h2]; exact List.mem_cons_self) rfl
theorem torn_cached {D : DiskN} (h : D.WF) (ts : List TearN) {j : Nat} {k : Int} (hk : D.keys[j]? = some k) : ∃ bs, lookI (torn D ts j).cached k = some bs := by
  have hj : j < D.keys.length := (List.getElem?_eq_some_iff.1 hk).1
  obtain ⟨_, _, _, _, _, _, a7⟩ := torn_facts h ts j (by omega)
  rw [a7, if_neg (not_take (keys_nodup h) hk)]
  exact lookI_some_of (mem_keys.1 (List.mem_of_getElem? hk))
theorem splice_bytes {data ys : List UInt8} {spare : List Value} {o : Nat} (h : o + ys.length ≤ data.length) : splice (data.map byte ++ spare) o (ys.map byte) = (data.take o ++ ys ++ data.drop (o + ys.length)).map byte ++ spare := by
  rw [splice_at _ _ _ (by simp only [List.length_append, List.length_map]; omega)]
  have e1 : o ≤ (data.map byte).length := by rw [List.length_map]; omega
  rw [List.take_append_of_le_length e1, List.drop_append_of_le_length (by simp only [List.length_map]; omega)]
  simp
theorem splice_sec {data bs : List UInt8} {spare : List Value} {size i : Nat} (h : i * size + bs.length ≤ data.length) : splice (data.map byte ++ spare) (i * size) (bs.map byte) = (setSec data size i bs).map byte ++ spare := splice_bytes h
theorem cut_three {T Z R : List UInt8} {a n : Nat} (hT : T.length = a) (hn : n ≤ Z.length) : (T ++ Z ++ R).take a = T ∧ (T ++ Z ++ R).drop (a + n) = Z.drop n ++ R := by
  subst hT
  refine ⟨by rw [List.append_assoc, List.take_left], ?_⟩
  rw [List.append_assoc, ← List.drop_drop, List.drop_left, List.drop_append_of_le_length hn]
theorem set_fit {data bs : List UInt8} {size i : Nat} (h : i * size + size ≤ data.length) :
    (setSec data size i (List.replicate size 0)).take (i * size) ++ bs.take size ++ (setSec data size i (List.replicate size 0)).drop (i * size + (bs.take size).length) = setSec data size i (fit bs size) := by
  have hl : (data.take (i * size)).length = i * size := by rw [List.length_take]; omega
  have hf := fit_length bs size
  have hm : (bs.take size).length ≤ size := by rw [List.length_take]; omega
  unfold setSec
  obtain ⟨e1, e2⟩ := cut_three (R := data.drop (i * size + (List.replicate size (0 : UInt8)).length)) hl (Z := List.replicate size 0) (n := (bs.take size).length) (by rw [List.length_replicate]; exact hm)
  rw [e1, e2, hf, List.drop_replicate]
  unfold fit padB
  simp only [List.length_replicate, List.append_assoc]
attribute [local irreducible] diskHP cacheHP planHP rowHP
set_option maxHeartbeats 4000000 in
theorem disk_Crash (d : Nat) (D : DiskN) (v : Value) (ts : List TearN) (hD : D.WF) (hw : D.writes ≤ 1000000) (hts : ts.length ≤ 1000000) (htb : ∀ t ∈ ts, t.bytes.length ≤ 1000000) {l : List HP} (hv : RdT σ l v ts) :
    Fn Tryz.prog σ 27 #[.pointer (some ⟨d, 0, none⟩), v] (diskHP d D :: l) (fun r l' => r = .tuple #[] ∧ l' = diskHP d (D.crash ts) :: l) := by
  obtain ⟨pv, cv, rfl, hcv, hrv⟩ := hv
  have hfew : D.cached.length ≤ 1000000 := Nat.le_trans hD.few hw
  have hkl := D.keys_length
  refine Fn.of Tryz.func27 rfl Tryz.ntmps27 rfl ?_
  repeat' (first | (first | (apply JO.ru; exact rfl; exact rfl; exact rfl; ((apply Ru.move; exact rfl))) | refine JC.seq ?_ | refine JC.region ?_) | (apply JO.do; exact rfl; exact rfl; exact rfl; (apply Do.call; exact rfl; exact disk_Unsynced d D hD hw); rintro v _ rfl))
  refine JO.ownR Pick.here fun _ _ hsh => ?_
  obtain ⟨p, c, rfl, hp⟩ : ∃ p c, v = .slice p D.keys.length c ∧ (p = none ∧ D.keys.length = 0 ∨ ∃ b, p = some ⟨b, 0, none⟩) := by
    rcases hsh with ⟨rfl, h⟩ | ⟨b, c, rfl, _⟩
    · exact ⟨none, 0, by rw [h], .inl ⟨rfl, h⟩⟩
    · exact ⟨_, c, rfl, .inr ⟨b, rfl⟩⟩
  clear hsh
  repeat' (first | (apply JO.ru; exact rfl; exact rfl; exact rfl; (first | (apply Ru.move; exact rfl) | (apply Ru.lenS; exact rfl))) | refine JO.nil ?_ | refine JE.thenN ?_ | refine JC.block ?_)
  refine JC.loop (fun j : Nat => [(0, .pointer (some ⟨d, 0, none⟩)), (1, .slice pv ts.length cv), (8, .slice p D.keys.length c), (9, int D.keys.length), (10, int j)]) (fun j => ownS (.slice p D.keys.length c) 3 1 D.keys.length (D.keys.map int) :: diskHP d (torn D ts j) :: l) (fun j => j ≤ D.keys.length) (fun j => D.keys.length - j) 0 (Nat.zero_le _) ⟨rfl, rfl, rfl, rfl, rfl, trivial⟩ (fun _ h => h) ?_
  intro j hj
  repeat' (first | (apply JO.ru; exact rfl; exact rfl; exact rfl; ((apply Ru.move; exact rfl))) | refine JC.seq ?_ | refine JC.region ?_ | refine JO.nil ?_ | refine JE.thenN ?_ | refine JE.thenE ?_ | refine JE.blockE ?_ | refine JC.block ?_ | refine JC.skip ?_ | refine JC.exit ?_ | refine JC.condT rfl ?_ | refine JC.condF rfl ?_ | (apply JO.split; exact rfl; exact rfl; exact rfl; ((apply Ru.lss; exact rfl; exact rfl; exact rfl)); all_goals intro _))
  · rename_i hlt
    obtain ⟨k, hk⟩ : ∃ k, D.keys[j]? = some k := ⟨_, List.getElem?_eq_getElem (by omega)⟩
    obtain ⟨hr0, hr1⟩ := keys_range hD hk
    obtain ⟨i, rfl⟩ := Int.eq_ofNat_of_zero_le hr0
    obtain ⟨b0, rfl⟩ : ∃ b, p = some ⟨b, 0, none⟩ := by
      rcases hp with ⟨_, h⟩ | h
      · omega
      · exact h
    refine JO.ownR Pick.here fun hrd _ _ => ?_
    obtain ⟨p', cap', e, _, hr2⟩ := hrd
    injection e with e1 e2 e3
    subst e1; clear e2 e3
    rcases hr2 with h | ⟨b', o', e4, hc⟩
    · have := congrArg List.length h
      rw [List.length_map, List.length_nil] at this
      omega
    cases e4
    repeat' ((apply JO.ru; exact rfl; exact rfl; exact rfl; ((apply Ru.indexAddr; exact rfl; exact rfl; omega; omega))))
    (apply JO.ru; exact rfl; exact rfl; exact rfl; (apply Ru.loadC; exact rfl; exact rd_row (i := j) (u := int i) hc (by rw [List.getElem?_map, hk]; rfl) _ (by simp)))
    iterate 12 (first | (apply JO.ru; exact rfl; exact rfl; exact rfl; (first | (apply Ru.assign; exact rfl) | (apply Ru.buildN; exact rfl; exact rfl))) | refine JC.seq ?_ | refine JC.region ?_ | refine JO.nil ?_ | refine JE.thenN ?_ | (apply JO.do; exact rfl; exact rfl; exact rfl; (first | (apply Do.allocN; exact rfl) | apply Do.alloc); rintro _ _ ⟨_, rfl, rfl⟩) | (apply JO.do0; exact rfl; exact rfl; (first | (apply Do.storeAN; exact rfl; exact rfl; (repeat (first | exact Pick.here | apply Pick.there)); exact rfl; exact rfl; exact rfl; exact rfl) | (apply Do.storeA; exact rfl; exact rfl; (repeat (first | exact Pick.here | apply Pick.there)); exact rfl; exact rfl; exact rfl)); rintro _ _ ⟨rfl, rfl⟩))
    obtain ⟨t, ht⟩ : ∃ t, ts.getD j .zero = t := ⟨_, rfl⟩
    refine JC.mid (fun q : Nat × Option Addr × Nat => [(0, .pointer (some ⟨d, 0, none⟩)), (1, .slice pv ts.length cv), (5, int i), (6, .pointer (some ⟨q.1, 0, none⟩)), (8, .slice (some ⟨b0, 0, none⟩) D.keys.length c), (9, int D.keys.length), (10, int j)])
      (fun q => arr q.1 100 [int t.kind, .slice q.2.1 t.bytes.length q.2.2] :: ownS (.slice (some ⟨b0, 0, none⟩) D.keys.length c) 3 1 D.keys.length (D.keys.map int) :: diskHP d (torn D ts j) :: l) (fun q => RdS σ l (.slice q.2.1 t.bytes.length q.2.2) (t.bytes.map byte)) ?_ ?_
    · rintro ⟨wb, q, cq⟩ hrt
      dsimp only at hrt ⊢
      have hss := torn_succ (ts := ts) hk
      obtain ⟨hEw, hEs, hEc, _⟩ := torn_facts hD ts j hj
      obtain ⟨bs, hbs⟩ := torn_cached hD ts hk
      have htl : t.bytes.length ≤ 1000000 := by
        rw [← ht, List.getD_eq_getElem?_getD]
        cases q : ts[j]? with
        | none => simp [TearN.zero]
        | some t' => exact htb t' (List.mem_of_getElem? q)
      rw [ht] at hss
      obtain ⟨E, hE⟩ : ∃ E, torn D ts j = E := ⟨_, rfl⟩
      rw [hE] at hss hEw hEs hEc hbs ⊢
      have hi : i < E.count := by omega
      have hroom := hEw.room hi
      have hsm := hEw.small
      have g0 : (i + 1) * E.size = i * E.size + E.size := Nat.succ_mul i E.size
      have hz := hEw.hz
      refine JC.disk (Pick.there (Pick.there Pick.here)) fun lv cm pm => ?_
      refine JC.cache (Pick.there (Pick.there Pick.here)) fun R hR => ?_
      refine JC.heap (Sat.weak (l' := bytesHP lv E.data :: mapI cm (R.map fun p => (p.1, p.2.1)) :: star (R.map rowHP) :: arr d 121 (diskCells E lv cm pm) :: planHP pm E.planned :: arr wb 100 [int t.kind, .slice q t.bytes.length cq] :: ownS (.slice (some ⟨b0, 0, none⟩) D.keys.length c) 3 1 D.keys.length (D.keys.map int) :: l) (by repeat (first | exact Weak.refl | (apply Weak.cons; (first | exact Pick.here | exact Pick.there Pick.here | exact Pick.there (Pick.there Pick.here) | exact Pick.there (Pick.there (Pick.there Pick.here)) | exact Pick.there (Pick.there (Pick.there (Pick.there Pick.here))) | exact Pick.there (Pick.there (Pick.there (Pick.there (Pick.there Pick.here)))) | exact Pick.there (Pick.there (Pick.there (Pick.there (Pick.there (Pick.there Pick.here))))) | exact Pick.there (Pick.there (Pick.there (Pick.there (Pick.there (Pick.there (Pick.there Pick.here)))))))) | apply Weak.drop))) ?_
      refine JC.own (fun _ h _ => (by omega)) ?_
      rintro b cap spare rfl hcap hxs hsp
      have hlk : lookI (R.map fun (p : Int × Value × List UInt8) => (p.1, p.2.1)) (i : Int) = (lookI R (i : Int)).map (·.1) := lookI_map (·.1) R i
      have hlc2 : lookI E.cached (i : Int) = (lookI R (i : Int)).map (·.2) := hR ▸ lookI_map (·.2) R i
      obtain ⟨u, hu⟩ : ∃ u, lookI R (i : Int) = some u := by
        rw [hbs] at hlc2
        cases q : lookI R (i : Int) with
        | none => rw [q] at hlc2; cases hlc2
        | some u => exact ⟨u, rfl⟩
      rw [hu] at hlk hlc2
      simp only [Option.map_some] at hlk hlc2
      have hul : u.2.length = E.size := (hEw.cach _ (lookI_mem hlc2)).2.2
      have hul' : (u.2.map byte).length = u.2.length := by simp
      have hcur : E.cur i = u.2 := by unfold DiskN.cur; rw [hlc2]; rfl
      have em : delI (R.map fun (p : Int × Value × List UInt8) => (p.1, p.2.1)) (i : Int) = (delI R (i : Int)).map fun p => (p.1, p.2.1) := delI_map (·.1) R i
      have ec : delI E.cached (i : Int) = (delI R (i : Int)).map fun p => (p.1, p.2.2) := by rw [hR]; exact delI_map (·.2) R i
      have fin2 : ∀ (data' : List UInt8), data'.length = E.data.length → E.tear (i : Int) t = { E with data := data', cached := delI E.cached (i : Int) } → ∀ w, Sat σ w (mapI cm (delI (R.map fun (p : Int × Value × List UInt8) => (p.1, p.2.1)) (i : Int)) :: arr b 5 (data'.map byte ++ spare) :: star (R.map rowHP) :: arr d 121 (diskCells E (.slice (some ⟨b, 0, none⟩) E.data.length cap) cm pm) :: planHP pm E.planned :: ownS (.slice (some ⟨b0, 0, none⟩) D.keys.length c) 3 1 D.keys.length (D.keys.map int) :: l) → Sat σ w (ownS (.slice (some ⟨b0, 0, none⟩) D.keys.length c) 3 1 D.keys.length (D.keys.map int) :: diskHP d (torn D ts (j + 1)) :: l) := by
        intro data' hsl hset w s
        rw [hss, hset]
        rw [em] at s
        have s0 := Sat.weak (l' := arr b 5 (data'.map byte ++ spare) :: star (R.map rowHP) :: mapI cm ((delI R (i : Int)).map fun p => (p.1, p.2.1)) :: arr d 121 (diskCells E (.slice (some ⟨b, 0, none⟩) E.data.length cap) cm pm) :: planHP pm E.planned :: ownS (.slice (some ⟨b0, 0, none⟩) D.keys.length c) 3 1 D.keys.length (D.keys.map int) :: l) (by repeat (first | exact Weak.refl | (apply Weak.cons; (first | exact Pick.here | exact Pick.there Pick.here | exact Pick.there (Pick.there Pick.here) | exact Pick.there (Pick.there (Pick.there Pick.here)) | exact Pick.there (Pick.there (Pick.there (Pick.there Pick.here))) | exact Pick.there (Pick.there (Pick.there (Pick.there (Pick.there Pick.here)))) | exact Pick.there (Pick.there (Pick.there (Pick.there (Pick.there (Pick.there Pick.here))))) | exact Pick.there (Pick.there (Pick.there (Pick.there (Pick.there (Pick.there (Pick.there Pick.here)))))))) | apply Weak.drop)) w s
        have s1 := Sat.ownS_arr (k := data'.length) (cap := cap) (z := 1) (by omega) (by rw [List.length_map]; omega) (by rw [List.length_append, List.length_map, hsl, ← List.length_map (f := byte), ← List.length_append]; exact hsp) s0
        rw [hsl] at s1
        have s2 := Sat.weak (l' := star (R.map rowHP) :: ownS (.slice (some ⟨b, 0, none⟩) E.data.length cap) 5 1 E.data.length (data'.map byte) :: mapI cm ((delI R (i : Int)).map fun p => (p.1, p.2.1)) :: arr d 121 (diskCells E (.slice (some ⟨b, 0, none⟩) E.data.length cap) cm pm) :: planHP pm E.planned :: ownS (.slice (some ⟨b0, 0, none⟩) D.keys.length c) 3 1 D.keys.length (D.keys.map int) :: l) (by repeat (first | exact Weak.refl | (apply Weak.cons; (first | exact Pick.here | exact Pick.there Pick.here | exact Pick.there (Pick.there Pick.here) | exact Pick.there (Pick.there (Pick.there Pick.here)) | exact Pick.there (Pick.there (Pick.there (Pick.there Pick.here))) | exact Pick.there (Pick.there (Pick.there (Pick.there (Pick.there Pick.here)))) | exact Pick.there (Pick.there (Pick.there (Pick.there (Pick.there (Pick.there Pick.here))))) | exact Pick.there (Pick.there (Pick.there (Pick.there (Pick.there (Pick.there (Pick.there Pick.here)))))))) | apply Weak.drop)) w s1
        have s3 := Sat.delRows (k := (i : Int)) s2
        have e9 : ownS (.slice (some ⟨b, 0, none⟩) E.data.length cap) 5 1 E.data.length (data'.map byte) = bytesHP (.slice (some ⟨b, 0, none⟩) E.data.length cap) data' := by rw [← hsl]
        rw [e9] at s3
        have s4 := Sat.weak (l' := opn2 d { E with data := data', cached := delI E.cached (i : Int) } (.slice (some ⟨b, 0, none⟩) E.data.length cap) cm pm (delI R (i : Int)) (ownS (.slice (some ⟨b0, 0, none⟩) D.keys.length c) 3 1 D.keys.length (D.keys.map int) :: l)) (by repeat (first | exact Weak.refl | (apply Weak.cons; (first | exact Pick.here | exact Pick.there Pick.here | exact Pick.there (Pick.there Pick.here) | exact Pick.there (Pick.there (Pick.there Pick.here)) | exact Pick.there (Pick.there (Pick.there (Pick.there Pick.here))) | exact Pick.there (Pick.there (Pick.there (Pick.there (Pick.there Pick.here)))) | exact Pick.there (Pick.there (Pick.there (Pick.there (Pick.there (Pick.there Pick.here))))) | exact Pick.there (Pick.there (Pick.there (Pick.there (Pick.there (Pick.there (Pick.there Pick.here)))))))) | apply Weak.drop)) w s3
        exact Sat.weak (by repeat (first | exact Weak.refl | (apply Weak.cons; (first | exact Pick.here | exact Pick.there Pick.here | exact Pick.there (Pick.there Pick.here) | exact Pick.there (Pick.there (Pick.there Pick.here)) | exact Pick.there (Pick.there (Pick.there (Pick.there Pick.here))) | exact Pick.there (Pick.there (Pick.there (Pick.there (Pick.there Pick.here)))) | exact Pick.there (Pick.there (Pick.there (Pick.there (Pick.there (Pick.there Pick.here))))) | exact Pick.there (Pick.there (Pick.there (Pick.there (Pick.there (Pick.there (Pick.there Pick.here)))))))) | apply Weak.drop)) w (Sat.close ec s4)
      refine JC.rowR (lookI_mem hu) (Pick.there (Pick.there Pick.here)) fun hrow => ?_
      by_cases k1 : t.kind = 1
      · repeat' (first | (apply JO.ru; exact rfl; exact rfl; exact rfl; (first | (apply Ru.loadN; exact rfl; (repeat (first | exact Pick.here | apply Pick.there)); exact rfl) | (apply Ru.fieldAddr; exact rfl) | (apply Ru.assign; exact rfl) | (apply Ru.eql; exact rfl; exact rfl; (first | exact decT (by omega) | exact decF (by omega))))) | refine JC.seq ?_ | refine JC.region ?_ | refine JO.nil ?_ | refine JE.thenN ?_ | refine JC.block ?_ | refine JC.condT rfl ?_)
        refine JC.regionB (mapI cm (R.map fun p => (p.1, p.2.1)) :: star (R.map rowHP) :: arr d 121 (diskCells E (.slice (some ⟨b, 0, none⟩) E.data.length cap) cm pm) :: planHP pm E.planned :: arr wb 100 [int t.kind, .slice q t.bytes.length cq] :: ownS (.slice (some ⟨b0, 0, none⟩) D.keys.length c) 3 1 D.keys.length (D.keys.map int) :: l) mixed ?_
        repeat' (first | ((apply JB.ru; exact rfl; exact rfl; exact rfl; exact rfl; (first | (apply Ru.move; exact rfl) | (apply Ru.loadN; exact rfl; (repeat (first | exact Pick.here | apply Pick.there)); exact rfl) | (apply Ru.fieldAddr; exact rfl) | (apply Ru.nilP; exact rfl)); decide +kernel; decide +kernel; (first | exact fun _ h => h | exact fun _ h => Sat.drop h | exact fun _ h => Sat.drop (Sat.drop h) | exact fun _ h => Sat.drop (Sat.drop (Sat.drop h)) | exact fun _ h => Sat.drop (Sat.drop (Sat.drop (Sat.drop h)))); (simp only [Nat.reduceAdd, Nat.reducePow, Nat.reduceMul, Nat.zero_or, Nat.or_zero, Nat.reduceXor, Nat.reduceOr]; try exact rfl))) | (apply JB.ru; exact rfl; exact rfl; exact rfl; exact rfl; (apply Ru.lookupO0; exact rfl; exact rfl; exact Pick.here; exact hlk); decide +kernel; decide +kernel; exact fun _ h => Sat.drop h; (simp only [Nat.reduceAdd, Nat.reducePow, Nat.reduceMul, Nat.zero_or, Nat.or_zero, Nat.reduceXor, Nat.reduceOr]; try exact rfl)))
        refine JB.one 2 (by decide +kernel) ?_
        (apply JI.do; exact rfl; exact rfl; exact rfl; exact rfl; (apply Do.call; exact rfl; exact disk_at d E.size i b E.data.length cap _ _ _ _ hz (by omega) hcap hroom (Pick.there (Pick.there (Pick.there Pick.here)))); (simp only [Nat.reduceAdd, Nat.reducePow, Nat.reduceMul, Nat.zero_or, Nat.or_zero, Nat.reduceXor, Nat.reduceOr]; try exact rfl); rintro _ _ ⟨rfl, hq⟩; obtain rfl := hq.symm; refine ⟨fun _ s => s.drop, ?_⟩)
        refine JB.one 9 (by decide +kernel) ?_
        obtain ⟨ku, pu, cu, hu1⟩ : ∃ k p c, u.1 = .slice p k c ∧ k = u.2.length := by
          obtain ⟨pp, cc, h1, _, _⟩ := hrow
          exact ⟨_, pp, cc, h1, hul'⟩
        obtain ⟨hu1, rfl⟩ := hu1
        dsimp only at hrow
        rw [hu1] at hrow ⊢
        (apply JI.do; exact rfl; exact rfl; exact rfl; exact rfl; (apply Do.copy (ys := u.2.map byte); exact rfl; exact rfl; exact Pick.here; exact hrow; (rw [List.length_append, List.length_map]; omega); exact byteOne _); (simp only [Nat.reduceAdd, Nat.reducePow, Nat.reduceMul, Nat.zero_or, Nat.or_zero, Nat.reduceXor, Nat.reduceOr]; try exact rfl); rintro _ _ ⟨rfl, rfl⟩; refine ⟨fun _ s => s.drop, ?_⟩)
        rw [List.take_of_length_le (by rw [hul']; omega), splice_sec (by omega)]
        repeat' ((apply JB.nil; exact rfl))
        repeat' (first | (apply JO.ru; exact rfl; exact rfl; exact rfl; (first | (apply Ru.move; exact rfl) | (apply Ru.loadN; exact rfl; (repeat (first | exact Pick.here | apply Pick.there)); exact rfl) | (apply Ru.fieldAddr; exact rfl) | (apply Ru.nilP; exact rfl))) | refine JC.region ?_ | refine JE.thenN ?_ | refine JE.blockN ?_)
        (apply JO.do0; exact rfl; exact rfl; (apply Do.deleteI; exact rfl; exact rfl; exact Pick.there Pick.here); rintro _ _ ⟨rfl, rfl⟩)
        repeat' (first | (apply JO.ru; exact rfl; exact rfl; exact rfl; (first | (apply Ru.move; exact rfl) | (apply Ru.add; exact rfl; exact rfl; (first | exact wrapI (by omega) (by omega) | exact rfl)))) | refine JC.region ?_ | refine JO.nil ?_ | refine JE.thenN ?_ | refine JE.blockN ?_)
        refine JE.round (j + 1) (by omega) (by omega) ⟨rfl, rfl, rfl, rfl, rfl, trivial⟩ ?_
        have hset : E.tear (i : Int) t = { E with data := setSec E.data E.size i u.2, cached := delI E.cached (i : Int) } := by unfold DiskN.tear; rw [if_pos k1, Int.toNat_natCast, hcur]
        intro w s
        exact fin2 _ (setSec_length (by omega)) hset w (Sat.weak (by repeat (first | exact Weak.refl | (apply Weak.cons; (first | exact Pick.here | exact Pick.there Pick.here | exact Pick.there (Pick.there Pick.here) | exact Pick.there (Pick.there (Pick.there Pick.here)) | exact Pick.there (Pick.there (Pick.there (Pick.there Pick.here))) | exact Pick.there (Pick.there (Pick.there (Pick.there (Pick.there Pick.here)))) | exact Pick.there (Pick.there (Pick.there (Pick.there (Pick.there (Pick.there Pick.here))))) | exact Pick.there (Pick.there (Pick.there (Pick.there (Pick.there (Pick.there (Pick.there Pick.here)))))))) | apply Weak.drop)) w s)
      by_cases k2 : t.kind = 2
      · repeat' (first | (apply JO.ru; exact rfl; exact rfl; exact rfl; (first | (apply Ru.move; exact rfl) | (apply Ru.loadN; exact rfl; (repeat (first | exact Pick.here | apply Pick.there)); exact rfl) | (apply Ru.fieldAddr; exact rfl) | (apply Ru.assign; exact rfl) | (apply Ru.eql; exact rfl; exact rfl; (first | exact decT (by omega) | exact decF (by omega))))) | refine JC.seq ?_ | refine JC.region ?_ | refine JO.nil ?_ | refine JE.thenN ?_ | refine JC.block ?_ | refine JC.condT rfl ?_ | refine JC.condF rfl ?_)
        (apply JO.do; exact rfl; exact rfl; exact rfl; (apply Do.call; exact rfl; exact disk_at d E.size i b E.data.length cap _ _ _ _ hz (by omega) hcap hroom (Pick.there (Pick.there (Pick.there Pick.here)))); rintro _ _ ⟨rfl, hq⟩; obtain rfl := hq.symm)
        (apply JO.do0; exact rfl; exact rfl; (apply Do.clear; exact rfl; exact Pick.here; (rw [List.length_append, List.length_map]; omega); exact rfl); rintro _ _ ⟨rfl, rfl⟩)
        have hzr : List.replicate E.size (Value.int .u8 0) = (List.replicate E.size (0 : UInt8)).map byte := by simp
        rw [hzr, splice_sec (by rw [List.length_replicate]; omega)]
        have hsl2 := setSec_length (data := E.data) (size := E.size) (i := i) (bs := List.replicate E.size 0) (by rw [List.length_replicate]; omega)
        repeat' (first | refine JO.nil ?_ | refine JE.thenN ?_)
        refine JC.regionB (mapI cm (R.map fun p => (p.1, p.2.1)) :: star (R.map rowHP) :: arr d 121 (diskCells E (.slice (some ⟨b, 0, none⟩) E.data.length cap) cm pm) :: planHP pm E.planned :: arr wb 100 [int t.kind, .slice q t.bytes.length cq] :: ownS (.slice (some ⟨b0, 0, none⟩) D.keys.length c) 3 1 D.keys.length (D.keys.map int) :: l) mixed ?_
        repeat' ((apply JB.ru; exact rfl; exact rfl; exact rfl; exact rfl; (first | (apply Ru.move; exact rfl) | (apply Ru.loadN; exact rfl; (repeat (first | exact Pick.here | apply Pick.there)); exact rfl) | (apply Ru.fieldAddr; exact rfl)); decide +kernel; decide +kernel; (first | exact fun _ h => h | exact fun _ h => Sat.drop h | exact fun _ h => Sat.drop (Sat.drop h) | exact fun _ h => Sat.drop (Sat.drop (Sat.drop h)) | exact fun _ h => Sat.drop (Sat.drop (Sat.drop (Sat.drop h)))); (simp only [Nat.reduceAdd, Nat.reducePow, Nat.reduceMul, Nat.zero_or, Nat.or_zero, Nat.reduceXor, Nat.reduceOr]; try exact rfl)))
        refine JB.one 2 (by decide +kernel) ?_
        (apply JI.do; exact rfl; exact rfl; exact rfl; exact rfl; (apply Do.call; exact rfl; exact disk_at d E.size i b E.data.length cap _ _ _ _ hz (by omega) hcap hroom (Pick.there (Pick.there (Pick.there Pick.here)))); (simp only [Nat.reduceAdd, Nat.reducePow, Nat.reduceMul, Nat.zero_or, Nat.or_zero, Nat.reduceXor, Nat.reduceOr]; try exact rfl); rintro _ _ ⟨rfl, hq⟩; obtain rfl := hq.symm; refine ⟨fun _ s => s.drop, ?_⟩)
        refine JB.one 5 (by decide +kernel) ?_
        (apply JI.do; exact rfl; exact rfl; exact rfl; exact rfl; (apply Do.copy (ys := t.bytes.map byte); exact rfl; exact rfl; exact Pick.here; exact hrt.cons.cons.cons.cons.cons.cons.cons; (rw [List.length_append, List.length_map]; omega); exact byteOne _); (simp only [Nat.reduceAdd, Nat.reducePow, Nat.reduceMul, Nat.zero_or, Nat.or_zero, Nat.reduceXor, Nat.reduceOr]; try exact rfl); rintro _ _ ⟨rfl, rfl⟩; refine ⟨fun _ s => s.drop, ?_⟩)
        have htk : (t.bytes.map byte).take (min t.bytes.length E.size) = (t.bytes.take E.size).map byte := by
          rw [List.map_take]
          exact List.take_eq_take_iff.2 (by rw [List.length_map]; omega)
        rw [htk, splice_bytes (by rw [List.length_take]; omega), set_fit (by omega)]
        repeat' ((apply JB.nil; exact rfl))
        repeat' (first | (apply JO.ru; exact rfl; exact rfl; exact rfl; (first | (apply Ru.move; exact rfl) | (apply Ru.loadN; exact rfl; (repeat (first | exact Pick.here | apply Pick.there)); exact rfl) | (apply Ru.fieldAddr; exact rfl) | (apply Ru.nilP; exact rfl))) | refine JC.region ?_ | refine JE.thenN ?_ | refine JE.blockN ?_)
        (apply JO.do0; exact rfl; exact rfl; (apply Do.deleteI; exact rfl; exact rfl; exact Pick.there Pick.here); rintro _ _ ⟨rfl, rfl⟩)
        repeat' (first | (apply JO.ru; exact rfl; exact rfl; exact rfl; (first | (apply Ru.move; exact rfl) | (apply Ru.add; exact rfl; exact rfl; (first | exact wrapI (by omega) (by omega) | exact rfl)))) | refine JC.region ?_ | refine JO.nil ?_ | refine JE.thenN ?_ | refine JE.blockN ?_)
        refine JE.round (j + 1) (by omega) (by omega) ⟨rfl, rfl, rfl, rfl, rfl, trivial⟩ ?_
        have hset : E.tear (i : Int) t = { E with data := setSec E.data E.size i (fit t.bytes E.size), cached := delI E.cached (i : Int) } := by unfold DiskN.tear; rw [if_neg k1, if_pos k2, Int.toNat_natCast]
        intro w s
        exact fin2 _ (setSec_length (by rw [fit_length]; omega)) hset w (Sat.weak (by repeat (first | exact Weak.refl | (apply Weak.cons; (first | exact Pick.here | exact Pick.there Pick.here | exact Pick.there (Pick.there Pick.here) | exact Pick.there (Pick.there (Pick.there Pick.here)) | exact Pick.there (Pick.there (Pick.there (Pick.there Pick.here))) | exact Pick.there (Pick.there (Pick.there (Pick.there (Pick.there Pick.here)))) | exact Pick.there (Pick.there (Pick.there (Pick.there (Pick.there (Pick.there Pick.here))))) | exact Pick.there (Pick.there (Pick.there (Pick.there (Pick.there (Pick.there (Pick.there Pick.here)))))))) | apply Weak.drop)) w s)
      · repeat' (first | (apply JO.ru; exact rfl; exact rfl; exact rfl; (first | (apply Ru.move; exact rfl) | (apply Ru.loadN; exact rfl; (repeat (first | exact Pick.here | apply Pick.there)); exact rfl) | (apply Ru.fieldAddr; exact rfl) | (apply Ru.nilP; exact rfl) | (apply Ru.assign; exact rfl) | (apply Ru.eql; exact rfl; exact rfl; (first | exact decT (by omega) | exact decF (by omega))))) | refine JC.seq ?_ | refine JC.region ?_ | refine JO.nil ?_ | refine JE.thenN ?_ | refine JE.blockN ?_ | refine JC.block ?_ | refine JC.skip ?_ | refine JC.condF rfl ?_)
        (apply JO.do0; exact rfl; exact rfl; (apply Do.deleteI; exact rfl; exact rfl; exact Pick.there Pick.here); rintro _ _ ⟨rfl, rfl⟩)
        repeat' (first | (apply JO.ru; exact rfl; exact rfl; exact rfl; (first | (apply Ru.move; exact rfl) | (apply Ru.add; exact rfl; exact rfl; (first | exact wrapI (by omega) (by omega) | exact rfl)))) | refine JC.region ?_ | refine JO.nil ?_ | refine JE.thenN ?_ | refine JE.blockN ?_)
        refine JE.round (j + 1) (by omega) (by omega) ⟨rfl, rfl, rfl, rfl, rfl, trivial⟩ ?_
        have hset : E.tear (i : Int) t = { E with data := E.data, cached := delI E.cached (i : Int) } := by unfold DiskN.tear; rw [if_neg k1, if_neg k2]
        intro w s
        exact fin2 _ rfl hset w (Sat.weak (by repeat (first | exact Weak.refl | (apply Weak.cons; (first | exact Pick.here | exact Pick.there Pick.here | exact Pick.there (Pick.there Pick.here) | exact Pick.there (Pick.there (Pick.there Pick.here)) | exact Pick.there (Pick.there (Pick.there (Pick.there Pick.here))) | exact Pick.there (Pick.there (Pick.there (Pick.there (Pick.there Pick.here)))) | exact Pick.there (Pick.there (Pick.there (Pick.there (Pick.there (Pick.there Pick.here))))) | exact Pick.there (Pick.there (Pick.there (Pick.there (Pick.there (Pick.there (Pick.there Pick.here)))))))) | apply Weak.drop)) w s)
    · repeat' (first | (apply JO.ru; exact rfl; exact rfl; exact rfl; (first | (apply Ru.move; exact rfl) | (apply Ru.lenS; exact rfl))) | refine JC.seq ?_ | refine JC.region ?_ | refine JO.nil ?_ | refine JE.thenN ?_ | refine JC.skip ?_ | refine JC.condT rfl ?_ | refine JC.condF rfl ?_ | (apply JO.split; exact rfl; exact rfl; exact rfl; ((apply Ru.lss; exact rfl; exact rfl; exact rfl)); all_goals intro _))
      · rename_i wb hjt
        have hjt' : j < ts.length := by omega
        rcases hrv with h | ⟨bt, ot, rfl, hct⟩
        · rw [h] at hjt'; exact absurd hjt' (Nat.not_lt_zero _)
        obtain ⟨q, cq, hqc, hcell, hrq⟩ := hct j t (by rw [← ht, List.getD_eq_getElem?_getD, List.getElem?_eq_getElem hjt']; rfl)
        repeat' ((apply JO.ru; exact rfl; exact rfl; exact rfl; ((apply Ru.indexAddr; exact rfl; exact rfl; omega; omega))))
        (apply JO.ru; exact rfl; exact rfl; exact rfl; (apply Ru.loadAC (vs := [int t.kind, .slice q t.bytes.length cq]); exact rfl; exact rfl; exact fun w s => hcell w (Sat.drop (Sat.drop (Sat.drop s)))))
        repeat' (first | refine JO.nil ?_ | (apply JO.do0; exact rfl; exact rfl; (first | (apply Do.storeAN; exact rfl; exact rfl; (repeat (first | exact Pick.here | apply Pick.there)); exact rfl; exact rfl; exact rfl; exact rfl) | (apply Do.storeA; exact rfl; exact rfl; (repeat (first | exact Pick.here | apply Pick.there)); exact rfl; exact rfl; exact rfl)); rintro _ _ ⟨rfl, rfl⟩))
        exact JE.mid (wb, q, cq) hrq ⟨rfl, rfl, rfl, rfl, rfl, rfl, rfl, trivial⟩ (fun _ h => h)
      · rename_i wb hjt
        have hz : t = .zero := by rw [← ht, List.getD_eq_getElem?_getD, List.getElem?_eq_none (by omega)]; rfl
        subst hz
        exact JE.mid (wb, none, 0) RdS.nil ⟨rfl, rfl, rfl, rfl, rfl, rfl, rfl, trivial⟩ (fun _ h => h)
  · obtain rfl : j = D.keys.length := by omega
    refine JE.done0N rfl ?_
    exact ⟨diskHP d (D.crash ts) :: l, Sat.weak (by repeat (first | exact Weak.refl | (apply Weak.cons; (first | exact Pick.here | exact Pick.there Pick.here | exact Pick.there (Pick.there Pick.here) | exact Pick.there (Pick.there (Pick.there Pick.here)) | exact Pick.there (Pick.there (Pick.there (Pick.there Pick.here))) | exact Pick.there (Pick.there (Pick.there (Pick.there (Pick.there Pick.here)))) | exact Pick.there (Pick.there (Pick.there (Pick.there (Pick.there (Pick.there Pick.here))))) | exact Pick.there (Pick.there (Pick.there (Pick.there (Pick.there (Pick.there (Pick.there Pick.here)))))))) | apply Weak.drop)), rfl, rfl⟩
end Go.Sep
/- The statements' own small functions: two lists of bytes the same; a fresh disk. -/
namespace Go.Sep
open Go Go.Proofs
attribute [local irreducible] JO JC JE JA JQ JB JI Mid Inv Weak ownS Ru Do Fn Sat Pick Take arr pt star ex Holds bodyPost Post Exit.then Exit.inBlock Res
variable {σ : Sig} {F : List HP}
attribute [local irreducible] diskHP cacheHP planHP rowHP
theorem byte_inj {a b : UInt8} (h : (a.toNat : Int) = b.toNat) : a = b := UInt8.toNat_inj.1 (by omega)
set_option maxHeartbeats 1000000 in
theorem ref_Same (va vb : Value) (xs ys : List UInt8) (hx : xs.length ≤ 100000000) {l : List HP} (ha : RdS σ l va (xs.map byte)) (hb : RdS σ l vb (ys.map byte)) :
    Fn Tryz.prog σ 31 #[va, vb] l (fun v l' => v = .bool (decide (xs = ys)) ∧ l' = l) := by
  obtain ⟨pa, ca, rfl, hca, hra⟩ := ha
  obtain ⟨pb, cb, rfl, hcb, hrb⟩ := hb
  have hl : (xs.map byte).length = xs.length := by simp
  have hm : (ys.map byte).length = ys.length := by simp
  refine Fn.of Tryz.func31 rfl Tryz.ntmps31 rfl ?_
  repeat' (first | (apply JO.ru; exact rfl; exact rfl; exact rfl; (first | (apply Ru.move; exact rfl) | (apply Ru.assign; exact rfl) | (apply Ru.lenS; exact rfl))) | refine JC.seq ?_ | refine JC.region ?_ | refine JO.nil ?_ | refine JE.thenN ?_ | refine JE.thenR ?_ | refine JC.block ?_ | refine JC.ret ?_ | refine JC.skip ?_ | refine JC.condT rfl ?_ | refine JC.condF rfl ?_ | (apply JO.splitN; exact rfl; exact rfl; exact rfl; (apply Ru.neq; exact rfl; exact rfl; exact rfl); all_goals intro _) | (apply JE.done1; exact rfl; (first | (apply Res.tmp; exact rfl) | (apply Res.cell; exact rfl; (repeat (first | exact Pick.here | apply Pick.there)); exact rfl) | (apply Res.cellAN; exact rfl; (repeat (first | exact Pick.here | apply Pick.there)); exact rfl; exact rfl) | (apply Res.cellA; exact rfl; (repeat (first | exact Pick.here | apply Pick.there)); exact rfl; exact rfl))))
  · rename_i hne
    refine JC.loop (fun i : Nat => [(0, .slice pa (xs.map byte).length ca), (1, .slice pb (ys.map byte).length cb), (5, int i)]) (fun _ => l) (fun i => i ≤ xs.length ∧ xs.take i = ys.take i) (fun i => xs.length - i) 0 ⟨Nat.zero_le _, rfl⟩ ⟨rfl, rfl, rfl, trivial⟩ (fun _ h => h) ?_
    rintro i ⟨hi, hs⟩
    repeat' (first | (apply JO.ru; exact rfl; exact rfl; exact rfl; (first | (apply Ru.move; exact rfl) | (apply Ru.assign; exact rfl) | (apply Ru.lenS; exact rfl))) | refine JC.seq ?_ | refine JC.region ?_ | refine JO.nil ?_ | refine JE.thenN ?_ | refine JE.thenE ?_ | refine JE.blockE ?_ | refine JC.block ?_ | refine JC.ret ?_ | refine JC.skip ?_ | refine JC.exit ?_ | refine JC.condT rfl ?_ | refine JC.condF rfl ?_ | (apply JQ.ru; exact rfl; exact rfl; exact rfl; ((apply Ru.move; exact rfl))) | (apply JO.split; exact rfl; exact rfl; exact rfl; ((apply Ru.lss; exact rfl; exact rfl; exact rfl)); all_goals intro _) | refine JC.regionQ mixed (by decide +kernel) ?_ | (apply JE.done1; exact rfl; (first | (apply Res.tmp; exact rfl) | (apply Res.cell; exact rfl; (repeat (first | exact Pick.here | apply Pick.there)); exact rfl) | (apply Res.cellAN; exact rfl; (repeat (first | exact Pick.here | apply Pick.there)); exact rfl; exact rfl) | (apply Res.cellA; exact rfl; (repeat (first | exact Pick.here | apply Pick.there)); exact rfl; exact rfl))))
    · rename_i hlt
      have hlt' : i < xs.length := by omega
      have hlt2 : i < ys.length := by omega
      rcases hra with h0 | ⟨b1, o1, rfl, hc1⟩
      · rw [h0] at hl; simp at hl; omega
      rcases hrb with h0 | ⟨b2, o2, rfl, hc2⟩
      · rw [h0] at hm; simp at hm; omega
      have hsucc : ∀ (h : xs[i] = ys[i]), xs.take (i + 1) = ys.take (i + 1) := fun h => by
        rw [List.take_succ_eq_append_getElem hlt', List.take_succ_eq_append_getElem hlt2, hs, h]
      repeat' (first | (first | (apply JO.ru; exact rfl; exact rfl; exact rfl; (first | (apply Ru.move; exact rfl) | (apply Ru.assign; exact rfl) | (apply Ru.add; exact rfl; exact rfl; (first | exact wrapI (by omega) (by omega) | exact rfl)))) | refine JC.seq ?_ | refine JC.region ?_ | refine JO.nil ?_ | refine JE.thenN ?_ | refine JE.thenR ?_ | refine JE.blockN ?_ | refine JE.blockR ?_ | refine JC.ret ?_ | refine JC.skip ?_ | refine JC.condT rfl ?_ | refine JC.condF rfl ?_ | (apply JQ.ru; exact rfl; exact rfl; exact rfl; (first | (apply Ru.move; exact rfl) | (apply Ru.indexAddr; exact rfl; exact rfl; omega; omega))) | (apply JQ.splitN; exact rfl; exact rfl; exact rfl; (apply Ru.neq; exact rfl; exact rfl; exact rfl); all_goals intro _) | refine JQ.nil ?_ | (apply JE.done1; exact rfl; (first | (apply Res.tmp; exact rfl) | (apply Res.cell; exact rfl; (repeat (first | exact Pick.here | apply Pick.there)); exact rfl) | (apply Res.cellAN; exact rfl; (repeat (first | exact Pick.here | apply Pick.there)); exact rfl; exact rfl) | (apply Res.cellA; exact rfl; (repeat (first | exact Pick.here | apply Pick.there)); exact rfl; exact rfl)))) | (apply JQ.ru; exact rfl; exact rfl; exact rfl; (apply Ru.loadC; exact rfl; exact rd_cell hc1 hlt' (by omega))) | (apply JQ.ru; exact rfl; exact rfl; exact rfl; (apply Ru.loadC; exact rfl; exact rd_cell hc2 hlt2 (by omega))))
      · rename_i he
        refine JE.round (i + 1) ⟨by omega, hsucc (byte_inj he)⟩ (by omega) ⟨rfl, rfl, rfl, trivial⟩ (fun _ h => h)
      · rename_i he
        refine finS ?_
        refine ⟨?_, rfl⟩
        have : ¬ xs = ys := by rintro rfl; exact he rfl
        rw [decide_eq_false this]
    · rename_i hge
      refine finS ?_
      have : xs = ys := by
        have h1 : xs.take i = xs := List.take_of_length_le (by omega)
        have h2 : ys.take i = ys := List.take_of_length_le (by omega)
        rw [← h1, ← h2, hs]
      exact ⟨by rw [decide_eq_true this], rfl⟩
  · rename_i hne
    refine finS ?_
    have : ¬ xs = ys := by rintro rfl; exact hne rfl
    exact ⟨by rw [decide_eq_false this], rfl⟩
end Go.Sep
/- What arguments read as; a statement's last step, out of a contract. -/
namespace Go.Sep
open Go Go.Proofs Go.ChangeShapes Go.WideShapes Go.ChangeAt Go.RowKit
/-- How data lie in cells. -/
inductive Lay where
  | int (k : IntKind)
  | bool
  | slice (l : Lay)
  | nil
  | cons (h r : Lay)
def Lay.cells : Lay → Nat
  | .int _ => 1
  | .bool => 1
  | .slice _ => 1
  | .nil => 0
  | .cons h r => h.cells + r.cells
/-- A type lies so; fields from a place on do. -/
def Lay.is (P : Program) : Lay → Option TypeId → Nat → List Field → Prop
  | .int k, some t, _, _ => P.underlying t = some (.int k)
  | .bool, some t, _, _ => P.underlying t = some .bool
  | .slice l, some t, _, _ => ∃ e, P.underlying t = some (.slice e) ∧ P.cellsOf e = l.cells ∧ l.is P (some e) 0 []
  | .nil, none, _, fs => fs = []
  | .cons h r, none, o, fs => ∃ f fs', fs = f :: fs' ∧ f.offset = o ∧ P.cellsOf f.type = h.cells ∧ h.is P (some f.type) 0 [] ∧ r.is P none (o + h.cells) fs'
  | .cons h r, some t, _, _ => ∃ (fs : Array Field) (f : Field) (fs' : List Field), P.underlying t = some (.struct fs) ∧ fs.toList = f :: fs' ∧ f.offset = 0 ∧ P.cellsOf f.type = h.cells ∧ h.is P (some f.type) 0 [] ∧ r.is P none h.cells fs' ∧ P.cellsOf t = h.cells + r.cells
  | _, _, _, _ => False
section
variable {P : Program} {t e : TypeId} {l h r : Lay} {fs : Array Field} {f : Field} {fs' fs1 : List Field} {o o' : Nat}
theorem Lay.isI {k : IntKind} (h : P.underlying t = some (.int k)) : (Lay.int k).is P (some t) 0 [] := h
theorem Lay.isB (h : P.underlying t = some .bool) : Lay.bool.is P (some t) 0 [] := h
theorem Lay.isS (h : P.underlying t = some (.slice e)) (hc : P.cellsOf e = l.cells) (hl : l.is P (some e) 0 []) : (Lay.slice l).is P (some t) 0 [] := ⟨e, h, hc, hl⟩
theorem Lay.isN : Lay.nil.is P none o [] := rfl
theorem Lay.isF (ho : f.offset = o) (hc : P.cellsOf f.type = h.cells) (hh : h.is P (some f.type) 0 []) (e : o + h.cells = o') (hr : r.is P none o' fs') : (Lay.cons h r).is P none o (f :: fs') := ⟨f, fs', rfl, ho, hc, hh, e ▸ hr⟩
theorem Lay.isT (hu : P.underlying t = some (.struct fs)) (he : fs.toList = f :: fs') (ho : f.offset = 0) (hc : P.cellsOf f.type = h.cells) (hh : h.is P (some f.type) 0 []) (e : h.cells = o') (hr : r.is P none o' fs') (ht : P.cellsOf t = h.cells + r.cells) : (Lay.cons h r).is P (some t) 0 [] :=
  ⟨fs, f, fs', hu, he, ho, hc, hh, e ▸ hr, ht⟩
end
def Lay.rd (W : World) : Lay → List Value → Prop
  | .int k, cs => ∃ n, cs = [.int k n] ∧ (Lit.int k n).wf = true
  | .bool, cs => ∃ b, cs = [.bool b]
  | .slice l, cs => cs = [.slice none 0 0] ∨ ∃ a len cap, cs = [.slice (some a) len cap] ∧ len ≤ cap ∧ cap ≤ maxLen ∧ ∀ i, i < len → ∃ cs', W.cells? 0 (a.add (i * l.cells)) l.cells = some cs' ∧ l.rd W cs'
  | .nil, cs => cs = []
  | .cons h r, cs => ∃ c1 c2, cs = c1 ++ c2 ∧ c1.length = h.cells ∧ h.rd W c1 ∧ r.rd W c2
section
variable {H : Type} {enc : TypeId × Value → H} {P : Program} {W : World} {sp : Nat → Bool} {hd : Bool}
theorem Lay.of_trod : ∀ (l : Lay) (ot : Option TypeId) (o : Nat) (fs : List Field), l.is P ot o fs →
    (∀ t, ot = some t → ∀ n cs x, DataW.trod enc P W 0 sp hd n t cs = some x → l.rd W cs) ∧
    (ot = none → ∀ n (cs : List Value), (∀ f ∈ fs, ∃ x, DataW.trod enc P W 0 sp hd n f.type ((cs.drop f.offset).take (P.cellsOf f.type)) = some x) → o + l.cells ≤ cs.length → l.rd W ((cs.drop o).take l.cells))
  | .int k, some t, o, fs, h => by
    refine ⟨fun t' ht n cs x hx => ?_, fun h => by cases h⟩
    cases ht
    obtain ⟨m, h1, _, h3⟩ := DataW.trod_int h hx
    exact ⟨m, h1, h3⟩
  | .bool, some t, o, fs, h => by
    refine ⟨fun t' ht n cs x hx => ?_, fun h => by cases h⟩
    cases ht
    obtain ⟨m, h1, _⟩ := DataW.trod_bool h hx
    exact ⟨m, h1⟩
  | .slice l, some t, o, fs, h => by
    refine ⟨fun t' ht n cs x hx => ?_, fun h => by cases h⟩
    cases ht
    obtain ⟨e, he, hc, hl⟩ := h
    rcases DataW.trod_slice he hx with ⟨h0, _⟩ | ⟨a, len, cap, elems, rest, m, _, rfl, _, hb, h1, h2, h3, h4, _⟩
    · exact .inl h0
    · refine .inr ⟨a, len, cap, rfl, h1, h2, fun i hi => ?_⟩
      have := h4 i hi
      rw [List.getElem?_eq_getElem (by omega), hc] at this
      obtain ⟨cs', g1, g2⟩ := Option.bind_eq_some_iff.1 this
      exact ⟨cs', g1, (Lay.of_trod l (some e) 0 [] hl).1 e rfl _ _ _ g2⟩
  | .nil, none, o, fs, h => by
    refine ⟨fun t' ht => (by cases ht), fun _ n cs _ _ => ?_⟩
    show (cs.drop o).take 0 = []
    simp
  | .cons h r, none, o, fs, hi => by
    refine ⟨fun t' ht => (by cases ht), fun _ n cs hf hlen => ?_⟩
    obtain ⟨f, fs', rfl, h1, h2, h3, h4⟩ := hi
    obtain ⟨x, hx⟩ := hf f List.mem_cons_self
    rw [h1, h2] at hx
    simp only [Lay.cells] at hlen
    refine ⟨(cs.drop o).take h.cells, (cs.drop (o + h.cells)).take r.cells, ?_, by rw [List.length_take, List.length_drop]; omega, (Lay.of_trod h (some f.type) 0 [] h3).1 _ rfl _ _ _ hx, ?_⟩
    · show (cs.drop o).take (h.cells + r.cells) = _
      rw [List.take_add, List.drop_drop]
    · exact (Lay.of_trod r none (o + h.cells) fs' h4).2 rfl n cs (fun g hg => hf g (List.mem_cons_of_mem _ hg)) (by omega)
  | .cons h r, some t, o, fs, hi => by
    refine ⟨fun t' ht n cs x hx => ?_, fun h => by cases h⟩
    cases ht
    obtain ⟨fa, f, fs', hu, h0, h1, h2, h3, h4, h5⟩ := hi
    obtain ⟨xs, m, _, _, hl, hxl, hf⟩ := DataW.trod_struct hu hx
    have hsz : fa.size = fs'.length + 1 := by rw [← Array.length_toList, h0]; rfl
    have each : ∀ g ∈ f :: fs', ∃ x, DataW.trod enc P W 0 sp hd m g.type ((cs.drop g.offset).take (P.cellsOf g.type)) = some x := fun g hg => by
      obtain ⟨i, hi, rfl⟩ := List.getElem_of_mem hg
      have := hf i (f :: fs')[i] (by rw [← Array.getElem?_toList, h0, List.getElem?_eq_getElem hi])
      rw [List.getElem?_eq_getElem (by rw [hxl, hsz]; simpa using hi)] at this
      exact ⟨_, this⟩
    obtain ⟨x0, hx0⟩ := each f List.mem_cons_self
    rw [h1, h2] at hx0
    refine ⟨cs.take h.cells, cs.drop h.cells, (List.take_append_drop _ _).symm, by rw [List.length_take]; omega, (Lay.of_trod h (some f.type) 0 [] h3).1 _ rfl _ _ _ (by simpa using hx0), ?_⟩
    have := (Lay.of_trod r none h.cells fs' h4).2 rfl m cs (fun g hg => each g (List.mem_cons_of_mem _ hg)) (by omega)
    rwa [List.take_of_length_le (by rw [List.length_drop]; omega)] at this
  | .int _, none, _, _, h => h.elim
  | .bool, none, _, _, h => h.elim
  | .slice _, none, _, _, h => h.elim
  | .nil, some _, _, _, h => h.elim
theorem Lay.of_Trod {l : Lay} {t : TypeId} (hl : l.is P (some t) 0 []) {v : Value} {d : DataW H} {ps : List MemPlace} (h : DataW.Trod enc P W 0 sp hd t v d ps) : l.rd W v.cells.toList :=
  let ⟨n, hn⟩ := h
  (Lay.of_trod l (some t) 0 [] hl).1 t rfl n _ _ hn
end

/-! ### Bytes -/
theorem choose_list {α : Type} {p : Nat → α → Prop} : ∀ (n : Nat), (∀ i, i < n → ∃ x, p i x) → ∃ l : List α, l.length = n ∧ ∀ i x, l[i]? = some x → p i x
  | 0, _ => ⟨[], rfl, fun i x h => by cases h⟩
  | n + 1, h => by
    obtain ⟨l, hl, hp⟩ := choose_list n fun i hi => h i (by omega)
    obtain ⟨x, hx⟩ := h n (by omega)
    refine ⟨l ++ [x], by simp [hl], fun i y hy => ?_⟩
    by_cases hi : i < l.length
    · rw [List.getElem?_append_left hi] at hy; exact hp i y hy
    · rw [List.getElem?_append_right (by omega)] at hy
      have h0 : i - l.length = 0 := by
        rcases Nat.eq_zero_or_pos (i - l.length) with q | q
        · exact q
        · rw [List.getElem?_eq_none (by simp; omega)] at hy; cases hy
      rw [h0] at hy
      obtain rfl : x = y := by simpa using hy
      have : i = n := by omega
      rw [this]; exact hx
/-- The slice v holds these bytes in the world W. -/
def RdC (W : World) (v : Value) (bs : List UInt8) : Prop :=
  ∃ p cap, v = .slice p bs.length cap ∧ bs.length ≤ cap ∧ (bs = [] ∨ ∃ b o, p = some ⟨b, o, none⟩ ∧ ∀ i u, (bs.map byte)[i]? = some u → W.cell? ⟨b, o + i, none⟩ = some u)
theorem byte_of {n : Int} (h : (Lit.int .u8 n).wf = true) : ∃ x : UInt8, Value.int .u8 n = byte x := by
  have := bounds_u8 h
  refine ⟨UInt8.ofNat n.toNat, ?_⟩
  simp only [byte]
  congr 1
  rw [UInt8.toNat_ofNat']
  omega
theorem cells_one {W : World} {a : Addr} {cs : List Value} (h : W.cells? 0 a 1 = some cs) : ∃ v, cs = [v] ∧ W.cell? a = some v := by
  obtain ⟨_, hlen, _⟩ := World.cells?_some h
  match cs, hlen with
  | [v], _ => exact ⟨v, rfl, cell_of_cells?_one h⟩
theorem rd_bytes {W : World} {v : Value} (h : (Lay.slice (.int .u8)).rd W [v]) : ∃ bs, RdC W v bs := by
  rcases h with h | ⟨a, len, cap, h, h1, _, h3⟩
  · obtain rfl : v = .slice none 0 0 := by simpa using h
    exact ⟨[], none, 0, rfl, Nat.le_refl _, .inl rfl⟩
  · obtain rfl : v = .slice (some a) len cap := by simpa using h
    obtain ⟨bs, hl, hb⟩ := choose_list (p := fun i (x : UInt8) => W.cell? (a.add i) = some (byte x)) len fun i hi => by
      obtain ⟨cs', g1, n, rfl, g2⟩ := h3 i hi
      obtain ⟨x, hx⟩ := byte_of g2
      obtain ⟨u, hu, g3⟩ := cells_one g1
      refine ⟨x, ?_⟩
      have e : i * (Lay.int .u8).cells = i := by simp [Lay.cells]
      rw [e] at g3
      rw [g3, ← hx]
      simpa using hu.symm
    subst hl
    refine ⟨bs, some a, cap, rfl, h1, ?_⟩
    cases bs with
    | nil => exact .inl rfl
    | cons x r =>
      right
      have h0 := hb 0 x rfl
      have hs := World.cell?_spot h0
      obtain ⟨b, o, s⟩ := a
      have hs' : s = none := hs
      subst hs'
      refine ⟨b, o, rfl, fun i u hu => ?_⟩
      rw [List.getElem?_map] at hu
      obtain ⟨y, hy, rfl⟩ := Option.map_eq_some_iff.1 hu
      have := hb i y hy
      have e : Addr.add ⟨b, o, none⟩ i = ⟨b, o + i, none⟩ := by simp [Addr.add]
      rwa [e] at this

/-! ### The memory that was there -/
/-- All that the world W has. -/
def memHP (W : World) : HP := fun h => ∀ b o, W.heap[b]? = some o → h b = some o
theorem mem_heap {σ : Sig} {W w : World} {l : List HP} (s : Sat σ w (memHP W :: l)) {b : Nat} {o : Obj} (h : W.heap[b]? = some o) : w.heap[b]? = some o := by
  obtain ⟨_, h1, h2, a, _, _, d, _⟩ := s
  exact a b o (d b o h)
theorem mem_cell {σ : Sig} {W w : World} {l : List HP} (s : Sat σ w (memHP W :: l)) {a : Addr} {v : Value} (h : W.cell? a = some v) : w.cell? a = some v := by
  unfold World.cell? at h ⊢
  split at h
  · rename_i c t f hb
    rw [mem_heap s hb]; exact h
  · cases h
theorem mem_start (W : World) : Sat (sigOf W) W [memHP W] :=
  ⟨rfl, heapOf W, fun _ => none, sub_refl _, fun _ _ e => (by cases e), fun _ => .inr rfl, fun _ _ h => h, trivial⟩
theorem mem_below {W w : World} {l : List HP} (s : Sat (sigOf W) w (memHP W :: l)) : Below W.heap.size W w := by
  have hs := s.1
  have e1 : w.os = W.os := congrArg Sig.os hs
  have e2 : w.tape = W.tape := congrArg Sig.tape hs
  have e3 : w.output = W.output := congrArg Sig.output hs
  have hb : ∀ k, k < W.heap.size → w.heap[k]? = W.heap[k]? := fun k hk => by
    have h1 := Array.getElem?_eq_getElem hk
    rw [h1]; exact mem_heap s h1
  refine ⟨e1, e2, e3, ?_, hb⟩
  rcases Nat.eq_zero_or_pos W.heap.size with q | q
  · omega
  · have h1 := mem_heap s (Array.getElem?_eq_getElem (show W.heap.size - 1 < W.heap.size by omega))
    obtain ⟨h2, _⟩ := Array.getElem?_eq_some_iff.1 h1
    exact Nat.le_of_pred_lt h2
theorem RdS.ofC {σ : Sig} {W : World} {v : Value} {bs : List UInt8} (h : RdC W v bs) : RdS σ [memHP W] v (bs.map byte) := by
  obtain ⟨p, cap, rfl, h1, h2⟩ := h
  have hl : (bs.map byte).length = bs.length := by simp
  refine ⟨p, cap, by rw [hl], by rw [hl]; exact h1, ?_⟩
  rcases h2 with rfl | ⟨b, o, rfl, h2⟩
  · exact .inl rfl
  · exact .inr ⟨b, o, rfl, fun w s i u hu => mem_cell s (h2 i u hu)⟩

theorem mem_arr {W : World} {b T : Nat} {cs : Array Value} {vs : List Value} (h : W.heap[b]? = some (.cells cs T (0, 0))) (hv : cs.toList = vs) : Weak [memHP W] [arr b T vs] := fun g ⟨h1, _, a, _, _, d, _⟩ =>
  ⟨g, fun _ => none, sub_refl _, fun _ _ e => (by cases e), fun _ => .inr rfl, ⟨0, 0, by rw [← hv]; exact a b _ (d b _ h), .inl rfl⟩, trivial⟩
/-! ### A table of whole numbers -/
section
variable {H : Type} {enc : TypeId × Value → H} {P : Program} {W : World} {sp : Nat → Bool} {hd : Bool}
theorem trod_ints {t e : TypeId} {k : IntKind} {n : Nat} {m : Nat} {cs : List Value} {ns : List Int} {ps : List MemPlace} (ht : P.underlying t = some (.array n e)) (he : P.underlying e = some (.int k)) (hc : P.cellsOf e = 1) (hct : P.cellsOf t = n)
    (h : DataW.trod enc P W 0 sp hd m t cs = some (.agg (ns.map fun z => .lit (.int k z)), ps)) : cs = ns.map (Value.int k) := by
  obtain ⟨xs, m', _, hx, hl, hxl, hf⟩ := DataW.trod_array ht h
  have hns : ns.map (fun z => (DataW.lit (.int k z) : DataW H)) = xs.map (·.1) := by simpa using congrArg Prod.fst hx
  have hnl : ns.length = n := by
    have := congrArg List.length hns
    simp at this; omega
  apply List.ext_getElem
  · simp; omega
  · intro i h1 h2
    have hi : i < n := by omega
    have hfi := hf i hi
    rw [hc, Nat.mul_one, List.getElem?_eq_getElem (by omega)] at hfi
    obtain ⟨z, hz, hz2, _⟩ := DataW.trod_int he hfi
    have hd0 : (cs.drop i).take 1 = [cs[i]] := by rw [List.drop_eq_getElem_cons h1]; rfl
    rw [hd0] at hz
    have hz3 : cs[i] = .int k z := by simpa using hz
    have hz4 : (ns.map (fun z => (DataW.lit (.int k z) : DataW H)))[i]'(by simp; omega) = (xs.map (·.1))[i]'(by simp; omega) := by simp only [hns]
    simp only [List.getElem_map] at hz4
    rw [hz2] at hz4
    simp only [DataW.lit.injEq, Lit.int.injEq, true_and] at hz4
    rw [hz3, List.getElem_map, hz4]
theorem trod_ints2 {t e d : TypeId} {k : IntKind} {n q : Nat} {m : Nat} {cs : List Value} {nss : List (List Int)} {ps : List MemPlace} (ht : P.underlying t = some (.array n e)) (he : P.underlying e = some (.array q d)) (hd' : P.underlying d = some (.int k)) (hc : P.cellsOf d = 1) (hce : P.cellsOf e = q) (hct : P.cellsOf t = n * q)
    (h : DataW.trod enc P W 0 sp hd m t cs = some (.agg (nss.map fun ns => .agg (ns.map fun z => .lit (.int k z))), ps)) : cs = nss.flatten.map (Value.int k) := by
  obtain ⟨xs, m', _, hx, hl, hxl, hf⟩ := DataW.trod_array ht h
  have hns : nss.map (fun ns => (DataW.agg (ns.map fun z => .lit (.int k z)) : DataW H)) = xs.map (·.1) := by simpa using congrArg Prod.fst hx
  have hnl : nss.length = n := by
    have := congrArg List.length hns
    simp at this; omega
  have row : ∀ i (hi : i < n), (cs.drop (i * q)).take q = (nss[i]'(by omega)).map (Value.int k) := fun i hi => by
    have hfi := hf i hi
    rw [hce, List.getElem?_eq_getElem (by omega)] at hfi
    have hz4 : (nss.map (fun ns => (DataW.agg (ns.map fun z => .lit (.int k z)) : DataW H)))[i]'(by simp; omega) = (xs.map (·.1))[i]'(by simp; omega) := by simp only [hns]
    simp only [List.getElem_map] at hz4
    have : xs[i] = (.agg ((nss[i]'(by omega)).map fun z => .lit (.int k z)), xs[i].2) := Prod.ext hz4.symm rfl
    rw [this] at hfi
    exact trod_ints he hd' hc hce hfi
  have key : ∀ j, j ≤ n → cs.take (j * q) = (nss.take j).flatten.map (Value.int k) := by
    intro j
    induction j with
    | zero => intro _; simp
    | succ j ih =>
      intro hj
      rw [Nat.succ_mul, List.take_add, ih (by omega), row j (by omega), List.take_succ_eq_append_getElem (by omega), List.flatten_append, List.map_append]
      simp only [List.flatten_cons, List.flatten_nil, List.append_nil]
  have := key n (Nat.le_refl _)
  rwa [List.take_of_length_le (by omega), List.take_of_length_le (by omega)] at this
end
end Go.Sep
/- A statement's post-condition, where nothing that was there has turned; the table of the kinds, as the door lays it. -/
namespace Go.Sep
open Go Go.Proofs Go.ChangeShapes Go.WideShapes Go.ChangeAt Go.RowKit Go.WideElems
section
variable {H : Type} {enc : TypeId × Value → H} {P : Program}
theorem trodAll_stays (hlo : laidOutB P = true) {W W' : World} {sp' : Nat → Bool} : ∀ {ts : List TypeId} {vs : List Value} {ds : List (DataW H)} {ps : List MemPlace},
    (∀ t ∈ ts, P.readableRec t = true ∧ t < P.types.size) → DataW.TrodAll enc P W 0 (fun _ => true) true ts vs ds ps → (∀ p ∈ ps, W.sameAt W' p) → (∀ p ∈ ps, sp' p.block = true) → DataW.TrodAll enc P W' 0 sp' true ts vs ds ps
  | [], [], [], ps, _, h, _, _ => h
  | t :: ts, v :: vs, d :: ds, ps, ht, ⟨p, q, h1, h2, e⟩, hs, hb => by
    subst e
    have h0 := ht t List.mem_cons_self
    exact ⟨p, q, Trod_stays hlo h0.1 h0.2 h1 (fun x hx => hs x (List.mem_append_left _ hx)) (fun x hx => hb x (List.mem_append_left _ hx)),
      trodAll_stays hlo (fun u hu => ht u (List.mem_cons_of_mem _ hu)) h2 (fun x hx => hs x (List.mem_append_right _ hx)) (fun x hx => hb x (List.mem_append_right _ hx)), rfl⟩
  | [], [], _ :: _, _, _, h, _, _ => h.elim
  | [], _ :: _, _, _, _, h, _, _ => h.elim
  | _ :: _, [], _, _, _, h, _, _ => h.elim
  | _ :: _, _ :: _, [], _, _, h, _, _ => h.elim
theorem trodAll_len {W : World} {b : Nat} {sp : Nat → Bool} {hd : Bool} : ∀ {ts : List TypeId} {vs : List Value} {ds : List (DataW H)} {ps : List MemPlace}, DataW.TrodAll enc P W b sp hd ts vs ds ps → ds.length = ts.length ∧ vs.length = ts.length
  | [], [], [], _, _ => ⟨rfl, rfl⟩
  | _ :: _, _ :: _, _ :: _, _, ⟨_, _, _, h2, _⟩ => by have := trodAll_len h2; exact ⟨congrArg (· + 1) this.1, congrArg (· + 1) this.2⟩
  | [], [], _ :: _, _, h => h.elim
  | [], _ :: _, _, _, h => h.elim
  | _ :: _, [], _, _, h => h.elim
  | _ :: _, _ :: _, [], _, h => h.elim
theorem post_true (hlo : laidOutB P = true) {f : Func} {s : ChangeSpec} {apart fresh handsOn : Bool} {W W' : World} {args : Array Value} {ds : List (DataW H)} {before : List MemPlace} {tb : TypeId}
    (hW : DataW.Whole enc P f.params.toList s.vars apart W args.toList ds [] before) (hvars : s.vars = []) (hfn : (s.fn H ds).results = [.lit (.bool true)] ∧ (s.fn H ds).args = ds ∧ (s.fn H ds).vars = []) (hres : f.resultTypes = #[tb]) (htb : P.underlying tb = some .bool)
    (ht : ∀ t ∈ f.params.toList, P.readableRec t = true ∧ t < P.types.size) (hb : Below W.heap.size W W') : s.post enc P f apart fresh handsOn false W args (.bool true) W' := by
  have hlt := hW.lt
  obtain ⟨p, q, hA, hV, hpq, _⟩ := id hW
  rw [hvars] at hV
  have hq : q = [] := hV
  subst hq
  rw [List.append_nil] at hpq
  subst hpq
  have hfn1 : (s.fn H (ds ++ [])).results = [.lit (.bool true)] := by rw [List.append_nil]; exact hfn.1
  have hfn2 : (s.fn H (ds ++ [])).args = ds := by rw [List.append_nil]; exact hfn.2.1
  have hfn3 : (s.fn H (ds ++ [])).vars = [] := by rw [List.append_nil]; exact hfn.2.2
  refine ⟨ds, [], before, [], before, [], hW, ?_, ?_, ?_, World.keptBut_mono (fun x hx => ⟨hx, .inr (.inl hx)⟩) (hb.frame (· ∈ before)), fun h => by cases h⟩
  · rw [hfn1, hres]
    exact trodAll_mk1 ⟨1, by simp [DataW.trod, Value.cells, htb]⟩
  · rw [hfn2]
    exact trodAll_stays hlo ht hA (fun x hx => hb.same (hlt x hx)) (fun x hx => by simpa using hlt x hx)
  · rw [hfn3, hvars]; rfl
end
section
variable {H : Type} {enc : TypeId × Value → H} {P : Program} {W : World} {base : Nat} {t : TypeId} {v : Value} {d : DataW H} {ps : List MemPlace}
theorem arg_one (ht : (∃ k, P.underlying t = some (.int k)) ∨ P.underlying t = some .bool ∨ ∃ e, P.underlying t = some (.slice e)) (hok : Value.okWide P W .any base t v) : v.cells = #[v] := by
  cases v with
  | agg cs =>
    exfalso
    rcases ht with ⟨k, ht⟩ | ht | ⟨e, ht⟩ <;> simp [Value.okWide, Cell.okWide, Cell.ok, ht] at hok
  | _ => rfl
theorem arg_int {k : IntKind} (ht : P.underlying t = some (.int k)) (hok : Value.okWide P W .any base t v) (h : DataW.Trod enc P W 0 (fun _ => true) true t v d ps) : ∃ n, v = .int k n ∧ (Lit.int k n).wf = true := by
  obtain ⟨n, h1, h2⟩ := Lay.of_Trod (l := .int k) ht h
  refine ⟨n, ?_, h2⟩
  rw [arg_one (by simp [ht]) hok] at h1
  simpa using h1
theorem arg_bool (ht : P.underlying t = some .bool) (hok : Value.okWide P W .any base t v) (h : DataW.Trod enc P W 0 (fun _ => true) true t v d ps) : ∃ b, v = .bool b := by
  obtain ⟨n, h1⟩ := Lay.of_Trod (l := .bool) ht h
  refine ⟨n, ?_⟩
  rw [arg_one (by simp [ht]) hok] at h1
  simpa using h1
theorem arg_slice {e : TypeId} {l : Lay} (ht : P.underlying t = some (.slice e)) (hc : P.cellsOf e = l.cells) (hl : l.is P (some e) 0 []) (hok : Value.okWide P W .any base t v) (h : DataW.Trod enc P W 0 (fun _ => true) true t v d ps) : (Lay.slice l).rd W [v] := by
  have h1 := Lay.of_Trod (l := .slice l) ⟨e, ht, hc, hl⟩ h
  rw [arg_one (by simp [ht]) hok] at h1
  exact h1
theorem arg_struct {fs : Array Field} {l : Lay} (ht : P.underlying t = some (.struct fs)) (hl : l.is P (some t) 0 []) (hok : Value.okWide P W .any base t v) (h : DataW.Trod enc P W 0 (fun _ => true) true t v d ps) : ∃ cs : List Value, v = .agg cs.toArray ∧ l.rd W cs := by
  have h1 := Lay.of_Trod hl h
  unfold Value.okWide at hok
  rw [ht] at hok
  obtain ⟨cs, rfl, _⟩ := hok
  exact ⟨cs.toList, rfl, h1⟩
theorem arg_bytes {e : TypeId} (ht : P.underlying t = some (.slice e)) (he : P.underlying e = some (.int .u8)) (hc : P.cellsOf e = 1) (hok : Value.okWide P W .any base t v) (h : DataW.Trod enc P W 0 (fun _ => true) true t v d ps) : ∃ bs, RdC W v bs :=
  rd_bytes (arg_slice (l := .int .u8) ht hc he hok h)
theorem rd_cons {h r : Lay} {cs : List Value} (x : (Lay.cons h r).rd W cs) : ∃ c1 c2, cs = c1 ++ c2 ∧ h.rd W c1 ∧ r.rd W c2 := let ⟨c1, c2, e, _, a, b⟩ := x; ⟨c1, c2, e, a, b⟩
end
abbrev layGeo : Lay := .cons (.int .i64) (.cons (.int .i64) (.cons (.int .i64) .nil))
theorem rd_geo {W : World} {cs : List Value} (h : layGeo.rd W cs) : ∃ e f s : Int, cs = [int e, int f, int s] := by
  obtain ⟨_, _, rfl, ⟨e, rfl, _⟩, h1⟩ := rd_cons h
  obtain ⟨_, _, rfl, ⟨f, rfl, _⟩, h2⟩ := rd_cons h1
  obtain ⟨_, _, rfl, ⟨s, rfl, _⟩, h3⟩ := rd_cons h2
  obtain rfl : _ = [] := h3
  exact ⟨e, f, s, rfl⟩
set_option maxRecDepth 100000 in
theorem geo_is : layGeo.is Tryz.prog (some 23) 0 [] :=
  Lay.isT Tryz.underlying23 rfl rfl (by kernel_rfl) (Lay.isI Tryz.underlying3) rfl (Lay.isF rfl (by kernel_rfl) (Lay.isI Tryz.underlying3) rfl (Lay.isF rfl (by kernel_rfl) (Lay.isI Tryz.underlying3) rfl Lay.isN)) (by kernel_rfl)
set_option maxRecDepth 100000 in
theorem arg_geo {H : Type} {enc : TypeId × Value → H} {W : World} {base : Nat} {v : Value} {d : DataW H} {ps : List MemPlace} (hok : Value.okWide Tryz.prog W .any base 23 v) (h : DataW.Trod enc Tryz.prog W 0 (fun _ => true) true 23 v d ps) : ∃ e f s : Int, v = geoV e f s := by
  have h0 := arg_struct (l := layGeo) Tryz.underlying23 geo_is hok h
  obtain ⟨cs, hv, h1⟩ := h0
  obtain ⟨e, f, s, hcs⟩ := rd_geo h1
  exact ⟨e, f, s, by rw [hv, hcs]⟩
/-- The table, as the door lays it, is there to be read. -/
def rowsT : List (List Int) := [[0, 0, 0, 0], [7, 3, 1, 0], [8, 3, 1, 0], [9, 4, 1, 1], [10, 4, 1, 2], [11, 4, 1, 3], [12, 5, 2, 0], [13, 5, 2, 0], [14, 6, 2, 0], [15, 6, 2, 0], [16, 7, 2, 0]]
theorem gRows : Tryz.prog.globalNamed "keepsake/geo.rows" = some 1 := by kernel_rfl
theorem inG_mem {W : World} (h : laidMetH Tryz.prog [("keepsake/geo.rows", YtbpilaghemkdjaaGreatDoor.Rows.laid_keepsake_geo_rows)] W) : InG [memHP W] := by
  rw [MakeChecks.laidMetH_plain _ _ _ (by kernel_rfl)] at h
  obtain ⟨ps, ⟨g0, t0, cs0, f0, p0, q0, hg0, ht0, hv0, hd0, _, hps⟩, _, hcell⟩ := h
  obtain rfl := Option.some.inj (gRows.symm.trans hg0)
  have tR : (Tryz.prog.globals[1]?).map (·.type) = some 184 := by kernel_rfl
  obtain rfl := Option.some.inj (tR.symm.trans ht0)
  have hcs := trod_ints2 (nss := rowsT) Tryz.underlying184 Tryz.underlying167 Tryz.underlying3 (by kernel_rfl) (by kernel_rfl) (by kernel_rfl) hd0
  have hl : cs0.size = 44 := by rw [← Array.length_toList, hcs]; rfl
  obtain ⟨⟨c, t, hc⟩, _⟩ := hcell 1 0 (by rw [hps, hl]; exact List.mem_append_left _ (List.mem_append_left _ (List.mem_map.2 ⟨0, by simp, rfl⟩)))
  have hv := hv0
  unfold World.var? at hv
  rw [gRows, Option.bind_some, hc] at hv
  obtain rfl : c = cs0 := by simpa using hv
  exact ⟨t, [], mem_arr hc hcs⟩
end Go.Sep
