/- crc: each step's number, as the program reckons it. -/
import Derived.Test.YtbpilaghemkdjaaDoorGeo4
namespace Go.Sep
open Go Go.Proofs
attribute [local irreducible] JO JC JE JA JQ JB JI Mid Inv Weak ownS Ru Do Fn Sat Pick Take arr pt star ex Holds bodyPost Post Exit.then Exit.inBlock Res
variable {σ : Sig} {F : List HP}
abbrev u8 (n : Int) : Value := .int .u8 n
abbrev u32 (n : Int) : Value := .int .u32 n
abbrev u64 (n : Int) : Value := .int .u64 n
abbrev byte (x : UInt8) : Value := .int .u8 (x.toNat : Int)

def timesI (a : Int) : Int := bits .xor .u32 (a.fdiv (2 ^ min (1 : Int).toNat IntKind.u32.bits)) (bits .and .u32 3988292384 (IntKind.u32.wrap (0 - bits .and .u32 a 1)))
theorem crc_times (a : Int) : Fn Tryd.prog σ 64 #[u32 a] F (fun v l => v = u32 (timesI a) ∧ l = F) := by
  refine Fn.of Tryd.func64 rfl Tryd.ntmps64 rfl ?_
  repeat' (first | (apply JO.ru; exact rfl; exact rfl; exact rfl; (first | (apply Ru.move; exact rfl) | (apply Ru.assign; exact rfl) | (apply Ru.and; exact rfl; exact rfl) | (apply Ru.xor; exact rfl; exact rfl) | (apply Ru.shr; exact rfl; exact rfl; decide; exact rfl) | (apply Ru.neg; exact rfl; exact rfl))) | refine JC.seq ?_ | refine JC.region ?_ | refine JO.nil ?_ | refine JE.thenN ?_ | refine JC.ret ?_ | (apply JE.done1; exact rfl; (first | (apply Res.tmp; exact rfl) | (apply Res.cell; exact rfl; (repeat (first | exact Pick.here | apply Pick.there)); exact rfl) | (apply Res.cellAN; exact rfl; (repeat (first | exact Pick.here | apply Pick.there)); exact rfl; exact rfl) | (apply Res.cellA; exact rfl; (repeat (first | exact Pick.here | apply Pick.there)); exact rfl; exact rfl))))
  refine finS ?_; exact ⟨rfl, rfl⟩

theorem rd_cell {l : List HP} {bs : List UInt8} {b o : Nat} (hc : ∀ w, Sat σ w l → ∀ i u, (bs.map byte)[i]? = some u → w.cell? ⟨b, o + i, none⟩ = some u) {i : Nat} (hi : i < bs.length) {k : Int} (hk : k.toNat = i) :
    ∀ w, Sat σ w l → w.cell? ⟨b, o + k.toNat * 1, none⟩ = some (byte bs[i]) := by
  intro w s
  have := hc w s i (byte bs[i]) (by rw [List.getElem?_map, List.getElem?_eq_getElem hi]; rfl)
  rw [hk, Nat.mul_one]; exact this

def timesN : Nat → Int → Int
  | 0, a => a
  | n + 1, a => timesI (timesN n a)
def crcStep (a : Int) (x : UInt8) : Int := timesN 8 (bits .xor .u32 a (IntKind.u32.wrap (x.toNat : Int)))
def comI (a : Int) : Int := bits .xor .u32 (if IntKind.u32.signed then -1 else IntKind.u32.max) a
def crcMore (s : Int) (l : List UInt8) : Int := comI (l.foldl crcStep (comI s))

set_option maxHeartbeats 1000000 in
theorem crc_More (s : Int) (v : Value) (bs : List UInt8) (hlen : bs.length ≤ 1000000000000000000) {l : List HP} (hb : RdS σ l v (bs.map byte)) : Fn Tryd.prog σ 55 #[u32 s, v] l (fun v l' => v = u32 (crcMore s bs) ∧ l' = l) := by
  obtain ⟨p, cap, rfl, hcap, hr⟩ := hb
  refine Fn.of Tryd.func55 rfl Tryd.ntmps55 rfl ?_
  repeat' (first | (apply JO.ru; exact rfl; exact rfl; exact rfl; (first | (apply Ru.move; exact rfl) | (apply Ru.assign; exact rfl) | (apply Ru.lenS; exact rfl) | (apply Ru.com; exact rfl; exact rfl))) | refine JC.seq ?_ | refine JC.region ?_ | refine JO.nil ?_ | refine JE.thenN ?_ | refine JC.block ?_)
  refine JC.loop (fun i : Nat => [(0, u32 ((bs.take i).foldl crcStep (comI s))), (9, .slice p (bs.map byte).length cap), (10, int (bs.map byte).length), (11, int i)]) (fun _ => l) (fun i => i ≤ bs.length) (fun i => bs.length - i) 0 (Nat.zero_le _) ⟨rfl, rfl, rfl, rfl, trivial⟩ (fun _ h => h) ?_
  intro i hi
  have hl : (bs.map byte).length = bs.length := by simp
  repeat' (first | (apply JO.ru; exact rfl; exact rfl; exact rfl; (first | (apply Ru.move; exact rfl) | (apply Ru.assign; exact rfl) | (apply Ru.com; exact rfl; exact rfl))) | refine JC.seq ?_ | refine JC.region ?_ | refine JO.nil ?_ | refine JE.thenN ?_ | refine JE.thenE ?_ | refine JE.blockE ?_ | refine JC.block ?_ | refine JC.ret ?_ | refine JC.skip ?_ | refine JC.exit ?_ | refine JC.condT rfl ?_ | refine JC.condF rfl ?_ | (apply JO.split; exact rfl; exact rfl; exact rfl; ((apply Ru.lss; exact rfl; exact rfl; exact rfl)); all_goals intro _) | (apply JE.done1; exact rfl; (first | (apply Res.tmp; exact rfl) | (apply Res.cell; exact rfl; (repeat (first | exact Pick.here | apply Pick.there)); exact rfl) | (apply Res.cellAN; exact rfl; (repeat (first | exact Pick.here | apply Pick.there)); exact rfl; exact rfl) | (apply Res.cellA; exact rfl; (repeat (first | exact Pick.here | apply Pick.there)); exact rfl; exact rfl))))
  · rename_i hlt
    have hlt' : i < bs.length := by omega
    rcases hr with h0 | ⟨b, o, rfl, hc⟩
    · rw [h0] at hlt; simp at hlt; omega
    repeat' ((apply JO.ru; exact rfl; exact rfl; exact rfl; ((apply Ru.indexAddr; exact rfl; exact rfl; omega; omega))))
    (apply JO.ru; exact rfl; exact rfl; exact rfl; (apply Ru.loadC; exact rfl; exact rd_cell hc hlt' (by omega)))
    repeat' (first | (apply JO.ru; exact rfl; exact rfl; exact rfl; (first | (apply Ru.move; exact rfl) | (apply Ru.assign; exact rfl) | (apply Ru.xor; exact rfl; exact rfl) | (apply Ru.conv; exact rfl; exact rfl))) | refine JC.seq ?_ | refine JC.region ?_ | refine JO.nil ?_ | refine JE.thenN ?_ | refine JC.block ?_)
    refine JC.loop (fun j : Nat => [(0, u32 (timesN j (bits .xor .u32 ((bs.take i).foldl crcStep (comI s)) (IntKind.u32.wrap (bs[i].toNat : Int))))), (19, int j), (9, .slice (some ⟨b, o, none⟩) (bs.map byte).length cap), (10, int (bs.map byte).length), (11, int i)]) (fun _ => l) (fun j => j ≤ 8) (fun j => 8 - j) 0 (Nat.zero_le _) ⟨rfl, rfl, rfl, rfl, rfl, trivial⟩ (fun _ h => h) ?_
    intro j hj
    repeat' (first | (first | (apply JO.ru; exact rfl; exact rfl; exact rfl; (first | (apply Ru.move; exact rfl) | (apply Ru.assign; exact rfl) | (apply Ru.add; exact rfl; exact rfl; (first | exact wrapI (by omega) (by omega) | exact rfl)))) | refine JC.seq ?_ | refine JC.region ?_ | refine JO.nil ?_ | refine JE.thenN ?_ | refine JE.thenE ?_ | refine JE.blockN ?_ | refine JE.blockE ?_ | refine JC.block ?_ | refine JC.skip ?_ | refine JC.exit ?_ | refine JC.condT rfl ?_ | refine JC.condF rfl ?_ | (apply JO.split; exact rfl; exact rfl; exact rfl; ((apply Ru.lss; exact rfl; exact rfl; exact rfl)); all_goals intro _)) | (first | (apply JO.do; exact rfl; exact rfl; exact rfl; (apply Do.call; exact rfl; exact crc_times _); rintro _ _ ⟨rfl, hq⟩; obtain rfl := hq.symm) | (apply JQ.call; exact rfl; exact rfl; exact rfl; exact crc_times _; (rintro _ _ ⟨rfl, rfl⟩; exact ⟨rfl, rfl⟩))))
    · refine JE.round (j + 1) (by omega) (by omega) ⟨rfl, ?_, rfl, rfl, rfl, trivial⟩ (fun _ h => h)
      rfl
    · obtain rfl : j = 8 := by omega
      refine JE.round (i + 1) (by omega) (by omega) ⟨?_, rfl, rfl, rfl, trivial⟩ (fun _ h => h)
      show some _ = some (u32 _)
      rw [List.take_succ_eq_append_getElem hlt', List.foldl_append]
      rfl
  · obtain rfl : i = bs.length := by omega
    refine finS ?_
    exact ⟨by rw [List.take_length]; rfl, rfl⟩

def crcSum (bs : List UInt8) : Int := crcMore 0 bs
theorem crc_Sum (v : Value) (bs : List UInt8) (hlen : bs.length ≤ 1000000000000000000) {l : List HP} (hb : RdS σ l v (bs.map byte)) : Fn Tryd.prog σ 31 #[v] l (fun v l' => v = u32 (crcSum bs) ∧ l' = l) := by
  refine Fn.of Tryd.func31 rfl Tryd.ntmps31 rfl ?_
  repeat' (first | (first | (apply JO.ru; exact rfl; exact rfl; exact rfl; (first | (apply Ru.move; exact rfl) | (apply Ru.assign; exact rfl))) | refine JC.seq ?_ | refine JC.region ?_ | refine JO.nil ?_ | refine JE.thenN ?_ | refine JC.ret ?_ | (apply JE.done1; exact rfl; (first | (apply Res.tmp; exact rfl) | (apply Res.cell; exact rfl; (repeat (first | exact Pick.here | apply Pick.there)); exact rfl) | (apply Res.cellAN; exact rfl; (repeat (first | exact Pick.here | apply Pick.there)); exact rfl; exact rfl) | (apply Res.cellA; exact rfl; (repeat (first | exact Pick.here | apply Pick.there)); exact rfl; exact rfl)))) | (first | (apply JO.do; exact rfl; exact rfl; exact rfl; (apply Do.call; exact rfl; exact crc_More _ _ _ hlen hb); rintro _ _ ⟨rfl, hq⟩; obtain rfl := hq.symm) | (apply JQ.call; exact rfl; exact rfl; exact rfl; exact crc_More _ _ _ hlen hb; (rintro _ _ ⟨rfl, rfl⟩; exact ⟨rfl, rfl⟩))))
  refine finS ?_; exact ⟨rfl, rfl⟩
end Go.Sep
