/- Part 3: crc: each step's number, as the program reckons it; slices.Clone at bytes; numbers as bytes; The disk: what it is; The disk: its small questions; The disk: opened, new; The disk: a sector read; The disk: a sector written; slot: where a slot lies; its two closures; image: cut; slot: a slot's first sector; bytes.Join with nothing between; image: glued; image: glued; slot: a slot's other sectors, read; slot: wiped; head: bytes as numbers; head: laid and read. -/
import Derived.Test.YtbpilaghemkdjaaGreatDoorPs2
set_option linter.all false
/- crc: each step's number, as the program reckons it. -/
namespace Go.Sep
open Go Go.Proofs
attribute [local irreducible] JO JC JE JA JQ JB JI Mid Inv Weak ownS Ru Do Fn Sat Pick Take arr pt star ex Holds bodyPost Post Exit.then Exit.inBlock Res
variable {σ : Sig} {F : List HP}
abbrev u8 (n : Int) : Value := .int .u8 n
abbrev u32 (n : Int) : Value := .int .u32 n
abbrev u64 (n : Int) : Value := .int .u64 n
abbrev byte (x : UInt8) : Value := .int .u8 (x.toNat : Int)

def timesI (a : Int) : Int := bits .xor .u32 (a.fdiv (2 ^ min (1 : Int).toNat IntKind.u32.bits)) (bits .and .u32 3988292384 (IntKind.u32.wrap (0 - bits .and .u32 a 1)))
theorem crc_times (a : Int) : Fn Tryz.prog σ 134 #[u32 a] F (fun v l => v = u32 (timesI a) ∧ l = F) := by
  refine Fn.of Tryz.func134 rfl Tryz.ntmps134 rfl ?_
  repeat' (first | (apply JO.ru; exact rfl; exact rfl; exact rfl; (first | (apply Ru.move; exact rfl) | (apply Ru.assign; exact rfl) | (apply Ru.and; exact rfl; exact rfl) | (apply Ru.xor; exact rfl; exact rfl) | (apply Ru.shr; exact rfl; exact rfl; decide; exact rfl) | (apply Ru.neg; exact rfl; exact rfl))) | refine JC.seq ?_ | refine JC.region ?_ | refine JO.nil ?_ | refine JE.thenN ?_ | refine JC.ret ?_ | (apply JE.done1; exact rfl; (first | (apply Res.tmp; exact rfl) | (apply Res.cell; exact rfl; (repeat (first | exact Pick.here | apply Pick.there)); exact rfl) | (apply Res.cellAN; exact rfl; (repeat (first | exact Pick.here | apply Pick.there)); exact rfl; exact rfl) | (apply Res.cellA; exact rfl; (repeat (first | exact Pick.here | apply Pick.there)); exact rfl; exact rfl))))
  refine finS ?_; exact ⟨rfl, rfl⟩

theorem rd_cell {l : List HP} {bs : List UInt8} {b o : Nat} (hc : ∀ w, Sat σ w l → ∀ i u, (bs.map byte)[i]? = some u → w.cell? ⟨b, o + i, none⟩ = some u) {i : Nat} (hi : i < bs.length) {k : Int} (hk : k.toNat = i) :
    ∀ w, Sat σ w l → w.cell? ⟨b, o + k.toNat * 1, none⟩ = some (byte bs[i]) := by
  intro w s
  have := hc w s i (byte bs[i]) (by rw [List.getElem?_map, List.getElem?_eq_getElem hi]; rfl)
  rw [hk, Nat.mul_one]; exact this

def timesN : Nat → Int → Int
  | 0, a => a
  | n + 1, a => timesI (timesN n a)
def crcStep (a : Int) (x : UInt8) : Int := timesN 8 (bits .xor .u32 a (IntKind.u32.wrap (x.toNat : Int)))
def comI (a : Int) : Int := bits .xor .u32 (if IntKind.u32.signed then -1 else IntKind.u32.max) a
def crcMore (s : Int) (l : List UInt8) : Int := comI (l.foldl crcStep (comI s))

set_option maxHeartbeats 1000000 in
theorem crc_More (s : Int) (v : Value) (bs : List UInt8) (hlen : bs.length ≤ 1000000000000000000) {l : List HP} (hb : RdS σ l v (bs.map byte)) : Fn Tryz.prog σ 115 #[u32 s, v] l (fun v l' => v = u32 (crcMore s bs) ∧ l' = l) := by
  obtain ⟨p, cap, rfl, hcap, hr⟩ := hb
  refine Fn.of Tryz.func115 rfl Tryz.ntmps115 rfl ?_
  repeat' (first | (apply JO.ru; exact rfl; exact rfl; exact rfl; (first | (apply Ru.move; exact rfl) | (apply Ru.assign; exact rfl) | (apply Ru.lenS; exact rfl) | (apply Ru.com; exact rfl; exact rfl))) | refine JC.seq ?_ | refine JC.region ?_ | refine JO.nil ?_ | refine JE.thenN ?_ | refine JC.block ?_)
  refine JC.loop (fun i : Nat => [(0, u32 ((bs.take i).foldl crcStep (comI s))), (9, .slice p (bs.map byte).length cap), (10, int (bs.map byte).length), (11, int i)]) (fun _ => l) (fun i => i ≤ bs.length) (fun i => bs.length - i) 0 (Nat.zero_le _) ⟨rfl, rfl, rfl, rfl, trivial⟩ (fun _ h => h) ?_
  intro i hi
  have hl : (bs.map byte).length = bs.length := by simp
  repeat' (first | (apply JO.ru; exact rfl; exact rfl; exact rfl; (first | (apply Ru.move; exact rfl) | (apply Ru.assign; exact rfl) | (apply Ru.com; exact rfl; exact rfl))) | refine JC.seq ?_ | refine JC.region ?_ | refine JO.nil ?_ | refine JE.thenN ?_ | refine JE.thenE ?_ | refine JE.blockE ?_ | refine JC.block ?_ | refine JC.ret ?_ | refine JC.skip ?_ | refine JC.exit ?_ | refine JC.condT rfl ?_ | refine JC.condF rfl ?_ | (apply JO.split; exact rfl; exact rfl; exact rfl; ((apply Ru.lss; exact rfl; exact rfl; exact rfl)); all_goals intro _) | (apply JE.done1; exact rfl; (first | (apply Res.tmp; exact rfl) | (apply Res.cell; exact rfl; (repeat (first | exact Pick.here | apply Pick.there)); exact rfl) | (apply Res.cellAN; exact rfl; (repeat (first | exact Pick.here | apply Pick.there)); exact rfl; exact rfl) | (apply Res.cellA; exact rfl; (repeat (first | exact Pick.here | apply Pick.there)); exact rfl; exact rfl))))
  · rename_i hlt
    have hlt' : i < bs.length := by omega
    rcases hr with h0 | ⟨b, o, rfl, hc⟩
    · rw [h0] at hlt; simp at hlt; omega
    repeat' ((apply JO.ru; exact rfl; exact rfl; exact rfl; ((apply Ru.indexAddr; exact rfl; exact rfl; omega; omega))))
    (apply JO.ru; exact rfl; exact rfl; exact rfl; (apply Ru.loadC; exact rfl; exact rd_cell hc hlt' (by omega)))
    repeat' (first | (apply JO.ru; exact rfl; exact rfl; exact rfl; (first | (apply Ru.move; exact rfl) | (apply Ru.assign; exact rfl) | (apply Ru.xor; exact rfl; exact rfl) | (apply Ru.conv; exact rfl; exact rfl))) | refine JC.seq ?_ | refine JC.region ?_ | refine JO.nil ?_ | refine JE.thenN ?_ | refine JC.block ?_)
    refine JC.loop (fun j : Nat => [(0, u32 (timesN j (bits .xor .u32 ((bs.take i).foldl crcStep (comI s)) (IntKind.u32.wrap (bs[i].toNat : Int))))), (19, int j), (9, .slice (some ⟨b, o, none⟩) (bs.map byte).length cap), (10, int (bs.map byte).length), (11, int i)]) (fun _ => l) (fun j => j ≤ 8) (fun j => 8 - j) 0 (Nat.zero_le _) ⟨rfl, rfl, rfl, rfl, rfl, trivial⟩ (fun _ h => h) ?_
    intro j hj
    repeat' (first | (first | (apply JO.ru; exact rfl; exact rfl; exact rfl; (first | (apply Ru.move; exact rfl) | (apply Ru.assign; exact rfl) | (apply Ru.add; exact rfl; exact rfl; (first | exact wrapI (by omega) (by omega) | exact rfl)))) | refine JC.seq ?_ | refine JC.region ?_ | refine JO.nil ?_ | refine JE.thenN ?_ | refine JE.thenE ?_ | refine JE.blockN ?_ | refine JE.blockE ?_ | refine JC.block ?_ | refine JC.skip ?_ | refine JC.exit ?_ | refine JC.condT rfl ?_ | refine JC.condF rfl ?_ | (apply JO.split; exact rfl; exact rfl; exact rfl; ((apply Ru.lss; exact rfl; exact rfl; exact rfl)); all_goals intro _)) | (first | (apply JO.do; exact rfl; exact rfl; exact rfl; (apply Do.call; exact rfl; exact crc_times _); rintro _ _ ⟨rfl, hq⟩; obtain rfl := hq.symm) | (apply JQ.call; exact rfl; exact rfl; exact rfl; exact crc_times _; (rintro _ _ ⟨rfl, rfl⟩; exact ⟨rfl, rfl⟩))))
    · refine JE.round (j + 1) (by omega) (by omega) ⟨rfl, ?_, rfl, rfl, rfl, trivial⟩ (fun _ h => h)
      rfl
    · obtain rfl : j = 8 := by omega
      refine JE.round (i + 1) (by omega) (by omega) ⟨?_, rfl, rfl, rfl, trivial⟩ (fun _ h => h)
      show some _ = some (u32 _)
      rw [List.take_succ_eq_append_getElem hlt', List.foldl_append]
      rfl
  · obtain rfl : i = bs.length := by omega
    refine finS ?_
    exact ⟨by rw [List.take_length]; rfl, rfl⟩

def crcSum (bs : List UInt8) : Int := crcMore 0 bs
theorem crc_Sum (v : Value) (bs : List UInt8) (hlen : bs.length ≤ 1000000000000000000) {l : List HP} (hb : RdS σ l v (bs.map byte)) : Fn Tryz.prog σ 69 #[v] l (fun v l' => v = u32 (crcSum bs) ∧ l' = l) := by
  refine Fn.of Tryz.func69 rfl Tryz.ntmps69 rfl ?_
  repeat' (first | (first | (apply JO.ru; exact rfl; exact rfl; exact rfl; (first | (apply Ru.move; exact rfl) | (apply Ru.assign; exact rfl))) | refine JC.seq ?_ | refine JC.region ?_ | refine JO.nil ?_ | refine JE.thenN ?_ | refine JC.ret ?_ | (apply JE.done1; exact rfl; (first | (apply Res.tmp; exact rfl) | (apply Res.cell; exact rfl; (repeat (first | exact Pick.here | apply Pick.there)); exact rfl) | (apply Res.cellAN; exact rfl; (repeat (first | exact Pick.here | apply Pick.there)); exact rfl; exact rfl) | (apply Res.cellA; exact rfl; (repeat (first | exact Pick.here | apply Pick.there)); exact rfl; exact rfl)))) | (first | (apply JO.do; exact rfl; exact rfl; exact rfl; (apply Do.call; exact rfl; exact crc_More _ _ _ hlen hb); rintro _ _ ⟨rfl, hq⟩; obtain rfl := hq.symm) | (apply JQ.call; exact rfl; exact rfl; exact rfl; exact crc_More _ _ _ hlen hb; (rintro _ _ ⟨rfl, rfl⟩; exact ⟨rfl, rfl⟩))))
  refine finS ?_; exact ⟨rfl, rfl⟩
end Go.Sep
/- slices.Clone at bytes; numbers as bytes. -/
namespace Go.Sep
open Go Go.Proofs
attribute [local irreducible] JO JC JE JA JQ JB JI Mid Inv Weak ownS Ru Do Fn Sat Pick Take arr pt star ex Holds bodyPost Post Exit.then Exit.inBlock Res
variable {σ : Sig} {F : List HP}
theorem fin_nil {post : Value → List HP → Prop} {v : Value} {E : TypeId} {z : Nat} {l : List HP} (h : fin post v (ownS (.slice none 0 0) E z 0 [] :: l) σ) : fin post v l σ := by
  obtain ⟨l', e, h⟩ := h
  exact ⟨l', fun w s => e w (Sat.ownS_nil s), h⟩

set_option maxHeartbeats 1000000 in
theorem slices_Clone (v : Value) (cs : List Value) (h1 : ∀ q ∈ cs, q.oneCell' = true) (hlen : cs.length ≤ 100000000000000) {l : List HP} (hr : RdS σ l v cs) :
    Fn Tryz.prog σ 82 #[v] l (fun u l' => l' = ownS u 5 1 cs.length cs :: l ∧ (u = .slice none 0 0 → ∃ c, v = .slice none 0 c)) := by
  have hr0 := hr
  obtain ⟨p, cap, rfl, hcap, hr⟩ := hr
  refine Fn.of Tryz.func82 rfl Tryz.ntmps82 rfl ?_
  cases p with
  | none =>
    obtain rfl : cs = [] := by
      rcases hr with h | ⟨b, o, h, _⟩
      · exact h
      · cases h
    repeat' (first | (apply JO.ru; exact rfl; exact rfl; exact rfl; (first | (apply Ru.move; exact rfl) | (apply Ru.assign; exact rfl) | (apply Ru.eqlSN; exact rfl; exact rfl))) | refine JC.seq ?_ | refine JC.region ?_ | refine JO.nil ?_ | refine JE.thenN ?_ | refine JE.thenR ?_ | refine JC.ret ?_ | refine JC.condT rfl ?_ | (apply JE.done1; exact rfl; (first | (apply Res.tmp; exact rfl) | (apply Res.cell; exact rfl; (repeat (first | exact Pick.here | apply Pick.there)); exact rfl) | (apply Res.cellAN; exact rfl; (repeat (first | exact Pick.here | apply Pick.there)); exact rfl; exact rfl) | (apply Res.cellA; exact rfl; (repeat (first | exact Pick.here | apply Pick.there)); exact rfl; exact rfl))))
    apply fin_nil (E := 5) (z := 1); apply finS; exact ⟨rfl, fun _ => ⟨_, rfl⟩⟩
  | some a =>
    repeat' (first | (apply JO.ru; exact rfl; exact rfl; exact rfl; (first | (apply Ru.move; exact rfl) | (apply Ru.assign; exact rfl) | (apply Ru.eqlSN; exact rfl; exact rfl))) | refine JC.seq ?_ | refine JC.region ?_ | refine JO.nil ?_ | refine JE.thenN ?_ | refine JC.skip ?_ | refine JC.condF rfl ?_)
    (apply JO.do; exact rfl; exact rfl; exact rfl; apply Do.buildSlice0; rintro _ _ ⟨b, rfl, rfl⟩)
    refine JO.heap (fun _ s => Sat.ownS_arr (xs := []) (spare := []) (k := 0) (cap := 0) (z := 1) (Nat.le_refl _) rfl (Nat.le_refl _) s) ?_
    repeat' ((apply JO.ru; exact rfl; exact rfl; exact rfl; ((apply Ru.move; exact rfl))))
    (apply JO.do; exact rfl; exact rfl; exact rfl; (apply Do.append1; exact rfl; exact rfl; exact Pick.here; exact hr0.cons; exact h1; (show (0 + cs.length) * 1 ≤ _; omega); exact rfl; exact rfl); rintro u _ ⟨rfl, hnil⟩)
    rw [Nat.zero_add, List.nil_append]
    repeat' (first | (apply JO.ru; exact rfl; exact rfl; exact rfl; ((apply Ru.assign; exact rfl))) | refine JO.nil ?_ | refine JE.thenN ?_ | refine JC.ret ?_ | (apply JE.done1; exact rfl; (first | (apply Res.tmp; exact rfl) | (apply Res.cell; exact rfl; (repeat (first | exact Pick.here | apply Pick.there)); exact rfl) | (apply Res.cellAN; exact rfl; (repeat (first | exact Pick.here | apply Pick.there)); exact rfl; exact rfl) | (apply Res.cellA; exact rfl; (repeat (first | exact Pick.here | apply Pick.there)); exact rfl; exact rfl))))
    refine finS ?_; exact ⟨rfl, fun h => by have := (hnil h).1; cases this⟩

/-! ### Numbers as bytes, the lowest first -/
def leBytes : Nat → Int → List UInt8
  | 0, _ => []
  | m + 1, n => UInt8.ofNat (n % 256).toNat :: leBytes m (n / 256)
theorem leBytes_length : ∀ (m : Nat) (n : Int), (leBytes m n).length = m
  | 0, _ => rfl
  | m + 1, n => by simp [leBytes, leBytes_length m]
theorem byte_wrap (n : Int) (h : 0 ≤ n) : Value.int .u8 (IntKind.u8.wrap n) = byte (UInt8.ofNat (n % 256).toNat) := by
  have e : IntKind.u8.wrap n = n % 256 := by simp [IntKind.wrap, IntKind.bits, IntKind.signed]
  have h2 : ((UInt8.ofNat (n % 256).toNat).toNat : Int) = n % 256 := by
    simp only [UInt8.toNat_ofNat']
    omega
  rw [e]; show _ = Value.int .u8 _; rw [h2]
theorem leBytes_snoc : ∀ (m : Nat) (n : Int), leBytes (m + 1) n = leBytes m n ++ [UInt8.ofNat ((n / 256 ^ m) % 256).toNat]
  | 0, n => by simp [leBytes]
  | m + 1, n => by
    rw [leBytes, leBytes_snoc m (n / 256)]
    simp only [leBytes, List.cons_append]
    rw [Int.ediv_ediv_of_nonneg (by omega), Int.pow_succ, Int.mul_comm]

theorem shr8 (n : Int) (k : IntKind) (hk : 8 ≤ k.bits) (m : Nat) : (n / 256 ^ m).fdiv (2 ^ min (8 : Int).toNat k.bits) = n / 256 ^ (m + 1) := by
  have e : min (8 : Int).toNat k.bits = 8 := by show min 8 k.bits = 8; omega
  rw [e, Int.fdiv_eq_ediv_of_nonneg _ (by decide), Int.ediv_ediv_of_nonneg (Int.pow_nonneg (by decide)), Int.pow_succ]
  rfl

set_option maxHeartbeats 1000000 in
theorem head_lay32 (v : Value) (k : Nat) (xs : List Value) (n : Int) (many : Nat) (hn : 0 ≤ n) (hm : many ≤ 8) (hk : k ≤ 1000000) :
    Fn Tryz.prog σ 113 #[v, u32 n, int many] (ownS v 5 1 k xs :: F) (fun u l' => l' = ownS u 5 1 (k + many) (xs ++ (leBytes many n).map byte) :: F) := by
  refine Fn.of Tryz.func113 rfl Tryz.ntmps113 rfl ?_
  repeat' (first | (apply JO.ru; exact rfl; exact rfl; exact rfl; (first | (apply Ru.move; exact rfl) | (apply Ru.assign; exact rfl))) | refine JC.seq ?_ | refine JC.region ?_ | refine JO.nil ?_ | refine JE.thenN ?_ | refine JC.block ?_)
  refine JC.loop (fun p : Nat × Value => [(0, p.2), (1, u32 (n / 256 ^ p.1)), (7, int many), (8, int p.1)]) (fun p => ownS p.2 5 1 (k + p.1) (xs ++ (leBytes p.1 n).map byte) :: F) (fun p => p.1 ≤ many) (fun p => many - p.1) (0, v) (Nat.zero_le _) ⟨rfl, by show some _ = some (u32 _); rw [Int.pow_zero, Int.ediv_one], rfl, rfl, trivial⟩ (by intro w s; simpa [leBytes] using s) ?_
  rintro ⟨i, u⟩ hi
  dsimp only at hi ⊢
  repeat' (first | (apply JO.ru; exact rfl; exact rfl; exact rfl; (first | (apply Ru.move; exact rfl) | (apply Ru.assign; exact rfl) | (apply Ru.conv; exact rfl; exact rfl))) | refine JC.seq ?_ | refine JC.region ?_ | refine JO.nil ?_ | refine JE.thenN ?_ | refine JE.thenE ?_ | refine JE.blockE ?_ | refine JC.block ?_ | refine JC.ret ?_ | refine JC.skip ?_ | refine JC.exit ?_ | refine JC.condT rfl ?_ | refine JC.condF rfl ?_ | (apply JO.split; exact rfl; exact rfl; exact rfl; ((apply Ru.lss; exact rfl; exact rfl; exact rfl)); all_goals intro _) | (apply JO.do; exact rfl; exact rfl; exact rfl; (first | (apply Do.buildSliceN; exact rfl; exact rfl; exact rfl; exact rfl) | (apply Do.buildSlice; exact rfl; exact rfl; exact rfl; exact rfl)); rintro _ _ ⟨_, rfl, rfl⟩) | (apply JE.done1; exact rfl; (first | (apply Res.tmp; exact rfl) | (apply Res.cell; exact rfl; (repeat (first | exact Pick.here | apply Pick.there)); exact rfl) | (apply Res.cellAN; exact rfl; (repeat (first | exact Pick.here | apply Pick.there)); exact rfl; exact rfl) | (apply Res.cellA; exact rfl; (repeat (first | exact Pick.here | apply Pick.there)); exact rfl; exact rfl))))
  · rename_i hlt
    have h0 : 0 ≤ n / 256 ^ i := Int.ediv_nonneg hn (Int.pow_nonneg (by decide))
    (apply JO.do; exact rfl; exact rfl; exact rfl; (apply Do.append1 (ys := [Value.int .u8 (IntKind.u8.wrap (n / 256 ^ i))]); exact rfl; exact rfl; exact Pick.there Pick.here; exact RdS.arr Pick.here 0 1 1 (Nat.le_refl _) (Nat.le_refl _); (intro q hq; rw [List.mem_singleton.1 hq]; rfl); (show (k + i + 1) * 1 ≤ _; omega)); rintro u' _ ⟨rfl, _⟩)
    repeat' (first | (apply JO.ru; exact rfl; exact rfl; exact rfl; (first | (apply Ru.move; exact rfl) | (apply Ru.assign; exact rfl) | (apply Ru.add; exact rfl; exact rfl; (first | exact wrapI (by omega) (by omega) | exact rfl)) | (apply Ru.shr; exact rfl; exact rfl; decide; exact rfl))) | refine JC.region ?_ | refine JO.nil ?_ | refine JE.thenN ?_ | refine JE.blockN ?_)
    refine JE.round (i + 1, u') (by show i + 1 ≤ many; omega) (by show many - (i + 1) < many - i; omega) ⟨rfl, ?_, rfl, rfl, trivial⟩ ?_
    · show some (u32 _) = some (u32 _)
      rw [shr8 n .u32 (by decide)]
    · intro w s
      have := Sat.weak (l' := ownS u' 5 1 (k + i + 1) _ :: F) (by repeat (first | exact Weak.refl | (apply Weak.cons; (first | exact Pick.here | exact Pick.there Pick.here | exact Pick.there (Pick.there Pick.here) | exact Pick.there (Pick.there (Pick.there Pick.here)) | exact Pick.there (Pick.there (Pick.there (Pick.there Pick.here))) | exact Pick.there (Pick.there (Pick.there (Pick.there (Pick.there Pick.here)))) | exact Pick.there (Pick.there (Pick.there (Pick.there (Pick.there (Pick.there Pick.here))))) | exact Pick.there (Pick.there (Pick.there (Pick.there (Pick.there (Pick.there (Pick.there Pick.here)))))))) | apply Weak.drop)) w s
      rw [List.append_assoc, byte_wrap _ h0] at this
      dsimp only
      rw [leBytes_snoc, List.map_append]
      exact this
  · obtain rfl : i = many := by omega
    exact finS rfl
set_option maxHeartbeats 1000000 in
theorem head_lay64 (v : Value) (k : Nat) (xs : List Value) (n : Int) (many : Nat) (hn : 0 ≤ n) (hm : many ≤ 8) (hk : k ≤ 1000000) :
    Fn Tryz.prog σ 114 #[v, u64 n, int many] (ownS v 5 1 k xs :: F) (fun u l' => l' = ownS u 5 1 (k + many) (xs ++ (leBytes many n).map byte) :: F) := by
  refine Fn.of Tryz.func114 rfl Tryz.ntmps114 rfl ?_
  repeat' (first | (apply JO.ru; exact rfl; exact rfl; exact rfl; (first | (apply Ru.move; exact rfl) | (apply Ru.assign; exact rfl))) | refine JC.seq ?_ | refine JC.region ?_ | refine JO.nil ?_ | refine JE.thenN ?_ | refine JC.block ?_)
  refine JC.loop (fun p : Nat × Value => [(0, p.2), (1, u64 (n / 256 ^ p.1)), (7, int many), (8, int p.1)]) (fun p => ownS p.2 5 1 (k + p.1) (xs ++ (leBytes p.1 n).map byte) :: F) (fun p => p.1 ≤ many) (fun p => many - p.1) (0, v) (Nat.zero_le _) ⟨rfl, by show some _ = some (u64 _); rw [Int.pow_zero, Int.ediv_one], rfl, rfl, trivial⟩ (by intro w s; simpa [leBytes] using s) ?_
  rintro ⟨i, u⟩ hi
  dsimp only at hi ⊢
  repeat' (first | (apply JO.ru; exact rfl; exact rfl; exact rfl; (first | (apply Ru.move; exact rfl) | (apply Ru.assign; exact rfl) | (apply Ru.conv; exact rfl; exact rfl))) | refine JC.seq ?_ | refine JC.region ?_ | refine JO.nil ?_ | refine JE.thenN ?_ | refine JE.thenE ?_ | refine JE.blockE ?_ | refine JC.block ?_ | refine JC.ret ?_ | refine JC.skip ?_ | refine JC.exit ?_ | refine JC.condT rfl ?_ | refine JC.condF rfl ?_ | (apply JO.split; exact rfl; exact rfl; exact rfl; ((apply Ru.lss; exact rfl; exact rfl; exact rfl)); all_goals intro _) | (apply JO.do; exact rfl; exact rfl; exact rfl; (first | (apply Do.buildSliceN; exact rfl; exact rfl; exact rfl; exact rfl) | (apply Do.buildSlice; exact rfl; exact rfl; exact rfl; exact rfl)); rintro _ _ ⟨_, rfl, rfl⟩) | (apply JE.done1; exact rfl; (first | (apply Res.tmp; exact rfl) | (apply Res.cell; exact rfl; (repeat (first | exact Pick.here | apply Pick.there)); exact rfl) | (apply Res.cellAN; exact rfl; (repeat (first | exact Pick.here | apply Pick.there)); exact rfl; exact rfl) | (apply Res.cellA; exact rfl; (repeat (first | exact Pick.here | apply Pick.there)); exact rfl; exact rfl))))
  · rename_i hlt
    have h0 : 0 ≤ n / 256 ^ i := Int.ediv_nonneg hn (Int.pow_nonneg (by decide))
    (apply JO.do; exact rfl; exact rfl; exact rfl; (apply Do.append1 (ys := [Value.int .u8 (IntKind.u8.wrap (n / 256 ^ i))]); exact rfl; exact rfl; exact Pick.there Pick.here; exact RdS.arr Pick.here 0 1 1 (Nat.le_refl _) (Nat.le_refl _); (intro q hq; rw [List.mem_singleton.1 hq]; rfl); (show (k + i + 1) * 1 ≤ _; omega)); rintro u' _ ⟨rfl, _⟩)
    repeat' (first | (apply JO.ru; exact rfl; exact rfl; exact rfl; (first | (apply Ru.move; exact rfl) | (apply Ru.assign; exact rfl) | (apply Ru.add; exact rfl; exact rfl; (first | exact wrapI (by omega) (by omega) | exact rfl)) | (apply Ru.shr; exact rfl; exact rfl; decide; exact rfl))) | refine JC.region ?_ | refine JO.nil ?_ | refine JE.thenN ?_ | refine JE.blockN ?_)
    refine JE.round (i + 1, u') (by show i + 1 ≤ many; omega) (by show many - (i + 1) < many - i; omega) ⟨rfl, ?_, rfl, rfl, trivial⟩ ?_
    · show some (u64 _) = some (u64 _)
      rw [shr8 n .u64 (by decide)]
    · intro w s
      have := Sat.weak (l' := ownS u' 5 1 (k + i + 1) _ :: F) (by repeat (first | exact Weak.refl | (apply Weak.cons; (first | exact Pick.here | exact Pick.there Pick.here | exact Pick.there (Pick.there Pick.here) | exact Pick.there (Pick.there (Pick.there Pick.here)) | exact Pick.there (Pick.there (Pick.there (Pick.there Pick.here))) | exact Pick.there (Pick.there (Pick.there (Pick.there (Pick.there Pick.here)))) | exact Pick.there (Pick.there (Pick.there (Pick.there (Pick.there (Pick.there Pick.here))))) | exact Pick.there (Pick.there (Pick.there (Pick.there (Pick.there (Pick.there (Pick.there Pick.here)))))))) | apply Weak.drop)) w s
      rw [List.append_assoc, byte_wrap _ h0] at this
      dsimp only
      rw [leBytes_snoc, List.map_append]
      exact this
  · obtain rfl : i = many := by omega
    exact finS rfl
end Go.Sep
/- The disk: what it is. -/
namespace Go.Sep
open Go Go.Proofs
variable {σ : Sig} {F : List HP}
structure DiskN where
  size : Nat
  data : List UInt8
  cached : List (Int × List UInt8)
  planned : List Int
  ops : Nat
  writes : Nat
abbrev bytesHP (v : Value) (bs : List UInt8) : HP := ownS v 5 1 bs.length (bs.map byte)
def rowHP (p : Int × Value × List UInt8) : HP := bytesHP p.2.1 p.2.2
/-- The cache: a map, and each entry's own bytes. -/
def cacheHP (cm : Nat) (C : List (Int × List UInt8)) : HP := fun h => ∃ R : List (Int × Value × List UInt8), C = R.map (fun p => (p.1, p.2.2)) ∧ Holds [mapI cm (R.map fun p => (p.1, p.2.1)), star (R.map rowHP)] h
def planHP (pm : Nat) (ps : List Int) : HP := mapI pm (ps.map fun k => (k, .agg #[]))
abbrev diskCells (D : DiskN) (lv : Value) (cm pm : Nat) : List Value := [int D.size, lv, .map (some cm), .map (some pm), int D.ops, int D.writes]
abbrev opn (d : Nat) (D : DiskN) (lv : Value) (cm pm : Nat) (F : List HP) : List HP := arr d 121 (diskCells D lv cm pm) :: bytesHP lv D.data :: cacheHP cm D.cached :: planHP pm D.planned :: F
def diskHP (d : Nat) (D : DiskN) : HP := fun h => ∃ (lv : Value) (cm pm : Nat), Holds (opn d D lv cm pm []) h
theorem Sat.disk {w : World} {d : Nat} {D : DiskN} {l : List HP} : Sat σ w (diskHP d D :: l) ↔ ∃ lv cm pm, Sat σ w (opn d D lv cm pm l) := by
  constructor
  · rintro ⟨hs, h1, h2, a, b, c, ⟨lv, cm, pm, x⟩, e⟩
    exact ⟨lv, cm, pm, hs, Holds.append.2 ⟨h1, h2, a, b, c, x, e⟩⟩
  · rintro ⟨lv, cm, pm, hs, x⟩
    obtain ⟨h1, h2, a, b, c, y, e⟩ := Holds.append (l := opn d D lv cm pm []).1 x
    exact ⟨hs, h1, h2, a, b, c, ⟨lv, cm, pm, y⟩, e⟩
theorem Fn.disk {P : Program} {f : FuncId} {args : Array Value} {post : Value → List HP → Prop} {d : Nat} {D : DiskN} {l : List HP} (h : ∀ lv cm pm, Fn P σ f args (opn d D lv cm pm l) post) : Fn P σ f args (diskHP d D :: l) post := by
  intro w s
  obtain ⟨lv, cm, pm, s'⟩ := Sat.disk.1 s
  exact h lv cm pm w s'
theorem finK {post : Value → List HP → Prop} {v : Value} {d : Nat} {D : DiskN} {lv : Value} {cm pm : Nat} {l : List HP} (h : fin post v (diskHP d D :: l) σ) : fin post v (opn d D lv cm pm l) σ := by
  obtain ⟨l', e, p⟩ := h
  exact ⟨l', fun w s => e w (Sat.disk.2 ⟨lv, cm, pm, s⟩), p⟩

theorem Ru.lookPlan {P : Program} {n : Nat} {env : Env} {l r : List HP} {dst : Option Tmp} {ty : TypeId} {pos : String} {af : Array Edge} {gd : Option (Nat × Bool)} {x y : Operand} {t kt e : TypeId} {b : Nat} {k : Int} {ps : List Int} [UT P t (.map kt e)] [UT P kt (.int .i64)] [ZV P e (.agg #[])]
    (hx : ev env x = some (.map (some b))) (hy : ev env y = some (.int .i64 k)) (hp : Pick (planHP b ps) l r) : Ru P σ n env l ⟨dst, .lookup t x y true, ty, pos, af, gd⟩ (.tuple #[.agg #[], .bool (ps.contains k)]) := by
  have := Ru.lookupI (σ := σ) (P := P) (n := n) (dst := dst) (ty := ty) (pos := pos) (af := af) (gd := gd) (t := t) hx hy hp
  have h : ∀ ps : List Int, (lookI (ps.map fun k => (k, Value.agg #[])) k).getD (.agg #[]) = .agg #[] ∧ (lookI (ps.map fun k => (k, Value.agg #[])) k).isSome = ps.contains k := by
    intro ps
    induction ps with
    | nil => exact ⟨rfl, rfl⟩
    | cons p ps ih =>
      rw [List.map_cons, lookI_cons, List.contains_cons]
      by_cases hk : k = p
      · subst hk; simp
      · have : (k == p) = false := by simpa using hk
        rw [if_neg hk, this]
        simpa using ih
  rw [(h ps).1, (h ps).2] at this
  exact this

def DiskN.tick (D : DiskN) : DiskN := { D with ops := D.ops + 1 }
def DiskN.failing (D : DiskN) : Bool := D.planned.contains ((D.ops : Int) + 1)
theorem Sat.cache0 {w : World} {cm : Nat} {l : List HP} (s : Sat σ w (pt cm (.map #[] 0) :: l)) : Sat σ w (cacheHP cm [] :: l) := by
  have := Sat.mapI_new s
  exact Sat.imp (fun _ x => ⟨[], rfl, _, fun _ => none, sub_refl _, fun _ _ e => (by cases e), fun _ => .inr rfl, x, _, _, sub_refl _, sub_refl _, fun _ => .inl rfl, trivial, trivial⟩) this
theorem Sat.plan0 {w : World} {pm : Nat} {l : List HP} (s : Sat σ w (pt pm (.map #[] 0) :: l)) : Sat σ w (planHP pm [] :: l) := Sat.mapI_new s

theorem lookI_map {α β : Type} (f : α → β) : ∀ (R : List (Int × α)) (k : Int), lookI (R.map fun p => (p.1, f p.2)) k = (lookI R k).map f
  | [], _ => rfl
  | (k', v) :: R, k => by
    rw [List.map_cons, lookI_cons, lookI_cons, lookI_map f R k]
    split <;> rfl
theorem lookI_mem {α : Type} {R : List (Int × α)} {k : Int} {v : α} (h : lookI R k = some v) : (k, v) ∈ R := by
  induction R with
  | nil => cases h
  | cons p R ih =>
    obtain ⟨k', v'⟩ := p
    rw [lookI_cons] at h
    split at h
    · rename_i e; subst e; cases h; exact List.mem_cons_self
    · exact List.mem_cons_of_mem _ (ih h)
theorem updI_map {α β : Type} (f : α → β) : ∀ (R : List (Int × α)) (k : Int) (v : α), updI (R.map fun p => (p.1, f p.2)) k (f v) = (updI R k v).map fun p => (p.1, f p.2)
  | [], _, _ => rfl
  | (k', v') :: R, k, v => by
    simp only [List.map_cons, updI]
    split
    · rfl
    · rw [updI_map f R k v]; rfl
theorem delI_map {α β : Type} (f : α → β) : ∀ (R : List (Int × α)) (k : Int), delI (R.map fun p => (p.1, f p.2)) k = (delI R k).map fun p => (p.1, f p.2)
  | [], _ => rfl
  | (k', v') :: R, k => by
    simp only [List.map_cons, delI]
    split
    · rfl
    · rw [delI_map f R k]; rfl

/-- The cache, opened. -/
theorem Sat.cache {w : World} {cm : Nat} {C : List (Int × List UInt8)} {l : List HP} : Sat σ w (cacheHP cm C :: l) ↔ ∃ R : List (Int × Value × List UInt8), C = R.map (fun p => (p.1, p.2.2)) ∧ Sat σ w (Sep.mapI cm (R.map fun p => (p.1, p.2.1)) :: Sep.star (R.map rowHP) :: l) := by
  constructor
  · rintro ⟨hs, h1, h2, a, b, c, ⟨R, e1, x⟩, e⟩
    have y := (Holds.append (l := [Sep.mapI cm (R.map fun (p : Int × Value × List UInt8) => (p.1, p.2.1)), Sep.star (R.map rowHP)]) (l' := l)).2 ⟨h1, h2, a, b, c, x, e⟩
    exact ⟨R, e1, hs, y⟩
  · rintro ⟨R, e1, hs, x⟩
    obtain ⟨h1, h2, a, b, c, y, e⟩ := (Holds.append (l := [Sep.mapI cm (R.map fun (p : Int × Value × List UInt8) => (p.1, p.2.1)), Sep.star (R.map rowHP)]) (l' := l)).1 x
    exact ⟨hs, h1, h2, a, b, c, ⟨R, e1, y⟩, e⟩
theorem JO.cache {P : Program} {n : Nat} {ds : List Deferred} {ops : Array Oper} {Q : Exit → Act → World → Prop} {rest : List Oper} {env : Env} {l r : List HP} {cm : Nat} {C : List (Int × List UInt8)} (hp : Pick (cacheHP cm C) l r)
    (h : ∀ R : List (Int × Value × List UInt8), C = R.map (fun p => (p.1, p.2.2)) → JO P σ n ds ops Q rest env (Sep.mapI cm (R.map fun p => (p.1, p.2.1)) :: Sep.star (R.map rowHP) :: r)) : JO P σ n ds ops Q rest env l := by
  intro a w ka kd s
  obtain ⟨R, e, s'⟩ := Sat.cache.1 (s.perm hp)
  exact h R e a w ka kd s'
theorem JC.cache {P : Program} {n : Nat} {ds : List Deferred} {c : Code} {Q : Exit → Act → World → Prop} {env : Env} {l r : List HP} {cm : Nat} {C : List (Int × List UInt8)} (hp : Pick (cacheHP cm C) l r)
    (h : ∀ R : List (Int × Value × List UInt8), C = R.map (fun p => (p.1, p.2.2)) → JC P σ n ds c Q env (Sep.mapI cm (R.map fun p => (p.1, p.2.1)) :: Sep.star (R.map rowHP) :: r)) : JC P σ n ds c Q env l := by
  intro a w ka kd s
  obtain ⟨R, e, s'⟩ := Sat.cache.1 (s.perm hp)
  exact h R e a w ka kd s'
/-- One of the rows, ahead of the others. -/
theorem Sat.row {w : World} {R : List (Int × Value × List UInt8)} {l : List HP} {p : Int × Value × List UInt8} (hp : p ∈ R) (s : Sat σ w (Sep.star (R.map rowHP) :: l)) : ∃ S, Sat σ w (rowHP p :: Sep.star S :: l) ∧ ∀ w, Sat σ w (Sep.star (R.map rowHP) :: l) → Sat σ w (rowHP p :: Sep.star S :: l) := by
  obtain ⟨a, b, rfl⟩ := List.mem_iff_append.1 hp
  have key : ∀ w, Sat σ w (Sep.star ((a ++ p :: b).map rowHP) :: l) → Sat σ w (rowHP p :: Sep.star (a.map rowHP ++ b.map rowHP) :: l) := fun w s => by
    refine ⟨s.1, ?_⟩
    have h := Holds.star.1 s.2
    rw [List.map_append, List.map_cons, List.append_assoc] at h
    have h2 := Holds.perm (List.perm_middle (a := rowHP p) (l₁ := a.map rowHP) (l₂ := b.map rowHP ++ l)) h
    rw [← List.append_assoc] at h2
    obtain ⟨h3, h4, x1, x2, x3, x4, x5⟩ := h2
    exact ⟨h3, h4, x1, x2, x3, x4, Holds.star.2 x5⟩
  exact ⟨_, key w s, key⟩
theorem Sat.rowR {w : World} {R : List (Int × Value × List UInt8)} {l r : List HP} {p : Int × Value × List UInt8} (hp : p ∈ R) (hk : Pick (Sep.star (R.map rowHP)) l r) (s : Sat σ w l) : RdS σ l p.2.1 (p.2.2.map byte) := by
  obtain ⟨S, s1, key⟩ := Sat.row hp (s.perm hk)
  exact s1.ownR.1.heap fun w s => key w (s.perm hk)
theorem JO.rowR {P : Program} {n : Nat} {ds : List Deferred} {ops : Array Oper} {Q : Exit → Act → World → Prop} {rest : List Oper} {env : Env} {R : List (Int × Value × List UInt8)} {l r : List HP} {p : Int × Value × List UInt8} (hp : p ∈ R) (hk : Pick (Sep.star (R.map rowHP)) l r)
    (h : RdS σ l p.2.1 (p.2.2.map byte) → JO P σ n ds ops Q rest env l) : JO P σ n ds ops Q rest env l := fun a w ka kd s => h (s.rowR hp hk) a w ka kd s
/-- The disk's bytes, as a slice. -/
theorem Sat.bytes {w : World} {v : Value} {bs : List UInt8} {l : List HP} (s : Sat σ w (bytesHP v bs :: l)) : ∃ p c, v = .slice p bs.length c ∧ bs.length ≤ c ∧ (p = none ∧ bs.length = 0 ∨ ∃ b, p = some ⟨b, 0, none⟩) := by
  obtain ⟨_, _, h⟩ := s.ownR
  rcases h with ⟨rfl, h⟩ | ⟨b, c, rfl, h⟩
  · exact ⟨none, 0, by rw [h], by omega, .inl ⟨rfl, h⟩⟩
  · exact ⟨_, c, rfl, h, .inr ⟨b, rfl⟩⟩
theorem Fn.bytes {P : Program} {f : FuncId} {args : Array Value} {post : Value → List HP → Prop} {v : Value} {bs : List UInt8} {l r : List HP} (hp : Pick (bytesHP v bs) l r)
    (h : ∀ p c, v = .slice p bs.length c → bs.length ≤ c → (p = none ∧ bs.length = 0 ∨ ∃ b, p = some ⟨b, 0, none⟩) → Fn P σ f args l post) : Fn P σ f args l post := fun w s =>
  let ⟨p, c, h1, h2, h3⟩ := (s.perm hp).bytes
  h p c h1 h2 h3 w s
theorem Ru.lookupO {P : Program} {n : Nat} {env : Env} {l r : List HP} {dst : Option Tmp} {ty : TypeId} {pos : String} {af : Array Edge} {gd : Option (Nat × Bool)} {x y : Operand} {t kt e : TypeId} {b : Nat} {k : Int} {es : List (Int × Value)} {zv : Value} {o : Option Value} [UT P t (.map kt e)] [UT P kt (.int .i64)] [ZV P e zv]
    (hx : ev env x = some (.map (some b))) (hy : ev env y = some (.int .i64 k)) (hp : Pick (mapI b es) l r) (ho : lookI es k = o) : Ru P σ n env l ⟨dst, .lookup t x y true, ty, pos, af, gd⟩ (.tuple #[o.getD zv, .bool o.isSome]) := by
  subst ho; exact Ru.lookupI hx hy hp

/-! ### What a disk is good for -/
def DiskN.count (D : DiskN) : Nat := D.data.length / D.size
structure DiskN.WF (D : DiskN) : Prop where
  hz : 1 ≤ D.size
  hz2 : D.size ≤ 4096
  len : D.data.length = D.count * D.size
  cnt : D.count ≤ 4096
  cach : ∀ p ∈ D.cached, 0 ≤ p.1 ∧ p.1 < D.count ∧ p.2.length = D.size
  nodup : (D.cached.map (·.1)).Nodup
  few : D.cached.length ≤ D.writes
theorem DiskN.WF.small {D : DiskN} (h : D.WF) : D.data.length ≤ 16777216 := by
  rw [h.len]; exact Nat.mul_le_mul h.cnt h.hz2
theorem DiskN.WF.tick {D : DiskN} (h : D.WF) : D.tick.WF := ⟨h.hz, h.hz2, h.len, h.cnt, h.cach, h.nodup, h.few⟩
/-- A sector as it lasts; as it is read. -/
def DiskN.sector (D : DiskN) (i : Nat) : List UInt8 := (D.data.drop (i * D.size)).take D.size
def DiskN.cur (D : DiskN) (i : Nat) : List UInt8 := (lookI D.cached i).getD (D.sector i)
def DiskN.readE (D : DiskN) (i : Int) : Int := if D.failing = true then 3 else if i < 0 ∨ (D.count : Int) ≤ i then 2 else 0
theorem DiskN.WF.sector {D : DiskN} (h : D.WF) {i : Nat} (hi : i < D.count) : (D.sector i).length = D.size := by
  have h1 : (i + 1) * D.size ≤ D.count * D.size := Nat.mul_le_mul_right _ hi
  rw [Nat.succ_mul] at h1
  have := h.len
  simp only [DiskN.sector, List.length_take, List.length_drop]
  omega
theorem DiskN.WF.cur {D : DiskN} (h : D.WF) {i : Nat} (hi : i < D.count) : (D.cur i).length = D.size := by
  unfold DiskN.cur
  cases q : lookI D.cached i with
  | none => exact h.sector hi
  | some bs => exact (h.cach _ (lookI_mem q)).2.2
/-- The disk, opened with its cache. -/
abbrev opn2 (d : Nat) (D : DiskN) (lv : Value) (cm pm : Nat) (R : List (Int × Value × List UInt8)) (F : List HP) : List HP :=
  mapI cm (R.map fun p => (p.1, p.2.1)) :: star (R.map rowHP) :: arr d 121 (diskCells D lv cm pm) :: bytesHP lv D.data :: planHP pm D.planned :: F
theorem Sat.close {w : World} {d : Nat} {D : DiskN} {lv : Value} {cm pm : Nat} {R : List (Int × Value × List UInt8)} {l : List HP} (hR : D.cached = R.map (fun p => (p.1, p.2.2))) (s : Sat σ w (opn2 d D lv cm pm R l)) : Sat σ w (diskHP d D :: l) :=
  Sat.disk.2 ⟨lv, cm, pm, (Sat.cache.2 ⟨R, hR, s⟩).perm (.trans (.swap _ _ _) (.cons _ (.swap _ _ _)))⟩

theorem Holds.updRows {α : Type} (f : Int × α → HP) (k : Int) (v : α) (l : List HP) : ∀ (R : List (Int × α)) {h : PH}, Holds (f (k, v) :: (R.map f ++ l)) h → Holds ((updI R k v).map f ++ l) h
  | [], _, x => x
  | (k', v') :: R, h, x => by
    simp only [updI]
    split
    · exact Holds.tail (fun _ y => Holds.drop y) x
    · exact Holds.tail (fun _ y => Holds.updRows f k v l R y) (Holds.perm (.swap _ _ _) x)
theorem Holds.delRows {α : Type} (f : Int × α → HP) (k : Int) (l : List HP) : ∀ (R : List (Int × α)) {h : PH}, Holds (R.map f ++ l) h → Holds ((delI R k).map f ++ l) h
  | [], _, x => x
  | (k', v') :: R, h, x => by
    simp only [delI]
    split
    · exact Holds.drop x
    · exact Holds.tail (fun _ y => Holds.delRows f k l R y) x
theorem Sat.updRows {w : World} {R : List (Int × Value × List UInt8)} {k : Int} {u : Value} {bs : List UInt8} {l : List HP} (s : Sat σ w (bytesHP u bs :: Sep.star (R.map rowHP) :: l)) : Sat σ w (Sep.star ((updI R k (u, bs)).map rowHP) :: l) :=
  ⟨s.1, Holds.star.2 (Holds.updRows rowHP k (u, bs) l R (Holds.tail (fun _ y => Holds.star.1 y) s.2))⟩
theorem Sat.delRows {w : World} {R : List (Int × Value × List UInt8)} {k : Int} {l : List HP} (s : Sat σ w (Sep.star (R.map rowHP) :: l)) : Sat σ w (Sep.star ((delI R k).map rowHP) :: l) :=
  ⟨s.1, Holds.star.2 (Holds.delRows rowHP k l R (Holds.star.1 s.2))⟩

def DiskN.put (D : DiskN) (i : Int) (bs : List UInt8) : DiskN := { D with ops := D.ops + 1, cached := updI D.cached i bs, writes := D.writes + 1 }
def DiskN.writeE (D : DiskN) (i : Int) (n : Nat) : Int := if D.failing = true then 3 else if i < 0 then 2 else if (D.count : Int) ≤ i then 4 else if n ≠ D.size then 1 else 0
theorem updI_keys {α : Type} : ∀ (R : List (Int × α)) (k : Int) (v : α), (updI R k v).map (·.1) = if (R.map (·.1)).contains k then R.map (·.1) else R.map (·.1) ++ [k]
  | [], _, _ => rfl
  | (k', v') :: R, k, v => by
    rw [updI, List.map_cons, List.contains_cons]
    by_cases h : k = k'
    · subst h; simp
    · have : (k == k') = false := by simpa using h
      rw [if_neg h, List.map_cons, updI_keys R k v, this, Bool.false_or]
      split <;> rfl
theorem DiskN.WF.put {D : DiskN} (h : D.WF) {i : Int} {bs : List UInt8} (h0 : 0 ≤ i) (h1 : i < D.count) (h2 : bs.length = D.size) : (D.put i bs).WF := by
  refine ⟨h.hz, h.hz2, h.len, h.cnt, ?_, ?_, ?_⟩
  · have : ∀ (C : List (Int × List UInt8)), (∀ p ∈ C, 0 ≤ p.1 ∧ p.1 < D.count ∧ p.2.length = D.size) → ∀ p ∈ updI C i bs, 0 ≤ p.1 ∧ p.1 < D.count ∧ p.2.length = D.size := by
      intro C
      induction C with
      | nil => intro _ p hp; simp [updI] at hp; subst hp; exact ⟨h0, h1, h2⟩
      | cons q C ih =>
        obtain ⟨k', v'⟩ := q
        intro hC p hp
        simp only [updI] at hp
        split at hp
        · rcases List.mem_cons.1 hp with rfl | hp
          · exact ⟨h0, h1, h2⟩
          · exact hC p (List.mem_cons_of_mem _ hp)
        · rcases List.mem_cons.1 hp with rfl | hp
          · exact hC _ List.mem_cons_self
          · exact ih (fun p hp => hC p (List.mem_cons_of_mem _ hp)) p hp
    exact this _ h.cach
  · show ((updI D.cached i bs).map (·.1)).Nodup
    rw [updI_keys]
    split
    · exact h.nodup
    · rename_i hc
      refine List.nodup_append.2 ⟨h.nodup, by simp, ?_⟩
      intro a ha b hb
      simp at hb; subst hb
      rintro rfl
      exact hc (by simpa using ha)
  · have : ∀ (C : List (Int × List UInt8)), (updI C i bs).length ≤ C.length + 1 := by
      intro C
      induction C with
      | nil => simp [updI]
      | cons q C ih =>
        obtain ⟨k', v'⟩ := q
        simp only [updI]
        split
        · simp
        · simp; omega
    have h1 := this D.cached
    have h2 := h.few
    show (updI D.cached i bs).length ≤ D.writes + 1
    omega

def addP (ps : List Int) (n : Int) : List Int := if ps.contains n then ps else ps ++ [n]
theorem addP_map : ∀ (ps : List Int) (n : Int), updI (ps.map fun k => (k, Value.agg #[])) n (.agg #[]) = (addP ps n).map fun k => (k, Value.agg #[])
  | [], _ => rfl
  | p :: ps, n => by
    have ih := addP_map ps n
    rw [List.map_cons, updI]
    unfold addP at ih ⊢
    rw [List.contains_cons]
    by_cases h : n = p
    · subst h; simp
    · have : (n == p) = false := by simpa using h
      rw [if_neg h, ih, this, Bool.false_or]
      split <;> rfl
def DiskN.plan (D : DiskN) (n : Int) : DiskN := { D with planned := addP D.planned n }
theorem DiskN.WF.plan {D : DiskN} (h : D.WF) (n : Int) : (D.plan n).WF := ⟨h.hz, h.hz2, h.len, h.cnt, h.cach, h.nodup, h.few⟩
theorem Do.planUpdate {P : Program} {n : Nat} {env : Env} {l r : List HP} {dst : Option Tmp} {ty : TypeId} {pos : String} {af : Array Edge} {gd : Option (Nat × Bool)} {x y z : Operand} {t kt e : TypeId} {b : Nat} {k : Int} {ps : List Int} [UT P t (.map kt e)] [UT P kt (.int .i64)] (hx : ev env x = some (.map (some b))) (hy : ev env y = some (.int .i64 k)) (hz : ev env z = some (.agg #[])) (hp : Pick (planHP b ps) l r)
    (hk : -9223372036854775808 ≤ k ∧ k ≤ 9223372036854775807) :
    Do P σ n env l ⟨dst, .mapUpdate t x y z, ty, pos, af, gd⟩ (fun u l' => u = undef ∧ l' = planHP b (addP ps k) :: r) := by
  have := Do.mapUpdateI (P := P) (σ := σ) (n := n) (dst := dst) (ty := ty) (pos := pos) (af := af) (gd := gd) (t := t) hx hy hz hp hk
  rw [addP_map] at this
  exact this

/-- A question whose part of the heap stays as it is. -/
theorem Fn.stay {P : Program} {f : FuncId} {args : Array Value} {p : HP} {l r : List HP} {u : Value} (hp : Pick p l r) (h : Fn P σ f args (p :: r) (fun v l' => v = u ∧ l' = p :: r)) : Fn P σ f args l (fun v l' => v = u ∧ l' = l) := by
  intro w s
  refine (h w (s.perm hp)).mono ?_
  rintro e w' ⟨v, l', rfl, ⟨rfl, rfl⟩, s'⟩
  exact ⟨_, l, rfl, ⟨rfl, rfl⟩, s'.perm hp.symm⟩
theorem Fn.diskQ {P : Program} {f : FuncId} {args : Array Value} {d : Nat} {D : DiskN} {l r : List HP} {u : Value} (hp : Pick (diskHP d D) l r)
    (h : ∀ p c cm pm, D.data.length ≤ c → Fn P σ f args (opn d D (.slice p D.data.length c) cm pm r) (fun v l' => v = u ∧ l' = opn d D (.slice p D.data.length c) cm pm r)) : Fn P σ f args l (fun v l' => v = u ∧ l' = l) := by
  refine Fn.stay hp (Fn.disk fun lv cm pm => Fn.bytes (Pick.there Pick.here) fun p c hlv hlc _ => ?_)
  subst hlv
  intro w s
  refine (h p c cm pm hlc w s).mono ?_
  rintro e w' ⟨v, l', rfl, ⟨rfl, rfl⟩, s'⟩
  exact ⟨_, _, rfl, ⟨rfl, rfl⟩, Sat.disk.2 ⟨_, cm, pm, s'⟩⟩

theorem JC.disk {P : Program} {n : Nat} {ds : List Deferred} {c : Code} {Q : Exit → Act → World → Prop} {env : Env} {l r : List HP} {d : Nat} {D : DiskN} (hp : Pick (diskHP d D) l r) (h : ∀ lv cm pm, JC P σ n ds c Q env (opn d D lv cm pm r)) : JC P σ n ds c Q env l := by
  intro a w ka kd s
  obtain ⟨lv, cm, pm, s'⟩ := Sat.disk.1 (s.perm hp)
  exact h lv cm pm a w ka kd s'
theorem JC.rowR {P : Program} {n : Nat} {ds : List Deferred} {c : Code} {Q : Exit → Act → World → Prop} {env : Env} {R : List (Int × Value × List UInt8)} {l r : List HP} {p : Int × Value × List UInt8} (hp : p ∈ R) (hk : Pick (Sep.star (R.map rowHP)) l r)
    (h : RdS σ l p.2.1 (p.2.2.map byte) → JC P σ n ds c Q env l) : JC P σ n ds c Q env l := fun a w ka kd s => h (s.rowR hp hk) a w ka kd s
/-- The sector's bytes, laid into the disk's. -/
def setSec (data : List UInt8) (size i : Nat) (bs : List UInt8) : List UInt8 := data.take (i * size) ++ bs ++ data.drop (i * size + bs.length)
theorem setSec_length {data : List UInt8} {size i : Nat} {bs : List UInt8} (h : i * size + bs.length ≤ data.length) : (setSec data size i bs).length = data.length := by
  simp only [setSec, List.length_append, List.length_take, List.length_drop]; omega
/-- One sector of the cache comes to last. -/
def DiskN.settle (D : DiskN) (i : Int) : DiskN := match lookI D.cached i with
  | some bs => { D with data := setSec D.data D.size i.toNat bs, cached := delI D.cached i }
  | none => D
theorem delI_len {α : Type} (C : List (Int × α)) (k : Int) : (delI C k).length ≤ C.length := (delI_sub C k).length_le
theorem DiskN.WF.settle {D : DiskN} (h : D.WF) (i : Int) : (D.settle i).WF ∧ (D.settle i).size = D.size ∧ (D.settle i).count = D.count ∧ (D.settle i).ops = D.ops ∧ (D.settle i).writes = D.writes ∧ (D.settle i).planned = D.planned := by
  unfold DiskN.settle
  cases q : lookI D.cached i with
  | none => exact ⟨h, rfl, rfl, rfl, rfl, rfl⟩
  | some bs =>
    obtain ⟨h1, h2, h3⟩ := h.cach _ (lookI_mem q)
    dsimp only at h1 h2 h3
    have hr : (i.toNat + 1) * D.size ≤ D.count * D.size := Nat.mul_le_mul_right _ (by omega)
    rw [Nat.succ_mul, ← h.len] at hr
    have hl := setSec_length (data := D.data) (size := D.size) (i := i.toNat) (bs := bs) (by omega)
    have hc : (setSec D.data D.size i.toNat bs).length / D.size = D.count := by rw [hl]; rfl
    refine ⟨⟨h.hz, h.hz2, ?_, ?_, ?_, ?_, ?_⟩, rfl, hc, rfl, rfl, rfl⟩
    · show (setSec D.data D.size i.toNat bs).length = (setSec D.data D.size i.toNat bs).length / D.size * D.size
      rw [hc, hl]; exact h.len
    · show (setSec D.data D.size i.toNat bs).length / D.size ≤ 4096
      rw [hc]; exact h.cnt
    · intro p hp
      have := h.cach p ((delI_sub _ _).mem hp)
      exact ⟨this.1, by show p.1 < (((setSec D.data D.size i.toNat bs).length / D.size : Nat) : Int); rw [hc]; exact this.2.1, this.2.2⟩
    · exact List.Nodup.sublist ((delI_sub _ _).map _) h.nodup
    · exact Nat.le_trans (delI_len _ _) h.few
theorem Fn.diskD {P : Program} {f : FuncId} {args : Array Value} {d : Nat} {D D' : DiskN} {l : List HP} {u : Value}
    (h : ∀ lv cm pm, Fn P σ f args (opn d D lv cm pm l) (fun v l' => v = u ∧ l' = opn d D' lv cm pm l)) : Fn P σ f args (diskHP d D :: l) (fun v l' => v = u ∧ l' = diskHP d D' :: l) := by
  refine Fn.disk fun lv cm pm => ?_
  intro w s
  refine (h lv cm pm w s).mono ?_
  rintro e w' ⟨v, l', rfl, ⟨rfl, rfl⟩, s'⟩
  exact ⟨_, _, rfl, ⟨rfl, rfl⟩, Sat.disk.2 ⟨_, cm, pm, s'⟩⟩
theorem Ru.lookupO0 {P : Program} {n : Nat} {env : Env} {l r : List HP} {dst : Option Tmp} {ty : TypeId} {pos : String} {af : Array Edge} {gd : Option (Nat × Bool)} {x y : Operand} {t kt e : TypeId} {b : Nat} {k : Int} {es : List (Int × Value)} {zv : Value} {o : Option Value} [UT P t (.map kt e)] [UT P kt (.int .i64)] [ZV P e zv]
    (hx : ev env x = some (.map (some b))) (hy : ev env y = some (.int .i64 k)) (hp : Pick (mapI b es) l r) (ho : lookI es k = o) : Ru P σ n env l ⟨dst, .lookup t x y false, ty, pos, af, gd⟩ (o.getD zv) := by
  subst ho; exact Ru.lookupI0 hx hy hp

/-- So many questions asked. -/
def DiskN.ticks (D : DiskN) (k : Nat) : DiskN := { D with ops := D.ops + k }
theorem DiskN.WF.ticks {D : DiskN} (h : D.WF) (k : Nat) : (D.ticks k).WF := ⟨h.hz, h.hz2, h.len, h.cnt, h.cach, h.nodup, h.few⟩
theorem JO.rowsR {P : Program} {n : Nat} {ds : List Deferred} {ops : Array Oper} {Q : Exit → Act → World → Prop} {rest : List Oper} {env : Env} {R : List (Int × Value × List UInt8)} {l r : List HP} (hk : Pick (Sep.star (R.map rowHP)) l r)
    (h : (∀ p ∈ R, RdS σ l p.2.1 (p.2.2.map byte)) → JO P σ n ds ops Q rest env l) : JO P σ n ds ops Q rest env l := fun a w ka kd s => h (fun _ hp => s.rowR hp hk) a w ka kd s
theorem Sat.rowPush {w : World} {R : List (Int × Value × List UInt8)} {p : Int × Value × List UInt8} {l : List HP} (s : Sat σ w (bytesHP p.2.1 p.2.2 :: Sep.star (R.map rowHP) :: l)) : Sat σ w (Sep.star ((R ++ [p]).map rowHP) :: l) := by
  refine ⟨s.1, Holds.star.2 ?_⟩
  have h : Holds (rowHP p :: (R.map rowHP ++ l)) (heapOf w) := Holds.tail (fun _ y => Holds.star.1 y) s.2
  rw [List.map_append, List.append_assoc]
  exact Holds.perm (List.perm_middle (a := rowHP p) (l₁ := R.map rowHP) (l₂ := l)).symm h
theorem Sat.star0 {w : World} {l : List HP} (s : Sat σ w l) : Sat σ w (Sep.star [] :: l) := ⟨s.1, Holds.star.2 s.2⟩
end Go.Sep
/- The disk: its small questions. -/
namespace Go.Sep
open Go Go.Proofs
attribute [local irreducible] JO JC JE JA JQ JB JI Mid Inv Weak ownS Ru Do Fn Sat Pick Take arr pt star ex Holds bodyPost Post Exit.then Exit.inBlock Res
variable {σ : Sig} {F : List HP}
attribute [local irreducible] diskHP cacheHP planHP rowHP
set_option maxHeartbeats 1000000 in
theorem disk_fails (d : Nat) (D : DiskN) (lv : Value) (cm pm : Nat) (ho : D.ops ≤ 1000000000000) :
    Fn Tryz.prog σ 78 #[.pointer (some ⟨d, 0, none⟩)] (opn d D lv cm pm F) (fun v l => v = .bool D.failing ∧ l = opn d D.tick lv cm pm F) := by
  refine Fn.of Tryz.func78 rfl Tryz.ntmps78 rfl ?_
  repeat' (first | (apply JO.ru; exact rfl; exact rfl; exact rfl; (first | (apply Ru.move; exact rfl) | (apply Ru.loadN; exact rfl; (repeat (first | exact Pick.here | apply Pick.there)); exact rfl) | (apply Ru.fieldAddr; exact rfl) | (apply Ru.nilP; exact rfl) | (apply Ru.assign; exact rfl) | (apply Ru.add; exact rfl; exact rfl; (first | exact wrapI (by omega) (by omega) | exact rfl)))) | refine JC.seq ?_ | refine JC.region ?_ | refine JO.nil ?_ | refine JE.thenN ?_ | (apply JO.do0; exact rfl; exact rfl; (first | (apply Do.storeN; exact rfl; exact rfl; exact rfl; (repeat (first | exact Pick.here | apply Pick.there)); exact rfl; exact rfl) | (apply Do.store; exact rfl; exact rfl; exact rfl; (repeat (first | exact Pick.here | apply Pick.there)); exact rfl)); rintro _ _ ⟨rfl, rfl⟩))
  refine JC.regionBS mixed ?_
  repeat' (first | (apply JB.ru; exact rfl; exact rfl; exact rfl; exact rfl; (apply Ru.lookPlan; exact rfl; exact rfl; (repeat (first | exact Pick.here | apply Pick.there))); decide +kernel; decide +kernel; exact fun _ h => h; (simp only [Nat.reduceAdd, Nat.reducePow, Nat.reduceMul, Nat.zero_or, Nat.or_zero, Nat.reduceXor, Nat.reduceOr]; try exact rfl)) | (first | (apply JB.ru; exact rfl; exact rfl; exact rfl; exact rfl; (first | (apply Ru.move; exact rfl) | (apply Ru.loadN; exact rfl; (repeat (first | exact Pick.here | apply Pick.there)); exact rfl) | (apply Ru.fieldAddr; exact rfl) | (apply Ru.nilP; exact rfl) | (apply Ru.assign; exact rfl) | (apply Ru.extractN; exact rfl; exact rfl)); decide +kernel; decide +kernel; (first | exact fun _ h => h | exact fun _ h => Sat.drop h | exact fun _ h => Sat.drop (Sat.drop h) | exact fun _ h => Sat.drop (Sat.drop (Sat.drop h)) | exact fun _ h => Sat.drop (Sat.drop (Sat.drop (Sat.drop h)))); (simp only [Nat.reduceAdd, Nat.reducePow, Nat.reduceMul, Nat.zero_or, Nat.or_zero, Nat.reduceXor, Nat.reduceOr]; try exact rfl)) | (apply JB.nil; exact rfl) | (apply JI.do; exact rfl; exact rfl; exact rfl; exact rfl; (first | (apply Do.allocN; exact rfl) | apply Do.alloc); (simp only [Nat.reduceAdd, Nat.reducePow, Nat.reduceMul, Nat.zero_or, Nat.or_zero, Nat.reduceXor, Nat.reduceOr]; try exact rfl); rintro _ _ ⟨_, rfl, rfl⟩; refine ⟨(by (first | exact fun _ h => h | exact fun _ h => Sat.drop h | exact fun _ h => Sat.drop (Sat.drop h) | exact fun _ h => Sat.drop (Sat.drop (Sat.drop h)) | exact fun _ h => Sat.drop (Sat.drop (Sat.drop (Sat.drop h))))), ?_⟩) | (apply JI.do0; exact rfl; exact rfl; exact rfl; (first | (apply Do.storeAN; exact rfl; exact rfl; (repeat (first | exact Pick.here | apply Pick.there)); exact rfl; exact rfl; exact rfl; exact rfl) | (apply Do.storeA; exact rfl; exact rfl; (repeat (first | exact Pick.here | apply Pick.there)); exact rfl; exact rfl; exact rfl)); (simp only [Nat.reduceAdd, Nat.reducePow, Nat.reduceMul, Nat.zero_or, Nat.or_zero, Nat.reduceXor, Nat.reduceOr]; try exact rfl); rintro _ _ ⟨rfl, rfl⟩; refine ⟨(by (first | exact fun _ h => h | exact fun _ h => Sat.drop h | exact fun _ h => Sat.drop (Sat.drop h) | exact fun _ h => Sat.drop (Sat.drop (Sat.drop h)) | exact fun _ h => Sat.drop (Sat.drop (Sat.drop (Sat.drop h))))), ?_⟩)) | (refine JB.one 12 (by decide +kernel) ?_) | (refine JB.one 13 (by decide +kernel) ?_))
  repeat' (first | (apply JO.ru; exact rfl; exact rfl; exact rfl; (first | (apply Ru.move; exact rfl) | (apply Ru.assign; exact rfl))) | refine JC.seq ?_ | refine JC.region ?_ | refine JO.nil ?_ | refine JE.thenN ?_ | refine JC.ret ?_ | (apply JE.done1; exact rfl; (first | (apply Res.tmp; exact rfl) | (apply Res.cell; exact rfl; (repeat (first | exact Pick.here | apply Pick.there)); exact rfl) | (apply Res.cellAN; exact rfl; (repeat (first | exact Pick.here | apply Pick.there)); exact rfl; exact rfl) | (apply Res.cellA; exact rfl; (repeat (first | exact Pick.here | apply Pick.there)); exact rfl; exact rfl))))
  refine finD (finS ?_); exact ⟨rfl, rfl⟩
theorem disk_Size (d : Nat) (z : Nat) (x1 x2 x3 x4 x5 : Value) {l r : List HP} (hp : Pick (arr d 121 [int z, x1, x2, x3, x4, x5]) l r) :
    Fn Tryz.prog σ 102 #[.pointer (some ⟨d, 0, none⟩)] l (fun v l' => v = int z ∧ l' = l) := by
  refine Fn.of Tryz.func102 rfl Tryz.ntmps102 rfl ?_
  repeat' (first | (first | (apply JO.ru; exact rfl; exact rfl; exact rfl; (first | (apply Ru.move; exact rfl) | (apply Ru.fieldAddr; exact rfl) | (apply Ru.nilP; exact rfl) | (apply Ru.assign; exact rfl))) | refine JC.seq ?_ | refine JC.region ?_ | refine JO.nil ?_ | refine JE.thenN ?_ | refine JC.ret ?_ | (apply JE.done1; exact rfl; (first | (apply Res.tmp; exact rfl) | (apply Res.cell; exact rfl; (repeat (first | exact Pick.here | apply Pick.there)); exact rfl) | (apply Res.cellAN; exact rfl; (repeat (first | exact Pick.here | apply Pick.there)); exact rfl; exact rfl) | (apply Res.cellA; exact rfl; (repeat (first | exact Pick.here | apply Pick.there)); exact rfl; exact rfl)))) | (apply JO.ru; exact rfl; exact rfl; exact rfl; (apply Ru.load; exact rfl; exact hp; exact rfl)))
  refine finS ?_; exact ⟨rfl, rfl⟩
theorem disk_Ops (d : Nat) (o : Nat) (x1 x2 x3 x4 x5 : Value) {l r : List HP} (hp : Pick (arr d 121 [x1, x2, x3, x4, int o, x5]) l r) :
    Fn Tryz.prog σ 30 #[.pointer (some ⟨d, 0, none⟩)] l (fun v l' => v = int o ∧ l' = l) := by
  refine Fn.of Tryz.func30 rfl Tryz.ntmps30 rfl ?_
  repeat' (first | (first | (apply JO.ru; exact rfl; exact rfl; exact rfl; (first | (apply Ru.move; exact rfl) | (apply Ru.fieldAddr; exact rfl) | (apply Ru.nilP; exact rfl) | (apply Ru.assign; exact rfl))) | refine JC.seq ?_ | refine JC.region ?_ | refine JO.nil ?_ | refine JE.thenN ?_ | refine JC.ret ?_ | (apply JE.done1; exact rfl; (first | (apply Res.tmp; exact rfl) | (apply Res.cell; exact rfl; (repeat (first | exact Pick.here | apply Pick.there)); exact rfl) | (apply Res.cellAN; exact rfl; (repeat (first | exact Pick.here | apply Pick.there)); exact rfl; exact rfl) | (apply Res.cellA; exact rfl; (repeat (first | exact Pick.here | apply Pick.there)); exact rfl; exact rfl)))) | (apply JO.ru; exact rfl; exact rfl; exact rfl; (apply Ru.load; exact rfl; exact hp; exact rfl)))
  refine finS ?_; exact ⟨rfl, rfl⟩
theorem disk_Sectors (d : Nat) (z : Nat) (p : Option Addr) (k c : Nat) (x2 x3 x4 x5 : Value) (hz : 1 ≤ z) (hk : k ≤ 1000000000000) {l r : List HP} (hp : Pick (arr d 121 [int z, .slice p k c, x2, x3, x4, x5]) l r) :
    Fn Tryz.prog σ 103 #[.pointer (some ⟨d, 0, none⟩)] l (fun v l' => v = int (k / z : Nat) ∧ l' = l) := by
  refine Fn.of Tryz.func103 rfl Tryz.ntmps103 rfl ?_
  repeat' (first | (first | (apply JO.ru; exact rfl; exact rfl; exact rfl; ((apply Ru.assign; exact rfl))) | refine JC.seq ?_ | refine JC.region ?_ | refine JO.nil ?_ | refine JE.thenN ?_ | refine JC.ret ?_ | (apply JQ.ru; exact rfl; exact rfl; exact rfl; (first | (apply Ru.move; exact rfl) | (apply Ru.fieldAddr; exact rfl) | (apply Ru.nilP; exact rfl) | (apply Ru.assign; exact rfl) | (apply Ru.lenS; exact rfl) | (apply Ru.quoN; exact rfl; exact rfl; omega; omega; omega))) | refine JQ.nil ?_ | refine JC.regionQ mixed (by decide +kernel) ?_ | (apply JE.done1; exact rfl; (first | (apply Res.tmp; exact rfl) | (apply Res.cell; exact rfl; (repeat (first | exact Pick.here | apply Pick.there)); exact rfl) | (apply Res.cellAN; exact rfl; (repeat (first | exact Pick.here | apply Pick.there)); exact rfl; exact rfl) | (apply Res.cellA; exact rfl; (repeat (first | exact Pick.here | apply Pick.there)); exact rfl; exact rfl)))) | (apply JQ.ru; exact rfl; exact rfl; exact rfl; (apply Ru.load; exact rfl; exact hp; exact rfl)))
  refine finS ?_; exact ⟨rfl, rfl⟩
theorem disk_at (d z i : Nat) (b k c : Nat) (x2 x3 x4 x5 : Value) (hz : 1 ≤ z) (hk : k ≤ 1000000000000) (hkc : k ≤ c) (hi : (i + 1) * z ≤ k) {l r : List HP} (hp : Pick (arr d 121 [int z, .slice (some ⟨b, 0, none⟩) k c, x2, x3, x4, x5]) l r) :
    Fn Tryz.prog σ 79 #[.pointer (some ⟨d, 0, none⟩), int i] l (fun v l' => v = .slice (some ⟨b, i * z, none⟩) z (c - i * z) ∧ l' = l) := by
  have g0 : (i + 1) * z = i * z + z := Nat.succ_mul i z
  have g1 : i ≤ i * z := Nat.le_mul_of_pos_right _ hz
  have w1 : IntKind.i64.wrap ((i : Int) * z) = ((i * z : Nat) : Int) := by rw [← Int.natCast_mul]; exact wrapI (by omega) (by omega)
  have w2 : IntKind.i64.wrap (((i : Int) + 1) * z) = ((i * z + z : Nat) : Int) := by
    have : ((i : Int) + 1) * z = ((i * z + z : Nat) : Int) := by rw [← g0, Int.natCast_mul]; rfl
    rw [this]; exact wrapI (by omega) (by omega)
  refine Fn.of Tryz.func79 rfl Tryz.ntmps79 rfl ?_
  repeat' (first | (first | (apply JO.ru; exact rfl; exact rfl; exact rfl; ((apply Ru.assign; exact rfl))) | refine JC.seq ?_ | refine JC.region ?_ | refine JO.nil ?_ | refine JE.thenN ?_ | refine JC.ret ?_ | (apply JQ.ru; exact rfl; exact rfl; exact rfl; (first | (apply Ru.move; exact rfl) | (apply Ru.fieldAddr; exact rfl) | (apply Ru.nilP; exact rfl) | (apply Ru.assign; exact rfl) | (apply Ru.add; exact rfl; exact rfl; (first | exact wrapI (by omega) (by omega) | exact rfl)) | (apply Ru.mul; exact rfl; exact rfl; (first | exact wrapI (by omega) (by omega) | exact rfl)) | (apply Ru.sliceS; exact rfl; exact rfl; exact rfl; exact rfl; (first | exact fun _ => rfl | exact fun h => nomatch h); omega; omega; omega))) | refine JQ.nil ?_ | refine JC.regionQ mixed (by decide +kernel) ?_ | (apply JE.done1; exact rfl; (first | (apply Res.tmp; exact rfl) | (apply Res.cell; exact rfl; (repeat (first | exact Pick.here | apply Pick.there)); exact rfl) | (apply Res.cellAN; exact rfl; (repeat (first | exact Pick.here | apply Pick.there)); exact rfl; exact rfl) | (apply Res.cellA; exact rfl; (repeat (first | exact Pick.here | apply Pick.there)); exact rfl; exact rfl)))) | (apply JQ.ru; exact rfl; exact rfl; exact rfl; (apply Ru.load; exact rfl; exact hp; exact rfl)))
  have e0 : (i : Int) * z = ((i * z : Nat) : Int) := (Int.natCast_mul _ _).symm
  rw [w2, e0]
  have e1 : 0 + ((i * z : Nat) : Int).toNat * 1 = i * z := by omega
  have e2 : (((i * z + z : Nat) : Int) - ((i * z : Nat) : Int)).toNat = z := by omega
  have e3 : ((c : Int) - ((i * z : Nat) : Int)).toNat = c - i * z := by omega
  rw [e1, e2, e3]
  refine finS ?_; exact ⟨rfl, rfl⟩
end Go.Sep
/- The disk: opened, new. -/
namespace Go.Sep
open Go Go.Proofs
attribute [local irreducible] JO JC JE JA JQ JB JI Mid Inv Weak ownS Ru Do Fn Sat Pick Take arr pt star ex Holds bodyPost Post Exit.then Exit.inBlock Res
variable {σ : Sig} {F : List HP}
attribute [local irreducible] diskHP cacheHP planHP rowHP
set_option maxHeartbeats 1000000 in
theorem disk_Open (z : Nat) (v : Value) (bs : List UInt8) (h1 : 1 ≤ z) (h2 : z ≤ 4096) (hm : bs.length % z = 0) (hq : bs.length / z ≤ 4096) (hlen : bs.length ≤ 100000000) {l : List HP} (hb : RdS σ l v (bs.map byte)) :
    Fn Tryz.prog σ 52 #[int z, v] l (fun r l' => ∃ d, r = .tuple #[.pointer (some ⟨d, 0, none⟩), int 0] ∧ l' = diskHP d ⟨z, bs, [], [], 0, 0⟩ :: l) := by
  have hb0 := hb
  obtain ⟨p, cap, rfl, hcap, hr⟩ := hb
  have hl : (bs.map byte).length = bs.length := by simp
  rw [hl] at hb0 ⊢
  have hm' : (bs.length : Int) % (z : Int) = 0 := by rw [← Int.natCast_emod]; omega
  have hq' : (bs.length : Int) / (z : Int) ≤ 4096 := by rw [← Int.natCast_ediv]; omega
  refine Fn.of Tryz.func52 rfl Tryz.ntmps52 rfl ?_
  repeat' (first | (apply JO.ru; exact rfl; exact rfl; exact rfl; (first | (apply Ru.move; exact rfl) | (apply Ru.assign; exact rfl) | (apply Ru.lenS; exact rfl) | (apply Ru.lss; exact rfl; exact rfl; (first | exact decT (by omega) | exact decF (by omega))) | (apply Ru.gtr; exact rfl; exact rfl; (first | exact decT (by omega) | exact decF (by omega))) | (apply Ru.neq; exact rfl; exact rfl; (first | exact ndecF (by omega) | exact ndecT (by omega))) | (apply Ru.pickF; exact rfl; exact rfl) | (apply Ru.quoN; exact rfl; exact rfl; omega; omega; omega) | (apply Ru.remN; exact rfl; exact rfl; omega; omega))) | refine JC.seq ?_ | refine JC.region ?_ | refine JO.nil ?_ | refine JE.thenN ?_ | refine JC.skip ?_ | refine JC.condF rfl ?_ | refine JO.guardT rfl rfl rfl rfl ?_)
  (apply JO.do; exact rfl; exact rfl; exact rfl; (apply Do.call; exact rfl; exact slices_Clone _ (bs.map byte) (by intro q hq; obtain ⟨x, _, rfl⟩ := List.mem_map.1 hq; rfl) (by omega) hb0); rintro u _ ⟨hl', _⟩; obtain rfl := hl'.symm)
  rw [hl]
  refine JO.ownR Pick.here fun _ _ hu => ?_
  rcases hu with ⟨rfl, _⟩ | ⟨b, c, rfl, _⟩
  all_goals
    (apply JO.do; exact rfl; exact rfl; exact rfl; apply Do.makeMap; rintro _ _ ⟨cm, rfl, rfl⟩)
    refine JO.heap (fun _ s => Sat.cache0 s) ?_
    (apply JO.do; exact rfl; exact rfl; exact rfl; apply Do.makeMap; rintro _ _ ⟨pm, rfl, rfl⟩)
    refine JO.heap (fun _ s => Sat.plan0 s) ?_
    repeat' (first | (apply JO.ru; exact rfl; exact rfl; exact rfl; (first | (apply Ru.assign; exact rfl) | (apply Ru.buildN; exact rfl; exact rfl))) | refine JO.nil ?_ | refine JE.thenN ?_ | refine JC.ret ?_ | (apply JO.do; exact rfl; exact rfl; exact rfl; (first | (apply Do.boxN; exact rfl; exact rfl) | (apply Do.box; exact rfl)); rintro _ _ ⟨_, rfl, rfl⟩) | (apply JE.done2; exact rfl; (first | (apply Res.tmp; exact rfl) | (apply Res.cell; exact rfl; (repeat (first | exact Pick.here | apply Pick.there)); exact rfl) | (apply Res.cellAN; exact rfl; (repeat (first | exact Pick.here | apply Pick.there)); exact rfl; exact rfl) | (apply Res.cellA; exact rfl; (repeat (first | exact Pick.here | apply Pick.there)); exact rfl; exact rfl)); (first | (apply Res.tmp; exact rfl) | (apply Res.cell; exact rfl; (repeat (first | exact Pick.here | apply Pick.there)); exact rfl) | (apply Res.cellAN; exact rfl; (repeat (first | exact Pick.here | apply Pick.there)); exact rfl; exact rfl) | (apply Res.cellA; exact rfl; (repeat (first | exact Pick.here | apply Pick.there)); exact rfl; exact rfl))))
    rename_i d
    exact ⟨diskHP d ⟨z, bs, [], [], 0, 0⟩ :: l, fun w s => Sat.disk.2 ⟨_, cm, pm, Sat.weak (l' := opn d ⟨z, bs, [], [], 0, 0⟩ _ cm pm l) (by repeat (first | exact Weak.refl | (apply Weak.cons; (first | exact Pick.here | exact Pick.there Pick.here | exact Pick.there (Pick.there Pick.here) | exact Pick.there (Pick.there (Pick.there Pick.here)) | exact Pick.there (Pick.there (Pick.there (Pick.there Pick.here))) | exact Pick.there (Pick.there (Pick.there (Pick.there (Pick.there Pick.here)))) | exact Pick.there (Pick.there (Pick.there (Pick.there (Pick.there (Pick.there Pick.here))))) | exact Pick.there (Pick.there (Pick.there (Pick.there (Pick.there (Pick.there (Pick.there Pick.here)))))))) | apply Weak.drop)) w s⟩, d, rfl, rfl⟩
/-- k sectors of z zeroes. -/
def freshN (k z : Nat) : DiskN := ⟨z, List.replicate (k * z) 0, [], [], 0, 0⟩
set_option maxHeartbeats 1000000 in
theorem disk_New (k z : Nat) (h0 : k ≤ 4096) (h1 : 1 ≤ z) (h2 : z ≤ 4096) :
    Fn Tryz.prog σ 14 #[int k, int z] F (fun r l' => ∃ d, r = .tuple #[.pointer (some ⟨d, 0, none⟩), int 0] ∧ l' = diskHP d (freshN k z) :: F) := by
  have hmax : k * z ≤ 16777216 := Nat.mul_le_mul h0 h2
  have hmaxI : (k : Int) * (z : Int) ≤ 16777216 := by rw [← Int.natCast_mul]; omega
  have hminI : 0 ≤ (k : Int) * (z : Int) := by rw [← Int.natCast_mul]; omega
  have hz : List.replicate (k * z) (Value.int .u8 0) = (List.replicate (k * z) (0 : UInt8)).map byte := by simp
  have hd : (k * z) / z = k := Nat.mul_div_cancel _ h1
  refine Fn.of Tryz.func14 rfl Tryz.ntmps14 rfl ?_
  repeat' (first | (apply JO.ru; exact rfl; exact rfl; exact rfl; (first | (apply Ru.move; exact rfl) | (apply Ru.assign; exact rfl) | (apply Ru.lss; exact rfl; exact rfl; (first | exact decT (by omega) | exact decF (by omega))) | (apply Ru.gtr; exact rfl; exact rfl; (first | exact decT (by omega) | exact decF (by omega))) | (apply Ru.mul; exact rfl; exact rfl; (first | exact wrapI (by omega) (by omega) | exact rfl)) | (apply Ru.pickF; exact rfl; exact rfl))) | refine JC.seq ?_ | refine JC.region ?_ | refine JO.nil ?_ | refine JE.thenN ?_ | refine JC.skip ?_ | refine JC.condF rfl ?_ | refine JO.guardT rfl rfl rfl rfl ?_)
  (apply JO.do; exact rfl; exact rfl; exact rfl; (apply Do.makeSlice (k := k * z) (c := k * z); (rw [Int.natCast_mul]; exact rfl); (rw [Int.natCast_mul]; exact rfl); exact Nat.le_refl _; (show k * z * 1 ≤ _; omega); omega); rintro _ _ ⟨a, rfl, rfl⟩)
  rw [hz]
  (apply JO.do; exact rfl; exact rfl; exact rfl; (apply Do.call; exact rfl; exact disk_Open z _ (List.replicate (k * z) 0) h1 h2 (by rw [List.length_replicate]; exact Nat.mul_mod_left _ _) (by rw [List.length_replicate, hd]; exact h0) (by rw [List.length_replicate]; omega) (RdS.arr0 (spare := []) (by rw [List.append_nil]; exact Pick.here) (by simp) (Nat.le_refl _))); rintro _ _ ⟨d, rfl, rfl⟩)
  repeat' (first | (apply JO.ru; exact rfl; exact rfl; exact rfl; (first | (apply Ru.assign; exact rfl) | (apply Ru.extractN; exact rfl; exact rfl))) | refine JO.nil ?_ | refine JE.thenN ?_ | refine JC.ret ?_ | (apply JE.done2; exact rfl; (first | (apply Res.tmp; exact rfl) | (apply Res.cell; exact rfl; (repeat (first | exact Pick.here | apply Pick.there)); exact rfl) | (apply Res.cellAN; exact rfl; (repeat (first | exact Pick.here | apply Pick.there)); exact rfl; exact rfl) | (apply Res.cellA; exact rfl; (repeat (first | exact Pick.here | apply Pick.there)); exact rfl; exact rfl)); (first | (apply Res.tmp; exact rfl) | (apply Res.cell; exact rfl; (repeat (first | exact Pick.here | apply Pick.there)); exact rfl) | (apply Res.cellAN; exact rfl; (repeat (first | exact Pick.here | apply Pick.there)); exact rfl; exact rfl) | (apply Res.cellA; exact rfl; (repeat (first | exact Pick.here | apply Pick.there)); exact rfl; exact rfl))))
  refine ⟨diskHP d (freshN k z) :: F, Sat.weak (by repeat (first | exact Weak.refl | (apply Weak.cons; (first | exact Pick.here | exact Pick.there Pick.here | exact Pick.there (Pick.there Pick.here) | exact Pick.there (Pick.there (Pick.there Pick.here)) | exact Pick.there (Pick.there (Pick.there (Pick.there Pick.here))) | exact Pick.there (Pick.there (Pick.there (Pick.there (Pick.there Pick.here)))) | exact Pick.there (Pick.there (Pick.there (Pick.there (Pick.there (Pick.there Pick.here))))) | exact Pick.there (Pick.there (Pick.there (Pick.there (Pick.there (Pick.there (Pick.there Pick.here)))))))) | apply Weak.drop)), d, rfl, rfl⟩
end Go.Sep
/- The disk: a sector read. -/
namespace Go.Sep
open Go Go.Proofs
attribute [local irreducible] JO JC JE JA JQ JB JI Mid Inv Weak ownS Ru Do Fn Sat Pick Take arr pt star ex Holds bodyPost Post Exit.then Exit.inBlock Res
variable {σ : Sig} {F : List HP}
attribute [local irreducible] diskHP cacheHP planHP rowHP
theorem byteOne (bs : List UInt8) : ∀ q ∈ bs.map byte, q.oneCell' = true := by
  intro q hq; obtain ⟨x, _, rfl⟩ := List.mem_map.1 hq; rfl
theorem bytesHP_map (u : Value) (bs : List UInt8) : ownS u 5 1 (bs.map byte).length (bs.map byte) = bytesHP u bs := by
  rw [List.length_map]
/-- Where a sector lies. -/
theorem DiskN.WF.room {D : DiskN} (h : D.WF) {i : Nat} (hi : i < D.count) : (i + 1) * D.size ≤ D.data.length := by
  rw [h.len]; exact Nat.mul_le_mul_right _ hi

set_option maxHeartbeats 2000000 in
theorem disk_Read (d : Nat) (D : DiskN) (i : Int) (hD : D.WF) (ho : D.ops ≤ 1000000000000) :
    Fn Tryz.prog σ 105 #[.pointer (some ⟨d, 0, none⟩), int i] (diskHP d D :: F)
      (fun v l' => (D.readE i = 0 ∧ ∃ u, v = .tuple #[u, int 0] ∧ l' = bytesHP u (D.cur i.toNat) :: diskHP d D.tick :: F) ∨ (D.readE i ≠ 0 ∧ v = .tuple #[.slice none 0 0, int (D.readE i)] ∧ l' = diskHP d D.tick :: F)) := by
  refine Fn.disk fun lv cm pm => Fn.bytes (Pick.there Pick.here) fun p c hlv hlc hp => ?_
  subst hlv
  have hsm := hD.small
  have hz := hD.hz
  have hcnt : (D.data.length : Int) / (D.size : Int) = D.count := by rw [← Int.natCast_ediv]; rfl
  refine Fn.of Tryz.func105 rfl Tryz.ntmps105 rfl ?_
  by_cases hf : D.failing = true
  · have hE : D.readE i = 3 := by unfold DiskN.readE; rw [if_pos hf]
    rw [hE]
    repeat' (first | (first | (apply JO.ru; exact rfl; exact rfl; exact rfl; (first | (apply Ru.move; exact rfl) | (apply Ru.assign; exact rfl))) | refine JC.seq ?_ | refine JC.region ?_ | refine JO.nil ?_ | refine JE.thenN ?_ | refine JE.thenR ?_ | refine JE.blockR ?_ | refine JC.block ?_ | refine JC.ret ?_ | refine JC.condT rfl ?_ | (apply JE.done2; exact rfl; (first | (apply Res.tmp; exact rfl) | (apply Res.cell; exact rfl; (repeat (first | exact Pick.here | apply Pick.there)); exact rfl) | (apply Res.cellAN; exact rfl; (repeat (first | exact Pick.here | apply Pick.there)); exact rfl; exact rfl) | (apply Res.cellA; exact rfl; (repeat (first | exact Pick.here | apply Pick.there)); exact rfl; exact rfl)); (first | (apply Res.tmp; exact rfl) | (apply Res.cell; exact rfl; (repeat (first | exact Pick.here | apply Pick.there)); exact rfl) | (apply Res.cellAN; exact rfl; (repeat (first | exact Pick.here | apply Pick.there)); exact rfl; exact rfl) | (apply Res.cellA; exact rfl; (repeat (first | exact Pick.here | apply Pick.there)); exact rfl; exact rfl)))) | ((apply JO.do; exact rfl; exact rfl; exact rfl; (apply Do.call; exact rfl; exact disk_fails d D _ cm pm ho); rintro _ _ ⟨rfl, rfl⟩); rw [hf]))
    exact ⟨_, fun w s => Sat.disk.2 ⟨_, cm, pm, s⟩, .inr ⟨by decide, rfl, rfl⟩⟩
  have hf' : D.failing = false := by simpa using hf
  by_cases hr : i < 0 ∨ (D.count : Int) ≤ i
  · have hE : D.readE i = 2 := by unfold DiskN.readE; rw [if_neg hf, if_pos hr]
    rw [hE]
    repeat' (first | (first | (apply JO.ru; exact rfl; exact rfl; exact rfl; (first | (apply Ru.move; exact rfl) | (apply Ru.assign; exact rfl) | (apply Ru.geq; exact rfl; exact rfl; (first | exact decT (by omega) | exact decF (by omega))) | (apply Ru.pickT; exact rfl; exact rfl) | (apply Ru.pickF; exact rfl; exact rfl))) | refine JC.seq ?_ | refine JC.region ?_ | refine JO.nil ?_ | refine JE.thenN ?_ | refine JE.thenR ?_ | refine JE.blockR ?_ | refine JC.block ?_ | refine JC.ret ?_ | refine JC.condT rfl ?_ | refine JC.condF rfl ?_ | (apply JO.split; exact rfl; exact rfl; exact rfl; ((apply Ru.lss; exact rfl; exact rfl; exact rfl)); all_goals intro _) | refine JO.guardF rfl rfl rfl rfl rfl rfl rfl ?_ | refine JO.guardT rfl rfl rfl rfl ?_ | (apply JE.done2; exact rfl; (first | (apply Res.tmp; exact rfl) | (apply Res.cell; exact rfl; (repeat (first | exact Pick.here | apply Pick.there)); exact rfl) | (apply Res.cellAN; exact rfl; (repeat (first | exact Pick.here | apply Pick.there)); exact rfl; exact rfl) | (apply Res.cellA; exact rfl; (repeat (first | exact Pick.here | apply Pick.there)); exact rfl; exact rfl)); (first | (apply Res.tmp; exact rfl) | (apply Res.cell; exact rfl; (repeat (first | exact Pick.here | apply Pick.there)); exact rfl) | (apply Res.cellAN; exact rfl; (repeat (first | exact Pick.here | apply Pick.there)); exact rfl; exact rfl) | (apply Res.cellA; exact rfl; (repeat (first | exact Pick.here | apply Pick.there)); exact rfl; exact rfl)))) | ((apply JO.do; exact rfl; exact rfl; exact rfl; (apply Do.call; exact rfl; exact disk_fails d D _ cm pm ho); rintro _ _ ⟨rfl, rfl⟩); rw [hf']) | (apply JO.do; exact rfl; exact rfl; exact rfl; (apply Do.call; exact rfl; exact disk_Sectors d D.size p D.data.length c _ _ _ _ hz (by omega) Pick.here); rintro _ _ ⟨rfl, hq⟩; obtain rfl := hq.symm))
    all_goals exact ⟨_, fun w s => Sat.disk.2 ⟨_, cm, pm, s⟩, .inr ⟨by decide, rfl, rfl⟩⟩
  · have hE : D.readE i = 0 := by unfold DiskN.readE; rw [if_neg hf, if_neg hr]
    rw [hE]
    obtain ⟨j, rfl⟩ := Int.eq_ofNat_of_zero_le (by omega : 0 ≤ i)
    have hj : j < D.count := by omega
    have hroom := hD.room hj
    have g0 : (j + 1) * D.size = j * D.size + D.size := Nat.succ_mul j D.size
    obtain ⟨b, rfl⟩ : ∃ b, p = some ⟨b, 0, none⟩ := by
      rcases hp with ⟨_, h⟩ | h
      · omega
      · exact h
    repeat' (first | (first | (apply JO.ru; exact rfl; exact rfl; exact rfl; (first | (apply Ru.move; exact rfl) | (apply Ru.loadN; exact rfl; (repeat (first | exact Pick.here | apply Pick.there)); exact rfl) | (apply Ru.fieldAddr; exact rfl) | (apply Ru.nilP; exact rfl) | (apply Ru.assign; exact rfl) | (apply Ru.lss; exact rfl; exact rfl; (first | exact decT (by omega) | exact decF (by omega))) | (apply Ru.geq; exact rfl; exact rfl; (first | exact decT (by omega) | exact decF (by omega))) | (apply Ru.pickF; exact rfl; exact rfl))) | refine JC.seq ?_ | refine JC.region ?_ | refine JO.nil ?_ | refine JE.thenN ?_ | refine JE.blockN ?_ | refine JC.block ?_ | refine JC.skip ?_ | refine JC.condF rfl ?_ | refine JO.guardT rfl rfl rfl rfl ?_) | ((apply JO.do; exact rfl; exact rfl; exact rfl; (apply Do.call; exact rfl; exact disk_fails d D _ cm pm ho); rintro _ _ ⟨rfl, rfl⟩); rw [hf']) | (apply JO.do; exact rfl; exact rfl; exact rfl; (apply Do.call; exact rfl; exact disk_Sectors d D.size _ D.data.length c _ _ _ _ hz (by omega) Pick.here); rintro _ _ ⟨rfl, hq⟩; obtain rfl := hq.symm))
    refine JO.cache (Pick.there (Pick.there Pick.here)) fun R hR => ?_
    have hlk : lookI (R.map fun (p : Int × Value × List UInt8) => (p.1, p.2.1)) (j : Int) = (lookI R (j : Int)).map (·.1) := lookI_map (·.1) R j
    have hlc2 : lookI D.cached (j : Int) = (lookI R (j : Int)).map (·.2) := by exact hR ▸ lookI_map (·.2) R j
    cases q : lookI R (j : Int) with
    | none =>
      rw [q] at hlk hlc2
      simp only [Option.map_none] at hlk hlc2
      (apply JO.ru; exact rfl; exact rfl; exact rfl; (apply Ru.lookupO; exact rfl; exact rfl; exact Pick.here; exact hlk))
      repeat' (first | (apply JO.ru; exact rfl; exact rfl; exact rfl; (first | (apply Ru.move; exact rfl) | (apply Ru.assign; exact rfl) | (apply Ru.extractN; exact rfl; exact rfl))) | refine JC.seq ?_ | refine JC.region ?_ | refine JO.nil ?_ | refine JE.thenN ?_ | refine JC.skip ?_ | refine JC.condF rfl ?_)
      (apply JO.do; exact rfl; exact rfl; exact rfl; (apply Do.call; exact rfl; exact disk_at d D.size j b D.data.length c _ _ _ _ hz (by omega) hlc hroom (Pick.there (Pick.there Pick.here))); rintro _ _ ⟨rfl, hq⟩; obtain rfl := hq.symm)
      refine JO.ownR (Pick.there (Pick.there (Pick.there Pick.here))) fun hrd _ _ => ?_
      have hcur : D.cur j = D.sector j := by unfold DiskN.cur; rw [hlc2]; rfl
      have hsl := hD.sector hj
      have hrd2 := hrd.part (j * D.size) D.size (c - j * D.size) (by omega) (by omega)
      rw [← List.map_drop, ← List.map_take, Nat.zero_add, Nat.mul_one] at hrd2
      (apply JO.do; exact rfl; exact rfl; exact rfl; (apply Do.call; exact rfl; exact slices_Clone _ ((D.sector j).map byte) (byteOne _) (by rw [List.length_map]; omega) hrd2); rintro u _ ⟨rfl, _⟩)
      repeat' (first | (apply JO.ru; exact rfl; exact rfl; exact rfl; ((apply Ru.assign; exact rfl))) | refine JO.nil ?_ | refine JE.thenN ?_ | refine JC.ret ?_ | (apply JE.done2; exact rfl; (first | (apply Res.tmp; exact rfl) | (apply Res.cell; exact rfl; (repeat (first | exact Pick.here | apply Pick.there)); exact rfl) | (apply Res.cellAN; exact rfl; (repeat (first | exact Pick.here | apply Pick.there)); exact rfl; exact rfl) | (apply Res.cellA; exact rfl; (repeat (first | exact Pick.here | apply Pick.there)); exact rfl; exact rfl)); (first | (apply Res.tmp; exact rfl) | (apply Res.cell; exact rfl; (repeat (first | exact Pick.here | apply Pick.there)); exact rfl) | (apply Res.cellAN; exact rfl; (repeat (first | exact Pick.here | apply Pick.there)); exact rfl; exact rfl) | (apply Res.cellA; exact rfl; (repeat (first | exact Pick.here | apply Pick.there)); exact rfl; exact rfl))))
      rw [bytesHP_map]
      refine ⟨bytesHP u (D.cur j) :: diskHP d D.tick :: F, fun w s => ?_, .inl ⟨rfl, u, rfl, rfl⟩⟩
      rw [hcur]
      have s1 := Sat.weak (l' := opn2 d D.tick (.slice (some ⟨b, 0, none⟩) D.data.length c) cm pm R (bytesHP u (D.sector j) :: F)) (by repeat (first | exact Weak.refl | (apply Weak.cons; (first | exact Pick.here | exact Pick.there Pick.here | exact Pick.there (Pick.there Pick.here) | exact Pick.there (Pick.there (Pick.there Pick.here)) | exact Pick.there (Pick.there (Pick.there (Pick.there Pick.here))) | exact Pick.there (Pick.there (Pick.there (Pick.there (Pick.there Pick.here)))) | exact Pick.there (Pick.there (Pick.there (Pick.there (Pick.there (Pick.there Pick.here))))) | exact Pick.there (Pick.there (Pick.there (Pick.there (Pick.there (Pick.there (Pick.there Pick.here)))))))) | apply Weak.drop)) w s
      exact Sat.weak (l' := bytesHP u (D.sector j) :: diskHP d D.tick :: F) (by repeat (first | exact Weak.refl | (apply Weak.cons; (first | exact Pick.here | exact Pick.there Pick.here | exact Pick.there (Pick.there Pick.here) | exact Pick.there (Pick.there (Pick.there Pick.here)) | exact Pick.there (Pick.there (Pick.there (Pick.there Pick.here))) | exact Pick.there (Pick.there (Pick.there (Pick.there (Pick.there Pick.here)))) | exact Pick.there (Pick.there (Pick.there (Pick.there (Pick.there (Pick.there Pick.here))))) | exact Pick.there (Pick.there (Pick.there (Pick.there (Pick.there (Pick.there (Pick.there Pick.here)))))))) | apply Weak.drop)) w (Sat.close hR s1)
    | some u =>
      rw [q] at hlk hlc2
      simp only [Option.map_some] at hlk hlc2
      refine JO.rowR (lookI_mem q) (Pick.there Pick.here) fun hrd => ?_
      (apply JO.ru; exact rfl; exact rfl; exact rfl; (apply Ru.lookupO; exact rfl; exact rfl; exact Pick.here; exact hlk))
      repeat' (first | (apply JO.ru; exact rfl; exact rfl; exact rfl; (first | (apply Ru.move; exact rfl) | (apply Ru.assign; exact rfl) | (apply Ru.extractN; exact rfl; exact rfl))) | refine JC.seq ?_ | refine JC.region ?_ | refine JO.nil ?_ | refine JE.thenN ?_ | refine JC.condT rfl ?_)
      have hcur : D.cur j = u.2 := by unfold DiskN.cur; rw [hlc2]; rfl
      have hsl := hD.cur hj
      rw [hcur] at hsl
      (apply JO.do; exact rfl; exact rfl; exact rfl; (apply Do.call; exact rfl; exact slices_Clone _ (u.2.map byte) (byteOne _) (by rw [List.length_map]; omega) hrd); rintro v _ ⟨rfl, _⟩)
      repeat' (first | (apply JO.ru; exact rfl; exact rfl; exact rfl; ((apply Ru.assign; exact rfl))) | refine JO.nil ?_ | refine JE.thenN ?_ | refine JE.thenR ?_ | refine JC.ret ?_ | (apply JE.done2; exact rfl; (first | (apply Res.tmp; exact rfl) | (apply Res.cell; exact rfl; (repeat (first | exact Pick.here | apply Pick.there)); exact rfl) | (apply Res.cellAN; exact rfl; (repeat (first | exact Pick.here | apply Pick.there)); exact rfl; exact rfl) | (apply Res.cellA; exact rfl; (repeat (first | exact Pick.here | apply Pick.there)); exact rfl; exact rfl)); (first | (apply Res.tmp; exact rfl) | (apply Res.cell; exact rfl; (repeat (first | exact Pick.here | apply Pick.there)); exact rfl) | (apply Res.cellAN; exact rfl; (repeat (first | exact Pick.here | apply Pick.there)); exact rfl; exact rfl) | (apply Res.cellA; exact rfl; (repeat (first | exact Pick.here | apply Pick.there)); exact rfl; exact rfl))))
      rw [bytesHP_map]
      refine ⟨bytesHP v (D.cur j) :: diskHP d D.tick :: F, fun w s => ?_, .inl ⟨rfl, v, rfl, rfl⟩⟩
      rw [hcur]
      have s1 := Sat.weak (l' := opn2 d D.tick (.slice (some ⟨b, 0, none⟩) D.data.length c) cm pm R (bytesHP v u.2 :: F)) (by repeat (first | exact Weak.refl | (apply Weak.cons; (first | exact Pick.here | exact Pick.there Pick.here | exact Pick.there (Pick.there Pick.here) | exact Pick.there (Pick.there (Pick.there Pick.here)) | exact Pick.there (Pick.there (Pick.there (Pick.there Pick.here))) | exact Pick.there (Pick.there (Pick.there (Pick.there (Pick.there Pick.here)))) | exact Pick.there (Pick.there (Pick.there (Pick.there (Pick.there (Pick.there Pick.here))))) | exact Pick.there (Pick.there (Pick.there (Pick.there (Pick.there (Pick.there (Pick.there Pick.here)))))))) | apply Weak.drop)) w s
      exact Sat.weak (l' := bytesHP v u.2 :: diskHP d D.tick :: F) (by repeat (first | exact Weak.refl | (apply Weak.cons; (first | exact Pick.here | exact Pick.there Pick.here | exact Pick.there (Pick.there Pick.here) | exact Pick.there (Pick.there (Pick.there Pick.here)) | exact Pick.there (Pick.there (Pick.there (Pick.there Pick.here))) | exact Pick.there (Pick.there (Pick.there (Pick.there (Pick.there Pick.here)))) | exact Pick.there (Pick.there (Pick.there (Pick.there (Pick.there (Pick.there Pick.here))))) | exact Pick.there (Pick.there (Pick.there (Pick.there (Pick.there (Pick.there (Pick.there Pick.here)))))))) | apply Weak.drop)) w (Sat.close hR s1)
end Go.Sep
/- The disk: a sector written. -/
namespace Go.Sep
open Go Go.Proofs
attribute [local irreducible] JO JC JE JA JQ JB JI Mid Inv Weak ownS Ru Do Fn Sat Pick Take arr pt star ex Holds bodyPost Post Exit.then Exit.inBlock Res
variable {σ : Sig} {F : List HP}
attribute [local irreducible] diskHP cacheHP planHP rowHP
set_option maxHeartbeats 2000000 in
theorem disk_Write (d : Nat) (D : DiskN) (i : Int) (v : Value) (bs : List UInt8) (hD : D.WF) (ho : D.ops ≤ 1000000000000) (hw : D.writes ≤ 1000000000000) (hbl : bs.length ≤ 100000000) {l : List HP} (hb : RdS σ l v (bs.map byte)) :
    Fn Tryz.prog σ 107 #[.pointer (some ⟨d, 0, none⟩), int i, v] (diskHP d D :: l)
      (fun r l' => (D.writeE i bs.length = 0 ∧ r = int 0 ∧ l' = diskHP d (D.put i bs) :: l) ∨ (D.writeE i bs.length ≠ 0 ∧ r = int (D.writeE i bs.length) ∧ l' = diskHP d D.tick :: l)) := by
  refine Fn.disk fun lv cm pm => Fn.bytes (Pick.there Pick.here) fun p c hlv hlc hp => ?_
  subst hlv
  have hsm := hD.small
  have hz := hD.hz
  have hz2 := hD.hz2
  have hcn := hD.cnt
  have ht : D.tick.size = D.size := rfl
  have ht2 : D.tick.writes = D.writes := rfl
  have hcnt : (D.data.length : Int) / (D.size : Int) = D.count := by rw [← Int.natCast_ediv]; rfl
  have hb0 := hb
  obtain ⟨pv, cv, rfl, hcv, hrv⟩ := hb
  have hl : (bs.map byte).length = bs.length := by simp
  rw [hl] at hb0 ⊢
  refine Fn.of Tryz.func107 rfl Tryz.ntmps107 rfl ?_
  by_cases hf : D.failing = true
  · have hE : D.writeE i bs.length = 3 := by unfold DiskN.writeE; rw [if_pos hf]
    rw [hE]
    repeat' (first | (first | (apply JO.ru; exact rfl; exact rfl; exact rfl; (first | (apply Ru.move; exact rfl) | (apply Ru.assign; exact rfl))) | refine JC.seq ?_ | refine JC.region ?_ | refine JO.nil ?_ | refine JE.thenN ?_ | refine JE.thenR ?_ | refine JE.blockR ?_ | refine JC.block ?_ | refine JC.ret ?_ | refine JC.condT rfl ?_ | (apply JE.done1; exact rfl; (first | (apply Res.tmp; exact rfl) | (apply Res.cell; exact rfl; (repeat (first | exact Pick.here | apply Pick.there)); exact rfl) | (apply Res.cellAN; exact rfl; (repeat (first | exact Pick.here | apply Pick.there)); exact rfl; exact rfl) | (apply Res.cellA; exact rfl; (repeat (first | exact Pick.here | apply Pick.there)); exact rfl; exact rfl)))) | ((apply JO.do; exact rfl; exact rfl; exact rfl; (apply Do.call; exact rfl; exact disk_fails d D _ cm pm ho); rintro _ _ ⟨rfl, rfl⟩); rw [hf]))
    exact ⟨_, fun w s => Sat.disk.2 ⟨_, cm, pm, s⟩, .inr ⟨by decide, rfl, rfl⟩⟩
  have hf' : D.failing = false := by simpa using hf
  by_cases h1 : i < 0
  · have hE : D.writeE i bs.length = 2 := by unfold DiskN.writeE; rw [if_neg hf, if_pos h1]
    rw [hE]
    repeat' (first | (first | (apply JO.ru; exact rfl; exact rfl; exact rfl; (first | (apply Ru.move; exact rfl) | (apply Ru.assign; exact rfl) | (apply Ru.lss; exact rfl; exact rfl; (first | exact decT (by omega) | exact decF (by omega))))) | refine JC.seq ?_ | refine JC.region ?_ | refine JO.nil ?_ | refine JE.thenN ?_ | refine JE.thenR ?_ | refine JE.blockR ?_ | refine JC.block ?_ | refine JC.ret ?_ | refine JC.condT rfl ?_ | refine JC.condF rfl ?_ | (apply JE.done1; exact rfl; (first | (apply Res.tmp; exact rfl) | (apply Res.cell; exact rfl; (repeat (first | exact Pick.here | apply Pick.there)); exact rfl) | (apply Res.cellAN; exact rfl; (repeat (first | exact Pick.here | apply Pick.there)); exact rfl; exact rfl) | (apply Res.cellA; exact rfl; (repeat (first | exact Pick.here | apply Pick.there)); exact rfl; exact rfl)))) | ((apply JO.do; exact rfl; exact rfl; exact rfl; (apply Do.call; exact rfl; exact disk_fails d D _ cm pm ho); rintro _ _ ⟨rfl, rfl⟩); rw [hf']))
    all_goals exact ⟨_, fun w s => Sat.disk.2 ⟨_, cm, pm, s⟩, .inr ⟨by decide, rfl, rfl⟩⟩
  by_cases h2 : (D.count : Int) ≤ i
  · have hE : D.writeE i bs.length = 4 := by unfold DiskN.writeE; rw [if_neg hf, if_neg h1, if_pos h2]
    rw [hE]
    repeat' (first | (first | (apply JO.ru; exact rfl; exact rfl; exact rfl; (first | (apply Ru.move; exact rfl) | (apply Ru.assign; exact rfl) | (apply Ru.lss; exact rfl; exact rfl; (first | exact decT (by omega) | exact decF (by omega))) | (apply Ru.geq; exact rfl; exact rfl; (first | exact decT (by omega) | exact decF (by omega))))) | refine JC.seq ?_ | refine JC.region ?_ | refine JO.nil ?_ | refine JE.thenN ?_ | refine JE.thenR ?_ | refine JE.blockR ?_ | refine JC.block ?_ | refine JC.ret ?_ | refine JC.condT rfl ?_ | refine JC.condF rfl ?_ | (apply JE.done1; exact rfl; (first | (apply Res.tmp; exact rfl) | (apply Res.cell; exact rfl; (repeat (first | exact Pick.here | apply Pick.there)); exact rfl) | (apply Res.cellAN; exact rfl; (repeat (first | exact Pick.here | apply Pick.there)); exact rfl; exact rfl) | (apply Res.cellA; exact rfl; (repeat (first | exact Pick.here | apply Pick.there)); exact rfl; exact rfl)))) | ((apply JO.do; exact rfl; exact rfl; exact rfl; (apply Do.call; exact rfl; exact disk_fails d D _ cm pm ho); rintro _ _ ⟨rfl, rfl⟩); rw [hf']) | (apply JO.do; exact rfl; exact rfl; exact rfl; (apply Do.call; exact rfl; exact disk_Sectors d D.size p D.data.length c _ _ _ _ hz (by omega) Pick.here); rintro _ _ ⟨rfl, hq⟩; obtain rfl := hq.symm))
    all_goals exact ⟨_, fun w s => Sat.disk.2 ⟨_, cm, pm, s⟩, .inr ⟨by decide, rfl, rfl⟩⟩
  by_cases h3 : bs.length ≠ D.size
  · have hE : D.writeE i bs.length = 1 := by unfold DiskN.writeE; rw [if_neg hf, if_neg h1, if_neg h2, if_pos h3]
    rw [hE]
    repeat' (first | (first | (apply JO.ru; exact rfl; exact rfl; exact rfl; (first | (apply Ru.move; exact rfl) | (apply Ru.loadN; exact rfl; (repeat (first | exact Pick.here | apply Pick.there)); exact rfl) | (apply Ru.fieldAddr; exact rfl) | (apply Ru.nilP; exact rfl) | (apply Ru.assign; exact rfl) | (apply Ru.lenS; exact rfl) | (apply Ru.lss; exact rfl; exact rfl; (first | exact decT (by omega) | exact decF (by omega))) | (apply Ru.geq; exact rfl; exact rfl; (first | exact decT (by omega) | exact decF (by omega))) | (apply Ru.neq; exact rfl; exact rfl; (first | exact ndecF (by omega) | exact ndecT (by omega))))) | refine JC.seq ?_ | refine JC.region ?_ | refine JO.nil ?_ | refine JE.thenN ?_ | refine JE.thenR ?_ | refine JE.blockR ?_ | refine JC.block ?_ | refine JC.ret ?_ | refine JC.condT rfl ?_ | refine JC.condF rfl ?_ | (apply JE.done1; exact rfl; (first | (apply Res.tmp; exact rfl) | (apply Res.cell; exact rfl; (repeat (first | exact Pick.here | apply Pick.there)); exact rfl) | (apply Res.cellAN; exact rfl; (repeat (first | exact Pick.here | apply Pick.there)); exact rfl; exact rfl) | (apply Res.cellA; exact rfl; (repeat (first | exact Pick.here | apply Pick.there)); exact rfl; exact rfl)))) | ((apply JO.do; exact rfl; exact rfl; exact rfl; (apply Do.call; exact rfl; exact disk_fails d D _ cm pm ho); rintro _ _ ⟨rfl, rfl⟩); rw [hf']) | (apply JO.do; exact rfl; exact rfl; exact rfl; (apply Do.call; exact rfl; exact disk_Sectors d D.size p D.data.length c _ _ _ _ hz (by omega) Pick.here); rintro _ _ ⟨rfl, hq⟩; obtain rfl := hq.symm))
    all_goals exact ⟨_, fun w s => Sat.disk.2 ⟨_, cm, pm, s⟩, .inr ⟨by decide, rfl, rfl⟩⟩
  have h3' : bs.length = D.size := by omega
  have hE : D.writeE i bs.length = 0 := by unfold DiskN.writeE; rw [if_neg hf, if_neg h1, if_neg h2, if_neg h3]
  rw [hE]
  repeat' (first | (first | (apply JO.ru; exact rfl; exact rfl; exact rfl; (first | (apply Ru.move; exact rfl) | (apply Ru.loadN; exact rfl; (repeat (first | exact Pick.here | apply Pick.there)); exact rfl) | (apply Ru.fieldAddr; exact rfl) | (apply Ru.nilP; exact rfl) | (apply Ru.assign; exact rfl) | (apply Ru.lenS; exact rfl) | (apply Ru.lss; exact rfl; exact rfl; (first | exact decT (by omega) | exact decF (by omega))) | (apply Ru.geq; exact rfl; exact rfl; (first | exact decT (by omega) | exact decF (by omega))) | (apply Ru.neq; exact rfl; exact rfl; (first | exact ndecF (by omega) | exact ndecT (by omega))))) | refine JC.seq ?_ | refine JC.region ?_ | refine JO.nil ?_ | refine JE.thenN ?_ | refine JE.blockN ?_ | refine JC.block ?_ | refine JC.skip ?_ | refine JC.condF rfl ?_) | ((apply JO.do; exact rfl; exact rfl; exact rfl; (apply Do.call; exact rfl; exact disk_fails d D _ cm pm ho); rintro _ _ ⟨rfl, rfl⟩); rw [hf']) | (apply JO.do; exact rfl; exact rfl; exact rfl; (apply Do.call; exact rfl; exact disk_Sectors d D.size p D.data.length c _ _ _ _ hz (by omega) Pick.here); rintro _ _ ⟨rfl, hq⟩; obtain rfl := hq.symm))
  refine JC.cache (Pick.there (Pick.there Pick.here)) fun R hR => ?_
  refine JC.regionB (arr d 121 (diskCells D.tick (.slice p D.data.length c) cm pm) :: bytesHP (.slice p D.data.length c) D.tick.data :: planHP pm D.tick.planned :: l) mixed ?_
  repeat' ((apply JB.ru; exact rfl; exact rfl; exact rfl; exact rfl; (first | (apply Ru.move; exact rfl) | (apply Ru.loadN; exact rfl; (repeat (first | exact Pick.here | apply Pick.there)); exact rfl) | (apply Ru.fieldAddr; exact rfl) | (apply Ru.nilP; exact rfl)); decide +kernel; decide +kernel; (first | exact fun _ h => h | exact fun _ h => Sat.drop h | exact fun _ h => Sat.drop (Sat.drop h) | exact fun _ h => Sat.drop (Sat.drop (Sat.drop h)) | exact fun _ h => Sat.drop (Sat.drop (Sat.drop (Sat.drop h)))); (simp only [Nat.reduceAdd, Nat.reducePow, Nat.reduceMul, Nat.zero_or, Nat.or_zero, Nat.reduceXor, Nat.reduceOr]; try exact rfl)))
  refine JB.one 6 (by decide +kernel) ?_
  (apply JI.do; exact rfl; exact rfl; exact rfl; exact rfl; (apply Do.call; exact rfl; exact slices_Clone _ (bs.map byte) (byteOne _) (by rw [hl]; omega) hb0.cons.cons.cons.cons.cons); (simp only [Nat.reduceAdd, Nat.reducePow, Nat.reduceMul, Nat.zero_or, Nat.or_zero, Nat.reduceXor, Nat.reduceOr]; try exact rfl); rintro u _ ⟨rfl, _⟩; refine ⟨fun _ s => s.drop.drop.drop, ?_⟩)
  rw [bytesHP_map]
  refine JB.one 7 (by decide +kernel) ?_
  (apply JI.do0; exact rfl; exact rfl; exact rfl; (apply Do.mapUpdateI; exact rfl; exact rfl; exact rfl; exact Pick.there Pick.here; omega); (simp only [Nat.reduceAdd, Nat.reducePow, Nat.reduceMul, Nat.zero_or, Nat.or_zero, Nat.reduceXor, Nat.reduceOr]; try exact rfl); rintro _ _ ⟨rfl, rfl⟩; refine ⟨fun _ s => s.drop.drop.drop, ?_⟩)
  repeat' ((apply JB.nil; exact rfl))
  repeat' (first | (apply JO.ru; exact rfl; exact rfl; exact rfl; (first | (apply Ru.move; exact rfl) | (apply Ru.loadN; exact rfl; (repeat (first | exact Pick.here | apply Pick.there)); exact rfl) | (apply Ru.fieldAddr; exact rfl) | (apply Ru.nilP; exact rfl) | (apply Ru.assign; exact rfl) | (apply Ru.add; exact rfl; exact rfl; (first | exact wrapI (by omega) (by omega) | exact rfl)))) | refine JC.seq ?_ | refine JC.region ?_ | refine JO.nil ?_ | refine JE.thenN ?_ | refine JC.ret ?_ | (apply JO.do0; exact rfl; exact rfl; (first | (apply Do.storeN; exact rfl; exact rfl; exact rfl; (repeat (first | exact Pick.here | apply Pick.there)); exact rfl; exact rfl) | (apply Do.store; exact rfl; exact rfl; exact rfl; (repeat (first | exact Pick.here | apply Pick.there)); exact rfl)); rintro _ _ ⟨rfl, rfl⟩) | (apply JE.done1; exact rfl; (first | (apply Res.tmp; exact rfl) | (apply Res.cell; exact rfl; (repeat (first | exact Pick.here | apply Pick.there)); exact rfl) | (apply Res.cellAN; exact rfl; (repeat (first | exact Pick.here | apply Pick.there)); exact rfl; exact rfl) | (apply Res.cellA; exact rfl; (repeat (first | exact Pick.here | apply Pick.there)); exact rfl; exact rfl))))
  have em : updI (R.map fun (p : Int × Value × List UInt8) => (p.1, p.2.1)) i u = (updI R i (u, bs)).map fun p => (p.1, p.2.1) := updI_map (·.1) R i (u, bs)
  have ec : (D.put i bs).cached = (updI R i (u, bs)).map fun p => (p.1, p.2.2) := by
    show updI D.cached i bs = _
    have e : D.cached = R.map fun p => (p.1, p.2.2) := hR
    rw [e]; exact updI_map (·.2) R i (u, bs)
  rw [em]
  refine ⟨diskHP d (D.put i bs) :: l, fun w s => ?_, .inl ⟨rfl, rfl, rfl⟩⟩
  have s1 := Sat.weak (l' := bytesHP u bs :: star (R.map rowHP) :: arr d 121 (diskCells (D.put i bs) (.slice p D.data.length c) cm pm) :: mapI cm ((updI R i (u, bs)).map fun p => (p.1, p.2.1)) :: bytesHP (.slice p D.data.length c) D.data :: planHP pm D.planned :: l) (by repeat (first | exact Weak.refl | (apply Weak.cons; (first | exact Pick.here | exact Pick.there Pick.here | exact Pick.there (Pick.there Pick.here) | exact Pick.there (Pick.there (Pick.there Pick.here)) | exact Pick.there (Pick.there (Pick.there (Pick.there Pick.here))) | exact Pick.there (Pick.there (Pick.there (Pick.there (Pick.there Pick.here)))) | exact Pick.there (Pick.there (Pick.there (Pick.there (Pick.there (Pick.there Pick.here))))) | exact Pick.there (Pick.there (Pick.there (Pick.there (Pick.there (Pick.there (Pick.there Pick.here)))))))) | apply Weak.drop)) w s
  exact Sat.close ec (Sat.weak (l' := opn2 d (D.put i bs) (.slice p D.data.length c) cm pm (updI R i (u, bs)) l) (by repeat (first | exact Weak.refl | (apply Weak.cons; (first | exact Pick.here | exact Pick.there Pick.here | exact Pick.there (Pick.there Pick.here) | exact Pick.there (Pick.there (Pick.there Pick.here)) | exact Pick.there (Pick.there (Pick.there (Pick.there Pick.here))) | exact Pick.there (Pick.there (Pick.there (Pick.there (Pick.there Pick.here)))) | exact Pick.there (Pick.there (Pick.there (Pick.there (Pick.there (Pick.there Pick.here))))) | exact Pick.there (Pick.there (Pick.there (Pick.there (Pick.there (Pick.there (Pick.there Pick.here)))))))) | apply Weak.drop)) w (Sat.updRows s1))

theorem disk_Fail (d : Nat) (D : DiskN) (k : Int) (hk : -9223372036854775808 ≤ k ∧ k ≤ 9223372036854775807) :
    Fn Tryz.prog σ 29 #[.pointer (some ⟨d, 0, none⟩), int k] (diskHP d D :: F) (fun v l' => v = .tuple #[] ∧ l' = diskHP d (D.plan k) :: F) := by
  refine Fn.disk fun lv cm pm => ?_
  refine Fn.of Tryz.func29 rfl Tryz.ntmps29 rfl ?_
  repeat' (first | (apply JO.ru; exact rfl; exact rfl; exact rfl; (first | (apply Ru.move; exact rfl) | (apply Ru.loadN; exact rfl; (repeat (first | exact Pick.here | apply Pick.there)); exact rfl) | (apply Ru.fieldAddr; exact rfl) | (apply Ru.nilP; exact rfl) | (apply Ru.buildN; exact rfl; exact rfl))) | refine JC.region ?_)
  (apply JO.do0; exact rfl; exact rfl; (apply Do.planUpdate; exact rfl; exact rfl; exact rfl; exact Pick.there (Pick.there (Pick.there Pick.here)); exact hk); rintro _ _ ⟨rfl, rfl⟩)
  repeat' (refine JO.nil ?_)
  refine JE.done0N rfl ?_
  refine ⟨diskHP d (D.plan k) :: F, fun w s => Sat.disk.2 ⟨lv, cm, pm, Sat.weak (l' := opn d (D.plan k) lv cm pm F) (by repeat (first | exact Weak.refl | (apply Weak.cons; (first | exact Pick.here | exact Pick.there Pick.here | exact Pick.there (Pick.there Pick.here) | exact Pick.there (Pick.there (Pick.there Pick.here)) | exact Pick.there (Pick.there (Pick.there (Pick.there Pick.here))) | exact Pick.there (Pick.there (Pick.there (Pick.there (Pick.there Pick.here)))) | exact Pick.there (Pick.there (Pick.there (Pick.there (Pick.there (Pick.there Pick.here))))) | exact Pick.there (Pick.there (Pick.there (Pick.there (Pick.there (Pick.there (Pick.there Pick.here)))))))) | apply Weak.drop)) w s⟩, rfl, rfl⟩
end Go.Sep
/- slot: where a slot lies; its two closures. -/
namespace Go.Sep
open Go Go.Proofs
attribute [local irreducible] JO JC JE JA JQ JB JI Mid Inv Weak ownS Ru Do Fn Sat Pick Take arr pt star ex Holds bodyPost Post Exit.then Exit.inBlock Res
variable {σ : Sig} {F : List HP}
attribute [local irreducible] diskHP cacheHP planHP rowHP
theorem disk_SizeC (d : Nat) (D : DiskN) {l r : List HP} (hp : Pick (diskHP d D) l r) : Fn Tryz.prog σ 102 #[.pointer (some ⟨d, 0, none⟩)] l (fun v l' => v = int D.size ∧ l' = l) :=
  Fn.diskQ hp fun _ _ _ _ _ => disk_Size d D.size _ _ _ _ _ Pick.here
theorem disk_OpsC (d : Nat) (D : DiskN) {l r : List HP} (hp : Pick (diskHP d D) l r) : Fn Tryz.prog σ 30 #[.pointer (some ⟨d, 0, none⟩)] l (fun v l' => v = int D.ops ∧ l' = l) :=
  Fn.diskQ hp fun _ _ _ _ _ => disk_Ops d D.ops _ _ _ _ _ Pick.here
theorem disk_SectorsC (d : Nat) (D : DiskN) (hD : D.WF) {l r : List HP} (hp : Pick (diskHP d D) l r) : Fn Tryz.prog σ 103 #[.pointer (some ⟨d, 0, none⟩)] l (fun v l' => v = int D.count ∧ l' = l) :=
  Fn.diskQ hp fun p c _ _ _ => disk_Sectors d D.size p D.data.length c _ _ _ _ hD.hz (by have := hD.small; omega) Pick.here

/-- A slot's place: the disk, and what the two closures hold. -/
abbrev slotL (d : Nat) (D : DiskN) (db fb : Nat) (first : Int) (F : List HP) : List HP := diskHP d D :: arr db 28 [.pointer (some ⟨d, 0, none⟩)] :: arr fb 3 [int first] :: F
abbrev rdV (db fb : Nat) : Value := .func (.func 104) #[] #[.pointer (some ⟨db, 0, none⟩), .pointer (some ⟨fb, 0, none⟩)]
abbrev wrV (db fb : Nat) : Value := .func (.func 106) #[] #[.pointer (some ⟨db, 0, none⟩), .pointer (some ⟨fb, 0, none⟩)]
abbrev placeV (many size : Int) (db fb : Nat) : Value := .agg #[int many, int size, rdV db fb, wrV db fb]
def atE (D : DiskN) (which e f s : Int) : Int :=
  if rightG e f s = false then 9 else if which < 0 ∨ 2 ≤ which ∨ D.size < 32 then 1 else if (D.count : Int) < 2 * spanG D.size e f s then 4 else 0
set_option maxHeartbeats 4000000 in
theorem slot_at (d : Nat) (D : DiskN) (which e f s : Int) (hD : D.WF) [hg : InG F] :
    Fn Tryz.prog σ 62 #[.pointer (some ⟨d, 0, none⟩), int which, geoV e f s] (diskHP d D :: F)
      (fun v l' => (atE D which e f s = 0 ∧ ∃ db fb, v = .tuple #[placeV (spanG D.size e f s - 1) D.size db fb, int 0] ∧ l' = slotL d D db fb (which * spanG D.size e f s) F) ∨
        (atE D which e f s ≠ 0 ∧ v = .tuple #[.agg #[int 0, int 0, .nilFunc, .nilFunc], int (atE D which e f s)] ∧ l' = diskHP d D :: F)) := by
  have hz2 := hD.hz2
  have hcn := hD.cnt
  have hsp := spanG_bd D.size e f s
  refine Fn.of Tryz.func62 rfl Tryz.ntmps62 rfl ?_
  by_cases h1 : rightG e f s = true
  case neg =>
    have h1' : rightG e f s = false := by simpa using h1
    have hE : atE D which e f s = 9 := by unfold atE; rw [if_pos h1']
    rw [hE]
    repeat' (first | (first | (apply JO.ru; exact rfl; exact rfl; exact rfl; (first | (apply Ru.assign; exact rfl) | (apply Ru.not; exact rfl) | (apply Ru.loadAN; exact rfl; (repeat (first | exact Pick.here | apply Pick.there)); exact rfl; exact rfl) | (apply Ru.buildN; exact rfl; exact rfl))) | refine JC.seq ?_ | refine JC.region ?_ | refine JO.nil ?_ | refine JE.thenN ?_ | refine JE.thenR ?_ | refine JE.blockR ?_ | refine JC.block ?_ | refine JC.ret ?_ | refine JC.condT rfl ?_ | (apply JO.do; exact rfl; exact rfl; exact rfl; (first | (apply Do.allocN; exact rfl) | apply Do.alloc); rintro _ _ ⟨_, rfl, rfl⟩) | (apply JO.do; exact rfl; exact rfl; exact rfl; (first | (apply Do.boxN; exact rfl; exact rfl) | (apply Do.box; exact rfl)); rintro _ _ ⟨_, rfl, rfl⟩) | (apply JO.do0; exact rfl; exact rfl; (first | (apply Do.storeAN; exact rfl; exact rfl; (repeat (first | exact Pick.here | apply Pick.there)); exact rfl; exact rfl; exact rfl; exact rfl) | (apply Do.storeA; exact rfl; exact rfl; (repeat (first | exact Pick.here | apply Pick.there)); exact rfl; exact rfl; exact rfl)); rintro _ _ ⟨rfl, rfl⟩) | (apply JE.done2; exact rfl; (first | (apply Res.tmp; exact rfl) | (apply Res.cell; exact rfl; (repeat (first | exact Pick.here | apply Pick.there)); exact rfl) | (apply Res.cellAN; exact rfl; (repeat (first | exact Pick.here | apply Pick.there)); exact rfl; exact rfl) | (apply Res.cellA; exact rfl; (repeat (first | exact Pick.here | apply Pick.there)); exact rfl; exact rfl)); (first | (apply Res.tmp; exact rfl) | (apply Res.cell; exact rfl; (repeat (first | exact Pick.here | apply Pick.there)); exact rfl) | (apply Res.cellAN; exact rfl; (repeat (first | exact Pick.here | apply Pick.there)); exact rfl; exact rfl) | (apply Res.cellA; exact rfl; (repeat (first | exact Pick.here | apply Pick.there)); exact rfl; exact rfl)))) | ((first | (apply JO.do; exact rfl; exact rfl; exact rfl; (apply Do.call; exact rfl; exact geo_Right _ _ _); rintro _ _ ⟨rfl, hq⟩; obtain rfl := hq.symm) | (apply JQ.call; exact rfl; exact rfl; exact rfl; exact geo_Right _ _ _; (rintro _ _ ⟨rfl, rfl⟩; exact ⟨rfl, rfl⟩))); rw [h1']))
    refine finW (l' := diskHP d D :: F) ?_ (by repeat (first | exact Weak.refl | (apply Weak.cons; (first | exact Pick.here | exact Pick.there Pick.here | exact Pick.there (Pick.there Pick.here) | exact Pick.there (Pick.there (Pick.there Pick.here)) | exact Pick.there (Pick.there (Pick.there (Pick.there Pick.here))) | exact Pick.there (Pick.there (Pick.there (Pick.there (Pick.there Pick.here)))) | exact Pick.there (Pick.there (Pick.there (Pick.there (Pick.there (Pick.there Pick.here))))) | exact Pick.there (Pick.there (Pick.there (Pick.there (Pick.there (Pick.there (Pick.there Pick.here)))))))) | apply Weak.drop))
    exact .inr ⟨by decide, rfl, rfl⟩
  by_cases h2 : which < 0 ∨ 2 ≤ which ∨ D.size < 32
  · have hE : atE D which e f s = 1 := by unfold atE; rw [if_neg (by simp [h1]), if_pos h2]
    rw [hE]
    repeat' (first | (first | (apply JO.ru; exact rfl; exact rfl; exact rfl; (first | (apply Ru.move; exact rfl) | (apply Ru.loadN; exact rfl; (repeat (first | exact Pick.here | apply Pick.there)); exact rfl) | (apply Ru.assign; exact rfl) | (apply Ru.lss; exact rfl; exact rfl; (first | exact decT (by omega) | exact decF (by omega))) | (apply Ru.pickT; exact rfl; exact rfl) | (apply Ru.pickF; exact rfl; exact rfl) | (apply Ru.not; exact rfl) | (apply Ru.loadAN; exact rfl; (repeat (first | exact Pick.here | apply Pick.there)); exact rfl; exact rfl) | (apply Ru.buildN; exact rfl; exact rfl))) | refine JC.seq ?_ | refine JC.region ?_ | refine JO.nil ?_ | refine JE.thenN ?_ | refine JE.thenR ?_ | refine JE.blockR ?_ | refine JC.block ?_ | refine JC.ret ?_ | refine JC.condT rfl ?_ | refine JC.condF rfl ?_ | (apply JO.split; exact rfl; exact rfl; exact rfl; (first | (apply Ru.lss; exact rfl; exact rfl; exact rfl) | (apply Ru.geq; exact rfl; exact rfl; exact rfl)); all_goals intro _) | refine JO.guardF rfl rfl rfl rfl rfl rfl rfl ?_ | refine JO.guardT rfl rfl rfl rfl ?_ | (apply JO.do; exact rfl; exact rfl; exact rfl; (first | (apply Do.allocN; exact rfl) | apply Do.alloc); rintro _ _ ⟨_, rfl, rfl⟩) | (apply JO.do; exact rfl; exact rfl; exact rfl; (first | (apply Do.boxN; exact rfl; exact rfl) | (apply Do.box; exact rfl)); rintro _ _ ⟨_, rfl, rfl⟩) | (apply JO.do0; exact rfl; exact rfl; (first | (apply Do.storeAN; exact rfl; exact rfl; (repeat (first | exact Pick.here | apply Pick.there)); exact rfl; exact rfl; exact rfl; exact rfl) | (apply Do.storeA; exact rfl; exact rfl; (repeat (first | exact Pick.here | apply Pick.there)); exact rfl; exact rfl; exact rfl)); rintro _ _ ⟨rfl, rfl⟩) | (apply JE.done2; exact rfl; (first | (apply Res.tmp; exact rfl) | (apply Res.cell; exact rfl; (repeat (first | exact Pick.here | apply Pick.there)); exact rfl) | (apply Res.cellAN; exact rfl; (repeat (first | exact Pick.here | apply Pick.there)); exact rfl; exact rfl) | (apply Res.cellA; exact rfl; (repeat (first | exact Pick.here | apply Pick.there)); exact rfl; exact rfl)); (first | (apply Res.tmp; exact rfl) | (apply Res.cell; exact rfl; (repeat (first | exact Pick.here | apply Pick.there)); exact rfl) | (apply Res.cellAN; exact rfl; (repeat (first | exact Pick.here | apply Pick.there)); exact rfl; exact rfl) | (apply Res.cellA; exact rfl; (repeat (first | exact Pick.here | apply Pick.there)); exact rfl; exact rfl)))) | ((first | (apply JO.do; exact rfl; exact rfl; exact rfl; (apply Do.call; exact rfl; exact geo_Right _ _ _); rintro _ _ ⟨rfl, hq⟩; obtain rfl := hq.symm) | (apply JQ.call; exact rfl; exact rfl; exact rfl; exact geo_Right _ _ _; (rintro _ _ ⟨rfl, rfl⟩; exact ⟨rfl, rfl⟩))); rw [h1]) | (first | (apply JO.do; exact rfl; exact rfl; exact rfl; (apply Do.call; exact rfl; exact disk_SizeC d D (by repeat (first | exact Pick.here | apply Pick.there))); rintro _ _ ⟨rfl, hq⟩; obtain rfl := hq.symm) | (apply JQ.call; exact rfl; exact rfl; exact rfl; exact disk_SizeC d D (by repeat (first | exact Pick.here | apply Pick.there)); (rintro _ _ ⟨rfl, rfl⟩; exact ⟨rfl, rfl⟩))))
    all_goals refine finW (l' := diskHP d D :: F) ?_ (by repeat (first | exact Weak.refl | (apply Weak.cons; (first | exact Pick.here | exact Pick.there Pick.here | exact Pick.there (Pick.there Pick.here) | exact Pick.there (Pick.there (Pick.there Pick.here)) | exact Pick.there (Pick.there (Pick.there (Pick.there Pick.here))) | exact Pick.there (Pick.there (Pick.there (Pick.there (Pick.there Pick.here)))) | exact Pick.there (Pick.there (Pick.there (Pick.there (Pick.there (Pick.there Pick.here))))) | exact Pick.there (Pick.there (Pick.there (Pick.there (Pick.there (Pick.there (Pick.there Pick.here)))))))) | apply Weak.drop))
    all_goals exact .inr ⟨by decide, rfl, rfl⟩
  by_cases h3 : (D.count : Int) < 2 * spanG D.size e f s
  · have hE : atE D which e f s = 4 := by unfold atE; rw [if_neg (by simp [h1]), if_neg h2, if_pos h3]
    rw [hE]
    repeat' (first | (first | (apply JO.ru; exact rfl; exact rfl; exact rfl; (first | (apply Ru.move; exact rfl) | (apply Ru.loadN; exact rfl; (repeat (first | exact Pick.here | apply Pick.there)); exact rfl) | (apply Ru.assign; exact rfl) | (apply Ru.lss; exact rfl; exact rfl; (first | exact decT (by omega) | exact decF (by omega))) | (apply Ru.geq; exact rfl; exact rfl; (first | exact decT (by omega) | exact decF (by omega))) | (apply Ru.pickF; exact rfl; exact rfl) | (apply Ru.not; exact rfl) | (apply Ru.loadAN; exact rfl; (repeat (first | exact Pick.here | apply Pick.there)); exact rfl; exact rfl) | (apply Ru.buildN; exact rfl; exact rfl))) | refine JC.seq ?_ | refine JC.region ?_ | refine JO.nil ?_ | refine JE.thenN ?_ | refine JE.thenR ?_ | refine JE.blockR ?_ | refine JC.block ?_ | refine JC.ret ?_ | refine JC.condT rfl ?_ | refine JC.condF rfl ?_ | (apply JQ.ru; exact rfl; exact rfl; exact rfl; (first | (apply Ru.loadN; exact rfl; (repeat (first | exact Pick.here | apply Pick.there)); exact rfl) | (apply Ru.assign; exact rfl) | (apply Ru.lss; exact rfl; exact rfl; (first | exact decT (by omega) | exact decF (by omega))) | (apply Ru.loadAN; exact rfl; (repeat (first | exact Pick.here | apply Pick.there)); exact rfl; exact rfl))) | refine JO.guardT rfl rfl rfl rfl ?_ | refine JQ.nil ?_ | (apply JO.do; exact rfl; exact rfl; exact rfl; (first | (apply Do.allocN; exact rfl) | apply Do.alloc); rintro _ _ ⟨_, rfl, rfl⟩) | (apply JO.do; exact rfl; exact rfl; exact rfl; (first | (apply Do.boxN; exact rfl; exact rfl) | (apply Do.box; exact rfl)); rintro _ _ ⟨_, rfl, rfl⟩) | (apply JO.do0; exact rfl; exact rfl; (first | (apply Do.storeAN; exact rfl; exact rfl; (repeat (first | exact Pick.here | apply Pick.there)); exact rfl; exact rfl; exact rfl; exact rfl) | (apply Do.storeA; exact rfl; exact rfl; (repeat (first | exact Pick.here | apply Pick.there)); exact rfl; exact rfl; exact rfl)); rintro _ _ ⟨rfl, rfl⟩) | refine JC.regionQ mixed (by decide +kernel) ?_ | (apply JE.done2; exact rfl; (first | (apply Res.tmp; exact rfl) | (apply Res.cell; exact rfl; (repeat (first | exact Pick.here | apply Pick.there)); exact rfl) | (apply Res.cellAN; exact rfl; (repeat (first | exact Pick.here | apply Pick.there)); exact rfl; exact rfl) | (apply Res.cellA; exact rfl; (repeat (first | exact Pick.here | apply Pick.there)); exact rfl; exact rfl)); (first | (apply Res.tmp; exact rfl) | (apply Res.cell; exact rfl; (repeat (first | exact Pick.here | apply Pick.there)); exact rfl) | (apply Res.cellAN; exact rfl; (repeat (first | exact Pick.here | apply Pick.there)); exact rfl; exact rfl) | (apply Res.cellA; exact rfl; (repeat (first | exact Pick.here | apply Pick.there)); exact rfl; exact rfl)))) | ((first | (apply JO.do; exact rfl; exact rfl; exact rfl; (apply Do.call; exact rfl; exact geo_Right _ _ _); rintro _ _ ⟨rfl, hq⟩; obtain rfl := hq.symm) | (apply JQ.call; exact rfl; exact rfl; exact rfl; exact geo_Right _ _ _; (rintro _ _ ⟨rfl, rfl⟩; exact ⟨rfl, rfl⟩))); rw [h1]) | (first | (apply JO.do; exact rfl; exact rfl; exact rfl; (apply Do.call; exact rfl; exact disk_SizeC d D (by repeat (first | exact Pick.here | apply Pick.there))); rintro _ _ ⟨rfl, hq⟩; obtain rfl := hq.symm) | (apply JQ.call; exact rfl; exact rfl; exact rfl; exact disk_SizeC d D (by repeat (first | exact Pick.here | apply Pick.there)); (rintro _ _ ⟨rfl, rfl⟩; exact ⟨rfl, rfl⟩))) | (first | (apply JO.do; exact rfl; exact rfl; exact rfl; (apply Do.call; exact rfl; exact disk_SectorsC d D hD (by repeat (first | exact Pick.here | apply Pick.there))); rintro _ _ ⟨rfl, hq⟩; obtain rfl := hq.symm) | (apply JQ.call; exact rfl; exact rfl; exact rfl; exact disk_SectorsC d D hD (by repeat (first | exact Pick.here | apply Pick.there)); (rintro _ _ ⟨rfl, rfl⟩; exact ⟨rfl, rfl⟩))) | (first | (apply JO.do; exact rfl; exact rfl; exact rfl; (apply Do.call; exact rfl; exact slot_Room _ _ _ _); rintro _ _ ⟨rfl, hq⟩; obtain rfl := hq.symm) | (apply JQ.call; exact rfl; exact rfl; exact rfl; exact slot_Room _ _ _ _; (rintro _ _ ⟨rfl, rfl⟩; exact ⟨rfl, rfl⟩))))
    all_goals refine finW (l' := diskHP d D :: F) ?_ (by repeat (first | exact Weak.refl | (apply Weak.cons; (first | exact Pick.here | exact Pick.there Pick.here | exact Pick.there (Pick.there Pick.here) | exact Pick.there (Pick.there (Pick.there Pick.here)) | exact Pick.there (Pick.there (Pick.there (Pick.there Pick.here))) | exact Pick.there (Pick.there (Pick.there (Pick.there (Pick.there Pick.here)))) | exact Pick.there (Pick.there (Pick.there (Pick.there (Pick.there (Pick.there Pick.here))))) | exact Pick.there (Pick.there (Pick.there (Pick.there (Pick.there (Pick.there (Pick.there Pick.here)))))))) | apply Weak.drop))
    all_goals exact .inr ⟨by decide, rfl, rfl⟩
  · have hE : atE D which e f s = 0 := by unfold atE; rw [if_neg (by simp [h1]), if_neg h2, if_neg h3]
    rw [hE]
    have hw : which = 0 ∨ which = 1 := by omega
    rcases hw with rfl | rfl
    all_goals
      repeat' (first | (first | (apply JO.ru; exact rfl; exact rfl; exact rfl; (first | (apply Ru.move; exact rfl) | (apply Ru.loadN; exact rfl; (repeat (first | exact Pick.here | apply Pick.there)); exact rfl) | (apply Ru.assign; exact rfl) | (apply Ru.lss; exact rfl; exact rfl; (first | exact decT (by omega) | exact decF (by omega))) | (apply Ru.geq; exact rfl; exact rfl; (first | exact decT (by omega) | exact decF (by omega))) | (apply Ru.sub; exact rfl; exact rfl; (first | exact wrapI (by omega) (by omega) | exact rfl)) | (apply Ru.mul; exact rfl; exact rfl; (first | exact wrapI (by omega) (by omega) | exact rfl)) | (apply Ru.pickF; exact rfl; exact rfl) | (apply Ru.not; exact rfl) | (apply Ru.loadAN; exact rfl; (repeat (first | exact Pick.here | apply Pick.there)); exact rfl; exact rfl) | (apply Ru.buildN; exact rfl; exact rfl) | (apply Ru.makeFunc; exact rfl; exact rfl))) | refine JC.seq ?_ | refine JC.region ?_ | refine JO.nil ?_ | refine JE.thenN ?_ | refine JE.blockN ?_ | refine JC.block ?_ | refine JC.ret ?_ | refine JC.skip ?_ | refine JC.condF rfl ?_ | (apply JQ.ru; exact rfl; exact rfl; exact rfl; (first | (apply Ru.loadN; exact rfl; (repeat (first | exact Pick.here | apply Pick.there)); exact rfl) | (apply Ru.assign; exact rfl) | (apply Ru.lss; exact rfl; exact rfl; (first | exact decT (by omega) | exact decF (by omega))) | (apply Ru.loadAN; exact rfl; (repeat (first | exact Pick.here | apply Pick.there)); exact rfl; exact rfl))) | refine JO.guardT rfl rfl rfl rfl ?_ | refine JQ.nil ?_ | (apply JO.do; exact rfl; exact rfl; exact rfl; (first | (apply Do.allocN; exact rfl) | apply Do.alloc); rintro _ _ ⟨_, rfl, rfl⟩) | (apply JO.do; exact rfl; exact rfl; exact rfl; (first | (apply Do.boxN; exact rfl; exact rfl) | (apply Do.box; exact rfl)); rintro _ _ ⟨_, rfl, rfl⟩) | (apply JO.do0; exact rfl; exact rfl; (first | (apply Do.storeN; exact rfl; exact rfl; exact rfl; (repeat (first | exact Pick.here | apply Pick.there)); exact rfl; exact rfl) | (apply Do.store; exact rfl; exact rfl; exact rfl; (repeat (first | exact Pick.here | apply Pick.there)); exact rfl)); rintro _ _ ⟨rfl, rfl⟩) | (apply JO.do0; exact rfl; exact rfl; (first | (apply Do.storeAN; exact rfl; exact rfl; (repeat (first | exact Pick.here | apply Pick.there)); exact rfl; exact rfl; exact rfl; exact rfl) | (apply Do.storeA; exact rfl; exact rfl; (repeat (first | exact Pick.here | apply Pick.there)); exact rfl; exact rfl; exact rfl)); rintro _ _ ⟨rfl, rfl⟩) | refine JC.regionQ mixed (by decide +kernel) ?_ | (apply JE.done2; exact rfl; (first | (apply Res.tmp; exact rfl) | (apply Res.cell; exact rfl; (repeat (first | exact Pick.here | apply Pick.there)); exact rfl) | (apply Res.cellAN; exact rfl; (repeat (first | exact Pick.here | apply Pick.there)); exact rfl; exact rfl) | (apply Res.cellA; exact rfl; (repeat (first | exact Pick.here | apply Pick.there)); exact rfl; exact rfl)); (first | (apply Res.tmp; exact rfl) | (apply Res.cell; exact rfl; (repeat (first | exact Pick.here | apply Pick.there)); exact rfl) | (apply Res.cellAN; exact rfl; (repeat (first | exact Pick.here | apply Pick.there)); exact rfl; exact rfl) | (apply Res.cellA; exact rfl; (repeat (first | exact Pick.here | apply Pick.there)); exact rfl; exact rfl)))) | ((first | (apply JO.do; exact rfl; exact rfl; exact rfl; (apply Do.call; exact rfl; exact geo_Right _ _ _); rintro _ _ ⟨rfl, hq⟩; obtain rfl := hq.symm) | (apply JQ.call; exact rfl; exact rfl; exact rfl; exact geo_Right _ _ _; (rintro _ _ ⟨rfl, rfl⟩; exact ⟨rfl, rfl⟩))); rw [h1]) | (first | (apply JO.do; exact rfl; exact rfl; exact rfl; (apply Do.call; exact rfl; exact disk_SizeC d D (by repeat (first | exact Pick.here | apply Pick.there))); rintro _ _ ⟨rfl, hq⟩; obtain rfl := hq.symm) | (apply JQ.call; exact rfl; exact rfl; exact rfl; exact disk_SizeC d D (by repeat (first | exact Pick.here | apply Pick.there)); (rintro _ _ ⟨rfl, rfl⟩; exact ⟨rfl, rfl⟩))) | (first | (apply JO.do; exact rfl; exact rfl; exact rfl; (apply Do.call; exact rfl; exact disk_SectorsC d D hD (by repeat (first | exact Pick.here | apply Pick.there))); rintro _ _ ⟨rfl, hq⟩; obtain rfl := hq.symm) | (apply JQ.call; exact rfl; exact rfl; exact rfl; exact disk_SectorsC d D hD (by repeat (first | exact Pick.here | apply Pick.there)); (rintro _ _ ⟨rfl, rfl⟩; exact ⟨rfl, rfl⟩))) | (first | (apply JO.do; exact rfl; exact rfl; exact rfl; (apply Do.call; exact rfl; exact slot_Room _ _ _ _); rintro _ _ ⟨rfl, hq⟩; obtain rfl := hq.symm) | (apply JQ.call; exact rfl; exact rfl; exact rfl; exact slot_Room _ _ _ _; (rintro _ _ ⟨rfl, rfl⟩; exact ⟨rfl, rfl⟩))) | (first | (apply JO.do; exact rfl; exact rfl; exact rfl; (apply Do.call; exact rfl; exact slot_Span _ _ _ _); rintro _ _ ⟨rfl, hq⟩; obtain rfl := hq.symm) | (apply JQ.call; exact rfl; exact rfl; exact rfl; exact slot_Span _ _ _ _; (rintro _ _ ⟨rfl, rfl⟩; exact ⟨rfl, rfl⟩))))
      refine ⟨_, ?_, .inl ⟨rfl, _, _, rfl, rfl⟩⟩
      exact Sat.weak (by repeat (first | exact Weak.refl | (apply Weak.cons; (first | exact Pick.here | exact Pick.there Pick.here | exact Pick.there (Pick.there Pick.here) | exact Pick.there (Pick.there (Pick.there Pick.here)) | exact Pick.there (Pick.there (Pick.there (Pick.there Pick.here))) | exact Pick.there (Pick.there (Pick.there (Pick.there (Pick.there Pick.here)))) | exact Pick.there (Pick.there (Pick.there (Pick.there (Pick.there (Pick.there Pick.here))))) | exact Pick.there (Pick.there (Pick.there (Pick.there (Pick.there (Pick.there (Pick.there Pick.here)))))))) | apply Weak.drop))
set_option maxHeartbeats 1000000 in
theorem slot_rd (d : Nat) (D : DiskN) (db fb : Nat) (first i : Int) (hD : D.WF) (ho : D.ops ≤ 1000000000000) (hi : 0 ≤ first + i ∧ first + i ≤ 1000000000) :
    Fn Tryz.prog σ 104 #[int i, .pointer (some ⟨db, 0, none⟩), .pointer (some ⟨fb, 0, none⟩)] (slotL d D db fb first F)
      (fun v l' => (D.readE (first + i) = 0 ∧ ∃ u, v = .tuple #[u, int 0] ∧ l' = bytesHP u (D.cur (first + i).toNat) :: slotL d D.tick db fb first F) ∨ (D.readE (first + i) ≠ 0 ∧ v = .tuple #[.slice none 0 0, int (D.readE (first + i))] ∧ l' = slotL d D.tick db fb first F)) := by
  refine Fn.of Tryz.func104 rfl Tryz.ntmps104 rfl ?_
  repeat' (first | (apply JO.ru; exact rfl; exact rfl; exact rfl; (first | (apply Ru.move; exact rfl) | (apply Ru.loadN; exact rfl; (repeat (first | exact Pick.here | apply Pick.there)); exact rfl) | (apply Ru.assign; exact rfl) | (apply Ru.add; exact rfl; exact rfl; (first | exact wrapI (by omega) (by omega) | exact rfl)))) | refine JC.seq ?_ | refine JC.region ?_ | refine JO.nil ?_ | refine JE.thenN ?_)
  (apply JO.do; exact rfl; exact rfl; exact rfl; (apply Do.call; exact rfl; exact disk_Read d D (first + i) hD ho); rintro _ _ (⟨hE, u, rfl, rfl⟩ | ⟨hE, rfl, rfl⟩))
  · repeat' (first | (apply JO.ru; exact rfl; exact rfl; exact rfl; (first | (apply Ru.assign; exact rfl) | (apply Ru.extractN; exact rfl; exact rfl))) | refine JO.nil ?_ | refine JE.thenN ?_ | refine JC.ret ?_ | (apply JE.done2; exact rfl; (first | (apply Res.tmp; exact rfl) | (apply Res.cell; exact rfl; (repeat (first | exact Pick.here | apply Pick.there)); exact rfl) | (apply Res.cellAN; exact rfl; (repeat (first | exact Pick.here | apply Pick.there)); exact rfl; exact rfl) | (apply Res.cellA; exact rfl; (repeat (first | exact Pick.here | apply Pick.there)); exact rfl; exact rfl)); (first | (apply Res.tmp; exact rfl) | (apply Res.cell; exact rfl; (repeat (first | exact Pick.here | apply Pick.there)); exact rfl) | (apply Res.cellAN; exact rfl; (repeat (first | exact Pick.here | apply Pick.there)); exact rfl; exact rfl) | (apply Res.cellA; exact rfl; (repeat (first | exact Pick.here | apply Pick.there)); exact rfl; exact rfl))))
    refine finS ?_; exact .inl ⟨hE, u, rfl, rfl⟩
  · repeat' (first | (apply JO.ru; exact rfl; exact rfl; exact rfl; (first | (apply Ru.assign; exact rfl) | (apply Ru.extractN; exact rfl; exact rfl))) | refine JO.nil ?_ | refine JE.thenN ?_ | refine JC.ret ?_ | (apply JE.done2; exact rfl; (first | (apply Res.tmp; exact rfl) | (apply Res.cell; exact rfl; (repeat (first | exact Pick.here | apply Pick.there)); exact rfl) | (apply Res.cellAN; exact rfl; (repeat (first | exact Pick.here | apply Pick.there)); exact rfl; exact rfl) | (apply Res.cellA; exact rfl; (repeat (first | exact Pick.here | apply Pick.there)); exact rfl; exact rfl)); (first | (apply Res.tmp; exact rfl) | (apply Res.cell; exact rfl; (repeat (first | exact Pick.here | apply Pick.there)); exact rfl) | (apply Res.cellAN; exact rfl; (repeat (first | exact Pick.here | apply Pick.there)); exact rfl; exact rfl) | (apply Res.cellA; exact rfl; (repeat (first | exact Pick.here | apply Pick.there)); exact rfl; exact rfl))))
    refine finS ?_; exact .inr ⟨hE, rfl, rfl⟩
set_option maxHeartbeats 1000000 in
theorem slot_wr (d : Nat) (D : DiskN) (db fb : Nat) (first i : Int) (v : Value) (bs : List UInt8) (hD : D.WF) (ho : D.ops ≤ 1000000000000) (hw : D.writes ≤ 1000000000000) (hbl : bs.length ≤ 100000000) (hi : 0 ≤ first + i ∧ first + i ≤ 1000000000) {l : List HP} (hb : RdS σ l v (bs.map byte)) :
    Fn Tryz.prog σ 106 #[int i, v, .pointer (some ⟨db, 0, none⟩), .pointer (some ⟨fb, 0, none⟩)] (slotL d D db fb first l)
      (fun r l' => (D.writeE (first + i) bs.length = 0 ∧ r = int 0 ∧ l' = slotL d (D.put (first + i) bs) db fb first l) ∨ (D.writeE (first + i) bs.length ≠ 0 ∧ r = int (D.writeE (first + i) bs.length) ∧ l' = slotL d D.tick db fb first l)) := by
  refine Fn.of Tryz.func106 rfl Tryz.ntmps106 rfl ?_
  repeat' (first | (apply JO.ru; exact rfl; exact rfl; exact rfl; (first | (apply Ru.move; exact rfl) | (apply Ru.loadN; exact rfl; (repeat (first | exact Pick.here | apply Pick.there)); exact rfl) | (apply Ru.assign; exact rfl) | (apply Ru.add; exact rfl; exact rfl; (first | exact wrapI (by omega) (by omega) | exact rfl)))) | refine JC.seq ?_ | refine JC.region ?_ | refine JO.nil ?_ | refine JE.thenN ?_)
  (apply JO.do; exact rfl; exact rfl; exact rfl; (apply Do.call; exact rfl; exact disk_Write d D (first + i) v bs hD ho hw hbl hb.cons.cons); rintro _ _ (⟨hE, rfl, rfl⟩ | ⟨hE, rfl, rfl⟩))
  · repeat' (first | (apply JO.ru; exact rfl; exact rfl; exact rfl; ((apply Ru.assign; exact rfl))) | refine JO.nil ?_ | refine JE.thenN ?_ | refine JC.ret ?_ | (apply JE.done1; exact rfl; (first | (apply Res.tmp; exact rfl) | (apply Res.cell; exact rfl; (repeat (first | exact Pick.here | apply Pick.there)); exact rfl) | (apply Res.cellAN; exact rfl; (repeat (first | exact Pick.here | apply Pick.there)); exact rfl; exact rfl) | (apply Res.cellA; exact rfl; (repeat (first | exact Pick.here | apply Pick.there)); exact rfl; exact rfl))))
    refine finS ?_; exact .inl ⟨hE, rfl, rfl⟩
  · repeat' (first | (apply JO.ru; exact rfl; exact rfl; exact rfl; ((apply Ru.assign; exact rfl))) | refine JO.nil ?_ | refine JE.thenN ?_ | refine JC.ret ?_ | (apply JE.done1; exact rfl; (first | (apply Res.tmp; exact rfl) | (apply Res.cell; exact rfl; (repeat (first | exact Pick.here | apply Pick.there)); exact rfl) | (apply Res.cellAN; exact rfl; (repeat (first | exact Pick.here | apply Pick.there)); exact rfl; exact rfl) | (apply Res.cellA; exact rfl; (repeat (first | exact Pick.here | apply Pick.there)); exact rfl; exact rfl))))
    refine finS ?_; exact .inr ⟨hE, rfl, rfl⟩
end Go.Sep
/- image: cut. -/
namespace Go.Sep
open Go Go.Proofs
attribute [local irreducible] JO JC JE JA JQ JB JI Mid Inv Weak ownS Ru Do Fn Sat Pick Take arr pt star ex Holds bodyPost Post Exit.then Exit.inBlock Res
variable {σ : Sig} {F : List HP}
theorem splice_at : ∀ (ys xs : List Value) (o : Nat), o + ys.length ≤ xs.length → splice xs o ys = xs.take o ++ ys ++ xs.drop (o + ys.length)
  | [], xs, o, _ => by simp [splice]
  | y :: ys, xs, o, h => by
    simp only [List.length_cons] at h
    rw [splice, splice_at ys (xs.set o y) (o + 1) (by rw [List.length_set]; omega)]
    have h1 : (xs.set o y).take (o + 1) = xs.take o ++ [y] := by
      rw [List.take_succ_eq_append_getElem (by rw [List.length_set]; omega), List.getElem_set_self, List.take_set_of_le (Nat.le_refl _)]
    have h2 : (xs.set o y).drop (o + 1 + ys.length) = xs.drop (o + (ys.length + 1)) := by
      rw [List.drop_set_of_lt (by omega)]
      congr 1; omega
    rw [h1, h2, List.length_cons]
    simp

/-- bs, and zeroes behind it, m bytes in all. -/
def padB (bs : List UInt8) (m : Nat) : List UInt8 := bs ++ List.replicate (m - bs.length) 0
theorem padB_length {bs : List UInt8} {m : Nat} (h : bs.length ≤ m) : (padB bs m).length = m := by simp [padB]; omega
theorem splice_pad (bs : List UInt8) (m : Nat) (h : bs.length ≤ m) : splice (List.replicate m (Value.int .u8 0)) 0 (bs.map byte) = (padB bs m).map byte := by
  rw [splice_at _ _ _ (by simp; omega)]
  simp [padB]
def cutRows (a z n : Nat) : List Value := (List.range n).map fun i => .slice (some ⟨a, i * z, none⟩) z z
theorem cutRows_succ (a z n : Nat) : cutRows a z (n + 1) = cutRows a z n ++ [.slice (some ⟨a, n * z, none⟩) z z] := by
  simp [cutRows, List.range_succ]

set_option maxHeartbeats 2000000 in
theorem image_Cut (v : Value) (bs : List UInt8) (z : Nat) (hz : 1 ≤ z ∧ z ≤ 4096) (hlen : bs.length ≤ 100000000) {l : List HP} (hb : RdS σ l v (bs.map byte)) :
    Fn Tryz.prog σ 64 #[v, int z] l (fun r l' => ∃ u a, r = .tuple #[u, int 0] ∧ l' = ownS u 35 1 (secs bs.length z).toNat (cutRows a z (secs bs.length z).toNat) :: arr a 5 ((padB bs ((secs bs.length z).toNat * z)).map byte) :: l) := by
  have hb0 := hb
  obtain ⟨p, cap, rfl, hcap, hr⟩ := hb
  have hl : (bs.map byte).length = bs.length := by simp
  rw [hl] at hb0 hcap ⊢
  have hs := secs_bd (m := bs.length) (s := z) (by omega)
  obtain ⟨n, hn⟩ := Int.eq_ofNat_of_zero_le hs.1
  have hn' : n ≤ bs.length := by omega
  have hpos : bs.length ≤ n * z := by
    unfold secs at hn
    split at hn
    · have : bs.length = 0 := by omega
      omega
    · have h1 := Int.emod_add_mul_ediv ((bs.length : Int) - 1) z
      have h2 := Int.emod_lt_of_pos ((bs.length : Int) - 1) (by omega : (0 : Int) < z)
      have h3 : ((n * z : Nat) : Int) = z * (((bs.length : Int) - 1) / z) + z := by
        rw [Int.natCast_mul, ← hn, Int.add_mul, Int.mul_comm]; omega
      omega
  have hmax : n * z ≤ 409600000000 := by
    have := Nat.mul_le_mul hn' hz.2
    omega
  have hok : sizeOk z = true := by simp [sizeOk]; omega
  rw [hn]
  simp only [Int.toNat_natCast]
  refine Fn.of Tryz.func64 rfl Tryz.ntmps64 rfl ?_
  have hmaxI : (n : Int) * (z : Int) ≤ 409600000000 := by rw [← Int.natCast_mul]; omega
  have hminI : 0 ≤ (n : Int) * (z : Int) := by rw [← Int.natCast_mul]; omega
  repeat' (first | (first | (apply JO.ru; exact rfl; exact rfl; exact rfl; (first | (apply Ru.move; exact rfl) | (apply Ru.assign; exact rfl) | (apply Ru.lenS; exact rfl) | (apply Ru.mul; exact rfl; exact rfl; (first | exact wrapI (by omega) (by omega) | exact rfl)) | (apply Ru.not; exact rfl))) | refine JC.seq ?_ | refine JC.region ?_ | refine JO.nil ?_ | refine JE.thenN ?_ | refine JC.skip ?_ | refine JC.condF rfl ?_) | ((first | (apply JO.do; exact rfl; exact rfl; exact rfl; (apply Do.call; exact rfl; exact image_right _); rintro _ _ ⟨rfl, hq⟩; obtain rfl := hq.symm) | (apply JQ.call; exact rfl; exact rfl; exact rfl; exact image_right _; (rintro _ _ ⟨rfl, rfl⟩; exact ⟨rfl, rfl⟩))); rw [hok]) | ((first | (apply JO.do; exact rfl; exact rfl; exact rfl; (apply Do.call; exact rfl; exact image_Sectors _ _ (by omega)); rintro _ _ ⟨rfl, hq⟩; obtain rfl := hq.symm) | (apply JQ.call; exact rfl; exact rfl; exact rfl; exact image_Sectors _ _ (by omega); (rintro _ _ ⟨rfl, rfl⟩; exact ⟨rfl, rfl⟩))); rw [hn]))
  (apply JO.do; exact rfl; exact rfl; exact rfl; (apply Do.makeSlice (k := n * z) (c := n * z); (rw [Int.natCast_mul]; exact rfl); (rw [Int.natCast_mul]; exact rfl); exact Nat.le_refl _; (show n * z * 1 ≤ _; omega); omega); rintro _ _ ⟨a, rfl, rfl⟩)
  repeat' (first | (apply JO.ru; exact rfl; exact rfl; exact rfl; (first | (apply Ru.move; exact rfl) | (apply Ru.assign; exact rfl))) | refine JC.seq ?_ | refine JC.region ?_ | refine JO.nil ?_ | refine JE.thenN ?_)
  (apply JO.do; exact rfl; exact rfl; exact rfl; (apply Do.copy; exact rfl; exact rfl; exact Pick.here; exact hb0.cons; (rw [List.length_replicate]; omega); (intro q hq; obtain ⟨x, _, rfl⟩ := List.mem_map.1 hq; rfl)); rintro _ _ ⟨rfl, rfl⟩)
  have hcp : splice (List.replicate (n * z) (Value.int .u8 0)) 0 ((bs.map byte).take (min bs.length (n * z))) = (padB bs (n * z)).map byte := by
    rw [Nat.min_eq_left hpos, List.take_of_length_le (by rw [hl]; omega), splice_pad _ _ hpos]
  rw [hcp]
  repeat' (first | (apply JO.ru; exact rfl; exact rfl; exact rfl; (first | (apply Ru.move; exact rfl) | (apply Ru.assign; exact rfl))) | refine JC.seq ?_ | refine JC.region ?_ | refine JO.nil ?_ | refine JE.thenN ?_ | refine JC.block ?_)
  refine JC.loop (fun q : Nat × Value => [(1, int z), (7, .slice (some ⟨a, 0, none⟩) (n * z) (n * z)), (8, q.2), (24, int n), (25, int q.1)])
    (fun q => ownS q.2 35 1 q.1 (cutRows a z q.1) :: arr a 5 ((padB bs (n * z)).map byte) :: l) (fun q => q.1 ≤ n) (fun q => n - q.1) (0, .slice none 0 0) (Nat.zero_le _) ⟨rfl, rfl, rfl, rfl, rfl, trivial⟩ (fun _ s => Sat.ownS_nil s) ?_
  rintro ⟨i, u⟩ hi
  dsimp only at hi ⊢
  repeat' (first | (apply JO.ru; exact rfl; exact rfl; exact rfl; (first | (apply Ru.move; exact rfl) | (apply Ru.assign; exact rfl) | (apply Ru.add; exact rfl; exact rfl; (first | exact wrapI (by omega) (by omega) | exact rfl)) | (apply Ru.mul; exact rfl; exact rfl; (first | exact wrapI (by omega) (by omega) | exact rfl)))) | refine JC.seq ?_ | refine JC.region ?_ | refine JO.nil ?_ | refine JE.thenN ?_ | refine JE.thenE ?_ | refine JE.blockE ?_ | refine JC.block ?_ | refine JC.ret ?_ | refine JC.skip ?_ | refine JC.exit ?_ | refine JC.condT rfl ?_ | refine JC.condF rfl ?_ | (apply JO.split; exact rfl; exact rfl; exact rfl; ((apply Ru.lss; exact rfl; exact rfl; exact rfl)); all_goals intro _) | (apply JE.done2; exact rfl; (first | (apply Res.tmp; exact rfl) | (apply Res.cell; exact rfl; (repeat (first | exact Pick.here | apply Pick.there)); exact rfl) | (apply Res.cellAN; exact rfl; (repeat (first | exact Pick.here | apply Pick.there)); exact rfl; exact rfl) | (apply Res.cellA; exact rfl; (repeat (first | exact Pick.here | apply Pick.there)); exact rfl; exact rfl)); (first | (apply Res.tmp; exact rfl) | (apply Res.cell; exact rfl; (repeat (first | exact Pick.here | apply Pick.there)); exact rfl) | (apply Res.cellAN; exact rfl; (repeat (first | exact Pick.here | apply Pick.there)); exact rfl; exact rfl) | (apply Res.cellA; exact rfl; (repeat (first | exact Pick.here | apply Pick.there)); exact rfl; exact rfl))))
  · rename_i hlt
    have g1 : (((i + 1) * z : Nat) : Int) ≤ ((n * z : Nat) : Int) := Int.ofNat_le.2 (Nat.mul_le_mul_right _ (by omega))
    have g2 : ((i : Int) + 1) * (z : Int) = (((i + 1) * z : Nat) : Int) := by rw [Int.natCast_mul]; rfl
    have g3 : (((i + 1) * z : Nat) : Int) = (i : Int) * (z : Int) + z := by rw [Int.natCast_mul, Int.natCast_add, Int.add_mul]; omega
    have g4 : ((n * z : Nat) : Int) = (n : Int) * (z : Int) := Int.natCast_mul _ _
    have g5 : 0 ≤ (i : Int) * (z : Int) := by rw [← Int.natCast_mul]; omega
    have w1 : IntKind.i64.wrap (((i : Int) + 1) * (z : Int)) = ((i : Int) + 1) * (z : Int) := wrapI (by omega) (by omega)
    have w2 : IntKind.i64.wrap ((i : Int) * (z : Int)) = (i : Int) * (z : Int) := wrapI (by omega) (by omega)
    rw [w1, w2]
    repeat' (first | (apply JO.ru; exact rfl; exact rfl; exact rfl; ((apply Ru.sliceS; exact rfl; exact rfl; exact rfl; exact rfl; (first | exact fun _ => rfl | exact fun h => nomatch h); omega; omega; omega))) | (apply JO.do; exact rfl; exact rfl; exact rfl; (first | (apply Do.buildSliceN; exact rfl; exact rfl; exact rfl; exact rfl) | (apply Do.buildSlice; exact rfl; exact rfl; exact rfl; exact rfl)); rintro _ _ ⟨_, rfl, rfl⟩))
    have k1 : ((i : Int) * (z : Int)).toNat = i * z := by rw [← Int.natCast_mul]; rfl
    have k2 : (((i : Int) + 1) * (z : Int) - (i : Int) * (z : Int)).toNat = z := by omega
    have k3 : 0 + i * z * 1 = i * z := by omega
    rw [k1, k2, k3]
    (apply JO.do; exact rfl; exact rfl; exact rfl; (apply Do.append1 (ys := [.slice (some ⟨a, i * z, none⟩) z z]); exact rfl; exact rfl; exact Pick.there Pick.here; exact RdS.arr (vs := [.slice (some ⟨a, i * z, none⟩) z z]) Pick.here 0 1 1 (Nat.le_refl _) (Nat.le_refl _); (intro q hq; rw [List.mem_singleton.1 hq]; rfl); (show (i + 1) * 24 ≤ _; omega)); rintro u' _ ⟨rfl, _⟩)
    repeat' (first | (apply JO.ru; exact rfl; exact rfl; exact rfl; (first | (apply Ru.move; exact rfl) | (apply Ru.assign; exact rfl) | (apply Ru.add; exact rfl; exact rfl; (first | exact wrapI (by omega) (by omega) | exact rfl)))) | refine JC.region ?_ | refine JO.nil ?_ | refine JE.thenN ?_ | refine JE.blockN ?_)
    refine JE.round (i + 1, u') (by show i + 1 ≤ n; omega) (by show n - (i + 1) < n - i; omega) ⟨rfl, rfl, rfl, rfl, rfl, trivial⟩ ?_
    intro w s
    have := Sat.weak (l' := ownS u' 35 1 (i + 1) _ :: arr a 5 ((padB bs (n * z)).map byte) :: l) (by repeat (first | exact Weak.refl | (apply Weak.cons; (first | exact Pick.here | exact Pick.there Pick.here | exact Pick.there (Pick.there Pick.here) | exact Pick.there (Pick.there (Pick.there Pick.here)) | exact Pick.there (Pick.there (Pick.there (Pick.there Pick.here))) | exact Pick.there (Pick.there (Pick.there (Pick.there (Pick.there Pick.here)))) | exact Pick.there (Pick.there (Pick.there (Pick.there (Pick.there (Pick.there Pick.here))))) | exact Pick.there (Pick.there (Pick.there (Pick.there (Pick.there (Pick.there (Pick.there Pick.here)))))))) | apply Weak.drop)) w s
    dsimp only
    rw [cutRows_succ]
    exact this
  · obtain rfl : i = n := by omega
    exact finS ⟨u, a, rfl, rfl⟩
end Go.Sep
/- slot: a slot's first sector. -/
namespace Go.Sep
open Go Go.Proofs
attribute [local irreducible] JO JC JE JA JQ JB JI Mid Inv Weak ownS Ru Do Fn Sat Pick Take arr pt star ex Holds bodyPost Post Exit.then Exit.inBlock Res
variable {σ : Sig} {F : List HP}
attribute [local irreducible] diskHP cacheHP planHP rowHP
set_option maxHeartbeats 2000000 in
theorem place_first (d : Nat) (D : DiskN) (db fb : Nat) (first many : Int) (v : Value) (bs : List UInt8) (hD : D.WF) (ho : D.ops ≤ 1000000000000) (hw : D.writes ≤ 1000000000000) (hbl : bs.length ≤ D.size) (hi : 0 ≤ first ∧ first ≤ 1000000000) {l : List HP} (hb : RdS σ l v (bs.map byte)) :
    Fn Tryz.prog σ 70 #[placeV many D.size db fb, v] (slotL d D db fb first l)
      (fun r l' => (D.writeE first D.size = 0 ∧ r = int 0 ∧ l' = slotL d (D.put first (padB bs D.size)) db fb first l) ∨ (D.writeE first D.size ≠ 0 ∧ r = int (D.writeE first D.size) ∧ l' = slotL d D.tick db fb first l)) := by
  have hz2 := hD.hz2
  have hb0 := hb
  obtain ⟨pv, cv, rfl, hcv, hrv⟩ := hb
  have hl : (bs.map byte).length = bs.length := by simp
  rw [hl] at hb0 ⊢
  have hpl := padB_length hbl
  refine Fn.of Tryz.func70 rfl Tryz.ntmps70 rfl ?_
  repeat' (first | (apply JO.ru; exact rfl; exact rfl; exact rfl; (first | (apply Ru.loadN; exact rfl; (repeat (first | exact Pick.here | apply Pick.there)); exact rfl) | (apply Ru.fieldAddr; exact rfl) | (apply Ru.assign; exact rfl))) | refine JC.seq ?_ | refine JC.region ?_ | refine JO.nil ?_ | refine JE.thenN ?_ | (apply JO.do; exact rfl; exact rfl; exact rfl; (first | (apply Do.boxN; exact rfl; exact rfl) | (apply Do.box; exact rfl)); rintro _ _ ⟨_, rfl, rfl⟩))
  (apply JO.do; exact rfl; exact rfl; exact rfl; (apply Do.makeSlice (k := D.size) (c := D.size); exact rfl; exact rfl; exact Nat.le_refl _; (show D.size * 1 ≤ _; omega); omega); rintro _ _ ⟨x, rfl, rfl⟩)
  repeat' (first | (apply JO.ru; exact rfl; exact rfl; exact rfl; (first | (apply Ru.move; exact rfl) | (apply Ru.assign; exact rfl))) | refine JC.seq ?_ | refine JC.region ?_ | refine JO.nil ?_ | refine JE.thenN ?_)
  (apply JO.do; exact rfl; exact rfl; exact rfl; (apply Do.copy; exact rfl; exact rfl; exact Pick.here; exact hb0.cons.cons.cons.cons.cons; (rw [List.length_replicate]; omega); exact byteOne _); rintro _ _ ⟨rfl, rfl⟩)
  have hcp : splice (List.replicate D.size (Value.int .u8 0)) 0 ((bs.map byte).take (min bs.length D.size)) = (padB bs D.size).map byte := by
    rw [Nat.min_eq_left hbl, List.take_of_length_le (by rw [hl]; omega), splice_pad _ _ hbl]
  rw [hcp]
  repeat' (first | (apply JO.ru; exact rfl; exact rfl; exact rfl; (first | (apply Ru.move; exact rfl) | (apply Ru.loadN; exact rfl; (repeat (first | exact Pick.here | apply Pick.there)); exact rfl) | (apply Ru.fieldAddr; exact rfl))) | refine JC.seq ?_ | refine JC.region ?_ | refine JO.nil ?_ | refine JE.thenN ?_)
  rename_i pb
  refine JO.heap (Sat.weak (l' := slotL d D db fb first (arr x 5 ((padB bs D.size).map byte) :: arr pb 105 [int many, int D.size, rdV db fb, wrV db fb] :: l)) (by repeat (first | exact Weak.refl | (apply Weak.cons; (first | exact Pick.here | exact Pick.there Pick.here | exact Pick.there (Pick.there Pick.here) | exact Pick.there (Pick.there (Pick.there Pick.here)) | exact Pick.there (Pick.there (Pick.there (Pick.there Pick.here))) | exact Pick.there (Pick.there (Pick.there (Pick.there (Pick.there Pick.here)))) | exact Pick.there (Pick.there (Pick.there (Pick.there (Pick.there (Pick.there Pick.here))))) | exact Pick.there (Pick.there (Pick.there (Pick.there (Pick.there (Pick.there (Pick.there Pick.here)))))))) | apply Weak.drop))) ?_
  have hwr := slot_wr (σ := σ) d D db fb first 0 (.slice (some ⟨x, 0, none⟩) D.size D.size) (padB bs D.size) hD ho hw (by omega) (by omega) (l := arr x 5 ((padB bs D.size).map byte) :: arr pb 105 [int many, int D.size, rdV db fb, wrV db fb] :: l) (RdS.arr0 (spare := []) (by rw [List.append_nil]; exact Pick.here) (by rw [List.length_map, hpl]) (Nat.le_refl _))
  rw [Int.add_zero, hpl] at hwr
  (apply JO.do; exact rfl; exact rfl; exact rfl; (apply Do.callV (f := 106); exact rfl; exact rfl; exact hwr); rintro _ _ (⟨hE, rfl, rfl⟩ | ⟨hE, rfl, rfl⟩))
  · repeat' (first | (apply JO.ru; exact rfl; exact rfl; exact rfl; ((apply Ru.assign; exact rfl))) | refine JO.nil ?_ | refine JE.thenN ?_ | refine JC.ret ?_ | (apply JE.done1; exact rfl; (first | (apply Res.tmp; exact rfl) | (apply Res.cell; exact rfl; (repeat (first | exact Pick.here | apply Pick.there)); exact rfl) | (apply Res.cellAN; exact rfl; (repeat (first | exact Pick.here | apply Pick.there)); exact rfl; exact rfl) | (apply Res.cellA; exact rfl; (repeat (first | exact Pick.here | apply Pick.there)); exact rfl; exact rfl))))
    exact ⟨slotL d (D.put first (padB bs D.size)) db fb first l, Sat.weak (by repeat (first | exact Weak.refl | (apply Weak.cons; (first | exact Pick.here | exact Pick.there Pick.here | exact Pick.there (Pick.there Pick.here) | exact Pick.there (Pick.there (Pick.there Pick.here)) | exact Pick.there (Pick.there (Pick.there (Pick.there Pick.here))) | exact Pick.there (Pick.there (Pick.there (Pick.there (Pick.there Pick.here)))) | exact Pick.there (Pick.there (Pick.there (Pick.there (Pick.there (Pick.there Pick.here))))) | exact Pick.there (Pick.there (Pick.there (Pick.there (Pick.there (Pick.there (Pick.there Pick.here)))))))) | apply Weak.drop)), .inl ⟨hE, rfl, rfl⟩⟩
  · repeat' (first | (apply JO.ru; exact rfl; exact rfl; exact rfl; ((apply Ru.assign; exact rfl))) | refine JO.nil ?_ | refine JE.thenN ?_ | refine JC.ret ?_ | (apply JE.done1; exact rfl; (first | (apply Res.tmp; exact rfl) | (apply Res.cell; exact rfl; (repeat (first | exact Pick.here | apply Pick.there)); exact rfl) | (apply Res.cellAN; exact rfl; (repeat (first | exact Pick.here | apply Pick.there)); exact rfl; exact rfl) | (apply Res.cellA; exact rfl; (repeat (first | exact Pick.here | apply Pick.there)); exact rfl; exact rfl))))
    exact ⟨slotL d D.tick db fb first l, Sat.weak (by repeat (first | exact Weak.refl | (apply Weak.cons; (first | exact Pick.here | exact Pick.there Pick.here | exact Pick.there (Pick.there Pick.here) | exact Pick.there (Pick.there (Pick.there Pick.here)) | exact Pick.there (Pick.there (Pick.there (Pick.there Pick.here))) | exact Pick.there (Pick.there (Pick.there (Pick.there (Pick.there Pick.here)))) | exact Pick.there (Pick.there (Pick.there (Pick.there (Pick.there (Pick.there Pick.here))))) | exact Pick.there (Pick.there (Pick.there (Pick.there (Pick.there (Pick.there (Pick.there Pick.here)))))))) | apply Weak.drop)), .inr ⟨hE, rfl, rfl⟩⟩
end Go.Sep
/- bytes.Join with nothing between; image: glued. -/
namespace Go.Sep
open Go Go.Proofs
attribute [local irreducible] JO JC JE JA JQ JB JI Mid Inv Weak ownS Ru Do Fn Sat Pick Take arr pt star ex Holds bodyPost Post Exit.then Exit.inBlock Res
variable {σ : Sig} {F : List HP}
def tot (bss : List (List UInt8)) (i : Nat) : Nat := (bss.take i).flatten.length
theorem tot_succ {bss : List (List UInt8)} {i : Nat} {bs : List UInt8} (h : bss[i]? = some bs) : tot bss (i + 1) = tot bss i + bs.length := by
  simp [tot, List.take_add_one, h]
theorem tot_all {bss : List (List UInt8)} {i : Nat} (h : bss.length ≤ i) : tot bss i = bss.flatten.length := by
  rw [tot, List.take_of_length_le h]
theorem tot_mono (bss : List (List UInt8)) (i : Nat) : tot bss i ≤ bss.flatten.length := by
  have : bss.flatten.length = tot bss i + (bss.drop i).flatten.length := by
    rw [tot, ← List.length_append, ← List.flatten_append, List.take_append_drop]
  omega
theorem take_flatten {bss : List (List UInt8)} {i : Nat} {bs : List UInt8} (h : bss[i]? = some bs) : (bss.take (i + 1)).flatten = (bss.take i).flatten ++ bs := by
  simp [List.take_add_one, h]

/-- The rows read as these bytes, one for one. -/
def RowsAre (σ : Sig) (l : List HP) (rows : List Value) (bss : List (List UInt8)) : Prop :=
  rows.length = bss.length ∧ ∀ (i : Nat) (bs : List UInt8), bss[i]? = some bs → ∃ u, rows[i]? = some u ∧ RdS σ l u (bs.map byte)
theorem rd_row {l : List HP} {rows : List Value} {b o : Nat} (hc : ∀ w, Sat σ w l → ∀ i u, rows[i]? = some u → w.cell? ⟨b, o + i, none⟩ = some u) {i : Nat} {u : Value} (hu : rows[i]? = some u) (a : Addr) (ha : a = ⟨b, o + i, none⟩) :
    ∀ w, Sat σ w l → w.cell? a = some u := fun w s => ha ▸ hc w s i u hu
/-- What has been copied so far, and what lay behind it. -/
def joined (bss : List (List UInt8)) (cs : List Value) (i : Nat) : List Value := (bss.take i).flatten.map byte ++ cs.drop (tot bss i)
theorem joined_length {bss : List (List UInt8)} {cs : List Value} {i : Nat} (h : bss.flatten.length ≤ cs.length) : (joined bss cs i).length = cs.length := by
  have := tot_mono bss i
  simp only [joined, List.length_append, List.length_map, List.length_drop]
  unfold tot at *; omega
theorem joined_splice {bss : List (List UInt8)} {cs : List Value} {i : Nat} {bs : List UInt8} (h : bss[i]? = some bs) (hl : bss.flatten.length ≤ cs.length) : splice (joined bss cs i) (tot bss i) (bs.map byte) = joined bss cs (i + 1) := by
  have h1 := tot_succ h
  have h2 := tot_mono bss (i + 1)
  rw [splice_at _ _ _ (by rw [joined_length hl, List.length_map]; omega)]
  simp only [joined, take_flatten h, List.map_append, List.length_map]
  have e : tot bss i = ((bss.take i).flatten.map byte).length := by rw [List.length_map]; rfl
  rw [List.take_append_of_le_length (by rw [← e]; exact Nat.le_refl _), List.take_of_length_le (by rw [← e]; exact Nat.le_refl _)]
  rw [List.drop_append, List.drop_eq_nil_of_le (by rw [← e]; omega), List.nil_append, List.drop_drop, ← e, h1]
  congr 2
  omega

set_option maxHeartbeats 4000000 in
theorem bytes_Join (v : Value) (rows : List Value) (bss : List (List UInt8)) (hlen : bss.flatten.length ≤ 1000000000) (hk : bss.length ≤ 1000000000) (hne : ∀ bs ∈ bss, 1 ≤ bs.length) {l : List HP} (hr : RdS σ l v rows) (he : RowsAre σ l rows bss) :
    Fn Tryz.prog σ 136 #[v, .slice none 0 0] l (fun u l' => l' = ownS u 5 1 bss.flatten.length (bss.flatten.map byte) :: l ∧ (u = .slice none 0 0 → False)) := by
  obtain ⟨hn, he⟩ := he
  obtain ⟨p, cap, rfl, hcap, hr⟩ := hr
  rw [hn] at hcap ⊢
  obtain ⟨k, hkk⟩ : ∃ k, bss.length = k := ⟨_, rfl⟩
  rw [hkk] at hn hcap hk ⊢
  by_cases c0 : k = 0
  · have hb : bss = [] := List.eq_nil_of_length_eq_zero (by omega)
    subst hb
    refine Fn.of Tryz.func136 rfl Tryz.ntmps136 rfl ?_
    repeat' (first | (apply JO.ru; exact rfl; exact rfl; exact rfl; (first | (apply Ru.move; exact rfl) | (apply Ru.assign; exact rfl) | (apply Ru.lenS; exact rfl) | (apply Ru.eql; exact rfl; exact rfl; (first | exact decT (by omega) | exact decF (by omega))))) | refine JC.seq ?_ | refine JC.region ?_ | refine JO.nil ?_ | refine JE.thenN ?_ | refine JC.condT rfl ?_)
    (apply JO.do; exact rfl; exact rfl; exact rfl; apply Do.buildSlice0; rintro _ _ ⟨b, rfl, rfl⟩)
    refine JO.heap (fun _ s => Sat.ownS_arr (xs := []) (spare := []) (k := 0) (cap := 0) (z := 1) (Nat.le_refl _) rfl (Nat.le_refl _) s) ?_
    repeat' (first | (apply JO.ru; exact rfl; exact rfl; exact rfl; ((apply Ru.assign; exact rfl))) | refine JO.nil ?_ | refine JE.thenN ?_ | refine JE.thenR ?_ | refine JC.ret ?_ | (apply JE.done1; exact rfl; (first | (apply Res.tmp; exact rfl) | (apply Res.cell; exact rfl; (repeat (first | exact Pick.here | apply Pick.there)); exact rfl) | (apply Res.cellAN; exact rfl; (repeat (first | exact Pick.here | apply Pick.there)); exact rfl; exact rfl) | (apply Res.cellA; exact rfl; (repeat (first | exact Pick.here | apply Pick.there)); exact rfl; exact rfl))))
    refine finS ?_; exact ⟨rfl, fun h => by cases h⟩
  rcases hr with h | ⟨b, o, rfl, hc⟩
  · rw [h] at hn; simp at hn; omega
  obtain ⟨bs0, h0⟩ : ∃ bs, bss[0]? = some bs := ⟨_, List.getElem?_eq_getElem (by omega)⟩
  obtain ⟨u0, hu0, hrd0⟩ := he 0 bs0 h0
  have hne0 := hne bs0 (List.mem_of_getElem? h0)
  by_cases c1 : k = 1
  · have hb : bss.flatten = bs0 := by
      match bss, hkk, h0 with
      | [x], _, h0 => simp at h0; simp [h0]
      | [], hkk, _ => simp at hkk; omega
      | _ :: _ :: _, hkk, _ => simp at hkk; omega
    rw [hb] at hlen ⊢
    refine Fn.of Tryz.func136 rfl Tryz.ntmps136 rfl ?_
    repeat' (first | (apply JO.ru; exact rfl; exact rfl; exact rfl; (first | (apply Ru.move; exact rfl) | (apply Ru.assign; exact rfl) | (apply Ru.lenS; exact rfl) | (apply Ru.eql; exact rfl; exact rfl; (first | exact decT (by omega) | exact decF (by omega))) | (apply Ru.indexAddr; exact rfl; exact rfl; omega; omega))) | refine JC.seq ?_ | refine JC.region ?_ | refine JO.nil ?_ | refine JE.thenN ?_ | refine JC.skip ?_ | refine JC.condT rfl ?_ | refine JC.condF rfl ?_)
    (apply JO.ru; exact rfl; exact rfl; exact rfl; (apply Ru.loadC; exact rfl; exact rd_row hc hu0 _ rfl))
    refine JO.heap (fun _ s => Sat.ownS_nil (E := 5) (z := 1) s) ?_
    (apply JO.do; exact rfl; exact rfl; exact rfl; (apply Do.append1 (ys := bs0.map byte); exact rfl; exact rfl; exact Pick.here; exact hrd0.cons; (intro q hq; obtain ⟨x, _, rfl⟩ := List.mem_map.1 hq; rfl); (show (0 + (bs0.map byte).length) * 1 ≤ _; rw [List.length_map]; omega)); rintro u' _ ⟨rfl, hnil⟩)
    repeat' (first | (apply JO.ru; exact rfl; exact rfl; exact rfl; ((apply Ru.assign; exact rfl))) | refine JO.nil ?_ | refine JE.thenN ?_ | refine JE.thenR ?_ | refine JC.ret ?_ | (apply JE.done1; exact rfl; (first | (apply Res.tmp; exact rfl) | (apply Res.cell; exact rfl; (repeat (first | exact Pick.here | apply Pick.there)); exact rfl) | (apply Res.cellAN; exact rfl; (repeat (first | exact Pick.here | apply Pick.there)); exact rfl; exact rfl) | (apply Res.cellA; exact rfl; (repeat (first | exact Pick.here | apply Pick.there)); exact rfl; exact rfl))))
    refine finS ?_
    refine ⟨by rw [List.length_map, Nat.zero_add, List.nil_append], fun h => ?_⟩
    have := (hnil h).2
    rw [List.length_map] at this; omega
  · have h2 : 2 ≤ k := by omega
    refine Fn.of Tryz.func136 rfl Tryz.ntmps136 rfl ?_
    repeat' (first | (apply JO.ru; exact rfl; exact rfl; exact rfl; (first | (apply Ru.move; exact rfl) | (apply Ru.assign; exact rfl) | (apply Ru.lenS; exact rfl) | (apply Ru.gtr; exact rfl; exact rfl; (first | exact decT (by omega) | exact decF (by omega))) | (apply Ru.eql; exact rfl; exact rfl; (first | exact decT (by omega) | exact decF (by omega))))) | refine JC.seq ?_ | refine JC.region ?_ | refine JO.nil ?_ | refine JE.thenN ?_ | refine JC.block ?_ | refine JC.skip ?_ | refine JC.condF rfl ?_)
    refine JC.loop (fun i : Nat => [(0, .slice (some ⟨b, o, none⟩) k cap), (1, .slice none 0 0), (5, int (tot bss i)), (42, .slice (some ⟨b, o, none⟩) k cap), (43, int k), (44, int i)]) (fun _ => l) (fun i => i ≤ k) (fun i => k - i) 0 (Nat.zero_le _) ⟨rfl, rfl, rfl, rfl, rfl, rfl, trivial⟩ (fun _ h => h) ?_
    intro i hi
    repeat' (first | (apply JO.ru; exact rfl; exact rfl; exact rfl; (first | (apply Ru.move; exact rfl) | (apply Ru.indexAddr; exact rfl; exact rfl; omega; omega))) | refine JC.seq ?_ | refine JC.region ?_ | refine JO.nil ?_ | refine JE.thenN ?_ | refine JE.thenE ?_ | refine JE.blockE ?_ | refine JC.block ?_ | refine JC.skip ?_ | refine JC.exit ?_ | refine JC.condT rfl ?_ | refine JC.condF rfl ?_ | (apply JO.split; exact rfl; exact rfl; exact rfl; ((apply Ru.lss; exact rfl; exact rfl; exact rfl)); all_goals intro _))
    · rename_i hlt
      obtain ⟨bs, hbs⟩ : ∃ bs, bss[i]? = some bs := ⟨_, List.getElem?_eq_getElem (by omega)⟩
      obtain ⟨u, hu, hrd⟩ := he i bs hbs
      obtain ⟨pu, cu, rfl, hcu, hru⟩ := hrd
      have t1 := tot_succ hbs
      have t2 := tot_mono bss (i + 1)
      have hl : (bs.map byte).length = bs.length := by simp
      repeat' (fail)
      (apply JO.ru; exact rfl; exact rfl; exact rfl; (apply Ru.loadC; exact rfl; exact rd_row hc hu _ (by simp)))
      repeat' (first | (apply JO.ru; exact rfl; exact rfl; exact rfl; (first | (apply Ru.move; exact rfl) | (apply Ru.assign; exact rfl) | (apply Ru.lenS; exact rfl) | (apply Ru.gtr; exact rfl; exact rfl; (first | exact decT (by omega) | exact decF (by omega))) | (apply Ru.add; exact rfl; exact rfl; (first | exact wrapI (by omega) (by omega) | exact rfl)) | (apply Ru.sub; exact rfl; exact rfl; (first | exact wrapI (by omega) (by omega) | exact rfl)))) | refine JC.seq ?_ | refine JC.region ?_ | refine JO.nil ?_ | refine JE.thenN ?_ | refine JE.blockN ?_ | refine JC.skip ?_ | refine JC.condF rfl ?_)
      refine JE.round (i + 1) (by omega) (by omega) ⟨rfl, rfl, ?_, rfl, rfl, rfl, trivial⟩ (fun _ h => h)
      show some (int _) = some (int _)
      rw [t1, hl]; rfl
    · obtain rfl : i = k := by omega
      rw [tot_all (Nat.le_of_eq hkk)]
      obtain ⟨T, hT⟩ : ∃ T, bss.flatten.length = T := ⟨_, rfl⟩
      rw [hT] at hlen ⊢
      repeat' (fail)
      (apply JO.do; exact rfl; exact rfl; exact rfl; (apply Do.makeNoZero; exact rfl; omega); rintro _ _ ⟨b2, cs, rfl, hcs, rfl⟩)
      repeat' (first | (apply JO.ru; exact rfl; exact rfl; exact rfl; (first | (apply Ru.move; exact rfl) | (apply Ru.assign; exact rfl) | (apply Ru.indexAddr; exact rfl; exact rfl; omega; omega) | (apply Ru.sliceS; exact rfl; exact rfl; exact rfl; exact rfl; (first | exact fun _ => rfl | exact fun h => nomatch h); omega; omega; omega))) | refine JC.seq ?_ | refine JC.region ?_ | refine JO.nil ?_ | refine JE.thenN ?_)
      have t0 : tot bss 1 = tot bss 0 + bs0.length := tot_succ h0
      have t1 := tot_mono bss 1
      have tz : tot bss 0 = 0 := rfl
      have hl0 : (bs0.map byte).length = bs0.length := by simp
      obtain ⟨p0, c0, rfl, hcu0, hru0⟩ := hrd0
      have hrd0 : RdS σ l (.slice p0 (bs0.map byte).length c0) (bs0.map byte) := ⟨p0, c0, rfl, hcu0, hru0⟩
      rw [hl0] at hrd0 hu0
      (apply JO.ru; exact rfl; exact rfl; exact rfl; (apply Ru.loadC; exact rfl; exact fun w s => rd_row hc hu0 _ (by simp) w (Sat.drop s)))
      have k1 : 0 + Int.toNat ((0 : Nat) : Int) * 1 = 0 := rfl
      have k2 : ((T : Int) - ((0 : Nat) : Int)).toNat = T := by omega
      rw [k1, k2]
      (apply JO.do; exact rfl; exact rfl; exact rfl; (apply Do.copy; exact rfl; exact rfl; exact Pick.here; exact hrd0.cons; omega; (intro q hq; obtain ⟨x, _, rfl⟩ := List.mem_map.1 hq; rfl)); rintro _ _ ⟨rfl, rfl⟩)
      have k3 : splice cs 0 ((bs0.map byte).take (min bs0.length T)) = joined bss cs 1 := by
        have := joined_splice (cs := cs) h0 (by omega)
        rw [List.take_of_length_le (by rw [hl0]; omega)]
        rw [← this, tz]
        simp [joined, tot]
      have k4 : ((min bs0.length T : Nat) : Int) = (tot bss 1 : Nat) := by omega
      rw [k3, k4]
      repeat' (first | (apply JO.ru; exact rfl; exact rfl; exact rfl; (first | (apply Ru.move; exact rfl) | (apply Ru.assign; exact rfl) | (apply Ru.lenS; exact rfl) | (apply Ru.sliceS; exact rfl; exact rfl; exact rfl; exact rfl; (first | exact fun _ => rfl | exact fun h => nomatch h); omega; omega; omega))) | refine JC.seq ?_ | refine JC.region ?_ | refine JO.nil ?_ | refine JE.thenN ?_ | refine JC.block ?_)
      refine JC.loop (fun j : Nat => [(1, .slice none 0 0), (8, .slice (some ⟨b2, 0, none⟩) T T), (9, int (tot bss (j + 1))), (70, .slice (some ⟨b, o + Int.toNat 1 * 1, none⟩) ((i : Int) - 1).toNat ((cap : Int) - 1).toNat), (71, int ((i : Int) - 1).toNat), (72, int j)])
        (fun j => arr b2 5 (joined bss cs (j + 1)) :: l) (fun j => j + 1 ≤ i) (fun j => i - j) 0 (by omega) ⟨rfl, rfl, rfl, rfl, rfl, rfl, trivial⟩ (fun _ h => h) ?_
      intro j hj
      repeat' (first | (apply JO.ru; exact rfl; exact rfl; exact rfl; (first | (apply Ru.move; exact rfl) | (apply Ru.assign; exact rfl) | (apply Ru.indexAddr; exact rfl; exact rfl; omega; omega))) | refine JC.seq ?_ | refine JC.region ?_ | refine JO.nil ?_ | refine JE.thenN ?_ | refine JE.thenE ?_ | refine JE.blockE ?_ | refine JC.block ?_ | refine JC.ret ?_ | refine JC.skip ?_ | refine JC.exit ?_ | refine JC.condT rfl ?_ | refine JC.condF rfl ?_ | (apply JO.split; exact rfl; exact rfl; exact rfl; ((apply Ru.lss; exact rfl; exact rfl; exact rfl)); all_goals intro _) | (apply JE.done1; exact rfl; (first | (apply Res.tmp; exact rfl) | (apply Res.cell; exact rfl; (repeat (first | exact Pick.here | apply Pick.there)); exact rfl) | (apply Res.cellAN; exact rfl; (repeat (first | exact Pick.here | apply Pick.there)); exact rfl; exact rfl) | (apply Res.cellA; exact rfl; (repeat (first | exact Pick.here | apply Pick.there)); exact rfl; exact rfl))))
      · rename_i hlt
        obtain ⟨bs, hbs⟩ : ∃ bs, bss[j + 1]? = some bs := ⟨_, List.getElem?_eq_getElem (by omega)⟩
        obtain ⟨u, hu, hrd⟩ := he (j + 1) bs hbs
        have t3 := tot_succ hbs
        have t4 := tot_mono bss (j + 1 + 1)
        have t5 := hne bs (List.mem_of_getElem? hbs)
        have hl : (bs.map byte).length = bs.length := by simp
        have hjl := joined_length (cs := cs) (i := j + 1) (bss := bss) (by omega)
        obtain ⟨pu, cu, rfl, hcu, hru⟩ := hrd
        have hrd : RdS σ l (.slice pu (bs.map byte).length cu) (bs.map byte) := ⟨pu, cu, rfl, hcu, hru⟩
        rw [hl] at hrd hu
        (apply JO.ru; exact rfl; exact rfl; exact rfl; (apply Ru.loadC; exact rfl; exact fun w s => rd_row hc hu _ (by simp [Nat.add_assoc, Nat.add_comm]) w (Sat.drop s)))
        repeat' (first | (apply JO.ru; exact rfl; exact rfl; exact rfl; (first | (apply Ru.move; exact rfl) | (apply Ru.assign; exact rfl) | (apply Ru.sliceS; exact rfl; exact rfl; exact rfl; exact rfl; (first | exact fun _ => rfl | exact fun h => nomatch h); omega; omega; omega))) | refine JC.seq ?_ | refine JC.region ?_ | refine JO.nil ?_ | refine JE.thenN ?_)
        (apply JO.do; exact rfl; exact rfl; exact rfl; (apply Do.copy (ys := []); exact rfl; exact rfl; exact Pick.here; exact RdS.nil; (rw [hjl]; omega); (intro q hq; cases hq)); rintro _ _ ⟨rfl, rfl⟩)
        rw [List.take_nil, splice]
        repeat' (first | (apply JO.ru; exact rfl; exact rfl; exact rfl; (first | (apply Ru.move; exact rfl) | (apply Ru.assign; exact rfl) | (apply Ru.add; exact rfl; exact rfl; (first | exact wrapI (by omega) (by omega) | exact rfl)) | (apply Ru.sliceS; exact rfl; exact rfl; exact rfl; exact rfl; (first | exact fun _ => rfl | exact fun h => nomatch h); omega; omega; omega))) | refine JC.region ?_ | refine JO.nil ?_ | refine JE.thenN ?_)
        (apply JO.do; exact rfl; exact rfl; exact rfl; (apply Do.copy; exact rfl; exact rfl; exact Pick.here; exact hrd.cons; (rw [hjl]; omega); (intro q hq; obtain ⟨x, _, rfl⟩ := List.mem_map.1 hq; rfl)); rintro _ _ ⟨rfl, rfl⟩)
        have m1 : (tot bss (j + 1) : Int) + ((min 0 ((T : Int) - tot bss (j + 1)).toNat : Nat) : Int) = (tot bss (j + 1) : Nat) := by omega
        rw [m1]
        have m2 : 0 + (tot bss (j + 1) : Int).toNat * 1 = tot bss (j + 1) := by omega
        have m3 : min bs.length ((T : Int) - tot bss (j + 1)).toNat = bs.length := by omega
        rw [m2, m3, List.take_of_length_le (by rw [hl]; exact Nat.le_refl _), joined_splice hbs (by omega)]
        repeat' (first | (apply JO.ru; exact rfl; exact rfl; exact rfl; (first | (apply Ru.move; exact rfl) | (apply Ru.assign; exact rfl) | (apply Ru.add; exact rfl; exact rfl; (first | exact wrapI (by omega) (by omega) | exact rfl)))) | refine JC.region ?_ | refine JO.nil ?_ | refine JE.thenN ?_ | refine JE.blockN ?_)
        refine JE.round (j + 1) (by omega) (by omega) ⟨rfl, rfl, ?_, rfl, rfl, rfl, trivial⟩ (fun _ h => h)
        show some (int _) = some (int _)
        rw [t3]; rfl
      · obtain rfl : i = j + 1 := by omega
        have m4 : joined bss cs (j + 1) = bss.flatten.map byte ++ cs.drop T := by
          rw [joined, List.take_of_length_le (by omega), tot_all (by omega), hT]
        rw [m4]
        refine ⟨_, fun w s => Sat.ownS_arr (xs := bss.flatten.map byte) (spare := cs.drop T) (k := T) (cap := T) (z := 1) (Nat.le_refl _) (by rw [List.length_map]; omega) (by rw [List.length_append, List.length_map]; omega) s, rfl, fun h => by cases h⟩
end Go.Sep
/- image: glued. -/
namespace Go.Sep
open Go Go.Proofs
attribute [local irreducible] JO JC JE JA JQ JB JI Mid Inv Weak ownS Ru Do Fn Sat Pick Take arr pt star ex Holds bodyPost Post Exit.then Exit.inBlock Res
variable {σ : Sig} {F : List HP}
set_option maxHeartbeats 2000000 in
theorem image_Glue (v : Value) (rows : List Value) (bss : List (List UInt8)) (many : Int) (hlen : bss.flatten.length ≤ 1000000000) (hk : bss.length ≤ 1000000000) (hne : ∀ bs ∈ bss, 1 ≤ bs.length) {l : List HP} (hr : RdS σ l v rows) (he : RowsAre σ l rows bss) :
    Fn Tryz.prog σ 123 #[v, int many] l (fun r l' => (0 ≤ many ∧ many ≤ bss.flatten.length ∧ ∃ u, r = .tuple #[u, int 0] ∧ l' = ownS u 5 1 many.toNat ((bss.flatten.take many.toNat).map byte) :: l) ∨ (¬ (0 ≤ many ∧ many ≤ bss.flatten.length) ∧ r = .tuple #[.slice none 0 0, int 1] ∧ l' = l)) := by
  refine Fn.of Tryz.func123 rfl Tryz.ntmps123 rfl ?_
  repeat' (first | (apply JO.ru; exact rfl; exact rfl; exact rfl; (first | (apply Ru.move; exact rfl) | (apply Ru.assign; exact rfl))) | refine JC.seq ?_ | refine JC.region ?_ | refine JO.nil ?_ | refine JE.thenN ?_)
  (apply JO.do; exact rfl; exact rfl; exact rfl; (apply Do.call; exact rfl; exact bytes_Join v rows bss hlen hk hne hr he); rintro u _ ⟨rfl, hnil⟩)
  refine JO.own (fun h _ _ => (hnil h).elim) ?_
  rintro b cap spare rfl hcap hxs hsp
  repeat' (first | (apply JO.ru; exact rfl; exact rfl; exact rfl; (first | (apply Ru.move; exact rfl) | (apply Ru.assign; exact rfl) | (apply Ru.lenS; exact rfl) | (apply Ru.pickT; exact rfl; exact rfl) | (apply Ru.pickF; exact rfl; exact rfl) | (apply Ru.sliceS; exact rfl; exact rfl; exact rfl; exact rfl; (first | exact fun _ => rfl | exact fun h => nomatch h); omega; omega; omega))) | refine JC.seq ?_ | refine JC.region ?_ | refine JO.nil ?_ | refine JE.thenN ?_ | refine JE.thenR ?_ | refine JC.ret ?_ | refine JC.skip ?_ | refine JC.condT rfl ?_ | refine JC.condF rfl ?_ | (apply JO.split; exact rfl; exact rfl; exact rfl; (first | (apply Ru.lss; exact rfl; exact rfl; exact rfl) | (apply Ru.gtr; exact rfl; exact rfl; exact rfl)); all_goals intro _) | refine JO.guardF rfl rfl rfl rfl rfl rfl rfl ?_ | refine JO.guardT rfl rfl rfl rfl ?_ | (apply JE.done2; exact rfl; (first | (apply Res.tmp; exact rfl) | (apply Res.cell; exact rfl; (repeat (first | exact Pick.here | apply Pick.there)); exact rfl) | (apply Res.cellAN; exact rfl; (repeat (first | exact Pick.here | apply Pick.there)); exact rfl; exact rfl) | (apply Res.cellA; exact rfl; (repeat (first | exact Pick.here | apply Pick.there)); exact rfl; exact rfl)); (first | (apply Res.tmp; exact rfl) | (apply Res.cell; exact rfl; (repeat (first | exact Pick.here | apply Pick.there)); exact rfl) | (apply Res.cellAN; exact rfl; (repeat (first | exact Pick.here | apply Pick.there)); exact rfl; exact rfl) | (apply Res.cellA; exact rfl; (repeat (first | exact Pick.here | apply Pick.there)); exact rfl; exact rfl))))
  · refine finD (finS ?_); exact .inr ⟨by omega, rfl, rfl⟩
  · refine finD (finS ?_); exact .inr ⟨by omega, rfl, rfl⟩
  · rename_i h1 h2
    have k1 : 0 + Int.toNat ((0 : Nat) : Int) * 1 = 0 := rfl
    have k2 : (many - ((0 : Nat) : Int)).toNat = many.toNat := by omega
    have k3 : ((cap : Int) - ((0 : Nat) : Int)).toNat = cap := by omega
    rw [k1, k2, k3]
    have k4 : bss.flatten.map byte ++ spare = (bss.flatten.take many.toNat).map byte ++ ((bss.flatten.drop many.toNat).map byte ++ spare) := by
      rw [← List.append_assoc, ← List.map_append, List.take_append_drop]
    rw [k4] at hsp ⊢
    have hl : ((bss.flatten.take many.toNat).map byte).length = many.toNat := by rw [List.length_map, List.length_take]; omega
    refine ⟨_, fun w s => Sat.ownS_arr (k := many.toNat) (cap := cap) (z := 1) (by omega) (by rw [hl]; omega) hsp s, ?_⟩
    exact .inl ⟨by omega, by omega, _, rfl, rfl⟩
end Go.Sep
/- slot: a slot's other sectors, read. -/
namespace Go.Sep
open Go Go.Proofs
attribute [local irreducible] JO JC JE JA JQ JB JI Mid Inv Weak ownS Ru Do Fn Sat Pick Take arr pt star ex Holds bodyPost Post Exit.then Exit.inBlock Res
variable {σ : Sig} {F : List HP}
attribute [local irreducible] diskHP cacheHP planHP rowHP
/-- The sectors behind a slot's first one. -/
def DiskN.rows (D : DiskN) (first : Int) (many : Nat) : List (Int × List UInt8) := (List.range many).map fun (j : Nat) => ((j : Int), D.cur (first + (1 + (j : Int))).toNat)
def DiskN.body (D : DiskN) (first : Int) (many : Nat) : List UInt8 := ((D.rows first many).map (·.2)).flatten
def bodyE (D : DiskN) (first : Int) (j : Nat) : Int := (D.ticks j).readE (first + (1 + (j : Int)))
theorem rows_succ (D : DiskN) (first : Int) (k : Nat) : D.rows first (k + 1) = D.rows first k ++ [((k : Int), D.cur (first + (1 + (k : Int))).toNat)] := by
  simp [DiskN.rows, List.range_succ]
theorem body_succ (D : DiskN) (first : Int) (k : Nat) : D.body first (k + 1) = D.body first k ++ D.cur (first + (1 + (k : Int))).toNat := by
  unfold DiskN.body; rw [rows_succ]; simp
theorem bodyE_range {D : DiskN} {first : Int} {j : Nat} (h : bodyE D first j = 0) (hf : 0 ≤ first) : (first + (1 + (j : Int))).toNat < D.count := by
  unfold bodyE DiskN.readE at h
  split at h
  · cases h
  · split at h
    · cases h
    · rename_i h2
      have : ((D.ticks j).count : Int) = D.count := rfl
      omega
theorem body_len {D : DiskN} {first : Int} (hD : D.WF) (hf : 0 ≤ first) : ∀ (k : Nat), (∀ j, j < k → bodyE D first j = 0) → (D.body first k).length = k * D.size
  | 0, _ => by simp [DiskN.body, DiskN.rows]
  | k + 1, h => by
    have ih := body_len hD hf k fun j hj => h j (by omega)
    have := hD.cur (bodyE_range (h k (by omega)) hf)
    rw [body_succ, List.length_append, ih, this, Nat.succ_mul]
set_option maxHeartbeats 4000000 in
theorem place_whole (d : Nat) (D : DiskN) (db fb : Nat) (first len : Int) (many : Nat) (hD : D.WF) (ho : D.ops + many ≤ 1000000000000) (hm : many ≤ 4096) (hi : 0 ≤ first ∧ first ≤ 1000000) :
    Fn Tryz.prog σ 75 #[placeV many D.size db fb, int len] (slotL d D db fb first F)
      (fun v l' => (∃ k, k < many ∧ (∀ j, j < k → bodyE D first j = 0) ∧ bodyE D first k ≠ 0 ∧ v = .tuple #[.slice none 0 0, int (bodyE D first k)] ∧ l' = slotL d (D.ticks (k + 1)) db fb first F) ∨
        ((∀ j, j < many → bodyE D first j = 0) ∧
          ((0 ≤ len ∧ len ≤ (D.body first many).length ∧ ∃ u, v = .tuple #[u, int 0] ∧ l' = ownS u 5 1 len.toNat (((D.body first many).take len.toNat).map byte) :: slotL d (D.ticks many) db fb first F) ∨
           (¬ (0 ≤ len ∧ len ≤ (D.body first many).length) ∧ v = .tuple #[.slice none 0 0, int 1] ∧ l' = slotL d (D.ticks many) db fb first F)))) := by
  refine Fn.of Tryz.func75 rfl Tryz.ntmps75 rfl ?_
  repeat' (first | (apply JO.ru; exact rfl; exact rfl; exact rfl; (first | (apply Ru.move; exact rfl) | (apply Ru.loadN; exact rfl; (repeat (first | exact Pick.here | apply Pick.there)); exact rfl) | (apply Ru.fieldAddr; exact rfl) | (apply Ru.assign; exact rfl))) | refine JC.seq ?_ | refine JC.region ?_ | refine JO.nil ?_ | refine JE.thenN ?_ | refine JC.block ?_ | (apply JO.do; exact rfl; exact rfl; exact rfl; (first | (apply Do.boxN; exact rfl; exact rfl) | (apply Do.box; exact rfl)); rintro _ _ ⟨_, rfl, rfl⟩))
  rename_i pb
  refine JC.loop (fun x : Nat × List (Int × Value × List UInt8) × Value => [(1, int len), (2, .pointer (some ⟨pb, 0, none⟩)), (6, x.2.2), (11, int many), (12, int x.1)])
    (fun x => ownS x.2.2 35 1 x.1 (x.2.1.map (·.2.1)) :: star (x.2.1.map rowHP) :: arr pb 105 [int many, int D.size, rdV db fb, wrV db fb] :: slotL d (D.ticks x.1) db fb first F)
    (fun x => x.1 ≤ many ∧ x.2.1.map (fun p => (p.1, p.2.2)) = D.rows first x.1 ∧ ∀ j, j < x.1 → bodyE D first j = 0) (fun x => many - x.1) (0, [], .slice none 0 0) ⟨Nat.zero_le _, rfl, fun j h => absurd h (Nat.not_lt_zero _)⟩ ⟨rfl, rfl, rfl, rfl, rfl, trivial⟩ ?_ ?_
  · intro w s
    have s1 : Sat σ w (star (([] : List (Int × Value × List UInt8)).map rowHP) :: arr pb 105 [int many, int D.size, rdV db fb, wrV db fb] :: slotL d D db fb first F) :=
      Sat.star0 s
    exact Sat.ownS_nil s1
  rintro ⟨k, R, v⟩ ⟨hk, hR, hok⟩
  dsimp only at hk hR hok ⊢
  repeat' (first | (apply JO.ru; exact rfl; exact rfl; exact rfl; (first | (apply Ru.move; exact rfl) | (apply Ru.loadN; exact rfl; (repeat (first | exact Pick.here | apply Pick.there)); exact rfl) | (apply Ru.fieldAddr; exact rfl) | (apply Ru.assign; exact rfl) | (apply Ru.add; exact rfl; exact rfl; (first | exact wrapI (by omega) (by omega) | exact rfl)))) | refine JC.seq ?_ | refine JC.region ?_ | refine JO.nil ?_ | refine JE.thenN ?_ | refine JE.thenE ?_ | refine JE.blockE ?_ | refine JC.block ?_ | refine JC.skip ?_ | refine JC.exit ?_ | refine JC.condT rfl ?_ | refine JC.condF rfl ?_ | (apply JO.split; exact rfl; exact rfl; exact rfl; ((apply Ru.lss; exact rfl; exact rfl; exact rfl)); all_goals intro _))
  · rename_i hlt
    have hrd := slot_rd (σ := σ) d (D.ticks k) db fb first (1 + (k : Int)) (hD.ticks k) (by show D.ops + k ≤ _; omega) (by omega) (F := ownS v 35 1 k (R.map (·.2.1)) :: star (R.map rowHP) :: arr pb 105 [int many, int D.size, rdV db fb, wrV db fb] :: F)
    repeat' (fail)
    refine JO.heap (Sat.weak (l' := slotL d (D.ticks k) db fb first (ownS v 35 1 k (R.map (·.2.1)) :: star (R.map rowHP) :: arr pb 105 [int many, int D.size, rdV db fb, wrV db fb] :: F)) (by repeat (first | exact Weak.refl | (apply Weak.cons; (first | exact Pick.here | exact Pick.there Pick.here | exact Pick.there (Pick.there Pick.here) | exact Pick.there (Pick.there (Pick.there Pick.here)) | exact Pick.there (Pick.there (Pick.there (Pick.there Pick.here))) | exact Pick.there (Pick.there (Pick.there (Pick.there (Pick.there Pick.here)))) | exact Pick.there (Pick.there (Pick.there (Pick.there (Pick.there (Pick.there Pick.here))))) | exact Pick.there (Pick.there (Pick.there (Pick.there (Pick.there (Pick.there (Pick.there Pick.here)))))))) | apply Weak.drop))) ?_
    (apply JO.do; exact rfl; exact rfl; exact rfl; (apply Do.callV (f := 104); exact rfl; exact rfl; exact hrd); rintro _ _ (⟨hE, u, rfl, rfl⟩ | ⟨hE, rfl, rfl⟩))
    · have hb0 : bodyE D first k = 0 := hE
      refine JO.ownR Pick.here fun _ _ hsh => ?_
      rcases hsh with ⟨rfl, _⟩ | ⟨bu, cu, rfl, _⟩
      · repeat' (first | (apply JO.ru; exact rfl; exact rfl; exact rfl; (first | (apply Ru.move; exact rfl) | (apply Ru.assign; exact rfl) | (apply Ru.neq; exact rfl; exact rfl; (first | exact ndecF (by omega) | exact ndecT (by omega))) | (apply Ru.extractN; exact rfl; exact rfl))) | refine JC.seq ?_ | refine JC.region ?_ | refine JO.nil ?_ | refine JE.thenN ?_ | refine JC.skip ?_ | refine JC.condF rfl ?_ | (apply JO.do; exact rfl; exact rfl; exact rfl; (first | (apply Do.buildSliceN; exact rfl; exact rfl; exact rfl; exact rfl) | (apply Do.buildSlice; exact rfl; exact rfl; exact rfl; exact rfl)); rintro _ _ ⟨_, rfl, rfl⟩))
        (apply JO.do; exact rfl; exact rfl; exact rfl; (apply Do.append1 (ys := [.slice none 0 0]); exact rfl; exact rfl; exact Pick.there (Pick.there (Pick.there (Pick.there (Pick.there Pick.here)))); exact RdS.arr (vs := [.slice none 0 0]) Pick.here 0 1 1 (Nat.le_refl _) (Nat.le_refl _); (intro q hq; rw [List.mem_singleton.1 hq]; rfl); (show (k + 1) * 24 ≤ _; omega)); rintro v' _ ⟨rfl, _⟩)
        repeat' (first | (apply JO.ru; exact rfl; exact rfl; exact rfl; (first | (apply Ru.move; exact rfl) | (apply Ru.assign; exact rfl) | (apply Ru.add; exact rfl; exact rfl; (first | exact wrapI (by omega) (by omega) | exact rfl)))) | refine JC.region ?_ | refine JO.nil ?_ | refine JE.thenN ?_ | refine JE.blockN ?_)
        refine JE.round (k + 1, R ++ [((k : Int), .slice none 0 0, D.cur (first + (1 + (k : Int))).toNat)], v') ⟨by show k + 1 ≤ many; omega, ?_, ?_⟩ (by show many - (k + 1) < many - k; omega) ⟨rfl, rfl, rfl, rfl, rfl, trivial⟩ ?_
        · show (R ++ _).map _ = D.rows first (k + 1)
          rw [List.map_append, hR, rows_succ]; rfl
        · intro j hj
          by_cases hjk : j = k
          · subst hjk; exact hb0
          · exact hok j (by have : j < k + 1 := hj; omega)
        · intro w s
          have s0 := Sat.weak (l' := bytesHP (.slice none 0 0) (D.cur (first + (1 + (k : Int))).toNat) :: star (R.map rowHP) :: ownS v' 35 1 (k + 1) (R.map (·.2.1) ++ [.slice none 0 0]) :: arr pb 105 [int many, int D.size, rdV db fb, wrV db fb] :: slotL d (D.ticks (k + 1)) db fb first F) (by repeat (first | exact Weak.refl | (apply Weak.cons; (first | exact Pick.here | exact Pick.there Pick.here | exact Pick.there (Pick.there Pick.here) | exact Pick.there (Pick.there (Pick.there Pick.here)) | exact Pick.there (Pick.there (Pick.there (Pick.there Pick.here))) | exact Pick.there (Pick.there (Pick.there (Pick.there (Pick.there Pick.here)))) | exact Pick.there (Pick.there (Pick.there (Pick.there (Pick.there (Pick.there Pick.here))))) | exact Pick.there (Pick.there (Pick.there (Pick.there (Pick.there (Pick.there (Pick.there Pick.here)))))))) | apply Weak.drop)) w s
          have s1 := Sat.rowPush (p := ((k : Int), .slice none 0 0, D.cur (first + (1 + (k : Int))).toNat)) s0
          dsimp only
          rw [List.map_append (f := fun p : Int × Value × List UInt8 => p.2.1)]
          exact Sat.weak (by repeat (first | exact Weak.refl | (apply Weak.cons; (first | exact Pick.here | exact Pick.there Pick.here | exact Pick.there (Pick.there Pick.here) | exact Pick.there (Pick.there (Pick.there Pick.here)) | exact Pick.there (Pick.there (Pick.there (Pick.there Pick.here))) | exact Pick.there (Pick.there (Pick.there (Pick.there (Pick.there Pick.here)))) | exact Pick.there (Pick.there (Pick.there (Pick.there (Pick.there (Pick.there Pick.here))))) | exact Pick.there (Pick.there (Pick.there (Pick.there (Pick.there (Pick.there (Pick.there Pick.here)))))))) | apply Weak.drop)) w s1
      · repeat' (first | (apply JO.ru; exact rfl; exact rfl; exact rfl; (first | (apply Ru.move; exact rfl) | (apply Ru.assign; exact rfl) | (apply Ru.neq; exact rfl; exact rfl; (first | exact ndecF (by omega) | exact ndecT (by omega))) | (apply Ru.extractN; exact rfl; exact rfl))) | refine JC.seq ?_ | refine JC.region ?_ | refine JO.nil ?_ | refine JE.thenN ?_ | refine JC.skip ?_ | refine JC.condF rfl ?_ | (apply JO.do; exact rfl; exact rfl; exact rfl; (first | (apply Do.buildSliceN; exact rfl; exact rfl; exact rfl; exact rfl) | (apply Do.buildSlice; exact rfl; exact rfl; exact rfl; exact rfl)); rintro _ _ ⟨_, rfl, rfl⟩))
        (apply JO.do; exact rfl; exact rfl; exact rfl; (apply Do.append1 (ys := [.slice (some ⟨bu, 0, none⟩) (D.cur (first + (1 + (k : Int))).toNat).length cu]); exact rfl; exact rfl; exact Pick.there (Pick.there (Pick.there (Pick.there (Pick.there Pick.here)))); exact RdS.arr (vs := [.slice (some ⟨bu, 0, none⟩) (D.cur (first + (1 + (k : Int))).toNat).length cu]) Pick.here 0 1 1 (Nat.le_refl _) (Nat.le_refl _); (intro q hq; rw [List.mem_singleton.1 hq]; rfl); (show (k + 1) * 24 ≤ _; omega)); rintro v' _ ⟨rfl, _⟩)
        repeat' (first | (apply JO.ru; exact rfl; exact rfl; exact rfl; (first | (apply Ru.move; exact rfl) | (apply Ru.assign; exact rfl) | (apply Ru.add; exact rfl; exact rfl; (first | exact wrapI (by omega) (by omega) | exact rfl)))) | refine JC.region ?_ | refine JO.nil ?_ | refine JE.thenN ?_ | refine JE.blockN ?_)
        refine JE.round (k + 1, R ++ [((k : Int), .slice (some ⟨bu, 0, none⟩) (D.cur (first + (1 + (k : Int))).toNat).length cu, D.cur (first + (1 + (k : Int))).toNat)], v') ⟨by show k + 1 ≤ many; omega, ?_, ?_⟩ (by show many - (k + 1) < many - k; omega) ⟨rfl, rfl, rfl, rfl, rfl, trivial⟩ ?_
        · show (R ++ _).map _ = D.rows first (k + 1)
          rw [List.map_append, hR, rows_succ]; rfl
        · intro j hj
          by_cases hjk : j = k
          · subst hjk; exact hb0
          · exact hok j (by have : j < k + 1 := hj; omega)
        · intro w s
          have s0 := Sat.weak (l' := bytesHP (.slice (some ⟨bu, 0, none⟩) (D.cur (first + (1 + (k : Int))).toNat).length cu) (D.cur (first + (1 + (k : Int))).toNat) :: star (R.map rowHP) :: ownS v' 35 1 (k + 1) (R.map (·.2.1) ++ [.slice (some ⟨bu, 0, none⟩) (D.cur (first + (1 + (k : Int))).toNat).length cu]) :: arr pb 105 [int many, int D.size, rdV db fb, wrV db fb] :: slotL d (D.ticks (k + 1)) db fb first F) (by repeat (first | exact Weak.refl | (apply Weak.cons; (first | exact Pick.here | exact Pick.there Pick.here | exact Pick.there (Pick.there Pick.here) | exact Pick.there (Pick.there (Pick.there Pick.here)) | exact Pick.there (Pick.there (Pick.there (Pick.there Pick.here))) | exact Pick.there (Pick.there (Pick.there (Pick.there (Pick.there Pick.here)))) | exact Pick.there (Pick.there (Pick.there (Pick.there (Pick.there (Pick.there Pick.here))))) | exact Pick.there (Pick.there (Pick.there (Pick.there (Pick.there (Pick.there (Pick.there Pick.here)))))))) | apply Weak.drop)) w s
          have s1 := Sat.rowPush (p := ((k : Int), .slice (some ⟨bu, 0, none⟩) (D.cur (first + (1 + (k : Int))).toNat).length cu, D.cur (first + (1 + (k : Int))).toNat)) s0
          dsimp only
          rw [List.map_append (f := fun p : Int × Value × List UInt8 => p.2.1)]
          exact Sat.weak (by repeat (first | exact Weak.refl | (apply Weak.cons; (first | exact Pick.here | exact Pick.there Pick.here | exact Pick.there (Pick.there Pick.here) | exact Pick.there (Pick.there (Pick.there Pick.here)) | exact Pick.there (Pick.there (Pick.there (Pick.there Pick.here))) | exact Pick.there (Pick.there (Pick.there (Pick.there (Pick.there Pick.here)))) | exact Pick.there (Pick.there (Pick.there (Pick.there (Pick.there (Pick.there Pick.here))))) | exact Pick.there (Pick.there (Pick.there (Pick.there (Pick.there (Pick.there (Pick.there Pick.here)))))))) | apply Weak.drop)) w s1
    · repeat' (first | (apply JO.ru; exact rfl; exact rfl; exact rfl; (first | (apply Ru.move; exact rfl) | (apply Ru.assign; exact rfl) | (apply Ru.neq; exact rfl; exact rfl; (first | exact ndecF (by omega) | exact ndecT (by omega))) | (apply Ru.extractN; exact rfl; exact rfl))) | refine JC.seq ?_ | refine JC.region ?_ | refine JO.nil ?_ | refine JE.thenN ?_ | refine JE.thenR ?_ | refine JE.blockR ?_ | refine JC.ret ?_ | refine JC.condT rfl ?_ | (apply JE.done2; exact rfl; (first | (apply Res.tmp; exact rfl) | (apply Res.cell; exact rfl; (repeat (first | exact Pick.here | apply Pick.there)); exact rfl) | (apply Res.cellAN; exact rfl; (repeat (first | exact Pick.here | apply Pick.there)); exact rfl; exact rfl) | (apply Res.cellA; exact rfl; (repeat (first | exact Pick.here | apply Pick.there)); exact rfl; exact rfl)); (first | (apply Res.tmp; exact rfl) | (apply Res.cell; exact rfl; (repeat (first | exact Pick.here | apply Pick.there)); exact rfl) | (apply Res.cellAN; exact rfl; (repeat (first | exact Pick.here | apply Pick.there)); exact rfl; exact rfl) | (apply Res.cellA; exact rfl; (repeat (first | exact Pick.here | apply Pick.there)); exact rfl; exact rfl))))
      refine ⟨slotL d (D.ticks (k + 1)) db fb first F, Sat.weak (by repeat (first | exact Weak.refl | (apply Weak.cons; (first | exact Pick.here | exact Pick.there Pick.here | exact Pick.there (Pick.there Pick.here) | exact Pick.there (Pick.there (Pick.there Pick.here)) | exact Pick.there (Pick.there (Pick.there (Pick.there Pick.here))) | exact Pick.there (Pick.there (Pick.there (Pick.there (Pick.there Pick.here)))) | exact Pick.there (Pick.there (Pick.there (Pick.there (Pick.there (Pick.there Pick.here))))) | exact Pick.there (Pick.there (Pick.there (Pick.there (Pick.there (Pick.there (Pick.there Pick.here)))))))) | apply Weak.drop)), .inl ⟨k, by omega, hok, hE, rfl, rfl⟩⟩
  · obtain rfl : k = many := by omega
    have hbl := body_len hD hi.1 k hok
    have hbl2 : k * D.size ≤ 16777216 := Nat.mul_le_mul hm hD.hz2
    have hR2 : (D.rows first k).map (·.2) = R.map (·.2.2) := by rw [← hR, List.map_map]; rfl
    have hfl : (R.map (·.2.2)).flatten = D.body first k := by unfold DiskN.body; rw [hR2]
    have hRl : R.length = k := by
      have := congrArg List.length hR
      simpa [DiskN.rows] using this
    refine JO.rowsR (Pick.there Pick.here) fun hrows => ?_
    refine JO.ownR Pick.here fun hrd _ _ => ?_
    have hgl := image_Glue v (R.map (·.2.1)) (R.map (·.2.2)) len (by rw [hfl]; omega) (by rw [List.length_map]; omega) (by
      intro bs hbs
      rw [← hR2] at hbs
      obtain ⟨p, hp, rfl⟩ := List.mem_map.1 hbs
      obtain ⟨j, hj, rfl⟩ := List.mem_map.1 hp
      have := hD.cur (bodyE_range (hok j (List.mem_range.1 hj)) hi.1)
      have := hD.hz
      dsimp only; omega) hrd ⟨by simp, fun j bs hbs => by
        rw [List.getElem?_map] at hbs
        obtain ⟨p, hp, rfl⟩ := Option.map_eq_some_iff.1 hbs
        exact ⟨p.2.1, by rw [List.getElem?_map, hp]; rfl, hrows p (List.mem_of_getElem? hp)⟩⟩
    rw [hfl] at hgl
    (apply JO.do; exact rfl; exact rfl; exact rfl; (apply Do.call; exact rfl; exact hgl); rintro _ _ (⟨g1, g2, u, rfl, rfl⟩ | ⟨g1, rfl, rfl⟩))
    · repeat' (first | (apply JO.ru; exact rfl; exact rfl; exact rfl; (first | (apply Ru.assign; exact rfl) | (apply Ru.extractN; exact rfl; exact rfl))) | refine JO.nil ?_ | refine JE.thenN ?_ | refine JC.ret ?_ | (apply JE.done2; exact rfl; (first | (apply Res.tmp; exact rfl) | (apply Res.cell; exact rfl; (repeat (first | exact Pick.here | apply Pick.there)); exact rfl) | (apply Res.cellAN; exact rfl; (repeat (first | exact Pick.here | apply Pick.there)); exact rfl; exact rfl) | (apply Res.cellA; exact rfl; (repeat (first | exact Pick.here | apply Pick.there)); exact rfl; exact rfl)); (first | (apply Res.tmp; exact rfl) | (apply Res.cell; exact rfl; (repeat (first | exact Pick.here | apply Pick.there)); exact rfl) | (apply Res.cellAN; exact rfl; (repeat (first | exact Pick.here | apply Pick.there)); exact rfl; exact rfl) | (apply Res.cellA; exact rfl; (repeat (first | exact Pick.here | apply Pick.there)); exact rfl; exact rfl))))
      exact ⟨ownS u 5 1 len.toNat (((D.body first k).take len.toNat).map byte) :: slotL d (D.ticks k) db fb first F, Sat.weak (by repeat (first | exact Weak.refl | (apply Weak.cons; (first | exact Pick.here | exact Pick.there Pick.here | exact Pick.there (Pick.there Pick.here) | exact Pick.there (Pick.there (Pick.there Pick.here)) | exact Pick.there (Pick.there (Pick.there (Pick.there Pick.here))) | exact Pick.there (Pick.there (Pick.there (Pick.there (Pick.there Pick.here)))) | exact Pick.there (Pick.there (Pick.there (Pick.there (Pick.there (Pick.there Pick.here))))) | exact Pick.there (Pick.there (Pick.there (Pick.there (Pick.there (Pick.there (Pick.there Pick.here)))))))) | apply Weak.drop)), .inr ⟨hok, .inl ⟨g1, g2, u, rfl, rfl⟩⟩⟩
    · repeat' (first | (apply JO.ru; exact rfl; exact rfl; exact rfl; (first | (apply Ru.assign; exact rfl) | (apply Ru.extractN; exact rfl; exact rfl))) | refine JO.nil ?_ | refine JE.thenN ?_ | refine JC.ret ?_ | (apply JE.done2; exact rfl; (first | (apply Res.tmp; exact rfl) | (apply Res.cell; exact rfl; (repeat (first | exact Pick.here | apply Pick.there)); exact rfl) | (apply Res.cellAN; exact rfl; (repeat (first | exact Pick.here | apply Pick.there)); exact rfl; exact rfl) | (apply Res.cellA; exact rfl; (repeat (first | exact Pick.here | apply Pick.there)); exact rfl; exact rfl)); (first | (apply Res.tmp; exact rfl) | (apply Res.cell; exact rfl; (repeat (first | exact Pick.here | apply Pick.there)); exact rfl) | (apply Res.cellAN; exact rfl; (repeat (first | exact Pick.here | apply Pick.there)); exact rfl; exact rfl) | (apply Res.cellA; exact rfl; (repeat (first | exact Pick.here | apply Pick.there)); exact rfl; exact rfl))))
      exact ⟨slotL d (D.ticks k) db fb first F, Sat.weak (by repeat (first | exact Weak.refl | (apply Weak.cons; (first | exact Pick.here | exact Pick.there Pick.here | exact Pick.there (Pick.there Pick.here) | exact Pick.there (Pick.there (Pick.there Pick.here)) | exact Pick.there (Pick.there (Pick.there (Pick.there Pick.here))) | exact Pick.there (Pick.there (Pick.there (Pick.there (Pick.there Pick.here)))) | exact Pick.there (Pick.there (Pick.there (Pick.there (Pick.there (Pick.there Pick.here))))) | exact Pick.there (Pick.there (Pick.there (Pick.there (Pick.there (Pick.there (Pick.there Pick.here)))))))) | apply Weak.drop)), .inr ⟨hok, .inr ⟨g1, rfl, rfl⟩⟩⟩
end Go.Sep
/- slot: wiped. -/
namespace Go.Sep
open Go Go.Proofs
attribute [local irreducible] JO JC JE JA JQ JB JI Mid Inv Weak ownS Ru Do Fn Sat Pick Take arr pt star ex Holds bodyPost Post Exit.then Exit.inBlock Res
variable {σ : Sig} {F : List HP}
attribute [local irreducible] diskHP cacheHP planHP rowHP
theorem atE_first {D : DiskN} {which e f s : Int} (h : atE D which e f s = 0) : 0 ≤ which * spanG D.size e f s ∧ which * spanG D.size e f s ≤ 1000000 := by
  have hsp := spanG_bd D.size e f s
  unfold atE at h
  split at h
  · cases h
  · split at h
    · cases h
    · have hw : which = 0 ∨ which = 1 := by omega
      rcases hw with rfl | rfl <;> omega
set_option maxHeartbeats 2000000 in
theorem slot_Wipe (d : Nat) (D : DiskN) (which e f s : Int) (hD : D.WF) (ho : D.ops ≤ 1000000000000) (hw : D.writes ≤ 1000000000000) [hg : InG F] :
    Fn Tryz.prog σ 20 #[.pointer (some ⟨d, 0, none⟩), int which, geoV e f s] (diskHP d D :: F)
      (fun v l' => (atE D which e f s ≠ 0 ∧ v = int (atE D which e f s) ∧ l' = diskHP d D :: F) ∨ (atE D which e f s = 0 ∧
        ((D.writeE (which * spanG D.size e f s) D.size = 0 ∧ v = int 0 ∧ l' = diskHP d (D.put (which * spanG D.size e f s) (padB [] D.size)) :: F) ∨
         (D.writeE (which * spanG D.size e f s) D.size ≠ 0 ∧ v = int (D.writeE (which * spanG D.size e f s) D.size) ∧ l' = diskHP d D.tick :: F)))) := by
  have hsp := spanG_bd D.size e f s
  refine Fn.of Tryz.func20 rfl Tryz.ntmps20 rfl ?_
  repeat' (first | (apply JO.ru; exact rfl; exact rfl; exact rfl; (first | (apply Ru.move; exact rfl) | (apply Ru.assign; exact rfl) | (apply Ru.loadAN; exact rfl; (repeat (first | exact Pick.here | apply Pick.there)); exact rfl; exact rfl))) | refine JC.seq ?_ | refine JC.region ?_ | refine JO.nil ?_ | refine JE.thenN ?_ | (apply JO.do; exact rfl; exact rfl; exact rfl; (first | (apply Do.boxN; exact rfl; exact rfl) | (apply Do.box; exact rfl)); rintro _ _ ⟨_, rfl, rfl⟩))
  rename_i gb
  refine JO.heap (Sat.weak (l' := diskHP d D :: arr gb 23 [int e, int f, int s] :: F) (by repeat (first | exact Weak.refl | (apply Weak.cons; (first | exact Pick.here | exact Pick.there Pick.here | exact Pick.there (Pick.there Pick.here) | exact Pick.there (Pick.there (Pick.there Pick.here)) | exact Pick.there (Pick.there (Pick.there (Pick.there Pick.here))) | exact Pick.there (Pick.there (Pick.there (Pick.there (Pick.there Pick.here)))) | exact Pick.there (Pick.there (Pick.there (Pick.there (Pick.there (Pick.there Pick.here))))) | exact Pick.there (Pick.there (Pick.there (Pick.there (Pick.there (Pick.there (Pick.there Pick.here)))))))) | apply Weak.drop))) ?_
  (apply JO.do; exact rfl; exact rfl; exact rfl; (apply Do.call; exact rfl; exact slot_at d D which e f s hD); rintro _ _ (⟨hE, db, fb, rfl, rfl⟩ | ⟨hE, rfl, rfl⟩))
  · repeat' (first | (apply JO.ru; exact rfl; exact rfl; exact rfl; (first | (apply Ru.move; exact rfl) | (apply Ru.assign; exact rfl) | (apply Ru.neq; exact rfl; exact rfl; (first | exact ndecF (by omega) | exact ndecT (by omega))) | (apply Ru.extractN; exact rfl; exact rfl) | (apply Ru.loadAN; exact rfl; (repeat (first | exact Pick.here | apply Pick.there)); exact rfl; exact rfl))) | refine JC.seq ?_ | refine JC.region ?_ | refine JO.nil ?_ | refine JE.thenN ?_ | refine JC.skip ?_ | refine JC.condF rfl ?_ | (apply JO.do; exact rfl; exact rfl; exact rfl; (first | (apply Do.allocN; exact rfl) | apply Do.alloc); rintro _ _ ⟨_, rfl, rfl⟩) | (apply JO.do0; exact rfl; exact rfl; (first | (apply Do.storeAN; exact rfl; exact rfl; (repeat (first | exact Pick.here | apply Pick.there)); exact rfl; exact rfl; exact rfl; exact rfl) | (apply Do.storeA; exact rfl; exact rfl; (repeat (first | exact Pick.here | apply Pick.there)); exact rfl; exact rfl; exact rfl)); rintro _ _ ⟨rfl, rfl⟩))
    have hfi := atE_first hE
    rename_i pb
    refine JO.heap (Sat.weak (l' := slotL d D db fb (which * spanG D.size e f s) (arr pb 105 [int (spanG D.size e f s - 1), int D.size, rdV db fb, wrV db fb] :: F)) (by repeat (first | exact Weak.refl | (apply Weak.cons; (first | exact Pick.here | exact Pick.there Pick.here | exact Pick.there (Pick.there Pick.here) | exact Pick.there (Pick.there (Pick.there Pick.here)) | exact Pick.there (Pick.there (Pick.there (Pick.there Pick.here))) | exact Pick.there (Pick.there (Pick.there (Pick.there (Pick.there Pick.here)))) | exact Pick.there (Pick.there (Pick.there (Pick.there (Pick.there (Pick.there Pick.here))))) | exact Pick.there (Pick.there (Pick.there (Pick.there (Pick.there (Pick.there (Pick.there Pick.here)))))))) | apply Weak.drop))) ?_
    (apply JO.do; exact rfl; exact rfl; exact rfl; (apply Do.call; exact rfl; exact place_first d D db fb (which * spanG D.size e f s) (spanG D.size e f s - 1) (.slice none 0 0) [] hD ho hw (Nat.zero_le _) ⟨hfi.1, by omega⟩ RdS.nil); rintro _ _ (⟨hW, rfl, rfl⟩ | ⟨hW, rfl, rfl⟩))
    · repeat' (first | (apply JO.ru; exact rfl; exact rfl; exact rfl; ((apply Ru.assign; exact rfl))) | refine JO.nil ?_ | refine JE.thenN ?_ | refine JC.ret ?_ | (apply JE.done1; exact rfl; (first | (apply Res.tmp; exact rfl) | (apply Res.cell; exact rfl; (repeat (first | exact Pick.here | apply Pick.there)); exact rfl) | (apply Res.cellAN; exact rfl; (repeat (first | exact Pick.here | apply Pick.there)); exact rfl; exact rfl) | (apply Res.cellA; exact rfl; (repeat (first | exact Pick.here | apply Pick.there)); exact rfl; exact rfl))))
      exact ⟨diskHP d (D.put (which * spanG D.size e f s) (padB [] D.size)) :: F, Sat.weak (by repeat (first | exact Weak.refl | (apply Weak.cons; (first | exact Pick.here | exact Pick.there Pick.here | exact Pick.there (Pick.there Pick.here) | exact Pick.there (Pick.there (Pick.there Pick.here)) | exact Pick.there (Pick.there (Pick.there (Pick.there Pick.here))) | exact Pick.there (Pick.there (Pick.there (Pick.there (Pick.there Pick.here)))) | exact Pick.there (Pick.there (Pick.there (Pick.there (Pick.there (Pick.there Pick.here))))) | exact Pick.there (Pick.there (Pick.there (Pick.there (Pick.there (Pick.there (Pick.there Pick.here)))))))) | apply Weak.drop)), .inr ⟨hE, .inl ⟨hW, rfl, rfl⟩⟩⟩
    · repeat' (first | (apply JO.ru; exact rfl; exact rfl; exact rfl; ((apply Ru.assign; exact rfl))) | refine JO.nil ?_ | refine JE.thenN ?_ | refine JC.ret ?_ | (apply JE.done1; exact rfl; (first | (apply Res.tmp; exact rfl) | (apply Res.cell; exact rfl; (repeat (first | exact Pick.here | apply Pick.there)); exact rfl) | (apply Res.cellAN; exact rfl; (repeat (first | exact Pick.here | apply Pick.there)); exact rfl; exact rfl) | (apply Res.cellA; exact rfl; (repeat (first | exact Pick.here | apply Pick.there)); exact rfl; exact rfl))))
      exact ⟨diskHP d D.tick :: F, Sat.weak (by repeat (first | exact Weak.refl | (apply Weak.cons; (first | exact Pick.here | exact Pick.there Pick.here | exact Pick.there (Pick.there Pick.here) | exact Pick.there (Pick.there (Pick.there Pick.here)) | exact Pick.there (Pick.there (Pick.there (Pick.there Pick.here))) | exact Pick.there (Pick.there (Pick.there (Pick.there (Pick.there Pick.here)))) | exact Pick.there (Pick.there (Pick.there (Pick.there (Pick.there (Pick.there Pick.here))))) | exact Pick.there (Pick.there (Pick.there (Pick.there (Pick.there (Pick.there (Pick.there Pick.here)))))))) | apply Weak.drop)), .inr ⟨hE, .inr ⟨hW, rfl, rfl⟩⟩⟩
  · repeat' (first | (apply JO.ru; exact rfl; exact rfl; exact rfl; (first | (apply Ru.move; exact rfl) | (apply Ru.assign; exact rfl) | (apply Ru.neq; exact rfl; exact rfl; (first | exact ndecF (by omega) | exact ndecT (by omega))) | (apply Ru.extractN; exact rfl; exact rfl))) | refine JC.seq ?_ | refine JC.region ?_ | refine JO.nil ?_ | refine JE.thenN ?_ | refine JE.thenR ?_ | refine JC.ret ?_ | refine JC.condT rfl ?_ | (apply JO.do; exact rfl; exact rfl; exact rfl; (first | (apply Do.allocN; exact rfl) | apply Do.alloc); rintro _ _ ⟨_, rfl, rfl⟩) | (apply JO.do0; exact rfl; exact rfl; (first | (apply Do.storeAN; exact rfl; exact rfl; (repeat (first | exact Pick.here | apply Pick.there)); exact rfl; exact rfl; exact rfl; exact rfl) | (apply Do.storeA; exact rfl; exact rfl; (repeat (first | exact Pick.here | apply Pick.there)); exact rfl; exact rfl; exact rfl)); rintro _ _ ⟨rfl, rfl⟩) | (apply JE.done1; exact rfl; (first | (apply Res.tmp; exact rfl) | (apply Res.cell; exact rfl; (repeat (first | exact Pick.here | apply Pick.there)); exact rfl) | (apply Res.cellAN; exact rfl; (repeat (first | exact Pick.here | apply Pick.there)); exact rfl; exact rfl) | (apply Res.cellA; exact rfl; (repeat (first | exact Pick.here | apply Pick.there)); exact rfl; exact rfl))))
    exact ⟨diskHP d D :: F, Sat.weak (by repeat (first | exact Weak.refl | (apply Weak.cons; (first | exact Pick.here | exact Pick.there Pick.here | exact Pick.there (Pick.there Pick.here) | exact Pick.there (Pick.there (Pick.there Pick.here)) | exact Pick.there (Pick.there (Pick.there (Pick.there Pick.here))) | exact Pick.there (Pick.there (Pick.there (Pick.there (Pick.there Pick.here)))) | exact Pick.there (Pick.there (Pick.there (Pick.there (Pick.there (Pick.there Pick.here))))) | exact Pick.there (Pick.there (Pick.there (Pick.there (Pick.there (Pick.there (Pick.there Pick.here)))))))) | apply Weak.drop)), .inl ⟨hE, rfl, rfl⟩⟩
end Go.Sep
/- head: bytes as numbers. -/
namespace Go.Sep
open Go Go.Proofs
attribute [local irreducible] JO JC JE JA JQ JB JI Mid Inv Weak ownS Ru Do Fn Sat Pick Take arr pt star ex Holds bodyPost Post Exit.then Exit.inBlock Res
variable {σ : Sig} {F : List HP}
def leNum : List UInt8 → Int
  | [] => 0
  | x :: r => x.toNat + 256 * leNum r
theorem leNum_bd : ∀ bs : List UInt8, 0 ≤ leNum bs ∧ leNum bs < 256 ^ bs.length
  | [] => ⟨Int.le_refl _, by decide⟩
  | x :: r => by
    have h := leNum_bd r
    have hx : x.toNat < 256 := UInt8.toNat_lt x
    simp only [leNum, List.length_cons, Int.pow_succ]
    omega
theorem leNum_leBytes : ∀ (m : Nat) (n : Int), 0 ≤ n → leNum (leBytes m n) = n % 256 ^ m
  | 0, n, _ => by simp [leNum, leBytes]
  | m + 1, n, h => by
    have e : ((UInt8.ofNat (n % 256).toNat).toNat : Int) = n % 256 := by
      simp only [UInt8.toNat_ofNat']
      omega
    rw [leBytes, leNum, leNum_leBytes m (n / 256) (by omega), e, Int.pow_succ]
    have h2 : (0 : Int) < 256 ^ m := Int.pow_pos (by decide)
    have h3 : n / 256 / 256 ^ m = n / (256 ^ m * 256) := by rw [Int.ediv_ediv_of_nonneg (by omega), Int.mul_comm]
    have h4 := Int.emod_def n (256 ^ m * 256)
    have h5 := Int.emod_def (n / 256) (256 ^ m)
    rw [h4, h5, h3, Int.mul_assoc, Int.mul_sub, ← Int.mul_assoc 256, Int.mul_comm 256 (256 ^ m), Int.mul_assoc]
    omega
theorem or_key (w m x : Nat) (hx : x < 256) (hw : m * 256 + x < 2 ^ w) : (BitVec.ofNat w (m * 256) ||| BitVec.ofNat w x).toNat = m * 256 + x := by
  rw [BitVec.toNat_or, BitVec.toNat_ofNat, BitVec.toNat_ofNat, Nat.mod_eq_of_lt (Nat.lt_of_le_of_lt (Nat.le_add_right _ _) hw), Nat.mod_eq_of_lt (Nat.lt_of_le_of_lt (Nat.le_add_left _ _) hw)]
  have := Nat.shiftLeft_add_eq_or_of_lt (a := m) (b := x) (i := 8) hx
  rw [Nat.shiftLeft_eq] at this
  exact this.symm
theorem bits_or32 (m x : Int) (h0 : 0 ≤ m) (hx : 0 ≤ x ∧ x < 256) (hb : m * 256 + x < 4294967296) :
    Go.bits .or .u32 (IntKind.u32.wrap (m * 2 ^ min (8 : Int).toNat IntKind.u32.bits)) (IntKind.u32.wrap x) = m * 256 + x := by
  obtain ⟨m, rfl⟩ := Int.eq_ofNat_of_zero_le h0
  obtain ⟨x, rfl⟩ := Int.eq_ofNat_of_zero_le hx.1
  have hk := or_key 32 m x (by omega) (by omega)
  show Go.bits .or .u32 (IntKind.u32.wrap (m * 256)) (IntKind.u32.wrap x) = _
  rw [wrapU32 (by omega) (by omega), wrapU32 (by omega) (by omega)]
  have h1 : ((m : Int) * 256) = ((m * 256 : Nat) : Int) := by omega
  show IntKind.u32.wrap (((BitVec.ofInt 32 ((m : Int) * 256)) ||| (BitVec.ofInt 32 (x : Int))).toNat : Int) = _
  rw [h1, BitVec.ofInt_natCast, BitVec.ofInt_natCast, hk, wrapU32 (by omega) (by omega), Int.natCast_add]
theorem bits_or64 (m x : Int) (h0 : 0 ≤ m) (hx : 0 ≤ x ∧ x < 256) (hb : m * 256 + x < 18446744073709551616) :
    Go.bits .or .u64 (IntKind.u64.wrap (m * 2 ^ min (8 : Int).toNat IntKind.u64.bits)) (IntKind.u64.wrap x) = m * 256 + x := by
  obtain ⟨m, rfl⟩ := Int.eq_ofNat_of_zero_le h0
  obtain ⟨x, rfl⟩ := Int.eq_ofNat_of_zero_le hx.1
  have hk := or_key 64 m x (by omega) (by omega)
  show Go.bits .or .u64 (IntKind.u64.wrap (m * 256)) (IntKind.u64.wrap x) = _
  rw [wrapU64 (by omega) (by omega), wrapU64 (by omega) (by omega)]
  have h1 : ((m : Int) * 256) = ((m * 256 : Nat) : Int) := by omega
  show IntKind.u64.wrap (((BitVec.ofInt 64 ((m : Int) * 256)) ||| (BitVec.ofInt 64 (x : Int))).toNat : Int) = _
  rw [h1, BitVec.ofInt_natCast, BitVec.ofInt_natCast, hk, wrapU64 (by omega) (by omega), Int.natCast_add]

theorem leNum_drop {bs : List UInt8} {j : Nat} (h : j < bs.length) : leNum (bs.drop j) = (bs[j].toNat : Int) + 256 * leNum (bs.drop (j + 1)) := by
  rw [List.drop_eq_getElem_cons h]; rfl
theorem pow256_le {i j : Nat} (h : i ≤ j) : (256 : Int) ^ i ≤ 256 ^ j := by
  induction j with
  | zero => obtain rfl : i = 0 := by omega
            exact Int.le_refl _
  | succ j ih =>
    rcases Nat.lt_or_ge j i with q | q
    · obtain rfl : i = j + 1 := by omega
      exact Int.le_refl _
    · have := ih q
      have h2 : (0 : Int) < 256 ^ j := Int.pow_pos (by decide)
      rw [Int.pow_succ]; omega
theorem leNum_drop_bd (bs : List UInt8) (j m : Nat) (h : bs.length ≤ m) : 0 ≤ leNum (bs.drop j) ∧ leNum (bs.drop j) < 256 ^ m := by
  have h1 := leNum_bd (bs.drop j)
  have h2 : (256 : Int) ^ (bs.drop j).length ≤ 256 ^ m := by
    exact pow256_le (by rw [List.length_drop]; omega)
  omega

set_option maxHeartbeats 1000000 in
theorem head_take32 (v : Value) (bs : List UInt8) (hlen : bs.length ≤ 4) {l : List HP} (hb : RdS σ l v (bs.map byte)) : Fn Tryz.prog σ 121 #[v] l (fun v l' => v = u32 (leNum bs) ∧ l' = l) := by
  obtain ⟨p, cap, rfl, hcap, hr⟩ := hb
  have hl : (bs.map byte).length = bs.length := by simp
  refine Fn.of Tryz.func121 rfl Tryz.ntmps121 rfl ?_
  repeat' (first | (apply JO.ru; exact rfl; exact rfl; exact rfl; (first | (apply Ru.move; exact rfl) | (apply Ru.assign; exact rfl) | (apply Ru.lenS; exact rfl) | (apply Ru.sub; exact rfl; exact rfl; (first | exact wrapI (by omega) (by omega) | exact rfl)))) | refine JC.seq ?_ | refine JC.region ?_ | refine JO.nil ?_ | refine JE.thenN ?_ | refine JC.block ?_)
  refine JC.loop (fun j : Nat => [(0, .slice p (bs.map byte).length cap), (3, u32 (leNum (bs.drop j))), (4, int ((j : Int) - 1))]) (fun _ => l) (fun j => j ≤ bs.length) (fun j => j) bs.length (Nat.le_refl _) ⟨rfl, by rw [List.drop_length]; rfl, by rw [← hl]; rfl, trivial⟩ (fun _ h => h) ?_
  intro j hj
  repeat' (first | (apply JO.ru; exact rfl; exact rfl; exact rfl; (first | (apply Ru.move; exact rfl) | (apply Ru.assign; exact rfl) | (apply Ru.shl; exact rfl; exact rfl; decide; exact rfl))) | refine JC.seq ?_ | refine JC.region ?_ | refine JO.nil ?_ | refine JE.thenN ?_ | refine JE.thenE ?_ | refine JE.blockE ?_ | refine JC.block ?_ | refine JC.ret ?_ | refine JC.skip ?_ | refine JC.exit ?_ | refine JC.condT rfl ?_ | refine JC.condF rfl ?_ | (apply JO.split; exact rfl; exact rfl; exact rfl; ((apply Ru.geq; exact rfl; exact rfl; exact rfl)); all_goals intro _) | (apply JE.done1; exact rfl; (first | (apply Res.tmp; exact rfl) | (apply Res.cell; exact rfl; (repeat (first | exact Pick.here | apply Pick.there)); exact rfl) | (apply Res.cellAN; exact rfl; (repeat (first | exact Pick.here | apply Pick.there)); exact rfl; exact rfl) | (apply Res.cellA; exact rfl; (repeat (first | exact Pick.here | apply Pick.there)); exact rfl; exact rfl))))
  · rename_i hlt
    obtain ⟨j, rfl⟩ : ∃ i, j = i + 1 := ⟨j - 1, by omega⟩
    have hlt' : j < bs.length := by omega
    rcases hr with h0 | ⟨b, o, rfl, hc⟩
    · rw [h0] at hl; simp at hl; omega
    repeat' ((apply JO.ru; exact rfl; exact rfl; exact rfl; ((apply Ru.indexAddr; exact rfl; exact rfl; omega; omega))))
    (apply JO.ru; exact rfl; exact rfl; exact rfl; (apply Ru.loadC; exact rfl; exact rd_cell hc hlt' (by omega)))
    repeat' (first | (apply JO.ru; exact rfl; exact rfl; exact rfl; (first | (apply Ru.move; exact rfl) | (apply Ru.assign; exact rfl) | (apply Ru.sub; exact rfl; exact rfl; (first | exact wrapI (by omega) (by omega) | exact rfl)) | (apply Ru.or; exact rfl; exact rfl) | (apply Ru.conv; exact rfl; exact rfl))) | refine JC.region ?_ | refine JO.nil ?_ | refine JE.thenN ?_ | refine JE.blockN ?_)
    refine JE.round j (by omega) (by omega) ⟨rfl, ?_, ?_, trivial⟩ (fun _ h => h)
    · have b1 := leNum_drop_bd bs (j + 1) 4 hlen
      have b2 := leNum_drop_bd bs j 4 hlen
      have b3 := leNum_drop hlt'
      have b4 : bs[j].toNat < 256 := UInt8.toNat_lt _
      show some _ = some (u32 _)
      rw [bits_or32 _ _ b1.1 (by omega) (by omega), b3]
      congr 2
      omega
    · show some (int _) = some (int _); congr 2; omega
  · obtain rfl : j = 0 := by omega
    refine finS ?_; exact ⟨by rw [List.drop_zero], rfl⟩
set_option maxHeartbeats 1000000 in
theorem head_take64 (v : Value) (bs : List UInt8) (hlen : bs.length ≤ 8) {l : List HP} (hb : RdS σ l v (bs.map byte)) : Fn Tryz.prog σ 122 #[v] l (fun v l' => v = u64 (leNum bs) ∧ l' = l) := by
  obtain ⟨p, cap, rfl, hcap, hr⟩ := hb
  have hl : (bs.map byte).length = bs.length := by simp
  refine Fn.of Tryz.func122 rfl Tryz.ntmps122 rfl ?_
  repeat' (first | (apply JO.ru; exact rfl; exact rfl; exact rfl; (first | (apply Ru.move; exact rfl) | (apply Ru.assign; exact rfl) | (apply Ru.lenS; exact rfl) | (apply Ru.sub; exact rfl; exact rfl; (first | exact wrapI (by omega) (by omega) | exact rfl)))) | refine JC.seq ?_ | refine JC.region ?_ | refine JO.nil ?_ | refine JE.thenN ?_ | refine JC.block ?_)
  refine JC.loop (fun j : Nat => [(0, .slice p (bs.map byte).length cap), (3, u64 (leNum (bs.drop j))), (4, int ((j : Int) - 1))]) (fun _ => l) (fun j => j ≤ bs.length) (fun j => j) bs.length (Nat.le_refl _) ⟨rfl, by rw [List.drop_length]; rfl, by rw [← hl]; rfl, trivial⟩ (fun _ h => h) ?_
  intro j hj
  repeat' (first | (apply JO.ru; exact rfl; exact rfl; exact rfl; (first | (apply Ru.move; exact rfl) | (apply Ru.assign; exact rfl) | (apply Ru.shl; exact rfl; exact rfl; decide; exact rfl))) | refine JC.seq ?_ | refine JC.region ?_ | refine JO.nil ?_ | refine JE.thenN ?_ | refine JE.thenE ?_ | refine JE.blockE ?_ | refine JC.block ?_ | refine JC.ret ?_ | refine JC.skip ?_ | refine JC.exit ?_ | refine JC.condT rfl ?_ | refine JC.condF rfl ?_ | (apply JO.split; exact rfl; exact rfl; exact rfl; ((apply Ru.geq; exact rfl; exact rfl; exact rfl)); all_goals intro _) | (apply JE.done1; exact rfl; (first | (apply Res.tmp; exact rfl) | (apply Res.cell; exact rfl; (repeat (first | exact Pick.here | apply Pick.there)); exact rfl) | (apply Res.cellAN; exact rfl; (repeat (first | exact Pick.here | apply Pick.there)); exact rfl; exact rfl) | (apply Res.cellA; exact rfl; (repeat (first | exact Pick.here | apply Pick.there)); exact rfl; exact rfl))))
  · rename_i hlt
    obtain ⟨j, rfl⟩ : ∃ i, j = i + 1 := ⟨j - 1, by omega⟩
    have hlt' : j < bs.length := by omega
    rcases hr with h0 | ⟨b, o, rfl, hc⟩
    · rw [h0] at hl; simp at hl; omega
    repeat' ((apply JO.ru; exact rfl; exact rfl; exact rfl; ((apply Ru.indexAddr; exact rfl; exact rfl; omega; omega))))
    (apply JO.ru; exact rfl; exact rfl; exact rfl; (apply Ru.loadC; exact rfl; exact rd_cell hc hlt' (by omega)))
    repeat' (first | (apply JO.ru; exact rfl; exact rfl; exact rfl; (first | (apply Ru.move; exact rfl) | (apply Ru.assign; exact rfl) | (apply Ru.sub; exact rfl; exact rfl; (first | exact wrapI (by omega) (by omega) | exact rfl)) | (apply Ru.or; exact rfl; exact rfl) | (apply Ru.conv; exact rfl; exact rfl))) | refine JC.region ?_ | refine JO.nil ?_ | refine JE.thenN ?_ | refine JE.blockN ?_)
    refine JE.round j (by omega) (by omega) ⟨rfl, ?_, ?_, trivial⟩ (fun _ h => h)
    · have b1 := leNum_drop_bd bs (j + 1) 8 hlen
      have b2 := leNum_drop_bd bs j 8 hlen
      have b3 := leNum_drop hlt'
      have b4 : bs[j].toNat < 256 := UInt8.toNat_lt _
      show some _ = some (u64 _)
      rw [bits_or64 _ _ b1.1 (by omega) (by omega), b3]
      congr 2
      omega
    · show some (int _) = some (int _); congr 2; omega
  · obtain rfl : j = 0 := by omega
    refine finS ?_; exact ⟨by rw [List.drop_zero], rfl⟩
end Go.Sep
/- head: laid and read. -/
namespace Go.Sep
open Go Go.Proofs
attribute [local irreducible] JO JC JE JA JQ JB JI Mid Inv Weak ownS Ru Do Fn Sat Pick Take arr pt star ex Holds bodyPost Post Exit.then Exit.inBlock Res
variable {σ : Sig} {F : List HP}
structure HeadN where
  (e f s len seq sum : Int)
def HeadN.val (h : HeadN) : Value := .agg #[int h.e, int h.f, int h.s, int h.len, u64 h.seq, u32 h.sum]
def HeadN.zero : HeadN := ⟨0, 0, 0, 0, 0, 0⟩
def HeadN.right (h : HeadN) : Bool := rightG h.e h.f h.s && decide (h.len = totG h.e h.f h.s)

set_option maxHeartbeats 1000000 in
theorem head_right (h : HeadN) [hg : InG F] : Fn Tryz.prog σ 112 #[h.val] F (fun v l => v = .bool h.right ∧ l = F) := by
  unfold HeadN.right
  obtain ⟨e, f, s, len, seq, sum⟩ := h
  dsimp only
  refine Fn.of Tryz.func112 rfl Tryz.ntmps112 rfl ?_
  by_cases h : rightG e f s = true
  · repeat' (first | (first | (apply JO.ru; exact rfl; exact rfl; exact rfl; ((apply Ru.assign; exact rfl))) | refine JC.seq ?_ | refine JC.region ?_ | refine JO.nil ?_ | refine JE.thenN ?_ | refine JC.ret ?_ | (apply JQ.ru; exact rfl; exact rfl; exact rfl; (first | (apply Ru.move; exact rfl) | (apply Ru.loadN; exact rfl; (repeat (first | exact Pick.here | apply Pick.there)); exact rfl) | (apply Ru.fieldAddr; exact rfl) | (apply Ru.assign; exact rfl) | (apply Ru.pickT; exact rfl; exact rfl) | (apply Ru.loadAN; exact rfl; (repeat (first | exact Pick.here | apply Pick.there)); exact rfl; exact rfl))) | (apply JQ.split; exact rfl; exact rfl; exact rfl; ((apply Ru.eql; exact rfl; exact rfl; exact rfl)); all_goals intro _) | refine JQ.nil ?_ | (apply JO.do; exact rfl; exact rfl; exact rfl; (first | (apply Do.boxN; exact rfl; exact rfl) | (apply Do.box; exact rfl)); rintro _ _ ⟨_, rfl, rfl⟩) | refine JC.regionQ mixed (by decide +kernel) ?_ | (apply JE.done1; exact rfl; (first | (apply Res.tmp; exact rfl) | (apply Res.cell; exact rfl; (repeat (first | exact Pick.here | apply Pick.there)); exact rfl) | (apply Res.cellAN; exact rfl; (repeat (first | exact Pick.here | apply Pick.there)); exact rfl; exact rfl) | (apply Res.cellA; exact rfl; (repeat (first | exact Pick.here | apply Pick.there)); exact rfl; exact rfl)))) | ((first | (apply JO.do; exact rfl; exact rfl; exact rfl; (apply Do.call; exact rfl; exact geo_Right _ _ _); rintro _ _ ⟨rfl, hq⟩; obtain rfl := hq.symm) | (apply JQ.call; exact rfl; exact rfl; exact rfl; exact geo_Right _ _ _; (rintro _ _ ⟨rfl, rfl⟩; exact ⟨rfl, rfl⟩))); rw [h]) | (first | (apply JO.do; exact rfl; exact rfl; exact rfl; (apply Do.call; exact rfl; exact geo_Total _ _ _); rintro _ _ ⟨rfl, hq⟩; obtain rfl := hq.symm) | (apply JQ.call; exact rfl; exact rfl; exact rfl; exact geo_Total _ _ _; (rintro _ _ ⟨rfl, rfl⟩; exact ⟨rfl, rfl⟩))))
    all_goals (refine finD (finS ?_); exact ⟨by simp; omega, rfl⟩)
  · simp only [Bool.not_eq_true] at h
    repeat' (first | (first | (apply JO.ru; exact rfl; exact rfl; exact rfl; ((apply Ru.assign; exact rfl))) | refine JC.seq ?_ | refine JC.region ?_ | refine JO.nil ?_ | refine JE.thenN ?_ | refine JC.ret ?_ | (apply JQ.ru; exact rfl; exact rfl; exact rfl; (first | (apply Ru.move; exact rfl) | (apply Ru.fieldAddr; exact rfl) | (apply Ru.assign; exact rfl) | (apply Ru.pickF; exact rfl; exact rfl) | (apply Ru.loadAN; exact rfl; (repeat (first | exact Pick.here | apply Pick.there)); exact rfl; exact rfl))) | refine JQ.skip rfl rfl rfl ?_ | refine JQ.nil ?_ | (apply JO.do; exact rfl; exact rfl; exact rfl; (first | (apply Do.boxN; exact rfl; exact rfl) | (apply Do.box; exact rfl)); rintro _ _ ⟨_, rfl, rfl⟩) | refine JC.regionQ mixed (by decide +kernel) ?_ | (apply JE.done1; exact rfl; (first | (apply Res.tmp; exact rfl) | (apply Res.cell; exact rfl; (repeat (first | exact Pick.here | apply Pick.there)); exact rfl) | (apply Res.cellAN; exact rfl; (repeat (first | exact Pick.here | apply Pick.there)); exact rfl; exact rfl) | (apply Res.cellA; exact rfl; (repeat (first | exact Pick.here | apply Pick.there)); exact rfl; exact rfl)))) | ((first | (apply JO.do; exact rfl; exact rfl; exact rfl; (apply Do.call; exact rfl; exact geo_Right _ _ _); rintro _ _ ⟨rfl, hq⟩; obtain rfl := hq.symm) | (apply JQ.call; exact rfl; exact rfl; exact rfl; exact geo_Right _ _ _; (rintro _ _ ⟨rfl, rfl⟩; exact ⟨rfl, rfl⟩))); rw [h]))
    all_goals (refine finD (finS ?_); exact ⟨by simp [*], rfl⟩)

theorem wrap32_bd (n : Int) : 0 ≤ IntKind.u32.wrap n ∧ IntKind.u32.wrap n < 4294967296 := by
  have e : IntKind.u32.wrap n = n % 4294967296 := rfl
  rw [e]; omega
theorem bits_bd32 (op : BinOp) (a b : Int) : 0 ≤ Go.bits op .u32 a b ∧ Go.bits op .u32 a b < 4294967296 := by
  unfold Go.bits; exact wrap32_bd _
theorem crcSum_bd (bs : List UInt8) : 0 ≤ crcSum bs ∧ crcSum bs < 4294967296 := by
  unfold crcSum crcMore comI; exact bits_bd32 _ _ _

def encBody (h : HeadN) : List UInt8 := [75, 69, 69, 80, 1, UInt8.ofNat (h.e % 256).toNat, UInt8.ofNat (h.f % 256).toNat, UInt8.ofNat (h.s % 256).toNat] ++ leBytes 4 (IntKind.u32.wrap h.len) ++ leBytes 8 h.seq ++ leBytes 4 h.sum
def enc (h : HeadN) : List UInt8 := encBody h ++ leBytes 4 (crcSum (encBody h))
set_option maxHeartbeats 2000000 in
theorem head_Encode (h : HeadN) (h64 : 0 ≤ h.seq) (h32 : 0 ≤ h.sum) [hg : InG F] : Fn Tryz.prog σ 68 #[h.val] F
    (fun v l => (h.right = true ∧ ∃ u, v = .tuple #[u, int 0] ∧ l = ownS u 5 1 28 ((enc h).map byte) :: F) ∨ (h.right = false ∧ v = .tuple #[.slice none 0 0, int 9] ∧ l = F)) := by
  obtain ⟨e, f, s, len, seq, sum⟩ := h
  dsimp only at *
  have hr := fun G [InG G] => head_right (F := G) (σ := σ) ⟨e, f, s, len, seq, sum⟩
  have hwr := wrap32_bd len
  refine Fn.of Tryz.func68 rfl Tryz.ntmps68 rfl ?_
  by_cases h : HeadN.right ⟨e, f, s, len, seq, sum⟩ = true
  · have hb : rightG e f s = true := by unfold HeadN.right at h; simp at h; exact h.1
    have hb' : 0 ≤ e ∧ e ≤ 10 ∧ 0 ≤ f ∧ f ≤ 64 ∧ 0 ≤ s ∧ s ≤ 128 := by simpa [rightG] using hb
    repeat' (first | (first | (apply JO.ru; exact rfl; exact rfl; exact rfl; (first | (apply Ru.fieldAddr; exact rfl) | (apply Ru.assign; exact rfl) | (apply Ru.not; exact rfl) | (apply Ru.loadAN; exact rfl; (repeat (first | exact Pick.here | apply Pick.there)); exact rfl; exact rfl))) | refine JC.seq ?_ | refine JC.region ?_ | refine JO.nil ?_ | refine JE.thenN ?_ | refine JC.skip ?_ | refine JC.condF rfl ?_ | (apply JO.do; exact rfl; exact rfl; exact rfl; (first | (apply Do.allocN; exact rfl) | apply Do.alloc); rintro _ _ ⟨_, rfl, rfl⟩) | (apply JO.do; exact rfl; exact rfl; exact rfl; (first | (apply Do.boxN; exact rfl; exact rfl) | (apply Do.box; exact rfl)); rintro _ _ ⟨_, rfl, rfl⟩) | (apply JO.do; exact rfl; exact rfl; exact rfl; (first | (apply Do.buildSliceN; exact rfl; exact rfl; exact rfl; exact rfl) | (apply Do.buildSlice; exact rfl; exact rfl; exact rfl; exact rfl)); rintro _ _ ⟨_, rfl, rfl⟩) | (apply JO.do0; exact rfl; exact rfl; (first | (apply Do.storeAN; exact rfl; exact rfl; (repeat (first | exact Pick.here | apply Pick.there)); exact rfl; exact rfl; exact rfl; exact rfl) | (apply Do.storeA; exact rfl; exact rfl; (repeat (first | exact Pick.here | apply Pick.there)); exact rfl; exact rfl; exact rfl)); rintro _ _ ⟨rfl, rfl⟩)) | ((first | (apply JO.do; exact rfl; exact rfl; exact rfl; (apply Do.call; exact rfl; exact hr _); rintro _ _ ⟨rfl, hq⟩; obtain rfl := hq.symm) | (apply JQ.call; exact rfl; exact rfl; exact rfl; exact hr _; (rintro _ _ ⟨rfl, rfl⟩; exact ⟨rfl, rfl⟩))); rw [h]))
    (apply JO.do; exact rfl; exact rfl; exact rfl; (apply Do.convSS; exact rfl; exact Pick.here); rintro _ _ ⟨rfl, rfl⟩)
    refine JO.heap (fun _ s => Sat.ownS_arr (xs := [u8 75, u8 69, u8 69, u8 80]) (spare := []) (k := 4) (cap := 4) (z := 1) (Nat.le_refl _) rfl (Nat.le_refl _) s) ?_
    repeat' (first | (apply JO.ru; exact rfl; exact rfl; exact rfl; (first | (apply Ru.loadN; exact rfl; (repeat (first | exact Pick.here | apply Pick.there)); exact rfl) | (apply Ru.fieldAddr; exact rfl) | (apply Ru.conv; exact rfl; exact rfl))) | (apply JO.do; exact rfl; exact rfl; exact rfl; (first | (apply Do.buildSliceN; exact rfl; exact rfl; exact rfl; exact rfl) | (apply Do.buildSlice; exact rfl; exact rfl; exact rfl; exact rfl)); rintro _ _ ⟨_, rfl, rfl⟩))
    repeat' (fail)
    (apply JO.do; exact rfl; exact rfl; exact rfl; (apply Do.append1 (ys := [u8 1, u8 (IntKind.u8.wrap e), u8 (IntKind.u8.wrap f), u8 (IntKind.u8.wrap s)]); exact rfl; exact rfl; exact Pick.there Pick.here; exact RdS.arr Pick.here 0 4 4 (Nat.le_refl _) (Nat.le_refl _); (intro q hq; simp only [List.mem_cons, List.not_mem_nil, or_false] at hq; rcases hq with rfl | rfl | rfl | rfl <;> rfl); (show (4 + 4) * 1 ≤ _; omega)); rintro u1 _ ⟨rfl, _⟩)
    have e1 : [u8 75, u8 69, u8 69, u8 80] ++ [u8 1, u8 (IntKind.u8.wrap e), u8 (IntKind.u8.wrap f), u8 (IntKind.u8.wrap s)] = ([75, 69, 69, 80, 1, UInt8.ofNat (e % 256).toNat, UInt8.ofNat (f % 256).toNat, UInt8.ofNat (s % 256).toNat] : List UInt8).map byte := by
      simp only [List.map_cons, List.map_nil, byte_wrap e hb'.1, byte_wrap f (by omega : 0 ≤ f), byte_wrap s (by omega : 0 ≤ s), u8]
      rfl
    rw [e1]
    repeat' (first | (apply JO.ru; exact rfl; exact rfl; exact rfl; (first | (apply Ru.move; exact rfl) | (apply Ru.loadN; exact rfl; (repeat (first | exact Pick.here | apply Pick.there)); exact rfl) | (apply Ru.fieldAddr; exact rfl) | (apply Ru.assign; exact rfl) | (apply Ru.conv; exact rfl; exact rfl))) | refine JC.seq ?_ | refine JC.region ?_ | refine JO.nil ?_ | refine JE.thenN ?_)
    (apply JO.do; exact rfl; exact rfl; exact rfl; (apply Do.call; exact rfl; exact head_lay32 u1 8 _ _ 4 hwr.1 (by omega) (by omega)); rintro u2 _ rfl)
    repeat' (first | (apply JO.ru; exact rfl; exact rfl; exact rfl; (first | (apply Ru.move; exact rfl) | (apply Ru.loadN; exact rfl; (repeat (first | exact Pick.here | apply Pick.there)); exact rfl) | (apply Ru.fieldAddr; exact rfl) | (apply Ru.assign; exact rfl))) | refine JC.seq ?_ | refine JC.region ?_ | refine JO.nil ?_ | refine JE.thenN ?_)
    (apply JO.do; exact rfl; exact rfl; exact rfl; (apply Do.call; exact rfl; exact head_lay64 u2 12 _ _ 8 h64 (by omega) (by omega)); rintro u3 _ rfl)
    repeat' (first | (apply JO.ru; exact rfl; exact rfl; exact rfl; (first | (apply Ru.move; exact rfl) | (apply Ru.loadN; exact rfl; (repeat (first | exact Pick.here | apply Pick.there)); exact rfl) | (apply Ru.fieldAddr; exact rfl) | (apply Ru.assign; exact rfl))) | refine JC.seq ?_ | refine JC.region ?_ | refine JO.nil ?_ | refine JE.thenN ?_)
    (apply JO.do; exact rfl; exact rfl; exact rfl; (apply Do.call; exact rfl; exact head_lay32 u3 20 _ _ 4 h32 (by omega) (by omega)); rintro u4 _ rfl)
    repeat' (first | (apply JO.ru; exact rfl; exact rfl; exact rfl; (first | (apply Ru.move; exact rfl) | (apply Ru.assign; exact rfl))) | refine JC.seq ?_ | refine JC.region ?_ | refine JO.nil ?_ | refine JE.thenN ?_)
    rw [← List.map_append, ← List.map_append, ← List.map_append]
    refine JO.ownR (xs := (encBody ⟨e, f, s, len, seq, sum⟩).map byte) Pick.here fun hrd _ _ => ?_
    have hc := crcSum_bd (encBody ⟨e, f, s, len, seq, sum⟩)
    have hle : (encBody ⟨e, f, s, len, seq, sum⟩).length = 24 := by simp [encBody, leBytes_length]
    (apply JO.do; exact rfl; exact rfl; exact rfl; (apply Do.call; exact rfl; exact crc_Sum u4 _ (by omega) hrd); rintro _ _ ⟨rfl, rfl⟩)
    (apply JO.do; exact rfl; exact rfl; exact rfl; (apply Do.call; exact rfl; exact head_lay32 u4 24 _ _ 4 hc.1 (by omega) (by omega)); rintro u5 _ rfl)
    repeat' (first | (apply JO.ru; exact rfl; exact rfl; exact rfl; ((apply Ru.assign; exact rfl))) | refine JO.nil ?_ | refine JE.thenN ?_ | refine JC.ret ?_ | (apply JE.done2; exact rfl; (first | (apply Res.tmp; exact rfl) | (apply Res.cell; exact rfl; (repeat (first | exact Pick.here | apply Pick.there)); exact rfl) | (apply Res.cellAN; exact rfl; (repeat (first | exact Pick.here | apply Pick.there)); exact rfl; exact rfl) | (apply Res.cellA; exact rfl; (repeat (first | exact Pick.here | apply Pick.there)); exact rfl; exact rfl)); (first | (apply Res.tmp; exact rfl) | (apply Res.cell; exact rfl; (repeat (first | exact Pick.here | apply Pick.there)); exact rfl) | (apply Res.cellAN; exact rfl; (repeat (first | exact Pick.here | apply Pick.there)); exact rfl; exact rfl) | (apply Res.cellA; exact rfl; (repeat (first | exact Pick.here | apply Pick.there)); exact rfl; exact rfl))))
    rw [← List.map_append]
    refine finW (l' := ownS u5 5 1 28 ((enc ⟨e, f, s, len, seq, sum⟩).map byte) :: F) ?_ (by repeat (first | exact Weak.refl | (apply Weak.cons; (first | exact Pick.here | exact Pick.there Pick.here | exact Pick.there (Pick.there Pick.here) | exact Pick.there (Pick.there (Pick.there Pick.here)) | exact Pick.there (Pick.there (Pick.there (Pick.there Pick.here))) | exact Pick.there (Pick.there (Pick.there (Pick.there (Pick.there Pick.here)))) | exact Pick.there (Pick.there (Pick.there (Pick.there (Pick.there (Pick.there Pick.here))))) | exact Pick.there (Pick.there (Pick.there (Pick.there (Pick.there (Pick.there (Pick.there Pick.here)))))))) | apply Weak.drop))
    exact .inl ⟨rfl, u5, rfl, rfl⟩
  · simp only [Bool.not_eq_true] at h
    repeat' (first | (first | (apply JO.ru; exact rfl; exact rfl; exact rfl; (first | (apply Ru.assign; exact rfl) | (apply Ru.not; exact rfl) | (apply Ru.loadAN; exact rfl; (repeat (first | exact Pick.here | apply Pick.there)); exact rfl; exact rfl))) | refine JC.seq ?_ | refine JC.region ?_ | refine JO.nil ?_ | refine JE.thenN ?_ | refine JE.thenR ?_ | refine JC.ret ?_ | refine JC.condT rfl ?_ | (apply JO.do; exact rfl; exact rfl; exact rfl; (first | (apply Do.boxN; exact rfl; exact rfl) | (apply Do.box; exact rfl)); rintro _ _ ⟨_, rfl, rfl⟩) | (apply JE.done2; exact rfl; (first | (apply Res.tmp; exact rfl) | (apply Res.cell; exact rfl; (repeat (first | exact Pick.here | apply Pick.there)); exact rfl) | (apply Res.cellAN; exact rfl; (repeat (first | exact Pick.here | apply Pick.there)); exact rfl; exact rfl) | (apply Res.cellA; exact rfl; (repeat (first | exact Pick.here | apply Pick.there)); exact rfl; exact rfl)); (first | (apply Res.tmp; exact rfl) | (apply Res.cell; exact rfl; (repeat (first | exact Pick.here | apply Pick.there)); exact rfl) | (apply Res.cellAN; exact rfl; (repeat (first | exact Pick.here | apply Pick.there)); exact rfl; exact rfl) | (apply Res.cellA; exact rfl; (repeat (first | exact Pick.here | apply Pick.there)); exact rfl; exact rfl)))) | ((first | (apply JO.do; exact rfl; exact rfl; exact rfl; (apply Do.call; exact rfl; exact hr _); rintro _ _ ⟨rfl, hq⟩; obtain rfl := hq.symm) | (apply JQ.call; exact rfl; exact rfl; exact rfl; exact hr _; (rintro _ _ ⟨rfl, rfl⟩; exact ⟨rfl, rfl⟩))); rw [h]))
    refine finD (finS ?_); exact .inr ⟨rfl, rfl, rfl⟩
end Go.Sep
