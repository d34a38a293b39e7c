/- head: laid and read. -/
import Derived.Test.YtbpilaghemkdjaaDoorHead1
import Derived.Test.YtbpilaghemkdjaaDoorSep7
namespace Go.Sep
open Go Go.Proofs
attribute [local irreducible] JO JC JE JA JQ JB JI Mid Inv Weak ownS Ru Do Fn Sat Pick Take arr pt star ex Holds bodyPost Post Exit.then Exit.inBlock Res
variable {σ : Sig} {F : List HP}
structure HeadN where
  (e f s len seq sum : Int)
def HeadN.val (h : HeadN) : Value := .agg #[int h.e, int h.f, int h.s, int h.len, u64 h.seq, u32 h.sum]
def HeadN.zero : HeadN := ⟨0, 0, 0, 0, 0, 0⟩
def HeadN.right (h : HeadN) : Bool := rightG h.e h.f h.s && decide (h.len = totG h.e h.f h.s)

set_option maxHeartbeats 1000000 in
theorem head_right (h : HeadN) [hg : InG F] : Fn Tryd.prog σ 53 #[h.val] F (fun v l => v = .bool h.right ∧ l = F) := by
  unfold HeadN.right
  obtain ⟨e, f, s, len, seq, sum⟩ := h
  dsimp only
  refine Fn.of Tryd.func53 rfl Tryd.ntmps53 rfl ?_
  by_cases h : rightG e f s = true
  · repeat' (first | (first | (apply JO.ru; exact rfl; exact rfl; exact rfl; ((apply Ru.assign; exact rfl))) | refine JC.seq ?_ | refine JC.region ?_ | refine JO.nil ?_ | refine JE.thenN ?_ | refine JC.ret ?_ | (apply JQ.ru; exact rfl; exact rfl; exact rfl; (first | (apply Ru.move; exact rfl) | (apply Ru.loadN; exact rfl; (repeat (first | exact Pick.here | apply Pick.there)); exact rfl) | (apply Ru.fieldAddr; exact rfl) | (apply Ru.assign; exact rfl) | (apply Ru.pickT; exact rfl; exact rfl) | (apply Ru.loadAN; exact rfl; (repeat (first | exact Pick.here | apply Pick.there)); exact rfl; exact rfl))) | (apply JQ.split; exact rfl; exact rfl; exact rfl; ((apply Ru.eql; exact rfl; exact rfl; exact rfl)); all_goals intro _) | refine JQ.nil ?_ | (apply JO.do; exact rfl; exact rfl; exact rfl; (first | (apply Do.boxN; exact rfl; exact rfl) | (apply Do.box; exact rfl)); rintro _ _ ⟨_, rfl, rfl⟩) | refine JC.regionQ mixed (by decide +kernel) ?_ | (apply JE.done1; exact rfl; (first | (apply Res.tmp; exact rfl) | (apply Res.cell; exact rfl; (repeat (first | exact Pick.here | apply Pick.there)); exact rfl) | (apply Res.cellAN; exact rfl; (repeat (first | exact Pick.here | apply Pick.there)); exact rfl; exact rfl) | (apply Res.cellA; exact rfl; (repeat (first | exact Pick.here | apply Pick.there)); exact rfl; exact rfl)))) | ((first | (apply JO.do; exact rfl; exact rfl; exact rfl; (apply Do.call; exact rfl; exact geo_Right _ _ _); rintro _ _ ⟨rfl, hq⟩; obtain rfl := hq.symm) | (apply JQ.call; exact rfl; exact rfl; exact rfl; exact geo_Right _ _ _; (rintro _ _ ⟨rfl, rfl⟩; exact ⟨rfl, rfl⟩))); rw [h]) | (first | (apply JO.do; exact rfl; exact rfl; exact rfl; (apply Do.call; exact rfl; exact geo_Total _ _ _); rintro _ _ ⟨rfl, hq⟩; obtain rfl := hq.symm) | (apply JQ.call; exact rfl; exact rfl; exact rfl; exact geo_Total _ _ _; (rintro _ _ ⟨rfl, rfl⟩; exact ⟨rfl, rfl⟩))))
    all_goals (refine finD (finS ?_); exact ⟨by simp; omega, rfl⟩)
  · simp only [Bool.not_eq_true] at h
    repeat' (first | (first | (apply JO.ru; exact rfl; exact rfl; exact rfl; ((apply Ru.assign; exact rfl))) | refine JC.seq ?_ | refine JC.region ?_ | refine JO.nil ?_ | refine JE.thenN ?_ | refine JC.ret ?_ | (apply JQ.ru; exact rfl; exact rfl; exact rfl; (first | (apply Ru.move; exact rfl) | (apply Ru.fieldAddr; exact rfl) | (apply Ru.assign; exact rfl) | (apply Ru.pickF; exact rfl; exact rfl) | (apply Ru.loadAN; exact rfl; (repeat (first | exact Pick.here | apply Pick.there)); exact rfl; exact rfl))) | refine JQ.skip rfl rfl rfl ?_ | refine JQ.nil ?_ | (apply JO.do; exact rfl; exact rfl; exact rfl; (first | (apply Do.boxN; exact rfl; exact rfl) | (apply Do.box; exact rfl)); rintro _ _ ⟨_, rfl, rfl⟩) | refine JC.regionQ mixed (by decide +kernel) ?_ | (apply JE.done1; exact rfl; (first | (apply Res.tmp; exact rfl) | (apply Res.cell; exact rfl; (repeat (first | exact Pick.here | apply Pick.there)); exact rfl) | (apply Res.cellAN; exact rfl; (repeat (first | exact Pick.here | apply Pick.there)); exact rfl; exact rfl) | (apply Res.cellA; exact rfl; (repeat (first | exact Pick.here | apply Pick.there)); exact rfl; exact rfl)))) | ((first | (apply JO.do; exact rfl; exact rfl; exact rfl; (apply Do.call; exact rfl; exact geo_Right _ _ _); rintro _ _ ⟨rfl, hq⟩; obtain rfl := hq.symm) | (apply JQ.call; exact rfl; exact rfl; exact rfl; exact geo_Right _ _ _; (rintro _ _ ⟨rfl, rfl⟩; exact ⟨rfl, rfl⟩))); rw [h]))
    all_goals (refine finD (finS ?_); exact ⟨by simp [*], rfl⟩)

theorem wrap32_bd (n : Int) : 0 ≤ IntKind.u32.wrap n ∧ IntKind.u32.wrap n < 4294967296 := by
  have e : IntKind.u32.wrap n = n % 4294967296 := rfl
  rw [e]; omega
theorem bits_bd32 (op : BinOp) (a b : Int) : 0 ≤ Go.bits op .u32 a b ∧ Go.bits op .u32 a b < 4294967296 := by
  unfold Go.bits; exact wrap32_bd _
theorem crcSum_bd (bs : List UInt8) : 0 ≤ crcSum bs ∧ crcSum bs < 4294967296 := by
  unfold crcSum crcMore comI; exact bits_bd32 _ _ _

def encBody (h : HeadN) : List UInt8 := [75, 69, 69, 80, 1, UInt8.ofNat (h.e % 256).toNat, UInt8.ofNat (h.f % 256).toNat, UInt8.ofNat (h.s % 256).toNat] ++ leBytes 4 (IntKind.u32.wrap h.len) ++ leBytes 8 h.seq ++ leBytes 4 h.sum
def enc (h : HeadN) : List UInt8 := encBody h ++ leBytes 4 (crcSum (encBody h))
set_option maxHeartbeats 2000000 in
theorem head_Encode (h : HeadN) (h64 : 0 ≤ h.seq) (h32 : 0 ≤ h.sum) [hg : InG F] : Fn Tryd.prog σ 32 #[h.val] F
    (fun v l => (h.right = true ∧ ∃ u, v = .tuple #[u, int 0] ∧ l = ownS u 5 1 28 ((enc h).map byte) :: F) ∨ (h.right = false ∧ v = .tuple #[.slice none 0 0, int 9] ∧ l = F)) := by
  obtain ⟨e, f, s, len, seq, sum⟩ := h
  dsimp only at *
  have hr := fun G [InG G] => head_right (F := G) (σ := σ) ⟨e, f, s, len, seq, sum⟩
  have hwr := wrap32_bd len
  refine Fn.of Tryd.func32 rfl Tryd.ntmps32 rfl ?_
  by_cases h : HeadN.right ⟨e, f, s, len, seq, sum⟩ = true
  · have hb : rightG e f s = true := by unfold HeadN.right at h; simp at h; exact h.1
    have hb' : 0 ≤ e ∧ e ≤ 10 ∧ 0 ≤ f ∧ f ≤ 64 ∧ 0 ≤ s ∧ s ≤ 128 := by simpa [rightG] using hb
    repeat' (first | (first | (apply JO.ru; exact rfl; exact rfl; exact rfl; (first | (apply Ru.fieldAddr; exact rfl) | (apply Ru.assign; exact rfl) | (apply Ru.not; exact rfl) | (apply Ru.loadAN; exact rfl; (repeat (first | exact Pick.here | apply Pick.there)); exact rfl; exact rfl))) | refine JC.seq ?_ | refine JC.region ?_ | refine JO.nil ?_ | refine JE.thenN ?_ | refine JC.skip ?_ | refine JC.condF rfl ?_ | (apply JO.do; exact rfl; exact rfl; exact rfl; (first | (apply Do.allocN; exact rfl) | apply Do.alloc); rintro _ _ ⟨_, rfl, rfl⟩) | (apply JO.do; exact rfl; exact rfl; exact rfl; (first | (apply Do.boxN; exact rfl; exact rfl) | (apply Do.box; exact rfl)); rintro _ _ ⟨_, rfl, rfl⟩) | (apply JO.do; exact rfl; exact rfl; exact rfl; (first | (apply Do.buildSliceN; exact rfl; exact rfl; exact rfl; exact rfl) | (apply Do.buildSlice; exact rfl; exact rfl; exact rfl; exact rfl)); rintro _ _ ⟨_, rfl, rfl⟩) | (apply JO.do0; exact rfl; exact rfl; (first | (apply Do.storeAN; exact rfl; exact rfl; (repeat (first | exact Pick.here | apply Pick.there)); exact rfl; exact rfl; exact rfl; exact rfl) | (apply Do.storeA; exact rfl; exact rfl; (repeat (first | exact Pick.here | apply Pick.there)); exact rfl; exact rfl; exact rfl)); rintro _ _ ⟨rfl, rfl⟩)) | ((first | (apply JO.do; exact rfl; exact rfl; exact rfl; (apply Do.call; exact rfl; exact hr _); rintro _ _ ⟨rfl, hq⟩; obtain rfl := hq.symm) | (apply JQ.call; exact rfl; exact rfl; exact rfl; exact hr _; (rintro _ _ ⟨rfl, rfl⟩; exact ⟨rfl, rfl⟩))); rw [h]))
    (apply JO.do; exact rfl; exact rfl; exact rfl; (apply Do.convSS; exact rfl; exact Pick.here); rintro _ _ ⟨rfl, rfl⟩)
    refine JO.heap (fun _ s => Sat.ownS_arr (xs := [u8 75, u8 69, u8 69, u8 80]) (spare := []) (k := 4) (cap := 4) (z := 1) (Nat.le_refl _) rfl (Nat.le_refl _) s) ?_
    repeat' (first | (apply JO.ru; exact rfl; exact rfl; exact rfl; (first | (apply Ru.loadN; exact rfl; (repeat (first | exact Pick.here | apply Pick.there)); exact rfl) | (apply Ru.fieldAddr; exact rfl) | (apply Ru.conv; exact rfl; exact rfl))) | (apply JO.do; exact rfl; exact rfl; exact rfl; (first | (apply Do.buildSliceN; exact rfl; exact rfl; exact rfl; exact rfl) | (apply Do.buildSlice; exact rfl; exact rfl; exact rfl; exact rfl)); rintro _ _ ⟨_, rfl, rfl⟩))
    repeat' (fail)
    (apply JO.do; exact rfl; exact rfl; exact rfl; (apply Do.append1 (ys := [u8 1, u8 (IntKind.u8.wrap e), u8 (IntKind.u8.wrap f), u8 (IntKind.u8.wrap s)]); exact rfl; exact rfl; exact Pick.there Pick.here; exact RdS.arr Pick.here 0 4 4 (Nat.le_refl _) (Nat.le_refl _); (intro q hq; simp only [List.mem_cons, List.not_mem_nil, or_false] at hq; rcases hq with rfl | rfl | rfl | rfl <;> rfl); (show (4 + 4) * 1 ≤ _; omega)); rintro u1 _ ⟨rfl, _⟩)
    have e1 : [u8 75, u8 69, u8 69, u8 80] ++ [u8 1, u8 (IntKind.u8.wrap e), u8 (IntKind.u8.wrap f), u8 (IntKind.u8.wrap s)] = ([75, 69, 69, 80, 1, UInt8.ofNat (e % 256).toNat, UInt8.ofNat (f % 256).toNat, UInt8.ofNat (s % 256).toNat] : List UInt8).map byte := by
      simp only [List.map_cons, List.map_nil, byte_wrap e hb'.1, byte_wrap f (by omega : 0 ≤ f), byte_wrap s (by omega : 0 ≤ s), u8]
      rfl
    rw [e1]
    repeat' (first | (apply JO.ru; exact rfl; exact rfl; exact rfl; (first | (apply Ru.move; exact rfl) | (apply Ru.loadN; exact rfl; (repeat (first | exact Pick.here | apply Pick.there)); exact rfl) | (apply Ru.fieldAddr; exact rfl) | (apply Ru.assign; exact rfl) | (apply Ru.conv; exact rfl; exact rfl))) | refine JC.seq ?_ | refine JC.region ?_ | refine JO.nil ?_ | refine JE.thenN ?_)
    (apply JO.do; exact rfl; exact rfl; exact rfl; (apply Do.call; exact rfl; exact head_lay32 u1 8 _ _ 4 hwr.1 (by omega) (by omega)); rintro u2 _ rfl)
    repeat' (first | (apply JO.ru; exact rfl; exact rfl; exact rfl; (first | (apply Ru.move; exact rfl) | (apply Ru.loadN; exact rfl; (repeat (first | exact Pick.here | apply Pick.there)); exact rfl) | (apply Ru.fieldAddr; exact rfl) | (apply Ru.assign; exact rfl))) | refine JC.seq ?_ | refine JC.region ?_ | refine JO.nil ?_ | refine JE.thenN ?_)
    (apply JO.do; exact rfl; exact rfl; exact rfl; (apply Do.call; exact rfl; exact head_lay64 u2 12 _ _ 8 h64 (by omega) (by omega)); rintro u3 _ rfl)
    repeat' (first | (apply JO.ru; exact rfl; exact rfl; exact rfl; (first | (apply Ru.move; exact rfl) | (apply Ru.loadN; exact rfl; (repeat (first | exact Pick.here | apply Pick.there)); exact rfl) | (apply Ru.fieldAddr; exact rfl) | (apply Ru.assign; exact rfl))) | refine JC.seq ?_ | refine JC.region ?_ | refine JO.nil ?_ | refine JE.thenN ?_)
    (apply JO.do; exact rfl; exact rfl; exact rfl; (apply Do.call; exact rfl; exact head_lay32 u3 20 _ _ 4 h32 (by omega) (by omega)); rintro u4 _ rfl)
    repeat' (first | (apply JO.ru; exact rfl; exact rfl; exact rfl; (first | (apply Ru.move; exact rfl) | (apply Ru.assign; exact rfl))) | refine JC.seq ?_ | refine JC.region ?_ | refine JO.nil ?_ | refine JE.thenN ?_)
    rw [← List.map_append, ← List.map_append, ← List.map_append]
    refine JO.ownR (xs := (encBody ⟨e, f, s, len, seq, sum⟩).map byte) Pick.here fun hrd _ _ => ?_
    have hc := crcSum_bd (encBody ⟨e, f, s, len, seq, sum⟩)
    have hle : (encBody ⟨e, f, s, len, seq, sum⟩).length = 24 := by simp [encBody, leBytes_length]
    (apply JO.do; exact rfl; exact rfl; exact rfl; (apply Do.call; exact rfl; exact crc_Sum u4 _ (by omega) hrd); rintro _ _ ⟨rfl, rfl⟩)
    (apply JO.do; exact rfl; exact rfl; exact rfl; (apply Do.call; exact rfl; exact head_lay32 u4 24 _ _ 4 hc.1 (by omega) (by omega)); rintro u5 _ rfl)
    repeat' (first | (apply JO.ru; exact rfl; exact rfl; exact rfl; ((apply Ru.assign; exact rfl))) | refine JO.nil ?_ | refine JE.thenN ?_ | refine JC.ret ?_ | (apply JE.done2; exact rfl; (first | (apply Res.tmp; exact rfl) | (apply Res.cell; exact rfl; (repeat (first | exact Pick.here | apply Pick.there)); exact rfl) | (apply Res.cellAN; exact rfl; (repeat (first | exact Pick.here | apply Pick.there)); exact rfl; exact rfl) | (apply Res.cellA; exact rfl; (repeat (first | exact Pick.here | apply Pick.there)); exact rfl; exact rfl)); (first | (apply Res.tmp; exact rfl) | (apply Res.cell; exact rfl; (repeat (first | exact Pick.here | apply Pick.there)); exact rfl) | (apply Res.cellAN; exact rfl; (repeat (first | exact Pick.here | apply Pick.there)); exact rfl; exact rfl) | (apply Res.cellA; exact rfl; (repeat (first | exact Pick.here | apply Pick.there)); exact rfl; exact rfl))))
    rw [← List.map_append]
    refine finW (l' := ownS u5 5 1 28 ((enc ⟨e, f, s, len, seq, sum⟩).map byte) :: F) ?_ (by repeat (first | exact Weak.refl | (apply Weak.cons; (first | exact Pick.here | exact Pick.there Pick.here | exact Pick.there (Pick.there Pick.here) | exact Pick.there (Pick.there (Pick.there Pick.here)) | exact Pick.there (Pick.there (Pick.there (Pick.there Pick.here))) | exact Pick.there (Pick.there (Pick.there (Pick.there (Pick.there Pick.here)))) | exact Pick.there (Pick.there (Pick.there (Pick.there (Pick.there (Pick.there Pick.here))))) | exact Pick.there (Pick.there (Pick.there (Pick.there (Pick.there (Pick.there (Pick.there Pick.here)))))))) | apply Weak.drop))
    exact .inl ⟨rfl, u5, rfl, rfl⟩
  · simp only [Bool.not_eq_true] at h
    repeat' (first | (first | (apply JO.ru; exact rfl; exact rfl; exact rfl; (first | (apply Ru.assign; exact rfl) | (apply Ru.not; exact rfl) | (apply Ru.loadAN; exact rfl; (repeat (first | exact Pick.here | apply Pick.there)); exact rfl; exact rfl))) | refine JC.seq ?_ | refine JC.region ?_ | refine JO.nil ?_ | refine JE.thenN ?_ | refine JE.thenR ?_ | refine JC.ret ?_ | refine JC.condT rfl ?_ | (apply JO.do; exact rfl; exact rfl; exact rfl; (first | (apply Do.boxN; exact rfl; exact rfl) | (apply Do.box; exact rfl)); rintro _ _ ⟨_, rfl, rfl⟩) | (apply JE.done2; exact rfl; (first | (apply Res.tmp; exact rfl) | (apply Res.cell; exact rfl; (repeat (first | exact Pick.here | apply Pick.there)); exact rfl) | (apply Res.cellAN; exact rfl; (repeat (first | exact Pick.here | apply Pick.there)); exact rfl; exact rfl) | (apply Res.cellA; exact rfl; (repeat (first | exact Pick.here | apply Pick.there)); exact rfl; exact rfl)); (first | (apply Res.tmp; exact rfl) | (apply Res.cell; exact rfl; (repeat (first | exact Pick.here | apply Pick.there)); exact rfl) | (apply Res.cellAN; exact rfl; (repeat (first | exact Pick.here | apply Pick.there)); exact rfl; exact rfl) | (apply Res.cellA; exact rfl; (repeat (first | exact Pick.here | apply Pick.there)); exact rfl; exact rfl)))) | ((first | (apply JO.do; exact rfl; exact rfl; exact rfl; (apply Do.call; exact rfl; exact hr _); rintro _ _ ⟨rfl, hq⟩; obtain rfl := hq.symm) | (apply JQ.call; exact rfl; exact rfl; exact rfl; exact hr _; (rintro _ _ ⟨rfl, rfl⟩; exact ⟨rfl, rfl⟩))); rw [h]))
    refine finD (finS ?_); exact .inr ⟨rfl, rfl, rfl⟩
end Go.Sep
