/- The statements' own small functions: two lists of bytes the same; a fresh disk. -/
import Derived.Test.YtbpilaghemkdjaaDoorSlot9
import Derived.Test.YtbpilaghemkdjaaDoorDisk7
namespace Go.Sep
open Go Go.Proofs
attribute [local irreducible] JO JC JE JA JQ JB JI Mid Inv Weak ownS Ru Do Fn Sat Pick Take arr pt star ex Holds bodyPost Post Exit.then Exit.inBlock Res
variable {σ : Sig} {F : List HP}
attribute [local irreducible] diskHP cacheHP planHP rowHP
theorem byte_inj {a b : UInt8} (h : (a.toNat : Int) = b.toNat) : a = b := UInt8.toNat_inj.1 (by omega)
set_option maxHeartbeats 1000000 in
theorem ref_Same (va vb : Value) (xs ys : List UInt8) (hx : xs.length ≤ 100000000) {l : List HP} (ha : RdS σ l va (xs.map byte)) (hb : RdS σ l vb (ys.map byte)) :
    Fn Tryd.prog σ 15 #[va, vb] l (fun v l' => v = .bool (decide (xs = ys)) ∧ l' = l) := by
  obtain ⟨pa, ca, rfl, hca, hra⟩ := ha
  obtain ⟨pb, cb, rfl, hcb, hrb⟩ := hb
  have hl : (xs.map byte).length = xs.length := by simp
  have hm : (ys.map byte).length = ys.length := by simp
  refine Fn.of Tryd.func15 rfl Tryd.ntmps15 rfl ?_
  repeat' (first | (apply JO.ru; exact rfl; exact rfl; exact rfl; (first | (apply Ru.move; exact rfl) | (apply Ru.assign; exact rfl) | (apply Ru.lenS; exact rfl))) | refine JC.seq ?_ | refine JC.region ?_ | refine JO.nil ?_ | refine JE.thenN ?_ | refine JE.thenR ?_ | refine JC.block ?_ | refine JC.ret ?_ | refine JC.skip ?_ | refine JC.condT rfl ?_ | refine JC.condF rfl ?_ | (apply JO.splitN; exact rfl; exact rfl; exact rfl; (apply Ru.neq; exact rfl; exact rfl; exact rfl); all_goals intro _) | (apply JE.done1; exact rfl; (first | (apply Res.tmp; exact rfl) | (apply Res.cell; exact rfl; (repeat (first | exact Pick.here | apply Pick.there)); exact rfl) | (apply Res.cellAN; exact rfl; (repeat (first | exact Pick.here | apply Pick.there)); exact rfl; exact rfl) | (apply Res.cellA; exact rfl; (repeat (first | exact Pick.here | apply Pick.there)); exact rfl; exact rfl))))
  · rename_i hne
    refine JC.loop (fun i : Nat => [(0, .slice pa (xs.map byte).length ca), (1, .slice pb (ys.map byte).length cb), (5, int i)]) (fun _ => l) (fun i => i ≤ xs.length ∧ xs.take i = ys.take i) (fun i => xs.length - i) 0 ⟨Nat.zero_le _, rfl⟩ ⟨rfl, rfl, rfl, trivial⟩ (fun _ h => h) ?_
    rintro i ⟨hi, hs⟩
    repeat' (first | (apply JO.ru; exact rfl; exact rfl; exact rfl; (first | (apply Ru.move; exact rfl) | (apply Ru.assign; exact rfl) | (apply Ru.lenS; exact rfl))) | refine JC.seq ?_ | refine JC.region ?_ | refine JO.nil ?_ | refine JE.thenN ?_ | refine JE.thenE ?_ | refine JE.blockE ?_ | refine JC.block ?_ | refine JC.ret ?_ | refine JC.skip ?_ | refine JC.exit ?_ | refine JC.condT rfl ?_ | refine JC.condF rfl ?_ | (apply JQ.ru; exact rfl; exact rfl; exact rfl; ((apply Ru.move; exact rfl))) | (apply JO.split; exact rfl; exact rfl; exact rfl; ((apply Ru.lss; exact rfl; exact rfl; exact rfl)); all_goals intro _) | refine JC.regionQ mixed (by decide +kernel) ?_ | (apply JE.done1; exact rfl; (first | (apply Res.tmp; exact rfl) | (apply Res.cell; exact rfl; (repeat (first | exact Pick.here | apply Pick.there)); exact rfl) | (apply Res.cellAN; exact rfl; (repeat (first | exact Pick.here | apply Pick.there)); exact rfl; exact rfl) | (apply Res.cellA; exact rfl; (repeat (first | exact Pick.here | apply Pick.there)); exact rfl; exact rfl))))
    · rename_i hlt
      have hlt' : i < xs.length := by omega
      have hlt2 : i < ys.length := by omega
      rcases hra with h0 | ⟨b1, o1, rfl, hc1⟩
      · rw [h0] at hl; simp at hl; omega
      rcases hrb with h0 | ⟨b2, o2, rfl, hc2⟩
      · rw [h0] at hm; simp at hm; omega
      have hsucc : ∀ (h : xs[i] = ys[i]), xs.take (i + 1) = ys.take (i + 1) := fun h => by
        rw [List.take_succ_eq_append_getElem hlt', List.take_succ_eq_append_getElem hlt2, hs, h]
      repeat' (first | (first | (apply JO.ru; exact rfl; exact rfl; exact rfl; (first | (apply Ru.move; exact rfl) | (apply Ru.assign; exact rfl) | (apply Ru.add; exact rfl; exact rfl; (first | exact wrapI (by omega) (by omega) | exact rfl)))) | refine JC.seq ?_ | refine JC.region ?_ | refine JO.nil ?_ | refine JE.thenN ?_ | refine JE.thenR ?_ | refine JE.blockN ?_ | refine JE.blockR ?_ | refine JC.ret ?_ | refine JC.skip ?_ | refine JC.condT rfl ?_ | refine JC.condF rfl ?_ | (apply JQ.ru; exact rfl; exact rfl; exact rfl; (first | (apply Ru.move; exact rfl) | (apply Ru.indexAddr; exact rfl; exact rfl; omega; omega))) | (apply JQ.splitN; exact rfl; exact rfl; exact rfl; (apply Ru.neq; exact rfl; exact rfl; exact rfl); all_goals intro _) | refine JQ.nil ?_ | (apply JE.done1; exact rfl; (first | (apply Res.tmp; exact rfl) | (apply Res.cell; exact rfl; (repeat (first | exact Pick.here | apply Pick.there)); exact rfl) | (apply Res.cellAN; exact rfl; (repeat (first | exact Pick.here | apply Pick.there)); exact rfl; exact rfl) | (apply Res.cellA; exact rfl; (repeat (first | exact Pick.here | apply Pick.there)); exact rfl; exact rfl)))) | (apply JQ.ru; exact rfl; exact rfl; exact rfl; (apply Ru.loadC; exact rfl; exact rd_cell hc1 hlt' (by omega))) | (apply JQ.ru; exact rfl; exact rfl; exact rfl; (apply Ru.loadC; exact rfl; exact rd_cell hc2 hlt2 (by omega))))
      · rename_i he
        refine JE.round (i + 1) ⟨by omega, hsucc (byte_inj he)⟩ (by omega) ⟨rfl, rfl, rfl, trivial⟩ (fun _ h => h)
      · rename_i he
        refine finS ?_
        refine ⟨?_, rfl⟩
        have : ¬ xs = ys := by rintro rfl; exact he rfl
        rw [decide_eq_false this]
    · rename_i hge
      refine finS ?_
      have : xs = ys := by
        have h1 : xs.take i = xs := List.take_of_length_le (by omega)
        have h2 : ys.take i = ys := List.take_of_length_le (by omega)
        rw [← h1, ← h2, hs]
      exact ⟨by rw [decide_eq_true this], rfl⟩
  · rename_i hne
    refine finS ?_
    have : ¬ xs = ys := by rintro rfl; exact hne rfl
    exact ⟨by rw [decide_eq_false this], rfl⟩
end Go.Sep
