/- image: glued. -/
import Derived.Test.YtbpilaghemkdjaaDoorImg2
namespace Go.Sep
open Go Go.Proofs
attribute [local irreducible] JO JC JE JA JQ JB JI Mid Inv Weak ownS Ru Do Fn Sat Pick Take arr pt star ex Holds bodyPost Post Exit.then Exit.inBlock Res
variable {σ : Sig} {F : List HP}
set_option maxHeartbeats 2000000 in
theorem image_Glue (v : Value) (rows : List Value) (bss : List (List UInt8)) (many : Int) (hlen : bss.flatten.length ≤ 1000000000) (hk : bss.length ≤ 1000000000) (hne : ∀ bs ∈ bss, 1 ≤ bs.length) {l : List HP} (hr : RdS σ l v rows) (he : RowsAre σ l rows bss) :
    Fn Tryd.prog σ 54 #[v, int many] l (fun r l' => (0 ≤ many ∧ many ≤ bss.flatten.length ∧ ∃ u, r = .tuple #[u, int 0] ∧ l' = ownS u 5 1 many.toNat ((bss.flatten.take many.toNat).map byte) :: l) ∨ (¬ (0 ≤ many ∧ many ≤ bss.flatten.length) ∧ r = .tuple #[.slice none 0 0, int 1] ∧ l' = l)) := by
  refine Fn.of Tryd.func54 rfl Tryd.ntmps54 rfl ?_
  repeat' (first | (apply JO.ru; exact rfl; exact rfl; exact rfl; (first | (apply Ru.move; exact rfl) | (apply Ru.assign; exact rfl))) | refine JC.seq ?_ | refine JC.region ?_ | refine JO.nil ?_ | refine JE.thenN ?_)
  (apply JO.do; exact rfl; exact rfl; exact rfl; (apply Do.call; exact rfl; exact bytes_Join v rows bss hlen hk hne hr he); rintro u _ ⟨rfl, hnil⟩)
  refine JO.own (fun h _ _ => (hnil h).elim) ?_
  rintro b cap spare rfl hcap hxs hsp
  repeat' (first | (apply JO.ru; exact rfl; exact rfl; exact rfl; (first | (apply Ru.move; exact rfl) | (apply Ru.assign; exact rfl) | (apply Ru.lenS; exact rfl) | (apply Ru.pickT; exact rfl; exact rfl) | (apply Ru.pickF; exact rfl; exact rfl) | (apply Ru.sliceS; exact rfl; exact rfl; exact rfl; exact rfl; (first | exact fun _ => rfl | exact fun h => nomatch h); omega; omega; omega))) | refine JC.seq ?_ | refine JC.region ?_ | refine JO.nil ?_ | refine JE.thenN ?_ | refine JE.thenR ?_ | refine JC.ret ?_ | refine JC.skip ?_ | refine JC.condT rfl ?_ | refine JC.condF rfl ?_ | (apply JO.split; exact rfl; exact rfl; exact rfl; (first | (apply Ru.lss; exact rfl; exact rfl; exact rfl) | (apply Ru.gtr; exact rfl; exact rfl; exact rfl)); all_goals intro _) | refine JO.guardF rfl rfl rfl rfl rfl rfl rfl ?_ | refine JO.guardT rfl rfl rfl rfl ?_ | (apply JE.done2; exact rfl; (first | (apply Res.tmp; exact rfl) | (apply Res.cell; exact rfl; (repeat (first | exact Pick.here | apply Pick.there)); exact rfl) | (apply Res.cellAN; exact rfl; (repeat (first | exact Pick.here | apply Pick.there)); exact rfl; exact rfl) | (apply Res.cellA; exact rfl; (repeat (first | exact Pick.here | apply Pick.there)); exact rfl; exact rfl)); (first | (apply Res.tmp; exact rfl) | (apply Res.cell; exact rfl; (repeat (first | exact Pick.here | apply Pick.there)); exact rfl) | (apply Res.cellAN; exact rfl; (repeat (first | exact Pick.here | apply Pick.there)); exact rfl; exact rfl) | (apply Res.cellA; exact rfl; (repeat (first | exact Pick.here | apply Pick.there)); exact rfl; exact rfl))))
  · refine finD (finS ?_); exact .inr ⟨by omega, rfl, rfl⟩
  · refine finD (finS ?_); exact .inr ⟨by omega, rfl, rfl⟩
  · rename_i h1 h2
    have k1 : 0 + Int.toNat ((0 : Nat) : Int) * 1 = 0 := rfl
    have k2 : (many - ((0 : Nat) : Int)).toNat = many.toNat := by omega
    have k3 : ((cap : Int) - ((0 : Nat) : Int)).toNat = cap := by omega
    rw [k1, k2, k3]
    have k4 : bss.flatten.map byte ++ spare = (bss.flatten.take many.toNat).map byte ++ ((bss.flatten.drop many.toNat).map byte ++ spare) := by
      rw [← List.append_assoc, ← List.map_append, List.take_append_drop]
    rw [k4] at hsp ⊢
    have hl : ((bss.flatten.take many.toNat).map byte).length = many.toNat := by rw [List.length_map, List.length_take]; omega
    refine ⟨_, fun w s => Sat.ownS_arr (k := many.toNat) (cap := cap) (z := 1) (by omega) (by rw [hl]; omega) hsp s, ?_⟩
    exact .inl ⟨by omega, by omega, _, rfl, rfl⟩
end Go.Sep
