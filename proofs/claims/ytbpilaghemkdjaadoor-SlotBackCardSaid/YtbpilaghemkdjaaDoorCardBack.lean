/- SlotBack: what was laid and sealed is read as good, with its number, cached or synced; behind a Wipe, or with the image alone, it is Bad: for every input of which the statement speaks. -/
import Derived.Test.YtbpilaghemkdjaaDoorCard1
import Derived.Test.YtbpilaghemkdjaaDoorLaw6c
import Derived.Test.YtbpilaghemkdjaaDoorCards
import Derived.Test.YtbpilaghemkdjaaDoorTie
import Derived.SevenTiedAt
namespace Go.Proofs.YtbpilaghemkdjaaDoor
open Go Go.Sep Go.ChangeShapes Go.WideShapes Go.ChangeAt Go.WideMaps Go.WideElems Go.RowKit
theorem own0 : ownKnob Tryd.prog.godebug = none := by kernel_rfl
theorem lo0 : laidOutB Tryd.prog = true := by kernel_rfl
theorem door0 (os : Os) (args : Array Value) : laidMetH Tryd.prog [("keepsake/geo.rows", Rows.laid_keepsake_geo_rows)] ((World.doorLaid Tryd.prog 25 os).forCall (fun _ _ => 0) ⟨#[], args, []⟩).memory :=
  laidMetH_of_parts3 (fuel := 8) (laidMet_of_run' 8 (by kernel_rfl) (by kernel_rfl)) (by kernel_rfl) (by kernel_rfl)
set_option maxRecDepth 100000 in
theorem back_lifted (os : Os) (started : os.Started) (H : Type) (enc : TypeId × Value → H) :
    ReturnsInHanded {} Tryd.checked os 3 .any (fun w args => (Rows.slotBackSpec.pre enc Tryd.prog Tryd.f3 [] false w args ∧ laidMetH Tryd.prog [("keepsake/geo.rows", Rows.laid_keepsake_geo_rows)] w) ∧ sizedMet enc Tryd.prog Tryd.f3 (OpenSpec.ofChange Rows.slotBackSpec) false w args)
      (Rows.slotBackSpec.post enc Tryd.prog Tryd.f3 false true false false) := by
  refine returnsInHanded_of_change_and (C := Tryd.checked) (X := fun w _ => laidMetH Tryd.prog [("keepsake/geo.rows", Rows.laid_keepsake_geo_rows)] w) (fun _ _ _ hh h => h.of_heap hh) own0 started (by kernel_rfl) Tryd.func3
    (ChangeSpec.witness_shaped (enc := enc) (C := Tryd.checked) (os := os) (X := fun w _ => laidMetH Tryd.prog [("keepsake/geo.rows", Rows.laid_keepsake_geo_rows)] w) false (World.doorLaid Tryd.prog 25 os) #[.agg #[.int .i64 0, .int .i64 0, .int .i64 0], .slice none 0 0, .int .u8 0, .bool false, .int .u64 0, .bool false] 8 rfl (World.shaped_of_RefB (by kernel_rfl) (by kernel_rfl)) (by kernel_rfl) (by kernel_rfl) (by kernel_rfl) (door0 os _)) ?_
  intro W base args ds gs before hval0 hW _ _ hL _
  have hval : ∀ (j : Nat) t v, Tryd.f3.params[j]? = some t → args[j]? = some v → Value.okWide Tryd.prog W .any base t v := hval0
  have hW0 : DataW.Whole enc Tryd.prog Tryd.f3.params.toList Rows.slotBackSpec.vars false W args.toList ds gs before := hW
  obtain ⟨p, q, hA, hV, hpq, hrest⟩ := id hW0
  obtain ⟨rfl, rfl⟩ := trodVars_none hV
  have hlen := trodAll_len hA
  rw [Tryd.params3] at hA hval
  obtain ⟨v0, r0, d0, e0, p0, q0, a0, rfl, _, t0, k0⟩ := trodAll_cons hA
  obtain ⟨v1, r1, d1, e1, p1, q1, a1, rfl, _, t1, k1⟩ := trodAll_cons k0
  obtain ⟨v2, r2, d2, e2, p2, q2, a2, rfl, _, t2, k2⟩ := trodAll_cons k1
  obtain ⟨v3, r3, d3, e3, p3, q3, a3, rfl, _, t3, k3⟩ := trodAll_cons k2
  obtain ⟨v4, r4, d4, e4, p4, q4, a4, rfl, _, t4, k4⟩ := trodAll_cons k3
  obtain ⟨v5, r5, d5, e5, p5, q5, a5, rfl, _, t5, k5⟩ := trodAll_cons k4
  obtain ⟨a6, rfl, _⟩ := trodAll_nil k5
  obtain rfl : args = #[v0, v1, v2, v3, v4, v5] := by
    apply Array.ext'
    rw [a0, a1, a2, a3, a4, a5, a6]
  obtain ⟨e, f, s, rfl⟩ := arg_geo (hval 0 _ v0 rfl rfl) t0
  obtain ⟨bs, hbs⟩ := arg_bytes Tryd.underlying24 Tryd.underlying5 (by kernel_rfl) (hval 1 _ v1 rfl rfl) t1
  obtain ⟨z, rfl, hz⟩ := arg_int Tryd.underlying5 (hval 2 _ v2 rfl rfl) t2
  obtain ⟨b3, rfl⟩ := arg_bool Tryd.underlying4 (hval 3 _ v3 rfl rfl) t3
  obtain ⟨sq, rfl, hsq⟩ := arg_int Tryd.underlying25 (hval 4 _ v4 rfl rfl) t4
  obtain ⟨b5, rfl⟩ := arg_bool Tryd.underlying4 (hval 5 _ v5 rfl rfl) t5
  obtain ⟨zb, hzb⟩ := byte_of hz
  have hsq2 := bounds_u64 hsq
  have := inG_mem hL
  have hfn := law06_SlotBack (σ := sigOf W) (F := [memHP W]) e f s v1 bs zb b3 sq b5 ⟨by omega, by omega⟩ (RdS.ofC hbs) W (mem_start W)
  have hz2 : Value.int .u8 zb.toNat = Value.int .u8 z := hzb.symm
  rw [hz2] at hfn
  refine hfn.mono ?_
  rintro e W' ⟨v, l', rfl, ⟨rfl, rfl⟩, s'⟩
  exact ⟨_, rfl, post_true lo0 hW0 rfl ⟨rfl, rfl, rfl⟩ (show Tryd.f3.resultTypes = #[4] by kernel_rfl) Tryd.underlying4 (by
    rw [Tryd.params3]
    have hall : ([23, 24, 5, 4, 25, 4].all fun t => Tryd.prog.readableRec t && decide (t < Tryd.prog.types.size)) = true := by kernel_rfl
    intro t ht
    have hm : t ∈ [23, 24, 5, 4, 25, 4] := by
      simpa using ht
    simpa using List.all_eq_true.1 hall t hm) (mem_below s')⟩
theorem back_row : Rows.SlotBackSaid :=
  OpenClaim.holds_of_wide 3 Tryd.f3 rfl rfl rfl rfl rfl rfl rfl ⟨rfl, rfl, rfl, rfl, rfl⟩ rfl rfl rfl rfl rfl (by kernel_rfl) Tryd.func3 (by kernel_rfl)
    (of_decide_eq_true (by kernel_rfl)) (by unfold Func.isWrapper; first | (rw [if_pos (by decide +kernel)]; kernel_rfl) | (rw [if_neg (by decide +kernel)]; exact ⟨rfl, rfl⟩))
    (fun os started H enc _ => back_lifted os started H enc)
theorem slotBack_holds : Rows.SlotBackCardSaid :=
  Claim7.holds_tied_plain_at .later [] [.data] true (true, "286cfe8a6d390c54ff701b75c4d15572c59fbe76a01d06601093e04ee5e91cc0") false
    back_row (fun _ h => by cases h) (by kernel_rfl) (fun _ h => by cases h) slotBack_row_tie rfl ⟨rfl, rfl⟩ (by kernel_rfl) rfl
    (fun f fn hf hfn => by
      obtain rfl : f = 3 := Option.some.inj ((show Tryd.prog.funcNamed "keepsake/keepsakelaw06.SlotBack" = some 3 by kernel_rfl).symm.trans hf) |>.symm
      obtain rfl : fn = Tryd.f3 := (Option.some.inj (Tryd.func3.symm.trans hfn)).symm
      exact ⟨by kernel_rfl, fun j t ht => by
        rw [Tryd.params3] at ht
        have hm : t ∈ [23, 24, 5, 4, 25, 4] := by simpa using Array.mem_of_getElem? ht
        have hall : ([23, 24, 5, 4, 25, 4].all fun u => !Tryd.prog.wantsStandIn u) = true := by kernel_rfl
        exact (show Tryd.prog.wantsStandIn t = false by simpa using List.all_eq_true.1 hall t hm)⟩)
    (by kernel_rfl)
#print axioms slotBack_holds
end Go.Proofs.YtbpilaghemkdjaaDoor
