/- A statement's post-condition, where nothing that was there has turned; the table of the kinds, as the door lays it. -/
import Derived.Test.YtbpilaghemkdjaaDoorCard0
import Derived.Test.YtbpilaghemkdjaaDoorRows
import Derived.LaidMore
import Derived.Stop.Joined
namespace Go.Sep
open Go Go.Proofs Go.ChangeShapes Go.WideShapes Go.ChangeAt Go.RowKit Go.WideElems
section
variable {H : Type} {enc : TypeId × Value → H} {P : Program}
theorem trodAll_stays (hlo : laidOutB P = true) {W W' : World} {sp' : Nat → Bool} : ∀ {ts : List TypeId} {vs : List Value} {ds : List (DataW H)} {ps : List MemPlace},
    (∀ t ∈ ts, P.readableRec t = true ∧ t < P.types.size) → DataW.TrodAll enc P W 0 (fun _ => true) true ts vs ds ps → (∀ p ∈ ps, W.sameAt W' p) → (∀ p ∈ ps, sp' p.block = true) → DataW.TrodAll enc P W' 0 sp' true ts vs ds ps
  | [], [], [], ps, _, h, _, _ => h
  | t :: ts, v :: vs, d :: ds, ps, ht, ⟨p, q, h1, h2, e⟩, hs, hb => by
    subst e
    have h0 := ht t List.mem_cons_self
    exact ⟨p, q, Trod_stays hlo h0.1 h0.2 h1 (fun x hx => hs x (List.mem_append_left _ hx)) (fun x hx => hb x (List.mem_append_left _ hx)),
      trodAll_stays hlo (fun u hu => ht u (List.mem_cons_of_mem _ hu)) h2 (fun x hx => hs x (List.mem_append_right _ hx)) (fun x hx => hb x (List.mem_append_right _ hx)), rfl⟩
  | [], [], _ :: _, _, _, h, _, _ => h.elim
  | [], _ :: _, _, _, _, h, _, _ => h.elim
  | _ :: _, [], _, _, _, h, _, _ => h.elim
  | _ :: _, _ :: _, [], _, _, h, _, _ => h.elim
theorem trodAll_len {W : World} {b : Nat} {sp : Nat → Bool} {hd : Bool} : ∀ {ts : List TypeId} {vs : List Value} {ds : List (DataW H)} {ps : List MemPlace}, DataW.TrodAll enc P W b sp hd ts vs ds ps → ds.length = ts.length ∧ vs.length = ts.length
  | [], [], [], _, _ => ⟨rfl, rfl⟩
  | _ :: _, _ :: _, _ :: _, _, ⟨_, _, _, h2, _⟩ => by have := trodAll_len h2; exact ⟨congrArg (· + 1) this.1, congrArg (· + 1) this.2⟩
  | [], [], _ :: _, _, h => h.elim
  | [], _ :: _, _, _, h => h.elim
  | _ :: _, [], _, _, h => h.elim
  | _ :: _, _ :: _, [], _, h => h.elim
theorem post_true (hlo : laidOutB P = true) {f : Func} {s : ChangeSpec} {apart fresh handsOn : Bool} {W W' : World} {args : Array Value} {ds : List (DataW H)} {before : List MemPlace} {tb : TypeId}
    (hW : DataW.Whole enc P f.params.toList s.vars apart W args.toList ds [] before) (hvars : s.vars = []) (hfn : (s.fn H ds).results = [.lit (.bool true)] ∧ (s.fn H ds).args = ds ∧ (s.fn H ds).vars = []) (hres : f.resultTypes = #[tb]) (htb : P.underlying tb = some .bool)
    (ht : ∀ t ∈ f.params.toList, P.readableRec t = true ∧ t < P.types.size) (hb : Below W.heap.size W W') : s.post enc P f apart fresh handsOn false W args (.bool true) W' := by
  have hlt := hW.lt
  obtain ⟨p, q, hA, hV, hpq, _⟩ := id hW
  rw [hvars] at hV
  have hq : q = [] := hV
  subst hq
  rw [List.append_nil] at hpq
  subst hpq
  have hfn1 : (s.fn H (ds ++ [])).results = [.lit (.bool true)] := by rw [List.append_nil]; exact hfn.1
  have hfn2 : (s.fn H (ds ++ [])).args = ds := by rw [List.append_nil]; exact hfn.2.1
  have hfn3 : (s.fn H (ds ++ [])).vars = [] := by rw [List.append_nil]; exact hfn.2.2
  refine ⟨ds, [], before, [], before, [], hW, ?_, ?_, ?_, World.keptBut_mono (fun x hx => ⟨hx, .inr (.inl hx)⟩) (hb.frame (· ∈ before)), fun h => by cases h⟩
  · rw [hfn1, hres]
    exact trodAll_mk1 ⟨1, by simp [DataW.trod, Value.cells, htb]⟩
  · rw [hfn2]
    exact trodAll_stays hlo ht hA (fun x hx => hb.same (hlt x hx)) (fun x hx => by simpa using hlt x hx)
  · rw [hfn3, hvars]; rfl
end
section
variable {H : Type} {enc : TypeId × Value → H} {P : Program} {W : World} {base : Nat} {t : TypeId} {v : Value} {d : DataW H} {ps : List MemPlace}
theorem arg_one (ht : (∃ k, P.underlying t = some (.int k)) ∨ P.underlying t = some .bool ∨ ∃ e, P.underlying t = some (.slice e)) (hok : Value.okWide P W .any base t v) : v.cells = #[v] := by
  cases v with
  | agg cs =>
    exfalso
    rcases ht with ⟨k, ht⟩ | ht | ⟨e, ht⟩ <;> simp [Value.okWide, Cell.okWide, Cell.ok, ht] at hok
  | _ => rfl
theorem arg_int {k : IntKind} (ht : P.underlying t = some (.int k)) (hok : Value.okWide P W .any base t v) (h : DataW.Trod enc P W 0 (fun _ => true) true t v d ps) : ∃ n, v = .int k n ∧ (Lit.int k n).wf = true := by
  obtain ⟨n, h1, h2⟩ := Lay.of_Trod (l := .int k) ht h
  refine ⟨n, ?_, h2⟩
  rw [arg_one (by simp [ht]) hok] at h1
  simpa using h1
theorem arg_bool (ht : P.underlying t = some .bool) (hok : Value.okWide P W .any base t v) (h : DataW.Trod enc P W 0 (fun _ => true) true t v d ps) : ∃ b, v = .bool b := by
  obtain ⟨n, h1⟩ := Lay.of_Trod (l := .bool) ht h
  refine ⟨n, ?_⟩
  rw [arg_one (by simp [ht]) hok] at h1
  simpa using h1
theorem arg_slice {e : TypeId} {l : Lay} (ht : P.underlying t = some (.slice e)) (hc : P.cellsOf e = l.cells) (hl : l.is P (some e) 0 []) (hok : Value.okWide P W .any base t v) (h : DataW.Trod enc P W 0 (fun _ => true) true t v d ps) : (Lay.slice l).rd W [v] := by
  have h1 := Lay.of_Trod (l := .slice l) ⟨e, ht, hc, hl⟩ h
  rw [arg_one (by simp [ht]) hok] at h1
  exact h1
theorem arg_struct {fs : Array Field} {l : Lay} (ht : P.underlying t = some (.struct fs)) (hl : l.is P (some t) 0 []) (hok : Value.okWide P W .any base t v) (h : DataW.Trod enc P W 0 (fun _ => true) true t v d ps) : ∃ cs : List Value, v = .agg cs.toArray ∧ l.rd W cs := by
  have h1 := Lay.of_Trod hl h
  unfold Value.okWide at hok
  rw [ht] at hok
  obtain ⟨cs, rfl, _⟩ := hok
  exact ⟨cs.toList, rfl, h1⟩
theorem arg_bytes {e : TypeId} (ht : P.underlying t = some (.slice e)) (he : P.underlying e = some (.int .u8)) (hc : P.cellsOf e = 1) (hok : Value.okWide P W .any base t v) (h : DataW.Trod enc P W 0 (fun _ => true) true t v d ps) : ∃ bs, RdC W v bs :=
  rd_bytes (arg_slice (l := .int .u8) ht hc he hok h)
theorem rd_cons {h r : Lay} {cs : List Value} (x : (Lay.cons h r).rd W cs) : ∃ c1 c2, cs = c1 ++ c2 ∧ h.rd W c1 ∧ r.rd W c2 := let ⟨c1, c2, e, _, a, b⟩ := x; ⟨c1, c2, e, a, b⟩
end
abbrev layGeo : Lay := .cons (.int .i64) (.cons (.int .i64) (.cons (.int .i64) .nil))
theorem rd_geo {W : World} {cs : List Value} (h : layGeo.rd W cs) : ∃ e f s : Int, cs = [int e, int f, int s] := by
  obtain ⟨_, _, rfl, ⟨e, rfl, _⟩, h1⟩ := rd_cons h
  obtain ⟨_, _, rfl, ⟨f, rfl, _⟩, h2⟩ := rd_cons h1
  obtain ⟨_, _, rfl, ⟨s, rfl, _⟩, h3⟩ := rd_cons h2
  obtain rfl : _ = [] := h3
  exact ⟨e, f, s, rfl⟩
set_option maxRecDepth 100000 in
theorem geo_is : layGeo.is Tryd.prog (some 23) 0 [] :=
  Lay.isT Tryd.underlying23 rfl rfl (by kernel_rfl) (Lay.isI Tryd.underlying3) rfl (Lay.isF rfl (by kernel_rfl) (Lay.isI Tryd.underlying3) rfl (Lay.isF rfl (by kernel_rfl) (Lay.isI Tryd.underlying3) rfl Lay.isN)) (by kernel_rfl)
set_option maxRecDepth 100000 in
theorem arg_geo {H : Type} {enc : TypeId × Value → H} {W : World} {base : Nat} {v : Value} {d : DataW H} {ps : List MemPlace} (hok : Value.okWide Tryd.prog W .any base 23 v) (h : DataW.Trod enc Tryd.prog W 0 (fun _ => true) true 23 v d ps) : ∃ e f s : Int, v = geoV e f s := by
  have h0 := arg_struct (l := layGeo) Tryd.underlying23 geo_is hok h
  obtain ⟨cs, hv, h1⟩ := h0
  obtain ⟨e, f, s, hcs⟩ := rd_geo h1
  exact ⟨e, f, s, by rw [hv, hcs]⟩
/-- The table, as the door lays it, is there to be read. -/
def rowsT : List (List Int) := [[0, 0, 0, 0], [7, 3, 1, 0], [8, 3, 1, 0], [9, 4, 1, 1], [10, 4, 1, 2], [11, 4, 1, 3], [12, 5, 2, 0], [13, 5, 2, 0], [14, 6, 2, 0], [15, 6, 2, 0], [16, 7, 2, 0]]
theorem gRows : Tryd.prog.globalNamed "keepsake/geo.rows" = some 0 := by kernel_rfl
theorem inG_mem {W : World} (h : laidMetH Tryd.prog [("keepsake/geo.rows", YtbpilaghemkdjaaDoor.Rows.laid_keepsake_geo_rows)] W) : InG [memHP W] := by
  rw [MakeChecks.laidMetH_plain _ _ _ (by kernel_rfl)] at h
  obtain ⟨ps, ⟨g0, t0, cs0, f0, p0, q0, hg0, ht0, hv0, hd0, _, hps⟩, _, hcell⟩ := h
  obtain rfl := Option.some.inj (gRows.symm.trans hg0)
  have tR : (Tryd.prog.globals[0]?).map (·.type) = some 112 := by kernel_rfl
  obtain rfl := Option.some.inj (tR.symm.trans ht0)
  have hcs := trod_ints2 (nss := rowsT) Tryd.underlying112 Tryd.underlying106 Tryd.underlying3 (by kernel_rfl) (by kernel_rfl) (by kernel_rfl) hd0
  have hl : cs0.size = 44 := by rw [← Array.length_toList, hcs]; rfl
  obtain ⟨⟨c, t, hc⟩, _⟩ := hcell 0 0 (by rw [hps, hl]; exact List.mem_append_left _ (List.mem_append_left _ (List.mem_map.2 ⟨0, by simp, rfl⟩)))
  have hv := hv0
  unfold World.var? at hv
  rw [gRows, Option.bind_some, hc] at hv
  obtain rfl : c = cs0 := by simpa using hv
  exact ⟨t, [], mem_arr hc hcs⟩
end Go.Sep
