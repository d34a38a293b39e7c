/- Part 6: The statements of layer 7: a fresh disk, made bytes; the calls with known answer; Shadows: what is opened, what is committed: no program in sight; The statements of layer 7: the chapter's example; What succeeds was not planned to fail: no program in sight; ShadowWrites: no program in sight; What arguments read as; a statement's last step, out of a contract; A statement's post-condition, where nothing that was there has turned; the table; Tears among the arguments; A slice of slices of bytes among the arguments; Slices of bytes among the arguments; What all cards of this seat lean on: the door's own heap meets the condition. -/
import Derived.Test.YtbpilaghemkdjaaGreatDoorPs5
import Derived.ProofKit
import Derived.Carry
import Derived.Deep.Slices
import Derived.OpenShut
import Derived.Test.YtbpilaghemkdjaaGreatDoorRows
import Derived.LaidMore
import Derived.Stop.Joined
import Derived.Test.YtbpilaghemkdjaaGreatDoorCards
import Derived.Test.YtbpilaghemkdjaaGreatDoorTie
import Derived.SevenTiedAt
set_option linter.all false
/- The statements of layer 7: a fresh disk, made bytes; the calls with known answers. -/
namespace Go.Sep
open Go Go.Proofs
attribute [local irreducible] JO JC JE JA JQ JB JI Mid Inv Weak ownS Ru Do Fn Sat Pick Take arr pt star ex Holds bodyPost Post Exit.then Exit.inBlock Res
variable {σ : Sig} {F : List HP}
attribute [local irreducible] shadHP diskHP cacheHP planHP rowHP FnX PostX
theorem law07_fresh (z : UInt8) (e f s : Int) (ht : totG e f s ≤ 500) :
    Fn Tryz.prog σ 39 #[.int .u8 z.toNat, geoV e f s] F (fun v l => ∃ d, v = .pointer (some ⟨d, 0, none⟩) ∧ l = diskHP d (freshN (2 * spanG (sizeOfU z) e f s + 1).toNat (sizeOfU z)) :: F) := by
  have hz := sizeOfU_bd z
  have hsp := span_few (z := sizeOfU z) ht
  have hzu := UInt8.toNat_lt z
  have e1 : IntKind.i64.wrap ((z.toNat : Int) % 100) = (z.toNat : Int) % 100 := wrapI (by omega) (by omega)
  have e2 : IntKind.i64.wrap (32 + (z.toNat : Int) % 100) = (sizeOfU z : Int) := by
    rw [wrapI (by omega) (by omega)]; unfold sizeOfU; omega
  refine Fn.of Tryz.func39 rfl Tryz.ntmps39 rfl ?_
  iterate 11 (first | (apply JO.ru; exact rfl; exact rfl; exact rfl; (first | (apply Ru.move; exact rfl) | (apply Ru.assign; exact rfl) | (apply Ru.remN; exact rfl; exact rfl; omega; omega) | (apply Ru.conv; exact rfl; exact rfl))) | refine JC.seq ?_ | refine JC.region ?_ | refine JO.nil ?_ | refine JE.thenN ?_ | (apply JO.do; exact rfl; exact rfl; exact rfl; (first | (apply Do.boxN; exact rfl; exact rfl) | (apply Do.box; exact rfl)); rintro _ _ ⟨_, rfl, rfl⟩))
  rw [e1]
  (apply JO.ru; exact rfl; exact rfl; exact rfl; (apply Ru.add; exact rfl; exact rfl; exact e2))
  repeat' (first | (first | (apply JO.ru; exact rfl; exact rfl; exact rfl; (first | (apply Ru.move; exact rfl) | (apply Ru.assign; exact rfl) | (apply Ru.add; exact rfl; exact rfl; (first | exact wrapI (by omega) (by omega) | exact rfl)) | (apply Ru.mul; exact rfl; exact rfl; (first | exact wrapI (by omega) (by omega) | exact rfl)) | (apply Ru.loadAN; exact rfl; (repeat (first | exact Pick.here | apply Pick.there)); exact rfl; exact rfl))) | refine JC.seq ?_ | refine JC.region ?_ | refine JO.nil ?_ | refine JE.thenN ?_) | (first | (apply JO.do; exact rfl; exact rfl; exact rfl; (apply Do.call; exact rfl; exact ref_Span _ _ _ _); rintro _ _ ⟨rfl, hq⟩; obtain rfl := hq.symm) | (apply JQ.call; exact rfl; exact rfl; exact rfl; exact ref_Span _ _ _ _; (rintro _ _ ⟨rfl, rfl⟩; exact ⟨rfl, rfl⟩))))
  have e3 : (2 * spanG (sizeOfU z) e f s + 1) = (((2 * spanG (sizeOfU z) e f s + 1).toNat : Nat) : Int) := by omega
  (apply JO.do; exact rfl; exact rfl; exact rfl; (apply Do.call; exact rfl; rw [e3]; exact disk_New _ (sizeOfU z) (by omega) (by omega) (by omega)); rintro _ _ ⟨d, rfl, rfl⟩)
  repeat' (first | (apply JO.ru; exact rfl; exact rfl; exact rfl; (first | (apply Ru.move; exact rfl) | (apply Ru.assign; exact rfl) | (apply Ru.neq; exact rfl; exact rfl; (first | exact ndecF (by omega) | exact ndecT (by omega))) | (apply Ru.extractN; exact rfl; exact rfl))) | refine JC.seq ?_ | refine JC.region ?_ | refine JO.nil ?_ | refine JE.thenN ?_ | refine JC.ret ?_ | refine JC.skip ?_ | refine JC.condF rfl ?_ | (apply JE.done1; exact rfl; (first | (apply Res.tmp; exact rfl) | (apply Res.cell; exact rfl; (repeat (first | exact Pick.here | apply Pick.there)); exact rfl) | (apply Res.cellAN; exact rfl; (repeat (first | exact Pick.here | apply Pick.there)); exact rfl; exact rfl) | (apply Res.cellA; exact rfl; (repeat (first | exact Pick.here | apply Pick.there)); exact rfl; exact rfl))))
  exact ⟨_, Sat.weak (by repeat (first | exact Weak.refl | (apply Weak.cons; (first | exact Pick.here | exact Pick.there Pick.here | exact Pick.there (Pick.there Pick.here) | exact Pick.there (Pick.there (Pick.there Pick.here)) | exact Pick.there (Pick.there (Pick.there (Pick.there Pick.here))) | exact Pick.there (Pick.there (Pick.there (Pick.there (Pick.there Pick.here)))) | exact Pick.there (Pick.there (Pick.there (Pick.there (Pick.there (Pick.there Pick.here))))) | exact Pick.there (Pick.there (Pick.there (Pick.there (Pick.there (Pick.there (Pick.there Pick.here)))))))) | apply Weak.drop)), d, rfl, rfl⟩
theorem law07_made (v : Value) (bs : List UInt8) (m : Nat) (hm : m ≤ 100000) (hbl : bs.length ≤ 1000000) {l : List HP} (hb : RdS σ l v (bs.map byte)) :
    Fn Tryz.prog σ 45 #[v, int m] l (fun u l' => l' = bytesHP u (fit bs m) :: l) := by
  obtain ⟨pv, cv, rfl, hcv, hrv⟩ := id hb
  have hl : (bs.map byte).length = bs.length := by simp
  rw [hl] at hb ⊢
  refine Fn.of Tryz.func45 rfl Tryz.ntmps45 rfl ?_
  repeat' (first | (apply JO.ru; exact rfl; exact rfl; exact rfl; (first | (apply Ru.move; exact rfl) | (apply Ru.assign; exact rfl))) | refine JC.seq ?_ | refine JC.region ?_ | refine JO.nil ?_ | refine JE.thenN ?_)
  (apply JO.do; exact rfl; exact rfl; exact rfl; (apply Do.makeSlice (k := m) (c := m); exact rfl; exact rfl; exact Nat.le_refl _; (show m * 1 ≤ _; omega); omega); rintro _ _ ⟨x, rfl, rfl⟩)
  repeat' (first | (apply JO.ru; exact rfl; exact rfl; exact rfl; (first | (apply Ru.move; exact rfl) | (apply Ru.assign; exact rfl))) | refine JC.seq ?_ | refine JC.region ?_ | refine JO.nil ?_ | refine JE.thenN ?_)
  (apply JO.do; exact rfl; exact rfl; exact rfl; (apply Do.copy (ys := bs.map byte); exact rfl; exact rfl; exact Pick.here; exact hb.cons; (rw [List.length_replicate]; omega); exact byteOne _); rintro _ _ ⟨rfl, rfl⟩)
  have e1 : splice (List.replicate m (Value.int .u8 0)) 0 ((bs.map byte).take (min bs.length m)) = (fit bs m).map byte := by
    have := splice_pad (bs.take m) m (by rw [List.length_take]; omega)
    unfold fit
    rw [← this, List.map_take]
    congr 1
    rcases Nat.le_total bs.length m with q | q
    · rw [Nat.min_eq_left q, List.take_of_length_le (by rw [hl]; exact Nat.le_refl _), List.take_of_length_le (by rw [hl]; exact q)]
    · rw [Nat.min_eq_right q]
  rw [e1]
  repeat' (first | (apply JO.ru; exact rfl; exact rfl; exact rfl; (first | (apply Ru.move; exact rfl) | (apply Ru.assign; exact rfl))) | refine JC.seq ?_ | refine JC.region ?_ | refine JO.nil ?_ | refine JE.thenN ?_ | refine JC.ret ?_ | (apply JE.done1; exact rfl; (first | (apply Res.tmp; exact rfl) | (apply Res.cell; exact rfl; (repeat (first | exact Pick.here | apply Pick.there)); exact rfl) | (apply Res.cellAN; exact rfl; (repeat (first | exact Pick.here | apply Pick.there)); exact rfl; exact rfl) | (apply Res.cellA; exact rfl; (repeat (first | exact Pick.here | apply Pick.there)); exact rfl; exact rfl))))
  refine ⟨bytesHP _ (fit bs m) :: l, fun w s => ?_, rfl⟩
  have hfl := fit_length bs m
  have := Sat.ownS_arr (E := 5) (z := 1) (k := (fit bs m).length) (cap := (fit bs m).length) (xs := (fit bs m).map byte) (spare := []) (Nat.le_refl _) (by simp) (by simp) (by rw [List.append_nil]; exact s)
  rw [hfl] at this
  unfold bytesHP
  rw [hfl]
  exact this
theorem shadow_FormatE {d : Nat} {D E : DiskN} {e f s er : Int} (h : formatR D e f s = (er, E)) (ht : rightG e f s = true → totG e f s ≤ 8192) (hD : D.WF) (ho : D.ops ≤ 1000000000) (hw : D.writes ≤ 10000) {l : List HP} [hg : InG l] :
    Fn Tryz.prog σ 40 #[.pointer (some ⟨d, 0, none⟩), geoV e f s] (diskHP d D :: l) (fun v l' => v = int er ∧ l' = diskHP d E :: l) := by
  have := shadow_Format (σ := σ) d D e f s ht hD ho hw (l := l)
  rw [h] at this; exact this
theorem shadow_OpenE {d : Nat} {D E : DiskN} {e f s : Int} {S : ShadN} (h : openR D e f s = (0, E, S)) (hD : D.WF) (ho : D.ops ≤ 1000000000) (hw : D.writes ≤ 1000000) {l : List HP} [hg : InG l] :
    Fn Tryz.prog σ 41 #[.pointer (some ⟨d, 0, none⟩), geoV e f s] (diskHP d D :: l) (fun v l' => ∃ sb, v = .tuple #[.pointer (some ⟨sb, 0, none⟩), int 0] ∧ l' = shadHP sb d e f s S :: diskHP d E :: l) := by
  refine (shadow_Open (σ := σ) d D e f s hD ho hw (l := l)).mono ?_
  rw [h]
  rintro v l' (⟨_, sb, h1, h2⟩ | ⟨h1, _⟩)
  · exact ⟨sb, h1, h2⟩
  · exact absurd rfl h1
theorem shadow_OpenN {d : Nat} {D E : DiskN} {e f s er : Int} {S : ShadN} (h : openR D e f s = (er, E, S)) (h0 : er ≠ 0) (hD : D.WF) (ho : D.ops ≤ 1000000000) (hw : D.writes ≤ 1000000) {l : List HP} [hg : InG l] :
    Fn Tryz.prog σ 41 #[.pointer (some ⟨d, 0, none⟩), geoV e f s] (diskHP d D :: l) (fun v l' => v = .tuple #[.pointer none, int er] ∧ l' = diskHP d E :: l) := by
  refine (shadow_Open (σ := σ) d D e f s hD ho hw (l := l)).mono ?_
  rw [h]
  rintro v l' (⟨h1, _⟩ | ⟨_, h1, h2⟩)
  · exact absurd h1 h0
  · exact ⟨h1, h2⟩
theorem shadow_CommitE {sb d : Nat} {D E : DiskN} {e f s er : Int} {S S' : ShadN} {v : Value} {bs : List UInt8} (h : commitR D e f s S bs = (er, E, S')) (hw01 : S.which = 0 ∨ S.which = 1) (hq : 0 ≤ S.seq ∧ S.seq ≤ 18446744073709551615) (hbl : bs.length ≤ 100000) (hnl : S.now.length ≤ 100000) (hD : D.WF) (hops : D.ops ≤ 1000000000) (hwr : D.writes ≤ 100000) {l : List HP} [hg : InG l] (hb : RdS σ l v (bs.map byte)) :
    Fn Tryz.prog σ 46 #[.pointer (some ⟨sb, 0, none⟩), v] (shadHP sb d e f s S :: diskHP d D :: l) (fun r l' => r = int er ∧ l' = shadHP sb d e f s S' :: diskHP d E :: l) := by
  have := shadow_Commit (σ := σ) sb d D e f s S v bs hw01 hq hbl hnl hD hops hwr hb
  rw [h] at this; exact this
theorem shadow_SeqP {sb d : Nat} {e f s q w : Int} {now : List UInt8} {st : Bool} {l r : List HP} (hp : Pick (shadHP sb d e f s ⟨now, q, w, st⟩) l r) : Fn Tryz.prog σ 43 #[.pointer (some ⟨sb, 0, none⟩)] l (fun v l' => v = u64 q ∧ l' = l) := Fn.atP hp (shadow_Seq sb d e f s _)
theorem shadow_WhichP {sb d : Nat} {e f s q w : Int} {now : List UInt8} {st : Bool} {l r : List HP} (hp : Pick (shadHP sb d e f s ⟨now, q, w, st⟩) l r) : Fn Tryz.prog σ 44 #[.pointer (some ⟨sb, 0, none⟩)] l (fun v l' => v = int w ∧ l' = l) := Fn.atP hp (shadow_Which sb d e f s _)
theorem shadow_StaleP {sb d : Nat} {e f s q w : Int} {now : List UInt8} {st : Bool} {l r : List HP} (hp : Pick (shadHP sb d e f s ⟨now, q, w, st⟩) l r) : Fn Tryz.prog σ 49 #[.pointer (some ⟨sb, 0, none⟩)] l (fun v l' => v = .bool st ∧ l' = l) := Fn.atP hp (shadow_Stale sb d e f s _)
theorem shadow_ImageP {sb d : Nat} {e f s q w : Int} {now : List UInt8} {st : Bool} (hn : now.length ≤ 100000) {l r : List HP} (hp : Pick (shadHP sb d e f s ⟨now, q, w, st⟩) l r) : Fn Tryz.prog σ 42 #[.pointer (some ⟨sb, 0, none⟩)] l (fun v l' => l' = bytesHP v now :: l) := Fn.atI (R := fun v => bytesHP v now) hp (shadow_Image sb d e f s _ hn)
end Go.Sep
/- Shadows: what is opened, what is committed: no program in sight. -/
namespace Go.Sep
open Go Go.Proofs
/-- An open shadow, and its disk. -/
structure ShSt (D : DiskN) (z k many : Nat) (e f s : Int) (S : ShadN) : Prop where
  wf : D.WF
  size : D.size = z
  count : D.count = k
  cach : D.cached = []
  has : HasS D many e f s S.which S.seq S.now
  len : (S.now.length : Int) = totG e f s
  q : 0 ≤ S.seq
section
variable {D : DiskN} {z k many : Nat} {e f s : Int} {S : ShadN}
theorem open_has (hB : Both z k e f s many) (hwf : D.WF) (hz : D.size = z) (hk : D.count = k) {w q : Int} {img : List UInt8} (h : HasS D many e f s w q img) (hl : (img.length : Int) = totG e f s) (hq : 0 ≤ q) :
    (∃ E, openR D e f s = (3, E, .zero) ∧ View D E ∧ Hit D E ∧ E.ops ≤ D.ops + (2 * many + 3)) ∨
    (∃ E, openR D e f s = (0, E, ⟨img, q, w, false⟩) ∧ View D E ∧ ShSt E z k many e f s ⟨img, q, w, false⟩ ∧ E.ops ≤ D.ops + (2 * many + 3)) := by
  rcases open_any hB hwf hz hk with h1 | ⟨E, h1, v, hc, ho⟩
  · exact .inl h1
  · right
    refine ⟨E, by rw [h1, h.openP], v, ⟨v.wf, v.size.trans hz, v.count.trans hk, hc, h.congr hB hk v.cur, hl, hq⟩, ho⟩
theorem commit_same {bs : List UInt8} (h0 : S.stale = false) (h : bs = S.now) : commitR D e f s S bs = (0, D, S) := by
  unfold commitR
  rw [if_neg (by rw [h0]; simp), if_neg (by rw [h]; simp), if_pos h]
theorem commit_stale {bs : List UInt8} (h0 : S.stale = true) : commitR D e f s S bs = (11, D, S) := if_pos h0
theorem commit_lay {bs : List UInt8} (h0 : S.stale = false) (hl : (bs.length : Int) = S.now.length) (h : bs ≠ S.now) (hq : S.seq + 1 < 18446744073709551616) :
    commitR D e f s S bs = if (layR D (1 - S.which) e f s (S.seq + 1) bs).1 ≠ 0 then ((layR D (1 - S.which) e f s (S.seq + 1) bs).1, (layR D (1 - S.which) e f s (S.seq + 1) bs).2, { S with stale := true })
      else (0, (layR D (1 - S.which) e f s (S.seq + 1) bs).2, ⟨bs, S.seq + 1, 1 - S.which, false⟩) := by
  unfold commitR
  rw [if_neg (by rw [h0]; simp), if_neg (by rw [hl]; simp), if_neg h, if_neg (by omega)]
/-- What a commit of an unlike image comes to. -/
theorem commit_any (hB : Both z k e f s many) (h : ShSt D z k many e f s S) (h0 : S.stale = false) {bs : List UInt8} (hl : (bs.length : Int) = totG e f s) (hne : bs ≠ S.now) (hq : S.seq + 1 < 18446744073709551616) :
    (∃ E, commitR D e f s S bs = (0, E, ⟨bs, S.seq + 1, 1 - S.which, false⟩) ∧ ShSt E z k many e f s ⟨bs, S.seq + 1, 1 - S.which, false⟩ ∧ E.planned = D.planned ∧ E.ops = D.ops + (many + 3) ∧ E.writes = D.writes + (many + 1)) ∨
    (∃ E, commitR D e f s S bs = (3, E, { S with stale := true }) ∧ Kept (offImg (slotOf (1 - S.which) many) many) D E ∧ Hit D E ∧ E.ops ≤ D.ops + (many + 3) ∧ E.writes ≤ D.writes + (many + 1)) ∨
    (∃ E, commitR D e f s S bs = (3, E, { S with stale := true }) ∧ Kept (offSlot (slotOf (1 - S.which) many) many) D E ∧ Hit D E ∧ HasS E many e f s (1 - S.which) (S.seq + 1) bs ∧
      E.cur (slotOf (1 - S.which) many) = padB (enc (sealHead bs e f s (S.seq + 1))) z ∧ ImgIs E (slotOf (1 - S.which) many) many bs ∧ E.sector (slotOf (1 - S.which) many) = D.sector (slotOf (1 - S.which) many) ∧ (∀ j, j < many → lookI E.cached ((slotOf (1 - S.which) many + 1 + j : Nat) : Int) = none) ∧
      E.ops = D.ops + (many + 3) ∧ E.writes = D.writes + (many + 1)) := by
  have hw2 : 1 - S.which = 0 ∨ 1 - S.which = 1 := by rcases h.has.w01 with q | q <;> rw [q] <;> simp
  have hh := hB.here hw2
  have hq0 := h.q
  have hcl := commit_lay (D := D) (e := e) (f := f) (s := s) h0 (hl.trans h.len.symm) hne hq
  rcases lay_any hh h.wf h.size h.count h.cach hl (S.seq + 1) with ⟨E, hE, K, hc, hcur, hi, ho, hwr⟩ | ⟨E, hE, K, hh2, ho, hwr⟩ | ⟨E, hE, K, hh2, hcur, hi, hsec, hlk, ho, hwr⟩
  · left
    refine ⟨E, by rw [hcl, hE, if_neg (by simp)], ⟨K.wf, K.size.trans h.size, K.count.trans h.count, hc, h.has.laid hB h.size h.count h.cach ⟨hq0, hq⟩ hl K hcur hi, hl, by show 0 ≤ S.seq + 1; omega⟩, K.plan, ho, hwr⟩
  · right; left
    exact ⟨E, by rw [hcl, hE, if_pos (by simp)], K, hh2, ho, hwr⟩
  · right; right
    exact ⟨E, by rw [hcl, hE, if_pos (by simp)], K, hh2, h.has.laid hB h.size h.count h.cach ⟨hq0, hq⟩ hl K hcur hi, hcur, hi, hsec, hlk, ho, hwr⟩
/-- A commit that failed ahead of its head leaves the slot that counts as it is, and the other one's head. -/
theorem HasS.kept {E : DiskN} {w q : Int} {img : List UInt8} (hB : Both z k e f s many) (hk : D.count = k) (hc : D.cached = []) (h : HasS D many e f s w q img) (hh : decE (D.cur (slotOf (1 - w) many)) ≠ 0 ∨ ((decH (D.cur (slotOf (1 - w) many))).e = e ∧ (decH (D.cur (slotOf (1 - w) many))).f = f ∧ (decH (D.cur (slotOf (1 - w) many))).s = s) ∧ (decH (D.cur (slotOf (1 - w) many))).seq < q)
    (K : Kept (offImg (slotOf (1 - w) many) many) D E) : HasS E many e f s w q img ∧ E.cur (slotOf (1 - w) many) = D.cur (slotOf (1 - w) many) := by
  have l1 := fun {j : Nat} (hj : j ≤ many) => hB.h1.lt (j := j) hj
  have hkeep : ∀ j, j < D.count → offImg (slotOf (1 - w) many) many j → E.cur j = D.cur j := fun j hj ho => by
    rw [K.cur ho hj]; unfold DiskN.cur; rw [hc]; rfl
  have hs : slotP E (slotOf w many) many e f s = slotP D (slotOf w many) many e f s := slotP_congr fun j hj => by
    have := l1 hj
    refine hkeep _ (by unfold slotOf; split <;> omega) fun hin => ?_
    rcases h.w01 with rfl | rfl
    · have e2 : slotOf (1 - 0) many = 1 + many := rfl
      have e3 : slotOf 0 many = 0 := rfl
      rw [e2, e3] at hin; omega
    · have e2 : slotOf (1 - 1) many = 0 := rfl
      have e3 : slotOf 1 many = 1 + many := rfl
      rw [e2, e3] at hin; omega
  have ho : E.cur (slotOf (1 - w) many) = D.cur (slotOf (1 - w) many) := by
    have := l1 (Nat.zero_le many)
    exact hkeep _ (by unfold slotOf; split <;> omega) (fun hin => by omega)
  refine ⟨⟨h.w01, by rw [hs]; exact h.good, ?_⟩, ho⟩
  have := slotP_seq (D := E) (fst := slotOf (1 - w) many) (many := many) (e := e) (f := f) (s := s) (q - 1) (by rw [ho]; rcases hh with hh | ⟨hh, h2⟩; exact .inl hh; exact .inr ⟨hh, by omega⟩)
  rcases this with t | ⟨t, t2⟩
  · exact .inl t
  · exact .inr ⟨t, by omega⟩
end
end Go.Sep
/- The statements of layer 7: the chapter's example. -/
namespace Go.Sep
open Go Go.Proofs
attribute [local irreducible] JO JC JE JA JQ JB JI Mid Inv Weak ownS Ru Do Fn Sat Pick Take arr pt star ex Holds bodyPost Post Exit.then Exit.inBlock Res
variable {σ : Sig} {F : List HP}
attribute [local irreducible] shadHP diskHP cacheHP planHP rowHP FnX PostX
theorem freshN_facts {k z : Nat} (hk : k ≤ 4096) (hz : 1 ≤ z) (hz2 : z ≤ 4096) : (freshN k z).WF ∧ (freshN k z).size = z ∧ (freshN k z).count = k ∧ (freshN k z).planned = [] ∧ (freshN k z).cached = [] ∧ (freshN k z).ops = 0 ∧ (freshN k z).writes = 0 := by
  have h := freshN_ok (k := k) (z := z) hk hz hz2
  exact ⟨h.wf, h.size, h.count, h.plan, rfl, rfl, rfl⟩
/-- A shadow's disk on which nothing fails: formatted, opened. -/
theorem start_ok {D : DiskN} {z k many : Nat} {e f s : Int} (hB : Both z k e f s many) (hwf : D.WF) (hz : D.size = z) (hk : D.count = k) (hp : D.planned = []) (ht : totG e f s ≤ 8192) :
    ∃ D1 D2, formatR D e f s = (0, D1) ∧ openR D1 e f s = (0, D2, ⟨factB e f s, 1, 0, false⟩) ∧ D1.WF ∧ D1.planned = [] ∧ ShSt D2 z k many e f s ⟨factB e f s, 1, 0, false⟩ ∧ D2.planned = [] ∧
      decE (D2.cur (1 + many)) ≠ 0 ∧ D1.ops = D.ops + (many + 6) ∧ D1.writes = D.writes + (many + 3) ∧ D2.writes = D1.writes ∧ D1.ops ≤ D2.ops ∧ D2.ops ≤ D1.ops + (2 * many + 3) := by
  have hfl := factB_length hB.h0.hright
  have hlt := hB.h1.lt (j := 0) (Nat.zero_le _)
  rcases format_any hB hwf hz hk ht with ⟨D1, h1, F1⟩ | ⟨_, _, _, hh⟩
  · have p1 := F1.plan.trans hp
    rcases open_has hB F1.wf (F1.size.trans hz) (F1.count.trans hk) (F1.has hB) hfl (by omega) with ⟨_, _, _, hh, _⟩ | ⟨D2, h2, v, st, o2⟩
    · exact absurd hh (Hit.none p1)
    · refine ⟨D1, D2, h1, h2, F1.wf, p1, st, v.plan.trans p1, ?_, F1.ops, F1.writes, v.writes, v.ops, o2⟩
      have hs := F1.s1
      rw [v.cur (1 + many) (by rw [F1.count, hk]; omega), hs, dec_zero (by have := hB.h0.hsize; omega)]
      decide
  · exact absurd hh (Hit.none hp)
theorem both6 : Both 32 6 0 0 1 2 := Both.of (z := 32) (k := 6) (e := 0) (f := 0) (s := 1) (by decide) (by decide) (by decide)
def awB : List UInt8 := (factB 0 0 1).set 3 1
set_option maxHeartbeats 4000000 in
theorem law07_awake [hg : InG F] : Fn Tryz.prog σ 37 #[] F (fun v l => v = .bool true ∧ l = F) := by
  obtain ⟨f1, f2, f3, f4, f5, f6, f7⟩ := freshN_facts (k := 6) (z := 32) (by omega) (by omega) (by omega)
  obtain ⟨D0, hD0⟩ : ∃ D0, freshN 6 32 = D0 := ⟨_, rfl⟩
  rw [hD0] at f1 f2 f3 f4 f5 f6 f7
  obtain ⟨D1, D2, p1, p2, q1, q2, st, q4, _, o1, w1, w2, _, o2⟩ := start_ok both6 f1 f2 f3 f4 (by decide)
  have hfl : (factB 0 0 1).length = 64 := by decide
  have hne : awB ≠ factB 0 0 1 := by decide
  have hal : (awB.length : Int) = totG 0 0 1 := by decide
  obtain ⟨D3, p3, st3⟩ : ∃ E, commitR D2 0 0 1 ⟨factB 0 0 1, 1, 0, false⟩ awB = (0, E, ⟨awB, 2, 1, false⟩) ∧ E.WF := by
    rcases commit_any both6 st rfl hal hne (by decide) with ⟨E, h1, h2, _⟩ | ⟨E, _, _, hh, _⟩ | ⟨E, _, _, hh, _⟩
    · exact ⟨E, h1, h2.wf⟩
    · exact absurd hh (Hit.none q4)
    · exact absurd hh (Hit.none q4)
  have k1 := fun (d : Nat) (G : List HP) [InG G] => shadow_FormatE (σ := σ) (d := d) p1 (fun _ => by decide) f1 (by omega) (by omega) (l := G)
  have k2 := fun (d : Nat) (G : List HP) [InG G] => shadow_OpenE (σ := σ) (d := d) p2 q1 (by omega) (by omega) (l := G)
  refine Fn.of Tryz.func37 rfl Tryz.ntmps37 rfl ?_
  repeat' (first | (apply JO.ru; exact rfl; exact rfl; exact rfl; (first | (apply Ru.assign; exact rfl) | (apply Ru.buildN; exact rfl; exact rfl))) | refine JC.seq ?_ | refine JC.region ?_ | refine JO.nil ?_ | refine JE.thenN ?_ | (apply JO.do; exact rfl; exact rfl; exact rfl; (first | (apply Do.allocN; exact rfl) | apply Do.alloc); rintro _ _ ⟨_, rfl, rfl⟩) | (apply JO.do0; exact rfl; exact rfl; (first | (apply Do.storeAN; exact rfl; exact rfl; (repeat (first | exact Pick.here | apply Pick.there)); exact rfl; exact rfl; exact rfl; exact rfl) | (apply Do.storeA; exact rfl; exact rfl; (repeat (first | exact Pick.here | apply Pick.there)); exact rfl; exact rfl; exact rfl)); rintro _ _ ⟨rfl, rfl⟩))
  rename_i gb
  (apply JO.do; exact rfl; exact rfl; exact rfl; (apply Do.call; exact rfl; exact disk_New 6 32 (by omega) (by omega) (by omega)); rintro _ _ ⟨d, rfl, rfl⟩)
  rw [hD0]
  repeat' (first | (first | (apply JO.ru; exact rfl; exact rfl; exact rfl; (first | (apply Ru.move; exact rfl) | (apply Ru.assign; exact rfl) | (apply Ru.neq; exact rfl; exact rfl; (first | exact ndecF (by omega) | exact ndecT (by omega))) | (apply Ru.pickF; exact rfl; exact rfl) | (apply Ru.extractN; exact rfl; exact rfl) | (apply Ru.loadAN; exact rfl; (repeat (first | exact Pick.here | apply Pick.there)); exact rfl; exact rfl) | (apply Ru.eqlPN; exact rfl; exact rfl))) | refine JC.seq ?_ | refine JC.region ?_ | refine JO.nil ?_ | refine JE.thenN ?_ | refine JC.skip ?_ | refine JC.condF rfl ?_ | refine JO.guardT rfl rfl rfl rfl ?_) | refine JO.guardU rfl rfl rfl rfl rfl rfl ?_ | (first | (apply JO.do; exact rfl; exact rfl; exact rfl; (apply Do.call; exact rfl; exact k1 d _); rintro _ _ ⟨rfl, hq⟩; obtain rfl := hq.symm) | (apply JQ.call; exact rfl; exact rfl; exact rfl; exact k1 d _; (rintro _ _ ⟨rfl, rfl⟩; exact ⟨rfl, rfl⟩))) | (apply JO.do; exact rfl; exact rfl; exact rfl; (apply Do.call; exact rfl; exact k2 d _); rintro _ _ ⟨sb, rfl, rfl⟩))
  (apply JO.do; exact rfl; exact rfl; exact rfl; (apply Do.call; exact rfl; exact shadow_ImageP (by rw [hfl]; omega) Pick.here); rintro u _ rfl)
  refine JO.heap (fun _ s => (by unfold bytesHP at s; rw [hfl] at s; exact s : Sat σ _ (ownS u 5 1 64 ((factB 0 0 1).map byte) :: _))) ?_
  refine JO.openOwn Pick.here (by omega) fun b cap spare hu hcap hlx hcl => ?_
  subst hu
  repeat' (first | (first | (apply JO.ru; exact rfl; exact rfl; exact rfl; (first | (apply Ru.move; exact rfl) | (apply Ru.assign; exact rfl) | (apply Ru.lenS; exact rfl) | (apply Ru.neq; exact rfl; exact rfl; (first | exact ndecF (by omega) | exact ndecT (by omega))) | (apply Ru.pickF; exact rfl; exact rfl) | (apply Ru.indexAddr; exact rfl; exact rfl; omega; omega))) | refine JC.seq ?_ | refine JC.region ?_ | refine JO.nil ?_ | refine JE.thenN ?_ | refine JC.skip ?_ | refine JC.condF rfl ?_ | refine JO.guardT rfl rfl rfl rfl ?_ | (apply JO.do0; exact rfl; exact rfl; (first | (apply Do.storeN; exact rfl; exact rfl; exact rfl; (repeat (first | exact Pick.here | apply Pick.there)); exact rfl; exact rfl) | (apply Do.store; exact rfl; exact rfl; exact rfl; (repeat (first | exact Pick.here | apply Pick.there)); exact rfl)); rintro _ _ ⟨rfl, rfl⟩)) | refine JO.guardU rfl rfl rfl rfl rfl rfl ?_ | (first | (apply JO.do; exact rfl; exact rfl; exact rfl; (apply Do.call; exact rfl; exact shadow_SeqP (by repeat (first | exact Pick.here | apply Pick.there))); rintro _ _ ⟨rfl, hq⟩; obtain rfl := hq.symm) | (apply JQ.call; exact rfl; exact rfl; exact rfl; exact shadow_SeqP (by repeat (first | exact Pick.here | apply Pick.there)); (rintro _ _ ⟨rfl, rfl⟩; exact ⟨rfl, rfl⟩))) | (first | (apply JO.do; exact rfl; exact rfl; exact rfl; (apply Do.call; exact rfl; exact shadow_WhichP (by repeat (first | exact Pick.here | apply Pick.there))); rintro _ _ ⟨rfl, hq⟩; obtain rfl := hq.symm) | (apply JQ.call; exact rfl; exact rfl; exact rfl; exact shadow_WhichP (by repeat (first | exact Pick.here | apply Pick.there)); (rintro _ _ ⟨rfl, rfl⟩; exact ⟨rfl, rfl⟩))))
  have e1 : ((factB 0 0 1).map byte ++ spare).set (0 + Int.toNat 3 * 1) (Value.int .u8 1) = awB.map byte ++ spare := by
    show ((factB 0 0 1).map byte ++ spare).set 3 (byte 1) = _
    rw [List.set_append_left _ _ (by rw [List.length_map, hfl]; omega), ← List.map_set]; rfl
  rw [e1]
  have hawl : awB.length = 64 := by decide
  have hback : ∀ w, Sat σ w (arr b 5 (awB.map byte ++ spare) :: shadHP sb d 0 0 1 ⟨factB 0 0 1, 1, 0, false⟩ :: diskHP d D2 :: arr gb 23 [Value.int .i64 0, Value.int .i64 0, Value.int .i64 1] :: F) →
      Sat σ w (shadHP sb d 0 0 1 ⟨factB 0 0 1, 1, 0, false⟩ :: diskHP d D2 :: ownS (.slice (some ⟨b, 0, none⟩) 64 cap) 5 1 64 (awB.map byte) :: arr gb 23 [Value.int .i64 0, Value.int .i64 0, Value.int .i64 1] :: F) := fun w s => by
    have := Sat.ownS_arr (z := 1) hcap (by rw [List.length_map, hawl]) (by rw [List.length_append, List.length_map, hawl]; rw [List.length_append, List.length_map, hfl] at hcl; omega) s
    exact Sat.weak (by repeat (first | exact Weak.refl | (apply Weak.cons; (first | exact Pick.here | exact Pick.there Pick.here | exact Pick.there (Pick.there Pick.here) | exact Pick.there (Pick.there (Pick.there Pick.here)) | exact Pick.there (Pick.there (Pick.there (Pick.there Pick.here))) | exact Pick.there (Pick.there (Pick.there (Pick.there (Pick.there Pick.here)))) | exact Pick.there (Pick.there (Pick.there (Pick.there (Pick.there (Pick.there Pick.here))))) | exact Pick.there (Pick.there (Pick.there (Pick.there (Pick.there (Pick.there (Pick.there Pick.here)))))))) | apply Weak.drop)) w this
  refine JO.heap hback ?_
  refine JO.tail2 fun hrd => ?_
  have k3 := shadow_CommitE (σ := σ) (sb := sb) (d := d) p3 (.inl rfl) (by decide) (by rw [hawl]; omega) (by show (factB 0 0 1).length ≤ _; rw [hfl]; omega) st.wf (by omega) (by omega) hrd
  repeat' (first | (first | (apply JO.ru; exact rfl; exact rfl; exact rfl; (first | (apply Ru.move; exact rfl) | (apply Ru.assign; exact rfl) | (apply Ru.eql; exact rfl; exact rfl; (first | exact decT (by omega) | exact decF (by omega))))) | refine JC.seq ?_ | refine JC.region ?_ | refine JO.nil ?_ | refine JE.thenN ?_ | refine JO.guardT rfl rfl rfl rfl ?_) | refine JO.guardU rfl rfl rfl rfl rfl rfl ?_ | (first | (apply JO.do; exact rfl; exact rfl; exact rfl; (apply Do.call; exact rfl; exact k3); rintro _ _ ⟨rfl, hq⟩; obtain rfl := hq.symm) | (apply JQ.call; exact rfl; exact rfl; exact rfl; exact k3; (rintro _ _ ⟨rfl, rfl⟩; exact ⟨rfl, rfl⟩))))
  repeat' (first | (first | (apply JO.ru; exact rfl; exact rfl; exact rfl; (first | (apply Ru.move; exact rfl) | (apply Ru.eql; exact rfl; exact rfl; (first | exact decT (by omega) | exact decF (by omega))) | (apply Ru.pickT; exact rfl; exact rfl))) | refine JO.guardT rfl rfl rfl rfl ?_) | refine JO.guardU rfl rfl rfl rfl rfl rfl ?_ | (first | (apply JO.do; exact rfl; exact rfl; exact rfl; (apply Do.call; exact rfl; exact shadow_SeqP (by repeat (first | exact Pick.here | apply Pick.there))); rintro _ _ ⟨rfl, hq⟩; obtain rfl := hq.symm) | (apply JQ.call; exact rfl; exact rfl; exact rfl; exact shadow_SeqP (by repeat (first | exact Pick.here | apply Pick.there)); (rintro _ _ ⟨rfl, rfl⟩; exact ⟨rfl, rfl⟩))) | (first | (apply JO.do; exact rfl; exact rfl; exact rfl; (apply Do.call; exact rfl; exact shadow_WhichP (by repeat (first | exact Pick.here | apply Pick.there))); rintro _ _ ⟨rfl, hq⟩; obtain rfl := hq.symm) | (apply JQ.call; exact rfl; exact rfl; exact rfl; exact shadow_WhichP (by repeat (first | exact Pick.here | apply Pick.there)); (rintro _ _ ⟨rfl, rfl⟩; exact ⟨rfl, rfl⟩))))
  (apply JO.do; exact rfl; exact rfl; exact rfl; (apply Do.call; exact rfl; exact shadow_ImageP (by rw [hawl]; omega) Pick.here); rintro u _ rfl)
  refine JO.ownR Pick.here fun hx _ _ => ?_
  refine JO.ownR (Pick.there (Pick.there (Pick.there Pick.here))) fun hy _ _ => ?_
  have hsame := ref_Same (σ := σ) _ _ awB awB (by omega) hx hy
  rw [decide_eq_true rfl] at hsame
  repeat' (first | (first | (apply JO.ru; exact rfl; exact rfl; exact rfl; (first | (apply Ru.move; exact rfl) | (apply Ru.assign; exact rfl) | (apply Ru.pickT; exact rfl; exact rfl) | (apply Ru.not; exact rfl))) | refine JO.nil ?_ | refine JE.thenN ?_ | refine JC.ret ?_ | refine JO.guardT rfl rfl rfl rfl ?_ | (apply JE.done1; exact rfl; (first | (apply Res.tmp; exact rfl) | (apply Res.cell; exact rfl; (repeat (first | exact Pick.here | apply Pick.there)); exact rfl) | (apply Res.cellAN; exact rfl; (repeat (first | exact Pick.here | apply Pick.there)); exact rfl; exact rfl) | (apply Res.cellA; exact rfl; (repeat (first | exact Pick.here | apply Pick.there)); exact rfl; exact rfl)))) | refine JO.guardU rfl rfl rfl rfl rfl rfl ?_ | (first | (apply JO.do; exact rfl; exact rfl; exact rfl; (apply Do.call; exact rfl; exact shadow_SeqP (by repeat (first | exact Pick.here | apply Pick.there))); rintro _ _ ⟨rfl, hq⟩; obtain rfl := hq.symm) | (apply JQ.call; exact rfl; exact rfl; exact rfl; exact shadow_SeqP (by repeat (first | exact Pick.here | apply Pick.there)); (rintro _ _ ⟨rfl, rfl⟩; exact ⟨rfl, rfl⟩))) | (first | (apply JO.do; exact rfl; exact rfl; exact rfl; (apply Do.call; exact rfl; exact shadow_WhichP (by repeat (first | exact Pick.here | apply Pick.there))); rintro _ _ ⟨rfl, hq⟩; obtain rfl := hq.symm) | (apply JQ.call; exact rfl; exact rfl; exact rfl; exact shadow_WhichP (by repeat (first | exact Pick.here | apply Pick.there)); (rintro _ _ ⟨rfl, rfl⟩; exact ⟨rfl, rfl⟩))) | (first | (apply JO.do; exact rfl; exact rfl; exact rfl; (apply Do.call; exact rfl; exact shadow_StaleP (by repeat (first | exact Pick.here | apply Pick.there))); rintro _ _ ⟨rfl, hq⟩; obtain rfl := hq.symm) | (apply JQ.call; exact rfl; exact rfl; exact rfl; exact shadow_StaleP (by repeat (first | exact Pick.here | apply Pick.there)); (rintro _ _ ⟨rfl, rfl⟩; exact ⟨rfl, rfl⟩))) | (first | (apply JO.do; exact rfl; exact rfl; exact rfl; (apply Do.call; exact rfl; exact hsame); rintro _ _ ⟨rfl, hq⟩; obtain rfl := hq.symm) | (apply JQ.call; exact rfl; exact rfl; exact rfl; exact hsame; (rintro _ _ ⟨rfl, rfl⟩; exact ⟨rfl, rfl⟩))))
  all_goals exact ⟨F, Sat.weak (by repeat (first | exact Weak.refl | (apply Weak.cons; (first | exact Pick.here | exact Pick.there Pick.here | exact Pick.there (Pick.there Pick.here) | exact Pick.there (Pick.there (Pick.there Pick.here)) | exact Pick.there (Pick.there (Pick.there (Pick.there Pick.here))) | exact Pick.there (Pick.there (Pick.there (Pick.there (Pick.there Pick.here)))) | exact Pick.there (Pick.there (Pick.there (Pick.there (Pick.there (Pick.there Pick.here))))) | exact Pick.there (Pick.there (Pick.there (Pick.there (Pick.there (Pick.there (Pick.there Pick.here)))))))) | apply Weak.drop)), rfl, rfl⟩
end Go.Sep
/- What succeeds was not planned to fail: no program in sight. -/
namespace Go.Sep
open Go Go.Proofs
theorem failing_of {D : DiskN} {n : Int} (h : n ∈ D.planned) (h2 : n = (D.ops : Int) + 1) : D.failing = true := by
  unfold DiskN.failing
  rw [List.contains_iff_mem, ← h2]; exact h
/-- What is planned lies behind all that was done. -/
def Clean (D E : DiskN) : Prop := ∀ n ∈ D.planned, (D.ops : Int) < n → (E.ops : Int) < n
theorem writeE_clean {D : DiskN} {i : Int} {m : Nat} (h : D.writeE i m = 0) : D.failing = false := by
  unfold DiskN.writeE at h
  split at h
  · cases h
  · rename_i h2; simpa using h2
theorem clean_one {D E : DiskN} (h : D.failing = false) (ho : E.ops = D.ops + 1) : Clean D E := fun n hn h1 => by
  rcases Int.lt_or_le (E.ops : Int) n with q | q
  · exact q
  · have := failing_of hn (by omega)
    rw [h] at this; cases this
theorem Clean.trans {D E G : DiskN} (a : Clean D E) (hp : E.planned = D.planned) (b : Clean E G) : Clean D G := fun n hn h => b n (hp ▸ hn) (a n hn h)
theorem dataGo_clean : ∀ (ps : List (List UInt8)) (D : DiskN) (first : Int) (i : Nat), (dataGo first i D ps).1 = 0 → Clean D (dataGo first i D ps).2
  | [], D, first, i, _ => fun _ _ h => h
  | x :: r, D, first, i, h => by
    rw [dataGo] at h ⊢
    split at h
    · rename_i h2; exact absurd h h2
    · rename_i h2
      rw [if_neg h2]
      have h3 : D.writeE (first + (1 + (i : Int))) x.length = 0 := by omega
      exact (clean_one (E := D.put (first + (1 + (i : Int))) x) (writeE_clean h3) rfl).trans rfl (dataGo_clean r _ first (i + 1) h)
theorem dataR_clean {D : DiskN} {which e f s : Int} {bs : List UInt8} (h : (dataR D which e f s bs).1 = 0) : Clean D (dataR D which e f s bs).2 := by
  unfold dataR at h ⊢
  split at h
  · rename_i h2; exact absurd h h2
  · rename_i h2
    split at h
    · cases h
    · rename_i h3
      rw [if_neg h2, if_neg h3]
      exact dataGo_clean _ _ _ _ h
theorem syncR_clean {D : DiskN} (hwf : D.WF) (h : (syncR D).1 = 0) : Clean D (syncR D).2 := by
  unfold syncR at h ⊢
  split at h
  · cases h
  · rename_i h2
    rw [if_neg h2]
    exact clean_one (by simpa using h2) (sync_ops hwf)
theorem sealR_clean {D : DiskN} {which e f s q : Int} {bs : List UInt8} (h : (sealR D which e f s q bs).1 = 0) : Clean D (sealR D which e f s q bs).2 := by
  unfold sealR at h ⊢
  split at h
  · rename_i h2; exact absurd h h2
  · rename_i h2
    split at h
    · cases h
    · rename_i h3
      split at h
      · rename_i h4; exact absurd h h4
      · rename_i h4
        rw [if_neg h2, if_neg h3, if_neg h4]
        exact clean_one (writeE_clean (by omega : D.writeE (firstOf D which e f s) D.size = 0)) rfl
theorem layR_clean {D : DiskN} (hwf : D.WF) {which e f s q : Int} {bs : List UInt8} (h : (layR D which e f s q bs).1 = 0) : Clean D (layR D which e f s q bs).2 := by
  have g1 := dataR_grows hwf which e f s bs
  have g2 := g1.trans (syncR_grows g1.wf)
  have g3 := g2.trans (sealR_grows g2.wf which e f s q bs)
  unfold layR at h ⊢
  split at h
  · rename_i h1; exact absurd h h1
  · rename_i h1
    rw [if_neg h1]
    split at h
    · rename_i h2; exact absurd h h2
    · rename_i h2
      rw [if_neg h2]
      split at h
      · rename_i h3; exact absurd h h3
      · rename_i h3
        rw [if_neg h3]
        exact (dataR_clean (by omega)).trans g1.plan ((syncR_clean g1.wf (by omega)).trans (syncR_grows g1.wf).plan ((sealR_clean (by omega)).trans (sealR_grows g2.wf which e f s q bs).plan (syncR_clean g3.wf h)))
theorem commit_clean {D E : DiskN} (hwf : D.WF) {e f s : Int} {S S' : ShadN} {bs : List UInt8} (h0 : S.stale = false) (hl : (bs.length : Int) = S.now.length) (hne : bs ≠ S.now) (hq : S.seq + 1 < 18446744073709551616) (h : commitR D e f s S bs = (0, E, S')) : Clean D E := by
  rw [commit_lay h0 hl hne hq] at h
  split at h
  · rename_i h1
    injection h with h2 _; exact absurd h2 h1
  · rename_i h1
    injection h with _ h2; injection h2 with h2 _
    rw [← h2]
    exact layR_clean hwf (by omega)
section
variable {D : DiskN} {z k many : Nat} {e f s : Int}
theorem plan_one (hp : D.planned = []) (n : Int) : (D.plan n).planned = [n] := by
  show addP D.planned n = [n]
  rw [hp]; rfl
theorem ShSt.plan {S : ShadN} (h : ShSt D z k many e f s S) (n : Int) : ShSt (D.plan n) z k many e f s S := ⟨h.wf.plan n, h.size, h.count, h.cach, ⟨h.has.w01, h.has.good, h.has.other⟩, h.len, h.q⟩
/-- A shadow that is opened when all that was planned has come to pass. -/
theorem open_past (hB : Both z k e f s many) {w q : Int} {img : List UInt8} (hwf : D.WF) (hz : D.size = z) (hk : D.count = k) (h : HasS D many e f s w q img) (hl : (img.length : Int) = totG e f s) (hq : 0 ≤ q) (hn : ∀ n ∈ D.planned, n ≤ (D.ops : Int)) :
    ∃ E, openR D e f s = (0, E, ⟨img, q, w, false⟩) ∧ View D E ∧ ShSt E z k many e f s ⟨img, q, w, false⟩ ∧ E.ops ≤ D.ops + (2 * many + 3) := by
  rcases open_has hB hwf hz hk h hl hq with ⟨_, _, _, ⟨n, h1, h2, _⟩, _⟩ | h1
  · have := hn n h1; omega
  · exact h1
theorem commit_past {S : ShadN} (hB : Both z k e f s many) (h : ShSt D z k many e f s S) (h0 : S.stale = false) {bs : List UInt8} (hl : (bs.length : Int) = totG e f s) (hq : S.seq + 1 < 18446744073709551616) (hn : ∀ n ∈ D.planned, n ≤ (D.ops : Int)) :
    ∃ E q w, commitR D e f s S bs = (0, E, ⟨bs, q, w, false⟩) ∧ ShSt E z k many e f s ⟨bs, q, w, false⟩ := by
  by_cases hs : bs = S.now
  · obtain ⟨now, q, w, st⟩ := S
    dsimp only at hs h0
    subst hs; subst h0
    exact ⟨D, q, w, commit_same rfl rfl, h⟩
  · rcases commit_any hB h h0 hl hs hq with ⟨E, h1, h2, _⟩ | ⟨E, _, _, ⟨n, h1, h2, _⟩, _⟩ | ⟨E, _, _, ⟨n, h1, h2, _⟩, _⟩
    · exact ⟨E, _, _, h1, h2⟩
    · have := hn n h1; omega
    · have := hn n h1; omega
theorem stale_plain {now x : List UInt8} (hB : Both z k e f s many) (h : ShSt D z k many e f s ⟨now, 1, 0, false⟩) (hp : D.planned = []) (hh : decE (D.cur (1 + many)) ≠ 0) (hx : (x.length : Int) = totG e f s) (hne : x ≠ now) {n : Int} (hn : (D.ops : Int) < n ∧ n ≤ (D.ops : Int) + (many + 3)) :
    ∃ E E2 E3 img q w q' w', commitR (D.plan n) e f s ⟨now, 1, 0, false⟩ x = (3, E, ⟨now, 1, 0, true⟩) ∧ E.WF ∧ E.ops ≤ D.ops + (many + 3) ∧ E.writes ≤ D.writes + (many + 1) ∧
      openR E e f s = (0, E2, ⟨img, q, w, false⟩) ∧ E2.WF ∧ E2.ops ≤ E.ops + (2 * many + 3) ∧ E2.writes = E.writes ∧ (w = 0 ∨ w = 1) ∧ 0 ≤ q ∧ q ≤ 2 ∧ (img.length : Int) = totG e f s ∧
      commitR E2 e f s ⟨img, q, w, false⟩ x = (0, E3, ⟨x, q', w', false⟩) := by
  have hpl := plan_one hp n
  have fin : ∀ E : DiskN, E.WF → E.size = z → E.count = k → E.planned = [n] → n ≤ (E.ops : Int) → ∀ w q img, HasS E many e f s w q img → (img.length : Int) = totG e f s → 0 ≤ q → q ≤ 2 →
      ∃ E2 E3 q' w', openR E e f s = (0, E2, ⟨img, q, w, false⟩) ∧ E2.WF ∧ E2.ops ≤ E.ops + (2 * many + 3) ∧ E2.writes = E.writes ∧ commitR E2 e f s ⟨img, q, w, false⟩ x = (0, E3, ⟨x, q', w', false⟩) := by
    intro E h1 h2 h3 h4 h5 w q img h6 h7 h8 h9
    obtain ⟨E2, a1, a2, a3, a4⟩ := open_past hB h1 h2 h3 h6 h7 h8 (fun m hm => by rw [h4] at hm; rw [List.mem_singleton.1 hm]; exact h5)
    have p2 : ∀ m ∈ E2.planned, m ≤ (E2.ops : Int) := fun m hm => by
      rw [a2.plan, h4] at hm; rw [List.mem_singleton.1 hm]; have := a2.ops; omega
    obtain ⟨E3, q', w', b1, _⟩ := commit_past hB a3 rfl hx (by show q + 1 < _; omega) p2
    exact ⟨E2, E3, q', w', a1, a3.wf, a4, a2.writes, b1⟩
  have hst := h.plan n
  rcases commit_any hB hst rfl hx hne (by show (1 : Int) + 1 < _; decide) with ⟨E, h1, h2, h3, h4, h5⟩ | ⟨E, h1, K, ⟨m, m1, m2, m3⟩, h4, h5⟩ | ⟨E, h1, K, ⟨m, m1, m2, m3⟩, hs, _, _, _, _, h4, h5⟩
  · exfalso
    have hcl := commit_clean hst.wf rfl (hx.trans h.len.symm) hne (by show (1 : Int) + 1 < _; decide) h1
    have := hcl n (by rw [hpl]; simp) hn.1
    have ho : E.ops = D.ops + (many + 3) := h4
    omega
  · rw [hpl] at m1
    have hm := List.mem_singleton.1 m1
    obtain ⟨k1, _⟩ := HasS.kept hB hst.count hst.cach hst.has (.inl hh) K
    obtain ⟨E2, E3, q', w', a1, a2, a3, a4, a5⟩ := fin E K.wf (K.size.trans hst.size) (K.count.trans hst.count) (K.plan.trans hpl) (by omega) 0 1 now k1 h.len (by decide) (by decide)
    exact ⟨E, E2, E3, now, 1, 0, q', w', h1, K.wf, h4, h5, a1, a2, a3, a4, .inl rfl, by decide, by decide, h.len, a5⟩
  · rw [hpl] at m1
    have hm := List.mem_singleton.1 m1
    obtain ⟨E2, E3, q', w', a1, a2, a3, a4, a5⟩ := fin E K.wf (K.size.trans hst.size) (K.count.trans hst.count) (K.plan.trans hpl) (by omega) (1 - 0) (1 + 1) x hs hx (by decide) (by decide)
    exact ⟨E, E2, E3, x, 1 + 1, 1 - 0, q', w', h1, K.wf, Nat.le_of_eq h4, Nat.le_of_eq h5, a1, a2, a3, a4, .inr rfl, by decide, by decide, hx, a5⟩
end
end Go.Sep
/- ShadowWrites: no program in sight. -/
namespace Go.Sep
open Go Go.Proofs
section
variable {D : DiskN} {z k many : Nat} {e f s : Int}
theorem commit_ok {now b : List UInt8} {q w : Int} (hB : Both z k e f s many) (h : ShSt D z k many e f s ⟨now, q, w, false⟩) (hp : D.planned = []) (hq : q ≤ 1000) (hb : (b.length : Int) = totG e f s) :
    ∃ E q' w', commitR D e f s ⟨now, q, w, false⟩ b = (0, E, ⟨b, q', w', false⟩) ∧ ShSt E z k many e f s ⟨b, q', w', false⟩ ∧ E.planned = [] ∧ q' ≤ q + 1 ∧
      (now = b → E.ops = D.ops ∧ E.writes = D.writes) ∧ (now ≠ b → E.ops = D.ops + (many + 3) ∧ E.writes = D.writes + (many + 1)) := by
  by_cases hs : now = b
  · subst hs
    exact ⟨D, q, w, commit_same rfl rfl, h, hp, by omega, fun _ => ⟨rfl, rfl⟩, fun c => absurd rfl c⟩
  · rcases commit_any hB h rfl hb (fun c => hs c.symm) (by show q + 1 < _; omega) with ⟨E, h1, h2, h3, h4, h5⟩ | ⟨E, _, _, hh, _⟩ | ⟨E, _, _, hh, _⟩
    · exact ⟨E, q + 1, 1 - w, h1, h2, h3.trans hp, by omega, fun c => absurd c hs, fun _ => ⟨h4, h5⟩⟩
    · exact absurd hh (Hit.none hp)
    · exact absurd hh (Hit.none hp)
/-- A commit that may fail: OK or the disk's own error, and how much it writes. -/
theorem commit_may {S : ShadN} {b : List UInt8} (hB : Both z k e f s many) (h : ShSt D z k many e f s S) (h0 : S.stale = false) (hq : S.seq ≤ 1000) (hb : (b.length : Int) = totG e f s) :
    ∃ er E S', commitR D e f s S b = (er, E, S') ∧ (er = 0 ∨ er = 3) ∧ E.writes ≤ D.writes + (many + 1) ∧ E.WF := by
  by_cases hs : b = S.now
  · exact ⟨0, D, S, commit_same h0 hs, .inl rfl, by omega, h.wf⟩
  · rcases commit_any hB h h0 hb hs (by omega) with ⟨E, h1, h2, h3, h4, h5⟩ | ⟨E, h1, h2, _, _, h5⟩ | ⟨E, h1, h2, _, _, _, _, _, _, _, h5⟩
    · exact ⟨0, E, _, h1, .inl rfl, by omega, h2.wf⟩
    · exact ⟨3, E, _, h1, .inr rfl, h5, h2.wf⟩
    · exact ⟨3, E, _, h1, .inr rfl, by omega, h2.wf⟩
end
theorem xor_u8 (c b : UInt8) : Go.bits .xor .u8 (c.toNat : Int) (b.toNat : Int) = ((c ^^^ b).toNat : Int) := by
  have h1 := UInt8.toNat_lt c
  have h2 := UInt8.toNat_lt b
  show IntKind.u8.wrap (((BitVec.ofInt 8 (c.toNat : Int)) ^^^ (BitVec.ofInt 8 (b.toNat : Int))).toNat : Int) = _
  rw [BitVec.ofInt_natCast, BitVec.ofInt_natCast, BitVec.toNat_xor, BitVec.toNat_ofNat, BitVec.toNat_ofNat, Nat.mod_eq_of_lt (by omega), Nat.mod_eq_of_lt (by omega), UInt8.toNat_xor]
  have h3 := UInt8.toNat_lt (c ^^^ b)
  rw [UInt8.toNat_xor] at h3
  exact wrapU8 (by omega) (by omega)
theorem xor_ne (c b : UInt8) (h : b ≠ 0) : c ^^^ b ≠ c := by
  intro h1
  have h2 : c ^^^ (c ^^^ b) = c ^^^ c := by rw [h1]
  rw [← UInt8.xor_assoc, UInt8.xor_self, UInt8.zero_xor] at h2
  exact h h2
/-- The first i bytes with their lowest bit turned. -/
def flip (i : Nat) (x : List UInt8) : List UInt8 := (x.take i).map (· ^^^ 1) ++ x.drop i
theorem flip_length (i : Nat) (x : List UInt8) : (flip i x).length = x.length := by
  simp [flip]; omega
theorem flip_zero (x : List UInt8) : flip 0 x = x := by simp [flip]
theorem flip_at {i : Nat} {x : List UInt8} {c : UInt8} (h : x[i]? = some c) : (flip i x)[i]? = some c := by
  have hi := (List.getElem?_eq_some_iff.1 h).1
  unfold flip
  rw [List.getElem?_append_right (by simp; omega)]
  have : i - ((x.take i).map (· ^^^ 1)).length = 0 := by simp; omega
  rw [this, List.getElem?_drop, Nat.add_zero]; exact h
theorem flip_succ {i : Nat} {x : List UInt8} {c : UInt8} (h : x[i]? = some c) : (flip i x).set i (c ^^^ 1) = flip (i + 1) x := by
  obtain ⟨hi, hc⟩ := List.getElem?_eq_some_iff.1 h
  unfold flip
  have hl : ((x.take i).map (· ^^^ 1)).length = i := by simp; omega
  rw [List.set_append_right _ _ (by omega), hl, Nat.sub_self, List.drop_eq_getElem_cons hi, List.set_cons_zero, List.take_succ_eq_append_getElem hi, List.map_append, List.append_assoc]
  rw [hc]; rfl
end Go.Sep
/- What arguments read as; a statement's last step, out of a contract. -/
namespace Go.Sep
open Go Go.Proofs Go.ChangeShapes Go.WideShapes Go.ChangeAt Go.RowKit
/-- How data lie in cells. -/
inductive Lay where
  | int (k : IntKind)
  | bool
  | slice (l : Lay)
  | nil
  | cons (h r : Lay)
def Lay.cells : Lay → Nat
  | .int _ => 1
  | .bool => 1
  | .slice _ => 1
  | .nil => 0
  | .cons h r => h.cells + r.cells
/-- A type lies so; fields from a place on do. -/
def Lay.is (P : Program) : Lay → Option TypeId → Nat → List Field → Prop
  | .int k, some t, _, _ => P.underlying t = some (.int k)
  | .bool, some t, _, _ => P.underlying t = some .bool
  | .slice l, some t, _, _ => ∃ e, P.underlying t = some (.slice e) ∧ P.cellsOf e = l.cells ∧ l.is P (some e) 0 []
  | .nil, none, _, fs => fs = []
  | .cons h r, none, o, fs => ∃ f fs', fs = f :: fs' ∧ f.offset = o ∧ P.cellsOf f.type = h.cells ∧ h.is P (some f.type) 0 [] ∧ r.is P none (o + h.cells) fs'
  | .cons h r, some t, _, _ => ∃ (fs : Array Field) (f : Field) (fs' : List Field), P.underlying t = some (.struct fs) ∧ fs.toList = f :: fs' ∧ f.offset = 0 ∧ P.cellsOf f.type = h.cells ∧ h.is P (some f.type) 0 [] ∧ r.is P none h.cells fs' ∧ P.cellsOf t = h.cells + r.cells
  | _, _, _, _ => False
section
variable {P : Program} {t e : TypeId} {l h r : Lay} {fs : Array Field} {f : Field} {fs' fs1 : List Field} {o o' : Nat}
theorem Lay.isI {k : IntKind} (h : P.underlying t = some (.int k)) : (Lay.int k).is P (some t) 0 [] := h
theorem Lay.isB (h : P.underlying t = some .bool) : Lay.bool.is P (some t) 0 [] := h
theorem Lay.isS (h : P.underlying t = some (.slice e)) (hc : P.cellsOf e = l.cells) (hl : l.is P (some e) 0 []) : (Lay.slice l).is P (some t) 0 [] := ⟨e, h, hc, hl⟩
theorem Lay.isN : Lay.nil.is P none o [] := rfl
theorem Lay.isF (ho : f.offset = o) (hc : P.cellsOf f.type = h.cells) (hh : h.is P (some f.type) 0 []) (e : o + h.cells = o') (hr : r.is P none o' fs') : (Lay.cons h r).is P none o (f :: fs') := ⟨f, fs', rfl, ho, hc, hh, e ▸ hr⟩
theorem Lay.isT (hu : P.underlying t = some (.struct fs)) (he : fs.toList = f :: fs') (ho : f.offset = 0) (hc : P.cellsOf f.type = h.cells) (hh : h.is P (some f.type) 0 []) (e : h.cells = o') (hr : r.is P none o' fs') (ht : P.cellsOf t = h.cells + r.cells) : (Lay.cons h r).is P (some t) 0 [] :=
  ⟨fs, f, fs', hu, he, ho, hc, hh, e ▸ hr, ht⟩
end
def Lay.rd (W : World) : Lay → List Value → Prop
  | .int k, cs => ∃ n, cs = [.int k n] ∧ (Lit.int k n).wf = true
  | .bool, cs => ∃ b, cs = [.bool b]
  | .slice l, cs => cs = [.slice none 0 0] ∨ ∃ a len cap, cs = [.slice (some a) len cap] ∧ len ≤ cap ∧ cap ≤ maxLen ∧ ∀ i, i < len → ∃ cs', W.cells? 0 (a.add (i * l.cells)) l.cells = some cs' ∧ l.rd W cs'
  | .nil, cs => cs = []
  | .cons h r, cs => ∃ c1 c2, cs = c1 ++ c2 ∧ c1.length = h.cells ∧ h.rd W c1 ∧ r.rd W c2
section
variable {H : Type} {enc : TypeId × Value → H} {P : Program} {W : World} {sp : Nat → Bool} {hd : Bool}
theorem Lay.of_trod : ∀ (l : Lay) (ot : Option TypeId) (o : Nat) (fs : List Field), l.is P ot o fs →
    (∀ t, ot = some t → ∀ n cs x, DataW.trod enc P W 0 sp hd n t cs = some x → l.rd W cs) ∧
    (ot = none → ∀ n (cs : List Value), (∀ f ∈ fs, ∃ x, DataW.trod enc P W 0 sp hd n f.type ((cs.drop f.offset).take (P.cellsOf f.type)) = some x) → o + l.cells ≤ cs.length → l.rd W ((cs.drop o).take l.cells))
  | .int k, some t, o, fs, h => by
    refine ⟨fun t' ht n cs x hx => ?_, fun h => by cases h⟩
    cases ht
    obtain ⟨m, h1, _, h3⟩ := DataW.trod_int h hx
    exact ⟨m, h1, h3⟩
  | .bool, some t, o, fs, h => by
    refine ⟨fun t' ht n cs x hx => ?_, fun h => by cases h⟩
    cases ht
    obtain ⟨m, h1, _⟩ := DataW.trod_bool h hx
    exact ⟨m, h1⟩
  | .slice l, some t, o, fs, h => by
    refine ⟨fun t' ht n cs x hx => ?_, fun h => by cases h⟩
    cases ht
    obtain ⟨e, he, hc, hl⟩ := h
    rcases DataW.trod_slice he hx with ⟨h0, _⟩ | ⟨a, len, cap, elems, rest, m, _, rfl, _, hb, h1, h2, h3, h4, _⟩
    · exact .inl h0
    · refine .inr ⟨a, len, cap, rfl, h1, h2, fun i hi => ?_⟩
      have := h4 i hi
      rw [List.getElem?_eq_getElem (by omega), hc] at this
      obtain ⟨cs', g1, g2⟩ := Option.bind_eq_some_iff.1 this
      exact ⟨cs', g1, (Lay.of_trod l (some e) 0 [] hl).1 e rfl _ _ _ g2⟩
  | .nil, none, o, fs, h => by
    refine ⟨fun t' ht => (by cases ht), fun _ n cs _ _ => ?_⟩
    show (cs.drop o).take 0 = []
    simp
  | .cons h r, none, o, fs, hi => by
    refine ⟨fun t' ht => (by cases ht), fun _ n cs hf hlen => ?_⟩
    obtain ⟨f, fs', rfl, h1, h2, h3, h4⟩ := hi
    obtain ⟨x, hx⟩ := hf f List.mem_cons_self
    rw [h1, h2] at hx
    simp only [Lay.cells] at hlen
    refine ⟨(cs.drop o).take h.cells, (cs.drop (o + h.cells)).take r.cells, ?_, by rw [List.length_take, List.length_drop]; omega, (Lay.of_trod h (some f.type) 0 [] h3).1 _ rfl _ _ _ hx, ?_⟩
    · show (cs.drop o).take (h.cells + r.cells) = _
      rw [List.take_add, List.drop_drop]
    · exact (Lay.of_trod r none (o + h.cells) fs' h4).2 rfl n cs (fun g hg => hf g (List.mem_cons_of_mem _ hg)) (by omega)
  | .cons h r, some t, o, fs, hi => by
    refine ⟨fun t' ht n cs x hx => ?_, fun h => by cases h⟩
    cases ht
    obtain ⟨fa, f, fs', hu, h0, h1, h2, h3, h4, h5⟩ := hi
    obtain ⟨xs, m, _, _, hl, hxl, hf⟩ := DataW.trod_struct hu hx
    have hsz : fa.size = fs'.length + 1 := by rw [← Array.length_toList, h0]; rfl
    have each : ∀ g ∈ f :: fs', ∃ x, DataW.trod enc P W 0 sp hd m g.type ((cs.drop g.offset).take (P.cellsOf g.type)) = some x := fun g hg => by
      obtain ⟨i, hi, rfl⟩ := List.getElem_of_mem hg
      have := hf i (f :: fs')[i] (by rw [← Array.getElem?_toList, h0, List.getElem?_eq_getElem hi])
      rw [List.getElem?_eq_getElem (by rw [hxl, hsz]; simpa using hi)] at this
      exact ⟨_, this⟩
    obtain ⟨x0, hx0⟩ := each f List.mem_cons_self
    rw [h1, h2] at hx0
    refine ⟨cs.take h.cells, cs.drop h.cells, (List.take_append_drop _ _).symm, by rw [List.length_take]; omega, (Lay.of_trod h (some f.type) 0 [] h3).1 _ rfl _ _ _ (by simpa using hx0), ?_⟩
    have := (Lay.of_trod r none h.cells fs' h4).2 rfl m cs (fun g hg => each g (List.mem_cons_of_mem _ hg)) (by omega)
    rwa [List.take_of_length_le (by rw [List.length_drop]; omega)] at this
  | .int _, none, _, _, h => h.elim
  | .bool, none, _, _, h => h.elim
  | .slice _, none, _, _, h => h.elim
  | .nil, some _, _, _, h => h.elim
theorem Lay.of_Trod {l : Lay} {t : TypeId} (hl : l.is P (some t) 0 []) {v : Value} {d : DataW H} {ps : List MemPlace} (h : DataW.Trod enc P W 0 sp hd t v d ps) : l.rd W v.cells.toList :=
  let ⟨n, hn⟩ := h
  (Lay.of_trod l (some t) 0 [] hl).1 t rfl n _ _ hn
end

/-! ### Bytes -/
theorem choose_list {α : Type} {p : Nat → α → Prop} : ∀ (n : Nat), (∀ i, i < n → ∃ x, p i x) → ∃ l : List α, l.length = n ∧ ∀ i x, l[i]? = some x → p i x
  | 0, _ => ⟨[], rfl, fun i x h => by cases h⟩
  | n + 1, h => by
    obtain ⟨l, hl, hp⟩ := choose_list n fun i hi => h i (by omega)
    obtain ⟨x, hx⟩ := h n (by omega)
    refine ⟨l ++ [x], by simp [hl], fun i y hy => ?_⟩
    by_cases hi : i < l.length
    · rw [List.getElem?_append_left hi] at hy; exact hp i y hy
    · rw [List.getElem?_append_right (by omega)] at hy
      have h0 : i - l.length = 0 := by
        rcases Nat.eq_zero_or_pos (i - l.length) with q | q
        · exact q
        · rw [List.getElem?_eq_none (by simp; omega)] at hy; cases hy
      rw [h0] at hy
      obtain rfl : x = y := by simpa using hy
      have : i = n := by omega
      rw [this]; exact hx
/-- The slice v holds these bytes in the world W. -/
def RdC (W : World) (v : Value) (bs : List UInt8) : Prop :=
  ∃ p cap, v = .slice p bs.length cap ∧ bs.length ≤ cap ∧ (bs = [] ∨ ∃ b o, p = some ⟨b, o, none⟩ ∧ ∀ i u, (bs.map byte)[i]? = some u → W.cell? ⟨b, o + i, none⟩ = some u)
theorem byte_of {n : Int} (h : (Lit.int .u8 n).wf = true) : ∃ x : UInt8, Value.int .u8 n = byte x := by
  have := bounds_u8 h
  refine ⟨UInt8.ofNat n.toNat, ?_⟩
  simp only [byte]
  congr 1
  rw [UInt8.toNat_ofNat']
  omega
theorem cells_one {W : World} {a : Addr} {cs : List Value} (h : W.cells? 0 a 1 = some cs) : ∃ v, cs = [v] ∧ W.cell? a = some v := by
  obtain ⟨_, hlen, _⟩ := World.cells?_some h
  match cs, hlen with
  | [v], _ => exact ⟨v, rfl, cell_of_cells?_one h⟩
theorem rd_bytes {W : World} {v : Value} (h : (Lay.slice (.int .u8)).rd W [v]) : ∃ bs, RdC W v bs := by
  rcases h with h | ⟨a, len, cap, h, h1, _, h3⟩
  · obtain rfl : v = .slice none 0 0 := by simpa using h
    exact ⟨[], none, 0, rfl, Nat.le_refl _, .inl rfl⟩
  · obtain rfl : v = .slice (some a) len cap := by simpa using h
    obtain ⟨bs, hl, hb⟩ := choose_list (p := fun i (x : UInt8) => W.cell? (a.add i) = some (byte x)) len fun i hi => by
      obtain ⟨cs', g1, n, rfl, g2⟩ := h3 i hi
      obtain ⟨x, hx⟩ := byte_of g2
      obtain ⟨u, hu, g3⟩ := cells_one g1
      refine ⟨x, ?_⟩
      have e : i * (Lay.int .u8).cells = i := by simp [Lay.cells]
      rw [e] at g3
      rw [g3, ← hx]
      simpa using hu.symm
    subst hl
    refine ⟨bs, some a, cap, rfl, h1, ?_⟩
    cases bs with
    | nil => exact .inl rfl
    | cons x r =>
      right
      have h0 := hb 0 x rfl
      have hs := World.cell?_spot h0
      obtain ⟨b, o, s⟩ := a
      have hs' : s = none := hs
      subst hs'
      refine ⟨b, o, rfl, fun i u hu => ?_⟩
      rw [List.getElem?_map] at hu
      obtain ⟨y, hy, rfl⟩ := Option.map_eq_some_iff.1 hu
      have := hb i y hy
      have e : Addr.add ⟨b, o, none⟩ i = ⟨b, o + i, none⟩ := by simp [Addr.add]
      rwa [e] at this

/-! ### The memory that was there -/
/-- All that the world W has. -/
def memHP (W : World) : HP := fun h => ∀ b o, W.heap[b]? = some o → h b = some o
theorem mem_heap {σ : Sig} {W w : World} {l : List HP} (s : Sat σ w (memHP W :: l)) {b : Nat} {o : Obj} (h : W.heap[b]? = some o) : w.heap[b]? = some o := by
  obtain ⟨_, h1, h2, a, _, _, d, _⟩ := s
  exact a b o (d b o h)
theorem mem_cell {σ : Sig} {W w : World} {l : List HP} (s : Sat σ w (memHP W :: l)) {a : Addr} {v : Value} (h : W.cell? a = some v) : w.cell? a = some v := by
  unfold World.cell? at h ⊢
  split at h
  · rename_i c t f hb
    rw [mem_heap s hb]; exact h
  · cases h
theorem mem_start (W : World) : Sat (sigOf W) W [memHP W] :=
  ⟨rfl, heapOf W, fun _ => none, sub_refl _, fun _ _ e => (by cases e), fun _ => .inr rfl, fun _ _ h => h, trivial⟩
theorem mem_below {W w : World} {l : List HP} (s : Sat (sigOf W) w (memHP W :: l)) : Below W.heap.size W w := by
  have hs := s.1
  have e1 : w.os = W.os := congrArg Sig.os hs
  have e2 : w.tape = W.tape := congrArg Sig.tape hs
  have e3 : w.output = W.output := congrArg Sig.output hs
  have hb : ∀ k, k < W.heap.size → w.heap[k]? = W.heap[k]? := fun k hk => by
    have h1 := Array.getElem?_eq_getElem hk
    rw [h1]; exact mem_heap s h1
  refine ⟨e1, e2, e3, ?_, hb⟩
  rcases Nat.eq_zero_or_pos W.heap.size with q | q
  · omega
  · have h1 := mem_heap s (Array.getElem?_eq_getElem (show W.heap.size - 1 < W.heap.size by omega))
    obtain ⟨h2, _⟩ := Array.getElem?_eq_some_iff.1 h1
    exact Nat.le_of_pred_lt h2
theorem RdS.ofC {σ : Sig} {W : World} {v : Value} {bs : List UInt8} (h : RdC W v bs) : RdS σ [memHP W] v (bs.map byte) := by
  obtain ⟨p, cap, rfl, h1, h2⟩ := h
  have hl : (bs.map byte).length = bs.length := by simp
  refine ⟨p, cap, by rw [hl], by rw [hl]; exact h1, ?_⟩
  rcases h2 with rfl | ⟨b, o, rfl, h2⟩
  · exact .inl rfl
  · exact .inr ⟨b, o, rfl, fun w s i u hu => mem_cell s (h2 i u hu)⟩

theorem mem_arr {W : World} {b T : Nat} {cs : Array Value} {vs : List Value} (h : W.heap[b]? = some (.cells cs T (0, 0))) (hv : cs.toList = vs) : Weak [memHP W] [arr b T vs] := fun g ⟨h1, _, a, _, _, d, _⟩ =>
  ⟨g, fun _ => none, sub_refl _, fun _ _ e => (by cases e), fun _ => .inr rfl, ⟨0, 0, by rw [← hv]; exact a b _ (d b _ h), .inl rfl⟩, trivial⟩
/-! ### A table of whole numbers -/
section
variable {H : Type} {enc : TypeId × Value → H} {P : Program} {W : World} {sp : Nat → Bool} {hd : Bool}
theorem trod_ints {t e : TypeId} {k : IntKind} {n : Nat} {m : Nat} {cs : List Value} {ns : List Int} {ps : List MemPlace} (ht : P.underlying t = some (.array n e)) (he : P.underlying e = some (.int k)) (hc : P.cellsOf e = 1) (hct : P.cellsOf t = n)
    (h : DataW.trod enc P W 0 sp hd m t cs = some (.agg (ns.map fun z => .lit (.int k z)), ps)) : cs = ns.map (Value.int k) := by
  obtain ⟨xs, m', _, hx, hl, hxl, hf⟩ := DataW.trod_array ht h
  have hns : ns.map (fun z => (DataW.lit (.int k z) : DataW H)) = xs.map (·.1) := by simpa using congrArg Prod.fst hx
  have hnl : ns.length = n := by
    have := congrArg List.length hns
    simp at this; omega
  apply List.ext_getElem
  · simp; omega
  · intro i h1 h2
    have hi : i < n := by omega
    have hfi := hf i hi
    rw [hc, Nat.mul_one, List.getElem?_eq_getElem (by omega)] at hfi
    obtain ⟨z, hz, hz2, _⟩ := DataW.trod_int he hfi
    have hd0 : (cs.drop i).take 1 = [cs[i]] := by rw [List.drop_eq_getElem_cons h1]; rfl
    rw [hd0] at hz
    have hz3 : cs[i] = .int k z := by simpa using hz
    have hz4 : (ns.map (fun z => (DataW.lit (.int k z) : DataW H)))[i]'(by simp; omega) = (xs.map (·.1))[i]'(by simp; omega) := by simp only [hns]
    simp only [List.getElem_map] at hz4
    rw [hz2] at hz4
    simp only [DataW.lit.injEq, Lit.int.injEq, true_and] at hz4
    rw [hz3, List.getElem_map, hz4]
theorem trod_ints2 {t e d : TypeId} {k : IntKind} {n q : Nat} {m : Nat} {cs : List Value} {nss : List (List Int)} {ps : List MemPlace} (ht : P.underlying t = some (.array n e)) (he : P.underlying e = some (.array q d)) (hd' : P.underlying d = some (.int k)) (hc : P.cellsOf d = 1) (hce : P.cellsOf e = q) (hct : P.cellsOf t = n * q)
    (h : DataW.trod enc P W 0 sp hd m t cs = some (.agg (nss.map fun ns => .agg (ns.map fun z => .lit (.int k z))), ps)) : cs = nss.flatten.map (Value.int k) := by
  obtain ⟨xs, m', _, hx, hl, hxl, hf⟩ := DataW.trod_array ht h
  have hns : nss.map (fun ns => (DataW.agg (ns.map fun z => .lit (.int k z)) : DataW H)) = xs.map (·.1) := by simpa using congrArg Prod.fst hx
  have hnl : nss.length = n := by
    have := congrArg List.length hns
    simp at this; omega
  have row : ∀ i (hi : i < n), (cs.drop (i * q)).take q = (nss[i]'(by omega)).map (Value.int k) := fun i hi => by
    have hfi := hf i hi
    rw [hce, List.getElem?_eq_getElem (by omega)] at hfi
    have hz4 : (nss.map (fun ns => (DataW.agg (ns.map fun z => .lit (.int k z)) : DataW H)))[i]'(by simp; omega) = (xs.map (·.1))[i]'(by simp; omega) := by simp only [hns]
    simp only [List.getElem_map] at hz4
    have : xs[i] = (.agg ((nss[i]'(by omega)).map fun z => .lit (.int k z)), xs[i].2) := Prod.ext hz4.symm rfl
    rw [this] at hfi
    exact trod_ints he hd' hc hce hfi
  have key : ∀ j, j ≤ n → cs.take (j * q) = (nss.take j).flatten.map (Value.int k) := by
    intro j
    induction j with
    | zero => intro _; simp
    | succ j ih =>
      intro hj
      rw [Nat.succ_mul, List.take_add, ih (by omega), row j (by omega), List.take_succ_eq_append_getElem (by omega), List.flatten_append, List.map_append]
      simp only [List.flatten_cons, List.flatten_nil, List.append_nil]
  have := key n (Nat.le_refl _)
  rwa [List.take_of_length_le (by omega), List.take_of_length_le (by omega)] at this
end
end Go.Sep
/- A statement's post-condition, where nothing that was there has turned; the table of the kinds, as the door lays it. -/
namespace Go.Sep
open Go Go.Proofs Go.ChangeShapes Go.WideShapes Go.ChangeAt Go.RowKit Go.WideElems
section
variable {H : Type} {enc : TypeId × Value → H} {P : Program}
theorem trodAll_stays (hlo : laidOutB P = true) {W W' : World} {sp' : Nat → Bool} : ∀ {ts : List TypeId} {vs : List Value} {ds : List (DataW H)} {ps : List MemPlace},
    (∀ t ∈ ts, P.readableRec t = true ∧ t < P.types.size) → DataW.TrodAll enc P W 0 (fun _ => true) true ts vs ds ps → (∀ p ∈ ps, W.sameAt W' p) → (∀ p ∈ ps, sp' p.block = true) → DataW.TrodAll enc P W' 0 sp' true ts vs ds ps
  | [], [], [], ps, _, h, _, _ => h
  | t :: ts, v :: vs, d :: ds, ps, ht, ⟨p, q, h1, h2, e⟩, hs, hb => by
    subst e
    have h0 := ht t List.mem_cons_self
    exact ⟨p, q, Trod_stays hlo h0.1 h0.2 h1 (fun x hx => hs x (List.mem_append_left _ hx)) (fun x hx => hb x (List.mem_append_left _ hx)),
      trodAll_stays hlo (fun u hu => ht u (List.mem_cons_of_mem _ hu)) h2 (fun x hx => hs x (List.mem_append_right _ hx)) (fun x hx => hb x (List.mem_append_right _ hx)), rfl⟩
  | [], [], _ :: _, _, _, h, _, _ => h.elim
  | [], _ :: _, _, _, _, h, _, _ => h.elim
  | _ :: _, [], _, _, _, h, _, _ => h.elim
  | _ :: _, _ :: _, [], _, _, h, _, _ => h.elim
theorem trodAll_len {W : World} {b : Nat} {sp : Nat → Bool} {hd : Bool} : ∀ {ts : List TypeId} {vs : List Value} {ds : List (DataW H)} {ps : List MemPlace}, DataW.TrodAll enc P W b sp hd ts vs ds ps → ds.length = ts.length ∧ vs.length = ts.length
  | [], [], [], _, _ => ⟨rfl, rfl⟩
  | _ :: _, _ :: _, _ :: _, _, ⟨_, _, _, h2, _⟩ => by have := trodAll_len h2; exact ⟨congrArg (· + 1) this.1, congrArg (· + 1) this.2⟩
  | [], [], _ :: _, _, h => h.elim
  | [], _ :: _, _, _, h => h.elim
  | _ :: _, [], _, _, h => h.elim
  | _ :: _, _ :: _, [], _, h => h.elim
theorem post_true (hlo : laidOutB P = true) {f : Func} {s : ChangeSpec} {apart fresh handsOn : Bool} {W W' : World} {args : Array Value} {ds : List (DataW H)} {before : List MemPlace} {tb : TypeId}
    (hW : DataW.Whole enc P f.params.toList s.vars apart W args.toList ds [] before) (hvars : s.vars = []) (hfn : (s.fn H ds).results = [.lit (.bool true)] ∧ (s.fn H ds).args = ds ∧ (s.fn H ds).vars = []) (hres : f.resultTypes = #[tb]) (htb : P.underlying tb = some .bool)
    (ht : ∀ t ∈ f.params.toList, P.readableRec t = true ∧ t < P.types.size) (hb : Below W.heap.size W W') : s.post enc P f apart fresh handsOn false W args (.bool true) W' := by
  have hlt := hW.lt
  obtain ⟨p, q, hA, hV, hpq, _⟩ := id hW
  rw [hvars] at hV
  have hq : q = [] := hV
  subst hq
  rw [List.append_nil] at hpq
  subst hpq
  have hfn1 : (s.fn H (ds ++ [])).results = [.lit (.bool true)] := by rw [List.append_nil]; exact hfn.1
  have hfn2 : (s.fn H (ds ++ [])).args = ds := by rw [List.append_nil]; exact hfn.2.1
  have hfn3 : (s.fn H (ds ++ [])).vars = [] := by rw [List.append_nil]; exact hfn.2.2
  refine ⟨ds, [], before, [], before, [], hW, ?_, ?_, ?_, World.keptBut_mono (fun x hx => ⟨hx, .inr (.inl hx)⟩) (hb.frame (· ∈ before)), fun h => by cases h⟩
  · rw [hfn1, hres]
    exact trodAll_mk1 ⟨1, by simp [DataW.trod, Value.cells, htb]⟩
  · rw [hfn2]
    exact trodAll_stays hlo ht hA (fun x hx => hb.same (hlt x hx)) (fun x hx => by simpa using hlt x hx)
  · rw [hfn3, hvars]; rfl
end
section
variable {H : Type} {enc : TypeId × Value → H} {P : Program} {W : World} {base : Nat} {t : TypeId} {v : Value} {d : DataW H} {ps : List MemPlace}
theorem arg_one (ht : (∃ k, P.underlying t = some (.int k)) ∨ P.underlying t = some .bool ∨ ∃ e, P.underlying t = some (.slice e)) (hok : Value.okWide P W .any base t v) : v.cells = #[v] := by
  cases v with
  | agg cs =>
    exfalso
    rcases ht with ⟨k, ht⟩ | ht | ⟨e, ht⟩ <;> simp [Value.okWide, Cell.okWide, Cell.ok, ht] at hok
  | _ => rfl
theorem arg_int {k : IntKind} (ht : P.underlying t = some (.int k)) (hok : Value.okWide P W .any base t v) (h : DataW.Trod enc P W 0 (fun _ => true) true t v d ps) : ∃ n, v = .int k n ∧ (Lit.int k n).wf = true := by
  obtain ⟨n, h1, h2⟩ := Lay.of_Trod (l := .int k) ht h
  refine ⟨n, ?_, h2⟩
  rw [arg_one (by simp [ht]) hok] at h1
  simpa using h1
theorem arg_bool (ht : P.underlying t = some .bool) (hok : Value.okWide P W .any base t v) (h : DataW.Trod enc P W 0 (fun _ => true) true t v d ps) : ∃ b, v = .bool b := by
  obtain ⟨n, h1⟩ := Lay.of_Trod (l := .bool) ht h
  refine ⟨n, ?_⟩
  rw [arg_one (by simp [ht]) hok] at h1
  simpa using h1
theorem arg_slice {e : TypeId} {l : Lay} (ht : P.underlying t = some (.slice e)) (hc : P.cellsOf e = l.cells) (hl : l.is P (some e) 0 []) (hok : Value.okWide P W .any base t v) (h : DataW.Trod enc P W 0 (fun _ => true) true t v d ps) : (Lay.slice l).rd W [v] := by
  have h1 := Lay.of_Trod (l := .slice l) ⟨e, ht, hc, hl⟩ h
  rw [arg_one (by simp [ht]) hok] at h1
  exact h1
theorem arg_struct {fs : Array Field} {l : Lay} (ht : P.underlying t = some (.struct fs)) (hl : l.is P (some t) 0 []) (hok : Value.okWide P W .any base t v) (h : DataW.Trod enc P W 0 (fun _ => true) true t v d ps) : ∃ cs : List Value, v = .agg cs.toArray ∧ l.rd W cs := by
  have h1 := Lay.of_Trod hl h
  unfold Value.okWide at hok
  rw [ht] at hok
  obtain ⟨cs, rfl, _⟩ := hok
  exact ⟨cs.toList, rfl, h1⟩
theorem arg_bytes {e : TypeId} (ht : P.underlying t = some (.slice e)) (he : P.underlying e = some (.int .u8)) (hc : P.cellsOf e = 1) (hok : Value.okWide P W .any base t v) (h : DataW.Trod enc P W 0 (fun _ => true) true t v d ps) : ∃ bs, RdC W v bs :=
  rd_bytes (arg_slice (l := .int .u8) ht hc he hok h)
theorem rd_cons {h r : Lay} {cs : List Value} (x : (Lay.cons h r).rd W cs) : ∃ c1 c2, cs = c1 ++ c2 ∧ h.rd W c1 ∧ r.rd W c2 := let ⟨c1, c2, e, _, a, b⟩ := x; ⟨c1, c2, e, a, b⟩
end
abbrev layGeo : Lay := .cons (.int .i64) (.cons (.int .i64) (.cons (.int .i64) .nil))
theorem rd_geo {W : World} {cs : List Value} (h : layGeo.rd W cs) : ∃ e f s : Int, cs = [int e, int f, int s] := by
  obtain ⟨_, _, rfl, ⟨e, rfl, _⟩, h1⟩ := rd_cons h
  obtain ⟨_, _, rfl, ⟨f, rfl, _⟩, h2⟩ := rd_cons h1
  obtain ⟨_, _, rfl, ⟨s, rfl, _⟩, h3⟩ := rd_cons h2
  obtain rfl : _ = [] := h3
  exact ⟨e, f, s, rfl⟩
set_option maxRecDepth 100000 in
theorem geo_is : layGeo.is Tryz.prog (some 23) 0 [] :=
  Lay.isT Tryz.underlying23 rfl rfl (by kernel_rfl) (Lay.isI Tryz.underlying3) rfl (Lay.isF rfl (by kernel_rfl) (Lay.isI Tryz.underlying3) rfl (Lay.isF rfl (by kernel_rfl) (Lay.isI Tryz.underlying3) rfl Lay.isN)) (by kernel_rfl)
set_option maxRecDepth 100000 in
theorem arg_geo {H : Type} {enc : TypeId × Value → H} {W : World} {base : Nat} {v : Value} {d : DataW H} {ps : List MemPlace} (hok : Value.okWide Tryz.prog W .any base 23 v) (h : DataW.Trod enc Tryz.prog W 0 (fun _ => true) true 23 v d ps) : ∃ e f s : Int, v = geoV e f s := by
  have h0 := arg_struct (l := layGeo) Tryz.underlying23 geo_is hok h
  obtain ⟨cs, hv, h1⟩ := h0
  obtain ⟨e, f, s, hcs⟩ := rd_geo h1
  exact ⟨e, f, s, by rw [hv, hcs]⟩
/-- The table, as the door lays it, is there to be read. -/
def rowsT : List (List Int) := [[0, 0, 0, 0], [7, 3, 1, 0], [8, 3, 1, 0], [9, 4, 1, 1], [10, 4, 1, 2], [11, 4, 1, 3], [12, 5, 2, 0], [13, 5, 2, 0], [14, 6, 2, 0], [15, 6, 2, 0], [16, 7, 2, 0]]
theorem gRows : Tryz.prog.globalNamed "keepsake/geo.rows" = some 1 := by kernel_rfl
theorem inG_mem {W : World} (h : laidMetH Tryz.prog [("keepsake/geo.rows", YtbpilaghemkdjaaGreatDoor.Rows.laid_keepsake_geo_rows)] W) : InG [memHP W] := by
  rw [MakeChecks.laidMetH_plain _ _ _ (by kernel_rfl)] at h
  obtain ⟨ps, ⟨g0, t0, cs0, f0, p0, q0, hg0, ht0, hv0, hd0, _, hps⟩, _, hcell⟩ := h
  obtain rfl := Option.some.inj (gRows.symm.trans hg0)
  have tR : (Tryz.prog.globals[1]?).map (·.type) = some 184 := by kernel_rfl
  obtain rfl := Option.some.inj (tR.symm.trans ht0)
  have hcs := trod_ints2 (nss := rowsT) Tryz.underlying184 Tryz.underlying167 Tryz.underlying3 (by kernel_rfl) (by kernel_rfl) (by kernel_rfl) hd0
  have hl : cs0.size = 44 := by rw [← Array.length_toList, hcs]; rfl
  obtain ⟨⟨c, t, hc⟩, _⟩ := hcell 1 0 (by rw [hps, hl]; exact List.mem_append_left _ (List.mem_append_left _ (List.mem_map.2 ⟨0, by simp, rfl⟩)))
  have hv := hv0
  unfold World.var? at hv
  rw [gRows, Option.bind_some, hc] at hv
  obtain rfl : c = cs0 := by simpa using hv
  exact ⟨t, [], mem_arr hc hcs⟩
end Go.Sep
/- Tears among the arguments. -/
namespace Go.Sep
open Go Go.Proofs Go.ChangeShapes Go.WideShapes Go.ChangeAt Go.RowKit Go.WideElems
theorem add_none (b o i : Nat) : Addr.add ⟨b, o, none⟩ i = ⟨b, o + i, none⟩ := by simp [Addr.add]
/-- Elements of several cells each, one by one. -/
theorem rd_elems {α : Type} {W : World} {l : Lay} {v : Value} {p : α → List Value → Prop} (hz : l.cells ≠ 0) (h : (Lay.slice l).rd W [v]) (hp : ∀ cs, l.rd W cs → ∃ x, p x cs ∧ cs.length = l.cells) :
    ∃ xs : List α, ∃ q cap, v = .slice q xs.length cap ∧ xs.length ≤ cap ∧ cap ≤ maxLen ∧ (xs = [] ∨ ∃ b o, q = some ⟨b, o, none⟩ ∧ ∀ (i : Nat) (x : α), xs[i]? = some x → ∃ cs, p x cs ∧ ∀ j u, cs[j]? = some u → W.cell? ⟨b, o + i * l.cells + j, none⟩ = some u) := by
  rcases h with h | ⟨a, len, cap, h, h1, h2, h3⟩
  · obtain rfl : v = .slice none 0 0 := by simpa using h
    exact ⟨[], none, 0, rfl, Nat.le_refl _, by decide, .inl rfl⟩
  · obtain rfl : v = .slice (some a) len cap := by simpa using h
    obtain ⟨xs, hl, hx⟩ := choose_list (p := fun i (x : α) => ∃ cs, p x cs ∧ cs.length = l.cells ∧ ∀ j u, cs[j]? = some u → W.cell? ((a.add (i * l.cells)).add j) = some u) len fun i hi => by
      obtain ⟨cs, g1, g2⟩ := h3 i hi
      obtain ⟨x, g3, g4⟩ := hp cs g2
      obtain ⟨_, _, g5⟩ := World.cells?_some g1
      refine ⟨x, cs, g3, g4, fun j u hu => ?_⟩
      have hj : j < cs.length := (List.getElem?_eq_some_iff.1 hu).1
      rw [g5 j (by omega), hu]
    subst hl
    refine ⟨xs, some a, cap, rfl, h1, h2, ?_⟩
    cases xs with
    | nil => exact .inl rfl
    | cons x r =>
      right
      obtain ⟨cs0, _, hl0, h0⟩ := hx 0 x rfl
      have h00 := h0 0 (cs0[0]'(by omega)) (List.getElem?_eq_getElem _)
      have hs := World.cell?_spot h00
      obtain ⟨b, o, s⟩ := a
      have hs' : s = none := by simpa [Addr.add] using hs
      subst hs'
      refine ⟨b, o, rfl, fun i y hy => ?_⟩
      obtain ⟨cs, g1, _, g2⟩ := hx i y hy
      refine ⟨cs, g1, fun j u hu => ?_⟩
      have := g2 j u hu
      rwa [add_none, add_none] at this
abbrev layTear : Lay := .cons (.int .i64) (.cons (.slice (.int .u8)) .nil)
def RdTC (W : World) (v : Value) (ts : List TearN) : Prop :=
  ∃ p cap, v = .slice p ts.length cap ∧ ts.length ≤ cap ∧ (ts = [] ∨ ∃ b o, p = some ⟨b, o, none⟩ ∧ ∀ (i : Nat) (t : TearN), ts[i]? = some t → ∃ u, (∀ j x, ([int t.kind, u] : List Value)[j]? = some x → W.cell? ⟨b, o + i * 2 + j, none⟩ = some x) ∧ RdC W u t.bytes)
theorem rd_tears {W : World} {v : Value} (h : (Lay.slice layTear).rd W [v]) : ∃ ts, RdTC W v ts ∧ ts.length ≤ 9223372036854775807 := by
  obtain ⟨ts, q, cap, rfl, h1, h2, h3⟩ := rd_elems (p := fun (t : TearN) cs => ∃ u, cs = [int t.kind, u] ∧ RdC W u t.bytes) (by decide) h fun cs hc => by
    obtain ⟨_, _, rfl, ⟨k, rfl, _⟩, h1⟩ := rd_cons hc
    obtain ⟨c1, _, rfl, h2, h3⟩ := rd_cons h1
    obtain rfl : _ = [] := h3
    obtain ⟨u, rfl⟩ : ∃ u, c1 = [u] := by
      rcases h2 with e | ⟨_, _, _, e, _⟩ <;> exact ⟨_, e⟩
    obtain ⟨bs, hb⟩ := rd_bytes h2
    exact ⟨⟨k, bs⟩, ⟨u, rfl, hb⟩, rfl⟩
  refine ⟨ts, ⟨q, cap, rfl, h1, h3.imp id ?_⟩, Nat.le_trans h1 (Nat.le_trans h2 (by decide))⟩
  rintro ⟨b, o, rfl, h4⟩
  refine ⟨b, o, rfl, fun i t ht => ?_⟩
  obtain ⟨cs, ⟨u, rfl, hb⟩, hc⟩ := h4 i t ht
  exact ⟨u, hc, hb⟩
theorem RdT.ofC {σ : Sig} {W : World} {v : Value} {ts : List TearN} (h : RdTC W v ts) : RdT σ [memHP W] v ts := by
  obtain ⟨p, cap, rfl, h1, h2⟩ := h
  refine ⟨p, cap, rfl, h1, h2.imp id ?_⟩
  rintro ⟨b, o, rfl, h3⟩
  refine ⟨b, o, rfl, fun i t ht => ?_⟩
  obtain ⟨u, hc, hu⟩ := h3 i t ht
  have hr := RdS.ofC (σ := σ) hu
  obtain ⟨q, c, rfl, h4, _⟩ := hu
  exact ⟨q, c, h4, fun w s j x hx => mem_cell s (by have := hc j x hx; rwa [Int.toNat_natCast]), hr⟩
section
variable {H : Type} {enc : TypeId × Value → H} {W : World} {base : Nat} {v : Value} {d : DataW H} {ps : List MemPlace}
set_option maxRecDepth 100000 in
theorem arg_u8 (hok : Value.okWide Tryz.prog W .any base 5 v) (h : DataW.Trod enc Tryz.prog W 0 (fun _ => true) true 5 v d ps) : ∃ x : UInt8, v = .int .u8 x.toNat := by
  obtain ⟨n, rfl, h1⟩ := arg_int Tryz.underlying5 hok h
  exact byte_of h1
set_option maxRecDepth 100000 in
theorem arg_u64 (hok : Value.okWide Tryz.prog W .any base 34 v) (h : DataW.Trod enc Tryz.prog W 0 (fun _ => true) true 34 v d ps) : ∃ n : Int, v = .int .u64 n ∧ 0 ≤ n ∧ n < 18446744073709551616 := by
  obtain ⟨n, rfl, h1⟩ := arg_int Tryz.underlying34 hok h
  have := bounds_u64 h1
  exact ⟨n, rfl, by omega, by omega⟩
set_option maxRecDepth 100000 in
theorem arg_b (hok : Value.okWide Tryz.prog W .any base 4 v) (h : DataW.Trod enc Tryz.prog W 0 (fun _ => true) true 4 v d ps) : ∃ b, v = .bool b := arg_bool Tryz.underlying4 hok h
set_option maxRecDepth 100000 in
theorem arg_bs (hok : Value.okWide Tryz.prog W .any base 35 v) (h : DataW.Trod enc Tryz.prog W 0 (fun _ => true) true 35 v d ps) : ∃ bs, RdC W v bs := arg_bytes Tryz.underlying35 Tryz.underlying5 (by kernel_rfl) hok h
end
set_option maxRecDepth 100000 in
theorem tear_is : layTear.is Tryz.prog (some 100) 0 [] :=
  Lay.isT Tryz.underlying100 rfl rfl (by kernel_rfl) (Lay.isI Tryz.underlying3) rfl (Lay.isF rfl (by kernel_rfl) (Lay.isS Tryz.underlying35 (by kernel_rfl) (Lay.isI Tryz.underlying5)) rfl Lay.isN) (by kernel_rfl)
set_option maxRecDepth 100000 in
theorem arg_tears {H : Type} {enc : TypeId × Value → H} {W : World} {base : Nat} {v : Value} {d : DataW H} {ps : List MemPlace} (hok : Value.okWide Tryz.prog W .any base 36 v) (h : DataW.Trod enc Tryz.prog W 0 (fun _ => true) true 36 v d ps) : ∃ ts, RdTC W v ts ∧ ts.length ≤ 9223372036854775807 :=
  rd_tears (arg_slice (l := layTear) Tryz.underlying36 (by kernel_rfl) tear_is hok h)
end Go.Sep
/- A slice of slices of bytes among the arguments. -/
namespace Go.Sep
open Go Go.Proofs
attribute [local irreducible] JO JC JE JA JQ JB JI Mid Inv Weak ownS Ru Do Fn Sat Pick Take arr pt star ex Holds bodyPost Post Exit.then Exit.inBlock Res
variable {σ : Sig} {F : List HP}
def RdB (σ : Sig) (l : List HP) (v : Value) (bss : List (List UInt8)) : Prop :=
  ∃ p cap, v = .slice p bss.length cap ∧ bss.length ≤ cap ∧ (bss = [] ∨ ∃ b o, p = some ⟨b, o, none⟩ ∧ ∀ (i : Nat) (bs : List UInt8), bss[i]? = some bs → ∃ q c,
    (∀ w, Sat σ w l → w.cell? ⟨b, o + i * 1, none⟩ = some (.slice q bs.length c)) ∧ RdS σ l (.slice q bs.length c) (bs.map byte))
end Go.Sep
/- Slices of bytes among the arguments. -/
namespace Go.Sep
open Go Go.Proofs Go.ChangeShapes Go.WideShapes Go.ChangeAt Go.RowKit Go.WideElems
def RdBC (W : World) (v : Value) (bss : List (List UInt8)) : Prop :=
  ∃ p cap, v = .slice p bss.length cap ∧ bss.length ≤ cap ∧ (bss = [] ∨ ∃ b o, p = some ⟨b, o, none⟩ ∧ ∀ (i : Nat) (bs : List UInt8), bss[i]? = some bs → ∃ u, W.cell? ⟨b, o + i * 1, none⟩ = some u ∧ RdC W u bs)
theorem rd_bss {W : World} {v : Value} (h : (Lay.slice (.slice (.int .u8))).rd W [v]) : ∃ bss, RdBC W v bss := by
  obtain ⟨ts, q, cap, rfl, h1, h2, h3⟩ := rd_elems (p := fun (bs : List UInt8) cs => ∃ u, cs = [u] ∧ RdC W u bs) (by decide) h fun cs hc => by
    obtain ⟨u, rfl⟩ : ∃ u, cs = [u] := by
      rcases hc with e | ⟨_, _, _, e, _⟩ <;> exact ⟨_, e⟩
    obtain ⟨bs, hb⟩ := rd_bytes hc
    exact ⟨bs, ⟨u, rfl, hb⟩, rfl⟩
  refine ⟨ts, q, cap, rfl, h1, h3.imp id ?_⟩
  rintro ⟨b, o, rfl, h4⟩
  refine ⟨b, o, rfl, fun i t ht => ?_⟩
  obtain ⟨cs, ⟨u, rfl, hb⟩, hc⟩ := h4 i t ht
  exact ⟨u, hc 0 u rfl, hb⟩
theorem RdB.ofC {σ : Sig} {W : World} {v : Value} {bss : List (List UInt8)} (h : RdBC W v bss) : RdB σ [memHP W] v bss := by
  obtain ⟨p, cap, rfl, h1, h2⟩ := h
  refine ⟨p, cap, rfl, h1, h2.imp id ?_⟩
  rintro ⟨b, o, rfl, h3⟩
  refine ⟨b, o, rfl, fun i t ht => ?_⟩
  obtain ⟨u, hc, hu⟩ := h3 i t ht
  have hr := RdS.ofC (σ := σ) hu
  obtain ⟨q, c, rfl, h4, _⟩ := hu
  exact ⟨q, c, fun w s => mem_cell s hc, hr⟩
set_option maxRecDepth 100000 in
theorem arg_bss {H : Type} {enc : TypeId × Value → H} {W : World} {base : Nat} {v : Value} {d : DataW H} {ps : List MemPlace} (hok : Value.okWide Tryz.prog W .any base 56 v) (h : DataW.Trod enc Tryz.prog W 0 (fun _ => true) true 56 v d ps) : ∃ bss, RdBC W v bss :=
  rd_bss (arg_slice (l := .slice (.int .u8)) Tryz.underlying56 (by kernel_rfl) (Lay.isS Tryz.underlying35 (by kernel_rfl) (Lay.isI Tryz.underlying5)) hok h)
end Go.Sep
/- What all cards of this seat lean on: the door's own heap meets the condition. -/
namespace Go.Proofs.YtbpilaghemkdjaaGreatDoor
open Go Go.Sep Go.ChangeShapes Go.WideShapes Go.ChangeAt Go.WideMaps Go.WideElems Go.RowKit
theorem own0 : ownKnob Tryz.prog.godebug = none := by kernel_rfl
theorem lo0 : laidOutB Tryz.prog = true := by kernel_rfl
theorem door0 (os : Os) (args : Array Value) : laidMetH Tryz.prog [("keepsake/geo.rows", Rows.laid_keepsake_geo_rows)] ((World.doorLaid Tryz.prog 25 os).forCall (fun _ _ => 0) ⟨#[], args, []⟩).memory :=
  laidMetH_of_parts3 (fuel := 8) (laidMet_of_run' 8 (by kernel_rfl) (by kernel_rfl)) (by kernel_rfl) (by kernel_rfl)
end Go.Proofs.YtbpilaghemkdjaaGreatDoor
