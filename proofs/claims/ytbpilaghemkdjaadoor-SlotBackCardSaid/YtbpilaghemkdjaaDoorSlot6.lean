/- slot: what its calls answer, as functions of the disk. -/
import Derived.Test.YtbpilaghemkdjaaDoorSlot5
namespace Go.Sep
open Go Go.Proofs

/-- A slot's first sector; how many follow it. -/
def firstOf (D : DiskN) (which e f s : Int) : Int := which * spanG D.size e f s
def manyOf (D : DiskN) (e f s : Int) : Nat := (spanG D.size e f s - 1).toNat
def wipeR (D : DiskN) (which e f s : Int) : Int × DiskN :=
  if atE D which e f s ≠ 0 then (atE D which e f s, D)
  else if D.writeE (firstOf D which e f s) D.size ≠ 0 then (D.writeE (firstOf D which e f s) D.size, D.tick)
  else (0, D.put (firstOf D which e f s) (padB [] D.size))
def sealR (D : DiskN) (which e f s q : Int) (bs : List UInt8) : Int × DiskN :=
  if atE D which e f s ≠ 0 then (atE D which e f s, D)
  else if (bs.length : Int) ≠ totG e f s then (1, D)
  else if D.writeE (firstOf D which e f s) D.size ≠ 0 then (D.writeE (firstOf D which e f s) D.size, D.tick)
  else (0, D.put (firstOf D which e f s) (padB (enc (sealHead bs e f s q)) D.size))
def dataGo (first : Int) : Nat → DiskN → List (List UInt8) → Int × DiskN
  | _, D, [] => (0, D)
  | i, D, x :: r => if D.writeE (first + (1 + (i : Int))) x.length ≠ 0 then (D.writeE (first + (1 + (i : Int))) x.length, D.tick) else dataGo first (i + 1) (D.put (first + (1 + (i : Int))) x) r
def pieces (bs : List UInt8) (z n : Nat) : List (List UInt8) := (List.range n).map fun i => ((padB bs (n * z)).drop (i * z)).take z
def dataR (D : DiskN) (which e f s : Int) (bs : List UInt8) : Int × DiskN :=
  if atE D which e f s ≠ 0 then (atE D which e f s, D)
  else if (bs.length : Int) ≠ totG e f s then (1, D)
  else dataGo (firstOf D which e f s) 0 D (pieces bs D.size (secs bs.length D.size).toNat)
structure SlotN where
  (state why seq : Int)
  image : List UInt8
def SlotN.zero : SlotN := ⟨0, 0, 0, []⟩
def badK (D : DiskN) (first : Int) (many : Nat) : Option Nat := (List.range many).find? fun k => !decide (bodyE D first k = 0)
theorem badK_none {D : DiskN} {first : Int} {many : Nat} (h : ∀ j, j < many → bodyE D first j = 0) : badK D first many = none := by
  unfold badK
  rw [List.find?_eq_none]
  intro k hk
  simp [h k (List.mem_range.1 hk)]
theorem badK_some {D : DiskN} {first : Int} {many k : Nat} (hk : k < many) (h : ∀ j, j < k → bodyE D first j = 0) (h2 : bodyE D first k ≠ 0) : badK D first many = some k := by
  unfold badK
  rw [List.find?_range_eq_some]
  refine ⟨by simpa using h2, List.mem_range.2 hk, fun j hj => by simpa using h j hj⟩
theorem badK_cases (D : DiskN) (first : Int) (many : Nat) : (badK D first many = none ∧ ∀ j, j < many → bodyE D first j = 0) ∨ ∃ k, badK D first many = some k ∧ k < many ∧ (∀ j, j < k → bodyE D first j = 0) ∧ bodyE D first k ≠ 0 := by
  cases q : badK D first many with
  | none =>
    left
    refine ⟨rfl, fun j hj => ?_⟩
    unfold badK at q
    rw [List.find?_eq_none] at q
    simpa using q j (List.mem_range.2 hj)
  | some k =>
    right
    unfold badK at q
    rw [List.find?_range_eq_some] at q
    obtain ⟨h1, h2, h3⟩ := q
    exact ⟨k, rfl, List.mem_range.1 h2, fun j hj => by simpa using h3 j hj, by simpa using h1⟩
/-- What a slot whose head is right comes to. -/
def bodyR (D : DiskN) (first : Int) (many : Nat) (h : HeadN) : Int × DiskN × SlotN :=
  match badK D first many with
  | some k => (bodyE D first k, D.ticks (k + 1), .zero)
  | none =>
    if 0 ≤ h.len ∧ h.len ≤ (D.body first many).length then
      if crcSum ((D.body first many).take h.len.toNat) = h.sum then (0, D.ticks many, ⟨2, 0, h.seq, (D.body first many).take h.len.toNat⟩)
      else (0, D.ticks many, ⟨0, 8, 0, []⟩)
    else (1, D.ticks many, .zero)
def readR (D : DiskN) (which e f s : Int) : Int × DiskN × SlotN :=
  if atE D which e f s ≠ 0 then (atE D which e f s, D, .zero)
  else if D.readE (firstOf D which e f s) ≠ 0 then (D.readE (firstOf D which e f s), D.tick, .zero)
  else if decE (D.cur (firstOf D which e f s).toNat) ≠ 0 then (0, D.tick, ⟨0, decE (D.cur (firstOf D which e f s).toNat), 0, []⟩)
  else if ((decH (D.cur (firstOf D which e f s).toNat)).e = e ∧ (decH (D.cur (firstOf D which e f s).toNat)).f = f ∧ (decH (D.cur (firstOf D which e f s).toNat)).s = s) then
    bodyR D.tick (firstOf D which e f s) (manyOf D e f s) (decH (D.cur (firstOf D which e f s).toNat))
  else (0, D.tick, ⟨1, 0, 0, []⟩)
end Go.Sep
