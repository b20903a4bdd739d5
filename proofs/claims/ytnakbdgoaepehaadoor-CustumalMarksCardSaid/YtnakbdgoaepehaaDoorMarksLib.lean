/- What the marks' walk stands on: slots that keep what they have, bytes as a text. -/
import Derived.Test.YtnakbdgoaepehaaDoorMarksNow
import Derived.Test.YtnakbdgoaepehaaDoorKeyMem
import Derived.Lib.Bytes
namespace Go.Cu
open Go Go.RowKit
theorem put_self (a : Act) (i : Tmp) : a.put (some i) (a.tmps.getD i undef) = a := by
  unfold Act.put
  simp only
  congr 1
  apply Array.ext_getElem?
  intro j
  rw [Array.getElem?_setIfInBounds]
  split
  · rename_i h
    subst h
    split
    · rename_i h
      simp [h]
    · rename_i h
      simp [Nat.le_of_not_lt h]
  · rfl
theorem exists_put4 {a : Act} {i j k l : Tmp} {R : Value → Value → Value → Value → Prop} (h : ∀ x y z u, a = (((a.put (some i) x).put (some j) y).put (some k) z).put (some l) u → R x y z u) : ∃ x y z u, R x y z u :=
  ⟨_, _, _, _, h (a.tmps.getD i undef) (a.tmps.getD j undef) (a.tmps.getD k undef) (a.tmps.getD l undef) (by rw [put_self, put_self, put_self, put_self])⟩
theorem bytes_drop {W : World} {g o : Nat} {r : List UInt8} (h : BytesIn W (some ⟨g, o, none⟩) r) (m : Nat) : BytesIn W (some ⟨g, o + m, none⟩) (r.drop m) := fun i b hi => by
  rw [List.getElem?_drop] at hi
  obtain ⟨g', o', e, hg, hc⟩ := h (m + i) b hi
  obtain ⟨rfl, rfl⟩ : g = g' ∧ o = o' := by cases e; exact ⟨rfl, rfl⟩
  exact ⟨g, o + m, rfl, hg, by rw [Nat.add_assoc]; exact hc⟩
def strB (r : List UInt8) : ByteArray := ⟨r.toArray⟩
/-- A text. -/
def sv (r : List UInt8) : Value := .string (strB r)
def numsB (l : List UInt8) : List Int := l.map fun b => (b.toNat : Int)
theorem numsB_bytes (l : List UInt8) : Lib.bytesOf (numsB l) = l := by
  unfold Lib.bytesOf numsB
  rw [List.map_map]
  conv => rhs; rw [← List.map_id l]
  refine List.map_congr_left fun b _ => ?_
  simp
theorem numsB_getD {l : List UInt8} {i : Nat} (h : i < l.length) : (numsB l).getD i 0 = ((l.getD i 0).toNat : Int) := by
  simp [numsB, List.getD, List.getElem?_eq_getElem h]
end Go.Cu
namespace Go.Proofs.YtnakbdgoaepehaaDoor
open Go.RowKit Go.Cu
/-- Bytes as a text. -/
theorem conv_bytes {W : World} {A : Option Addr} {r : List UInt8} (h : BytesIn W A r) (n c : Nat) (hn : n = r.length) : (convert 42 9 (.slice A n c)).run Tryd.prog W = .ok (sv r) W := by
  subst hn
  match r, h with
  | [], _ =>
    rw [List.length_nil, run_convert_bytes_string (P := Tryd.prog) W 42 9 5 A 0 c Tryd.underlying42 Tryd.underlying5 Tryd.underlying9]
    cases A with
    | none => simp [Conv.bytesToString]; rfl
    | some a =>
      have hl := run_loadCells_list (P := Tryd.prog) W a [] (fun j v hj => by cases hj)
      simp [Conv.bytesToString, hl] at hl ⊢
      rfl
  | b :: r, h =>
    obtain ⟨g, o, rfl, _, _⟩ := h 0 b rfl
    have h1 := run_convert_bytes_arg (P := Tryd.prog) W 42 5 Tryd.underlying42 Tryd.underlying5 g o (b :: r).length c (numsB (b :: r)) (by simp [numsB]) (fun i hi => by
      obtain ⟨g', o', e, _, hc⟩ := h i ((b :: r)[i]) (List.getElem?_eq_getElem hi)
      cases e
      rw [hc, numsB_getD hi, List.getD_eq_getElem?_getD, List.getElem?_eq_getElem hi]
      rfl) 9 Tryd.underlying9
    rw [h1]
    have : strOfNums (numsB (b :: r)) = strB (b :: r) := by
      have e := congrArg List.toArray (numsB_bytes (b :: r))
      unfold strOfNums strB
      congr 1
    rw [this]
    rfl
end Go.Proofs.YtnakbdgoaepehaaDoor
