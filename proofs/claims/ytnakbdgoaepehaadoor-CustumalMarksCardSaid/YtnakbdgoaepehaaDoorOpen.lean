/- Arrays of bytes among a law's parameters: opened to 'bv'. -/
import Derived.Test.YtnakbdgoaepehaaDoorArr
import Derived.ProofKit
import Derived.OpenShut
namespace Go.Cu
open Go Go.RowKit Go.ChangeShapes Go.WideShapes
section
variable {H : Type} {enc : TypeId × Value → H} {P : Program} {w : World} {base : Nat} {spare : Nat → Bool} {held : Bool}

theorem cells_bv : ∀ (cs : List Value), (∀ c ∈ cs, ∃ a : Int, c = .int .u8 a ∧ (Lit.int .u8 a).wf = true) → ∃ l : List UInt8, cs = l.map fun b => Value.int .u8 (b.toNat : Int)
  | [], _ => ⟨[], rfl⟩
  | c :: cs, h => by
    obtain ⟨a, rfl, ha⟩ := h c (by simp)
    obtain ⟨l, rfl⟩ := cells_bv cs (fun x hx => h x (by simp [hx]))
    have hb := bounds_u8 ha
    refine ⟨UInt8.ofNat a.toNat :: l, ?_⟩
    have : ((UInt8.ofNat a.toNat).toNat : Int) = a := by
      rw [UInt8.toNat_ofNat', Nat.mod_eq_of_lt (by omega)]
      omega
    rw [List.map_cons, this]

theorem open_bytes {r : Reach} {b0 : Nat} {t e : TypeId} {n : Nat} {v : Value} {d : DataW H} {p : List MemPlace} (ht : P.underlying t = some (.array n e)) (he : P.underlying e = some (.int .u8)) (hc : P.cellsOf e = 1) (hC : P.cellsOf t = n)
    (hv : Value.okWide P w r b0 t v) (h : DataW.Trod enc P w base spare held t v d p) : ∃ l : List UInt8, l.length = n ∧ v = .agg (bv l) := by
  simp only [Value.okWide, ht] at hv
  obtain ⟨cs, rfl, hsz, _⟩ := hv
  obtain ⟨fuel, hf⟩ := h
  obtain ⟨xs, m, _, _, _, hl, hel⟩ := DataW.trod_array ht hf
  rw [hC] at hsz
  have hall : ∀ c ∈ cs.toList, ∃ a : Int, c = .int .u8 a ∧ (Lit.int .u8 a).wf = true := by
    intro c hcm
    obtain ⟨i, hi, rfl⟩ := List.mem_iff_getElem.1 hcm
    have hin : i < n := by simpa [hsz] using hi
    have h1 := hel i hin
    rw [hc] at h1
    have h2 : (cs.toList.drop (i * 1)).take 1 = [cs.toList[i]] := by
      rw [Nat.mul_one, List.drop_eq_getElem_cons hi]
      rfl
    have hx : xs[i]? = some (xs[i]'(by omega)) := List.getElem?_eq_getElem (by omega)
    rw [show (Value.agg cs).cells.toList = cs.toList from rfl, h2, hx] at h1
    obtain ⟨a, e1, _, wa⟩ := DataW.trod_int he h1
    exact ⟨a, by simpa using e1, wa⟩
  obtain ⟨l, hl'⟩ := cells_bv cs.toList hall
  refine ⟨l, ?_, ?_⟩
  · have := congrArg List.length hl'
    simp only [Array.length_toList, List.length_map] at this
    omega
  · have : cs = bv l := by
      apply Array.ext'
      rw [hl', bv_toList]
    rw [this]
end
end Go.Cu
