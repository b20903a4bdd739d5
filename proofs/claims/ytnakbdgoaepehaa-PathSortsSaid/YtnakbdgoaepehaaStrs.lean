/- Texts in memory. -/
import Derived.Test.YtnakbdgoaepehaaSep3
import Derived.Test.YtnakbdgoaepehaaCachePlain
namespace Go.Cu
open Go Go.RowKit
def strB (r : List UInt8) : ByteArray := ⟨r.toArray⟩
theorem strB_data (r : List UInt8) : (strB r).data.toList = r := by simp [strB]
theorem strB_size (r : List UInt8) : (strB r).size = r.length := by simp [strB, ByteArray.size]
theorem strB_inj {a b : List UInt8} (h : strB a = strB b) : a = b := by
  have := congrArg (fun x : ByteArray => x.data.toList) h
  simpa [strB_data] using this
theorem strB_of (x : ByteArray) : x = strB x.data.toList := by
  cases x with
  | mk d => simp [strB]
/-- A text. -/
def sv (r : List UInt8) : Value := .string (strB r)
theorem sv_eq (r : List UInt8) : sv r = .string (strB r) := rfl
/-- A row of texts. -/
abbrev Strs (v : Value) (rs : List (List UInt8)) : Atm := Row v 9 1 rs.length (rs.map sv)
section
variable {W0 W : World} {L : List Atm} {v : Value} {xs : List Value} {rs : List (List UInt8)}
theorem row_at {e n : Nat} (h : St W0 (Row v e 1 n xs :: L) W) {A : Option Addr} {c : Nat} (hv : v = .slice A n c) {i : Nat} {x : Value} (hx : xs[i]? = some x) : ∃ g, A = some ⟨g, 0, none⟩ ∧ W.cell? ⟨g, i, none⟩ = some x := by
  have hxl := h.row.1
  have hi : i < n := by
    rcases Nat.lt_or_ge i n with h | h
    · exact h
    · rw [List.getElem?_eq_none (by omega)] at hx; cases hx
  rcases h.row.2 with ⟨_, h0⟩ | ⟨g, c', cur, e1, _, hh, _, _, hs, ht⟩
  · omega
  · rw [hv] at e1
    injection e1 with e2 _ _
    refine ⟨g, e2, (cell_of_row W g i _ _ _ hh).trans ?_⟩
    rw [← Array.getElem?_toList]
    rw [← ht, List.getElem?_take_of_lt (by omega)] at hx
    exact hx
end
end Go.Cu
