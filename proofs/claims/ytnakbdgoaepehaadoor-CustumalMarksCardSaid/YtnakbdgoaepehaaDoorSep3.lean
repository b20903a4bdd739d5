/- More orders of what lies side by side. -/
import Derived.Test.YtnakbdgoaepehaaDoorSlice0
import Derived.Test.YtnakbdgoaepehaaDoorJourRecs
namespace Go.Cu
open Go Go.RowKit
section
variable {W0 W : World} {L : List Atm} {a b c d e f g : Atm}
theorem St.at5 (h : St W0 (a :: b :: c :: d :: e :: L) W) : St W0 (e :: a :: b :: c :: d :: L) W := h.perm (List.perm_middle (l₁ := [a, b, c, d]))
theorem St.back5 (h : St W0 (e :: a :: b :: c :: d :: L) W) : St W0 (a :: b :: c :: d :: e :: L) W := h.perm (List.perm_middle (l₁ := [a, b, c, d])).symm
theorem St.at6 (h : St W0 (a :: b :: c :: d :: e :: f :: L) W) : St W0 (f :: a :: b :: c :: d :: e :: L) W := h.perm (List.perm_middle (l₁ := [a, b, c, d, e]))
theorem St.back6 (h : St W0 (f :: a :: b :: c :: d :: e :: L) W) : St W0 (a :: b :: c :: d :: e :: f :: L) W := h.perm (List.perm_middle (l₁ := [a, b, c, d, e])).symm
theorem St.at7 (h : St W0 (a :: b :: c :: d :: e :: f :: g :: L) W) : St W0 (g :: a :: b :: c :: d :: e :: f :: L) W := h.perm (List.perm_middle (l₁ := [a, b, c, d, e, f]))
theorem St.back7 (h : St W0 (g :: a :: b :: c :: d :: e :: f :: L) W) : St W0 (a :: b :: c :: d :: e :: f :: g :: L) W := h.perm (List.perm_middle (l₁ := [a, b, c, d, e, f])).symm
theorem St.rot2 (h : St W0 (a :: b :: c :: d :: L) W) : St W0 (c :: d :: a :: b :: L) W := h.at3.at4.at2
theorem St.drop4 (h : St W0 (a :: b :: c :: d :: L) W) : St W0 (a :: b :: c :: L) W := h.at4.drop
theorem St.drop5 (h : St W0 (a :: b :: c :: d :: e :: L) W) : St W0 (a :: b :: c :: d :: L) W := h.at5.drop
/-- Things that lie in one list may be taken apart or put together at will: only the ones that are wanted. -/
theorem St.sub {M : List Atm} (h : St W0 (M ++ L) W) : St W0 L W := by
  induction M with
  | nil => exact h
  | cons a M ih => exact ih h.drop
end
end Go.Cu
