/- Things taken together, and things that are there by some name. -/
import Derived.Test.YtnakbdgoaepehaaSep
namespace Go.Cu
open Go Go.RowKit
theorem Star.cut {W : World} {L : List Atm} : ∀ {M : List Atm} {F : Nat → Prop}, Star (M ++ L) F W → ∃ G : Nat → Prop, Star M (fun g => F g ∧ G g) W ∧ Star L (fun g => F g ∧ ¬ G g) W
  | [], F, h => ⟨fun _ => False, trivial, h.mono fun _ _ hf => ⟨hf, id⟩⟩
  | a :: M, F, ⟨G1, h1, r⟩ => by
    obtain ⟨G2, r1, r2⟩ := Star.cut (M := M) r
    exact ⟨fun g => G1 g ∨ G2 g, ⟨G1, a.mono h1 fun g _ hf => ⟨⟨hf.1, .inl hf.2⟩, hf.2⟩, r1.mono fun g _ hf => ⟨⟨hf.1.1, .inr hf.2⟩, hf.1.2⟩⟩, r2.mono fun g _ hf => ⟨hf.1.1, fun h => h.elim hf.1.2 hf.2⟩⟩
theorem Star.join {W : World} {L : List Atm} : ∀ {M : List Atm} {F G : Nat → Prop}, Star M (fun g => F g ∧ G g) W → Star L (fun g => F g ∧ ¬ G g) W → Star (M ++ L) F W
  | [], F, G, _, h => h.mono fun _ _ hf => hf.1
  | a :: M, F, G, ⟨G1, h1, r1⟩, h => by
    refine ⟨fun g => G g ∧ G1 g, a.mono h1 fun g _ hf => ⟨hf.1.1, hf.1.2, hf.2⟩, Star.join (G := G) (r1.mono fun g _ hf => ?_) (h.mono fun g _ hf => ?_)⟩
    · exact ⟨⟨hf.1.1, fun x => hf.2 x.2⟩, hf.1.2⟩
    · exact ⟨⟨hf.1, fun x => hf.2 x.1⟩, hf.2⟩
/-- Things taken together. -/
def Grp (M : List Atm) : Atm := ⟨fun F W => Star M F W, fun {_ _ _} h hk => Star.keep h hk, fun {_ _ _} h hm => Star.mono h hm⟩
/-- A thing by some name. -/
def Ex {α : Type} (P : α → Atm) : Atm := ⟨fun F W => ∃ x, (P x).in_ F W, fun {_ _ _} ⟨x, h⟩ hk => ⟨x, (P x).keep h hk⟩, fun {_ _ _} ⟨x, h⟩ hm => ⟨x, (P x).mono h hm⟩⟩
/-- A fact beside. -/
def Fact (p : Prop) : Atm := ⟨fun _ _ => p, fun {_ _ _} h _ => h, fun {_ _ _} h _ => h⟩
section
variable {W0 W : World} {L M : List Atm}
theorem St.ungrp (h : St W0 (Grp M :: L) W) : St W0 (M ++ L) W := by
  obtain ⟨hb, G, h1, r⟩ := h
  exact ⟨hb, Star.join h1 r⟩
theorem St.grp (h : St W0 (M ++ L) W) : St W0 (Grp M :: L) W := by
  obtain ⟨hb, r⟩ := h
  obtain ⟨G, h1, r'⟩ := Star.cut r
  exact ⟨hb, G, h1, r'⟩
theorem St.unex {α : Type} {P : α → Atm} (h : St W0 (Ex P :: L) W) : ∃ x, St W0 (P x :: L) W := by
  obtain ⟨hb, G, ⟨x, h1⟩, r⟩ := h
  exact ⟨x, hb, G, h1, r⟩
theorem St.ex {α : Type} {P : α → Atm} (x : α) (h : St W0 (P x :: L) W) : St W0 (Ex P :: L) W := by
  obtain ⟨hb, G, h1, r⟩ := h
  exact ⟨hb, G, ⟨x, h1⟩, r⟩
theorem St.unfact {p : Prop} (h : St W0 (Fact p :: L) W) : p ∧ St W0 L W := by
  obtain ⟨F, ha, _, _⟩ := h.first
  exact ⟨ha, h.drop⟩
theorem St.fact {p : Prop} (hp : p) (h : St W0 L W) : St W0 (Fact p :: L) W := h.push (Below.refl _ _) hp
end
end Go.Cu
