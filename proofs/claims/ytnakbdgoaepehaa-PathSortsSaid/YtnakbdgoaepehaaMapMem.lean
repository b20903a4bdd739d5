/- A map of texts by texts, side by side with other things. -/
import Derived.Test.YtnakbdgoaepehaaCachePlain
import Derived.Test.YtnakbdgoaepehaaSep2
import Derived.Maps.OwnSet
import Derived.Maps.StringElems
namespace Go.Cu
open Go Go.RowKit
open Go.Maps (Keyed IsMap)
/-- The texts' map that is read as a datum. -/
def Reads (D : DataW Unit) (f : Str → Option Str) : Prop :=
  IsMap D ∧ ∀ k, Maps.has D (.string k) = (f k).isSome ∧ ∀ v, f k = some v → ∀ z, D.atKey (.string k) z = .lit (.string v)
theorem str_key (k : Str) : WideAt.IsKeyLit (.string k) := by trivial
theorem str_ne {k j : Str} (h : k ≠ j) : (Lit.string k) ≠ Lit.string j := fun e => h (by injection e)
theorem Reads.none : Reads (.map []) fun _ => none := ⟨⟨_, rfl⟩, fun k => ⟨rfl, fun v h => by cases h⟩⟩
theorem Reads.put {D : DataW Unit} {f : Str → Option Str} (h : Reads D f) (k v : Str) : Reads (D.put (.string k) (.lit (.string v))) fun j => if j = k then some v else f j := by
  refine ⟨?_, fun j => ?_⟩
  · obtain ⟨es, rfl⟩ := h.1
    exact ⟨_, rfl⟩
  · by_cases e : j = k
    · subst e
      dsimp only
      rw [if_pos rfl]
      exact ⟨Maps.has_put_same h.1 (str_key _) _, fun v' hv z => by cases hv; exact Maps.atKey_put_same h.1 (str_key _) _ _⟩
    · dsimp only
      rw [if_neg e]
      exact ⟨(Maps.has_put_other (str_ne e) _).trans (h.2 j).1, fun v' hv z => (Maps.atKey_put_other (str_ne e) _ _).trans ((h.2 j).2 v' hv z)⟩
theorem Reads.del {D : DataW Unit} {f : Str → Option Str} (h : Reads D f) (k : Str) : Reads (D.del (.string k)) fun j => if j = k then Option.none else f j := by
  refine ⟨?_, fun j => ?_⟩
  · obtain ⟨es, rfl⟩ := h.1
    exact ⟨_, rfl⟩
  · by_cases e : j = k
    · subst e
      dsimp only
      rw [if_pos rfl]
      exact ⟨Maps.has_del_same, fun v' hv => by cases hv⟩
    · dsimp only
      rw [if_neg e]
      exact ⟨(Maps.has_del_other (str_ne e)).trans (h.2 j).1, fun v' hv z => (Maps.atKey_del_other (str_ne e) _).trans ((h.2 j).2 v' hv z)⟩
/-- A map from texts to texts, of no more than n entries, in a block of its own. -/
def MapA (P : Program) (k e : TypeId) (b n : Nat) (f : Str → Option Str) : Atm :=
  ⟨fun F W => F b ∧ ∃ D : DataW Unit, W.ownsMap P k (plainElem P e) b n D ∧ Reads D f, fun {F W W'} ⟨hF, D, ho, hr⟩ hk => by
    refine ⟨hF, D, ?_, hr⟩
    obtain ⟨es, clock, hb, r⟩ := ho
    have hl : b < W.heap.size := (Array.getElem?_eq_some_iff.1 hb).1
    exact ⟨es, clock, (hk b hl hF).trans hb, r⟩, fun {F G W} ⟨hF, D, ho, hr⟩ hm => ⟨hm b ho.lt hF, D, ho, hr⟩⟩
section
variable {P : Program} {k e : TypeId} {W0 W W' : World} {L : List Atm} {b n : Nat} {f : Str → Option Str}
theorem St.mapA (h : St W0 (MapA P k e b n f :: L) W) : ∃ D : DataW Unit, W.ownsMap P k (plainElem P e) b n D ∧ Reads D f := by
  obtain ⟨F, ha, _, _⟩ := h.first
  exact ha.2
theorem St.mapPut {D : DataW Unit} {f' : Str → Option Str} {n' : Nat} (h : St W0 (MapA P k e b n f :: L) W) (ho : W'.ownsMap P k (plainElem P e) b n' D) (hr : Reads D f') (ht : W.grownBy W' (some b)) : St W0 (MapA P k e b n' f' :: L) W' := by
  obtain ⟨F, ha, _, hr'⟩ := h.first
  exact hr' _ _ ⟨.inl ha.1, D, ho, hr⟩ ⟨ht.os, ht.tape, ht.output, ht.size, fun i hi hF => ht.block i hi fun e => hF (by cases e; exact ha.1)⟩
theorem St.mapNew (h : St W0 L W) : St W0 (MapA P k e W.heap.size 0 (fun _ => none) :: L) (W.alloc (.map #[] 0)) :=
  h.push ((Below.refl _ _).alloc (Nat.le_refl _) _) ⟨Nat.le_refl _, .map [], World.ownsMap_made _ _ _ _, Reads.none⟩
theorem St.mapMore {n' : Nat} (h : St W0 (MapA P k e b n f :: L) W) (hn : n ≤ n') : St W0 (MapA P k e b n' f :: L) W := by
  obtain ⟨F, ha, _, hr'⟩ := h.first
  obtain ⟨hF, D, ho, hr⟩ := ha
  exact hr' _ _ ⟨.inl hF, D, ho.mono hn, hr⟩ (Tch.refl _ _)
end
end Go.Cu
