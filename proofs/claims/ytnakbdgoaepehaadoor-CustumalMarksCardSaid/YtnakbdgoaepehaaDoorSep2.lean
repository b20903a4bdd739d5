/- Slices that grow, side by side with other things. -/
import Derived.Test.YtnakbdgoaepehaaDoorSep
import Derived.Test.YtnakbdgoaepehaaDoorBuild
namespace Go.Cu
open Go Go.RowKit
section
variable {W0 W W' : World} {L : List Atm} {v v' : Value} {e s n n' : Nat} {xs xs' : List Value}
theorem St.grow (h : St W0 (Row v e s n xs :: L) W) (ho : W'.ownsRow 0 e s v' n' xs') (ht : Tch (fun g => v.ownBlock = some g) W W') (hb : v'.ownBlock = v.ownBlock ∨ v'.ownBlock = some W.heap.size) : St W0 (Row v' e s n' xs' :: L) W' := by
  obtain ⟨F, ha, _, hr⟩ := h.first
  refine hr _ _ ⟨fun g hg => ?_, ho⟩ (ht.mono fun i _ e => ha.1 i e)
  rcases hb with e | e
  · exact .inl (ha.1 g (e ▸ hg))
  · rw [hg] at e
    have : g = W.heap.size := Option.some.inj e
    exact .inr (by omega)
theorem St.nilRow (h : St W0 L W) (e s : Nat) : St W0 (Row (.slice none 0 0) e s 0 [] :: L) W :=
  h.push (Below.refl _ _) ⟨fun g hg => by simp [Value.ownBlock] at hg, by simp, .inl ⟨rfl, rfl⟩⟩
theorem row_slice (h : St W0 (Row v e s n xs :: L) W) : ∃ A c, v = .slice A n c ∧ n ≤ maxLen := by
  rcases h.row.2 with ⟨rfl, rfl⟩ | ⟨g, c, cur, rfl, _, _, hc, hm, _⟩
  · exact ⟨none, 0, rfl, Nat.zero_le _⟩
  · exact ⟨_, _, rfl, Nat.le_trans hc hm⟩
theorem news_box {g : Nat} {cs : Array Value} {t : TypeId} {fr : Nat × Nat} (h : W.heap[g]? = some (.cells cs t fr)) (l : List Value) (hl : cs.toList = l) : ∀ j u, l[j]? = some u → W.cell? ((⟨g, 0, none⟩ : Addr).add j) = some u := by
  intro j u hu
  have e : (⟨g, 0, none⟩ : Addr).add j = ⟨g, j, none⟩ := by unfold Addr.add; split <;> simp_all
  rw [e, cell_of_row W g j _ _ _ h]
  subst hl
  simpa using hu
end
end Go.Cu
