/- A new slice of nothing, and a row that it begins; a slice of a known block appended to a row. -/
import Derived.Test.YtnakbdgoaepehaaDoorSep2
namespace Go.Cu
open Go Go.RowKit
section
variable {P : Program} {t e : TypeId}
theorem run_buildSlice0 {s : Nat} (ht : P.underlying t = some (.slice e)) (hi : (P.info? e).map (·.size) = some s) (w : World) :
    (Instr.buildSlice t 0 #[]).run P w = .ok (.slice (some ⟨w.heap.size, 0, none⟩) 0 0) (w.alloc (.cells #[] e)) := by
  unfold Instr.buildSlice
  have h1 : ¬ (0 * s > 2 ^ 24) := by omega
  have h2 : 0 * s = 0 := by omega
  simp only [Sem.run_bind, run_underlying ht, Result.andThen_ok, run_sizeOf hi]
  rw [if_neg h1, if_pos h2]
  simp only [Sem.run_bind, Sem.run_pure, Result.andThen_ok, h2, show Array.range 0 = #[] from by simp, Array.map_empty, Instr.fill]
  rfl
theorem wpList_buildSlice0 {ops : Array Oper} {rest : List Oper} {o : Oper} {a : Act} {w : World} {Q : Exit → Act → World → Prop} (ho : o.op = .buildSlice t 0 #[])
    (hw : Region.wanted o (yielded ops a.tmps) = true) {s : Nat} (ht : P.underlying t = some (.slice e)) (hi : (P.info? e).map (·.size) = some s)
    (h : ∀ (g : Nat) (W : World), W.heap[g]? = some (.cells #[] e (0, 0)) → g < W.heap.size → w.heap.size ≤ g → Below w.heap.size w W → wpList P ops Q rest (a.put o.dst (.slice (some ⟨g, 0, none⟩) 0 0)) W) : wpList P ops Q (o :: rest) a w := by
  refine wpList_wanted hw fun K hK => ?_
  have hrun : (execOp a.eval o).run P w = .ok (.value (.slice (some ⟨w.heap.size, 0, none⟩) 0 0)) (w.alloc (.cells #[] e)) := by
    unfold execOp
    simp only [ho, Array.map_empty, Sem.run_bind, run_buildSlice0 ht hi w, Result.andThen_ok, Sem.run_pure]
  unfold Oper.wp
  rw [hrun]
  exact hK _ _ (h w.heap.size _ (heap_alloc_at _ _ rfl) (by simp) (Nat.le_refl _) ((Below.refl _ _).alloc (Nat.le_refl _) _))
end
section
variable {W0 W W' : World} {L : List Atm}
theorem St.newRow0 {g e s : Nat} (h : St W0 L W) (hb : Below W.heap.size W W') (hg : W.heap.size ≤ g) (hc : W'.heap[g]? = some (.cells #[] e (0, 0))) : St W0 (Row (.slice (some ⟨g, 0, none⟩) 0 0) e s 0 [] :: L) W' :=
  h.push hb ⟨fun g' hg' => by
    have : g = g' := by simpa [Value.ownBlock] using hg'
    subst this
    exact hg, by simp, .inr ⟨g, 0, #[], rfl, Nat.zero_le _, hc, Nat.le_refl _, Nat.zero_le _, by simp, by simp⟩⟩
end
end Go.Cu
