/- What the listed tables say of memory. -/
import Derived.Test.YtnakbdgoaepehaaDoorRows
import Derived.Test.YtnakbdgoaepehaaDoorShaPress
import Derived.OpenShut
import Derived.LaidLaws
import Derived.LaidMore
import Derived.MakeChecks
namespace Go.Proofs.YtnakbdgoaepehaaDoor
open Go.ChangeShapes Go.WideShapes Go.ChangeAt Go.RowKit Go.Cu
theorem gStart : Tryd.prog.globalNamed "custumal/sha2.start" = some 1 := by kernel_rfl
theorem gRounds : Tryd.prog.globalNamed "custumal/sha2.rounds" = some 3 := by kernel_rfl
theorem gtStart : (Tryd.prog.globals[1]?).map (·.type) = some 109 := by kernel_rfl
theorem gtRounds : (Tryd.prog.globals[3]?).map (·.type) = some 123 := by kernel_rfl
/-- An array of words that reads as these. -/
theorem words_cells {H : Type} {enc : TypeId × Value → H} {P : Program} {w : World} {base : Nat} {sp : Nat → Bool} {held : Bool} {fuel t e n : Nat} {cs : List Value} {l : List UInt32} {p : List MemPlace}
    (ht : P.underlying t = some (.array n e)) (he : P.underlying e = some (.int .u32)) (hc : P.cellsOf e = 1) (hct : P.cellsOf t = n) (hl : l.length = n)
    (h : DataW.trod enc P w base sp held fuel t cs = some (.agg (l.map fun x => .lit (.int .u32 x.toNat)), p)) : cs = l.map fun x => Value.int .u32 x.toNat := by
  obtain ⟨xs, m, rfl, hx, hlen, hn, hel⟩ := DataW.trod_array ht h
  rw [hc] at hel
  rw [hct] at hlen
  simp only [Prod.mk.injEq, DataW.agg.injEq] at hx
  apply List.ext_getElem?
  intro i
  by_cases hi : i < n
  · have h1 := hel i hi
    have hxi : i < xs.length := by omega
    rw [List.getElem?_eq_getElem hxi] at h1
    obtain ⟨k, e1, e2, _⟩ := DataW.trod_int he h1
    have hcs : i < cs.length := by omega
    have e3 : (cs.drop (i * 1)).take 1 = [cs[i]] := by
      rw [Nat.mul_one, List.drop_eq_getElem_cons hcs, List.take_succ_cons, List.take_zero]
    rw [e3] at e1
    have hli : i < l.length := by omega
    have e4 : (xs.map (·.1))[i]? = (l.map fun x => DataW.lit (H := H) (.int .u32 x.toNat))[i]? := by rw [hx.1]
    rw [List.getElem?_map, List.getElem?_map, List.getElem?_eq_getElem hxi, List.getElem?_eq_getElem hli, e2] at e4
    simp only [Option.map_some, Option.some.injEq, DataW.lit.injEq, Lit.int.injEq, true_and] at e4
    rw [List.getElem?_map, List.getElem?_eq_getElem hcs, List.getElem?_eq_getElem hli]
    simp only [List.cons.injEq, and_true] at e1
    rw [e1, e4]
    rfl
  · rw [List.getElem?_eq_none (by omega), List.getElem?_eq_none (by simp; omega)]
set_option maxRecDepth 20000 in
theorem start_datum : (Rows.laid_custumal_sha2_start : DataW Unit) = .agg (startL.map fun x => .lit (.int .u32 x.toNat)) := by rfl
set_option maxRecDepth 20000 in
theorem rounds_datum : (Rows.laid_custumal_sha2_rounds : DataW Unit) = .agg (roundsL.map fun x => .lit (.int .u32 x.toNat)) := by rfl
theorem var_block {P : Program} {W : World} {name : String} {cs : Array Value} {g : Nat} (hg : P.globalNamed name = some g) (h : W.var? P name = some cs) : ∃ t f, W.heap[g]? = some (.cells cs t f) := by
  unfold World.var? at h
  rw [hg] at h
  simp only [Option.bind_some] at h
  split at h
  · rename_i cs' t f hh
    cases h
    exact ⟨t, f, hh⟩
  · cases h
/-- The tables lie where the program looks for them. -/
theorem glob_of_laid {W : World} (h : laidMetH Tryd.prog [("custumal/sha2.start", Rows.laid_custumal_sha2_start), ("custumal/sha2.rounds", Rows.laid_custumal_sha2_rounds)] W) : Glob W := by
  rw [MakeChecks.laidMetH_plain _ _ _ (by kernel_rfl)] at h
  obtain ⟨ps, ⟨g0, t0, cs0, f0, p0, q0, hg0, ht0, hv0, hd0, ⟨g1, t1, cs1, f1, p1, q1, hg1, ht1, hv1, hd1, _, _⟩, _⟩, _, _⟩ := h
  obtain rfl := Option.some.inj (gStart.symm.trans hg0)
  obtain rfl := Option.some.inj (gRounds.symm.trans hg1)
  obtain rfl := Option.some.inj (gtStart.symm.trans ht0)
  obtain rfl := Option.some.inj (gtRounds.symm.trans ht1)
  have hd0' := hd0
  have hd1' := hd1
  rw [start_datum] at hd0'
  rw [rounds_datum] at hd1'
  have c0 := words_cells Tryd.underlying109 Tryd.underlying108 (by kernel_rfl) (by kernel_rfl) startL_len hd0'
  have c1 := words_cells Tryd.underlying123 Tryd.underlying108 (by kernel_rfl) (by kernel_rfl) roundsL_len hd1'
  obtain ⟨a0, b0, h0⟩ := var_block gStart hv0
  obtain ⟨a1, b1, h1⟩ := var_block gRounds hv1
  refine ⟨a0, b0, a1, b1, ?_, ?_⟩
  · rw [h0]
    congr 2
    obtain ⟨l⟩ := cs0
    exact congrArg List.toArray c0
  · rw [h1]
    congr 2
    obtain ⟨l⟩ := cs1
    exact congrArg List.toArray c1
end Go.Proofs.YtnakbdgoaepehaaDoor
