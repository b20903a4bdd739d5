/- The part of a number. -/
import Derived.Test.YtnakbdgoaepehaaCacheMem
namespace Go.Proofs.Ytnakbdgoaepehaa
open Go.RowKit Go.Cu
theorem cpart_nil (i : Int) (W : World) : Calls Try.prog 34 #[.pointer none, .int .i64 i] W fun r w' => r = .returned (.pointer none) ∧ W = w' := by
  go_enter Try.func34, Try.ntmps34
  go_wp2
  go_ret
  exact ⟨rfl, rfl⟩
theorem cpart_in {W : World} {g g' n c i b : Nat} (h0 : W.cell? ⟨g, 1, none⟩ = some (.slice (some ⟨g', 0, none⟩) n c)) (hi : i < n) (h1 : W.cell? ⟨g', i, none⟩ = some (ptrV b)) :
    Calls Try.prog 34 #[ptrV g, .int .i64 i] W fun r w' => r = .returned (ptrV b) ∧ W = w' := by
  have e1 : ¬ (i : Int) < 0 := by omega
  have e2 : ¬ (n : Int) ≤ (i : Int) := by omega
  have e3 : (i : Int) < (n : Int) := by omega
  have e4 : (0 : Int) ≤ (i : Int) := by omega
  go_enter Try.func34, Try.ntmps34
  go_wp2
  go_ret
  exact ⟨rfl, rfl⟩
theorem cpart_out {W : World} {g n c : Nat} {A : Option Addr} {i : Int} (h0 : W.cell? ⟨g, 1, none⟩ = some (.slice A n c)) (hi : i < 0 ∨ (n : Int) ≤ i) :
    Calls Try.prog 34 #[ptrV g, .int .i64 i] W fun r w' => r = .returned (.pointer none) ∧ W = w' := by
  by_cases e1 : i < 0
  · clear hi
    go_enter Try.func34, Try.ntmps34
    go_wp2
    go_ret
    exact ⟨rfl, rfl⟩
  · have e2 : (n : Int) ≤ i := by omega
    clear hi
    go_enter Try.func34, Try.ntmps34
    go_wp2
    go_ret
    exact ⟨rfl, rfl⟩
section
variable {W0 W : World} {L : List Atm} {N g size : Nat} {ps : List Pt}
theorem cache_cells {v : Value} {M : List Atm} (h : St W0 (Blk g #[.int .i64 size, v] 72 :: M) W) : W.cell? ⟨g, 0, none⟩ = some (.int .i64 size) ∧ W.cell? ⟨g, 1, none⟩ = some v :=
  ⟨(cell_of_row W g 0 _ _ _ h.blk).trans rfl, (cell_of_row W g 1 _ _ _ h.blk).trans rfl⟩
theorem _root_.Go.Cu.St.cacheIn (h : St W0 (CacheA N g size ps :: L) W) {i : Nat} (hi : i < ps.length) : ∃ (b : Nat) (M : List Atm), St W0 (PartA N (b, ps[i]) :: (M ++ L)) W ∧
    (∀ X L, St W0 (M ++ L) X → X.cell? ⟨g, 0, none⟩ = some (.int .i64 size) ∧ Calls Try.prog 34 #[ptrV g, .int .i64 i] X (fun r w' => r = .returned (ptrV b) ∧ X = w')) ∧
    ∀ X L p' N', N ≤ N' → St W0 (PartA N' (b, p') :: (M ++ L)) X → St W0 (CacheA N' g size (ps.set i p') :: L) X := by
  obtain ⟨v, qs, rfl, h1⟩ := h.cache
  have hq : i < qs.length := by simpa using hi
  obtain ⟨A, c, rfl, _⟩ := row_slice h1.at2
  have hsp : qs = qs.take i ++ qs[i] :: qs.drop (i + 1) := by rw [List.getElem_cons_drop, List.take_append_drop]
  refine ⟨qs[i].1, Blk g #[.int .i64 size, .slice A qs.length c] 72 :: Row (.slice A qs.length c) 73 1 qs.length (qs.map fun q => ptrV q.1) :: (qs.take i ++ qs.drop (i + 1)).map (PartA N), ?_, fun X L hX => ?_, fun X L p' N' hN hX => ?_⟩
  · rw [List.getElem_map]
    refine h1.perm ?_
    unfold cacheL
    have e1 : qs.map (PartA N) = (qs.take i).map (PartA N) ++ PartA N qs[i] :: (qs.drop (i + 1)).map (PartA N) := by
      conv => lhs; rw [hsp]
      rw [List.map_append, List.map_cons]
    rw [e1, List.map_append]
    simp only [List.cons_append, List.append_assoc]
    exact List.perm_middle (l₁ := Blk g _ _ :: Row _ _ _ _ _ :: (qs.take i).map (PartA N))
  · have hc := cache_cells hX
    obtain ⟨g', hg', h2⟩ := row_at (x := ptrV qs[i].1) hX.at2 rfl (by rw [List.getElem?_map, List.getElem?_eq_getElem hq]; rfl)
    subst hg'
    exact ⟨hc.1, cpart_in hc.2 hq h2⟩
  · have e3 : (qs.set i (qs[i].1, p')).map (fun q => ptrV q.1) = qs.map fun q => ptrV q.1 := by
      rw [List.map_set]
      apply List.ext_getElem?
      intro k
      rw [List.getElem?_set]
      split
      · rename_i hk
        subst hk
        simp [hq]
      · rfl
    have e4 : (qs.map (·.2)).set i p' = (qs.set i (qs[i].1, p')).map (·.2) := by rw [List.map_set]
    have e5 : (qs.set i (qs[i].1, p')).map (PartA N') = (qs.take i).map (PartA N') ++ PartA N' (qs[i].1, p') :: (qs.drop (i + 1)).map (PartA N') := by
      rw [List.set_eq_take_append_cons_drop, if_pos hq, List.map_append, List.map_cons]
    have e6 : (qs.set i (qs[i].1, p')).length = qs.length := List.length_set
    rw [e4]
    refine St.uncache (v := .slice A qs.length c) (qs := qs.set i (qs[i].1, p')) ?_ rfl
    unfold cacheL
    rw [e3, e5, e6]
    simp only [List.cons_append, List.append_assoc]
    refine St.perm ?_ (List.perm_middle (l₁ := Blk g _ _ :: Row _ _ _ _ _ :: (qs.take i).map (PartA N'))).symm
    simp only [List.cons_append, List.map_append, List.append_assoc] at hX ⊢
    obtain ⟨hb, G0, a0, G1, a1, G2, a2, r⟩ := hX
    refine ⟨hb, G0, a0, G1, a1, G2, a2, ?_⟩
    obtain ⟨G3, r3, r4⟩ := Star.cut r
    obtain ⟨G4, r5, r6⟩ := Star.cut r4
    exact Star.join (Star.imp (fun q _ F W => PartA.mono hN q F W) r3) (Star.join (Star.imp (fun q _ F W => PartA.mono hN q F W) r5) r6)
end
end Go.Proofs.Ytnakbdgoaepehaa
