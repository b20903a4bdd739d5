/- The library's slices of texts, side by side with other things. -/
import Derived.Test.YtnakbdgoaepehaaCachePart
namespace Go.Proofs.Ytnakbdgoaepehaa
open Go.RowKit Go.Cu
theorem seek_string (ns : List Str) (j : Nat) (hj : j < ns.length) : (ns.map strB).getD j ByteArray.empty = strB ns[j] := by
  simp [List.getD, hj]
theorem idx_ok (ns : List Str) (k : Str) : ∃ i : Int, Lib.idxOfS ((ns.map strB).take ns.length) (strB k) = i ∧ (k ∈ ns → ∃ j : Nat, i = (j : Int) ∧ ns[j]? = some k) ∧ (k ∉ ns → i = -1) := by
  refine ⟨_, rfl, fun hk => ?_, fun hk => ?_⟩
  · have hex : ∃ j, ns[j]? = some k := List.mem_iff_getElem?.1 hk
    obtain ⟨j, hj, hmin⟩ : ∃ j, ns[j]? = some k ∧ ∀ i, i < j → ns[i]? ≠ some k := by
      obtain ⟨j, hj⟩ := hex
      induction j using Nat.strongRecOn with
      | _ j ih =>
        by_cases h : ∃ i, i < j ∧ ns[i]? = some k
        · obtain ⟨i, hi, hk⟩ := h
          exact ih i hi hk
        · exact ⟨j, hj, fun i hi hk => h ⟨i, hi, hk⟩⟩
    obtain ⟨hl, he⟩ := List.getElem?_eq_some_iff.1 hj
    refine ⟨j, ?_, hj⟩
    refine Lib.idxOfS_hit _ _ j _ hl (by simp) (by rw [seek_string ns j hl, he]) fun i hi => ?_
    have hil : i < ns.length := by omega
    rw [seek_string ns i hil]
    intro hc
    exact hmin i hi (by rw [List.getElem?_eq_getElem hil, strB_inj hc])
  · refine Lib.idxOfS_miss _ _ _ fun j hj => ?_
    rw [seek_string ns j hj]
    intro hc
    exact hk (strB_inj hc ▸ List.getElem_mem hj)
section
variable {W0 W : World} {L : List Atm} {A : Option Addr} {n c : Nat} {ns : List Str}
theorem str_cells (h : St W0 (Row (.slice A n c) 9 1 n (ns.map sv) :: L) W) (h0 : n ≠ 0) : ∃ g cur, A = some ⟨g, 0, none⟩ ∧ W0.heap.size ≤ g ∧ W.heap[g]? = some (.cells cur 9 (0, 0)) ∧ n ≤ c ∧ c ≤ maxLen ∧ cur.size = c * 1 ∧ cur.toList.take n = ns.map sv := by
  obtain ⟨F, ha, hF, _⟩ := h.first
  rcases ha.2.2 with ⟨_, h1⟩ | ⟨g, cap, cur, hv, _, hb, h1, h2, h3, h4⟩
  · exact absurd h1 h0
  · cases hv
    rw [Nat.mul_one] at h4
    exact ⟨g, cur, rfl, (hF g (ha.1 g rfl)).1, hb, h1, h2, h3, h4⟩
theorem str_cell {g : Nat} {cur : Array Value} (hb : W.heap[g]? = some (.cells cur 9 (0, 0))) (h4 : cur.toList.take ns.length = ns.map sv) : ∀ j, j < (ns.map strB).length → W.cell? ⟨g, 0 + j, none⟩ = some (.string ((ns.map strB).getD j ByteArray.empty)) := fun j hj => by
  have hj' : j < ns.length := by simpa using hj
  rw [Nat.zero_add, cell_of_row W g j _ _ _ hb, seek_string ns j hj', ← Array.getElem?_toList]
  have : (cur.toList.take ns.length)[j]? = (ns.map sv)[j]? := by rw [h4]
  rw [List.getElem?_take_of_lt hj'] at this
  rw [this, List.getElem?_map, List.getElem?_eq_getElem hj']
  rfl
theorem index_st (h : St W0 (Row (.slice A n c) 9 1 n (ns.map sv) :: L) W) (hn : ns.length = n) (k : Str) : ∃ i : Int, (k ∈ ns → ∃ j : Nat, i = (j : Int) ∧ ns[j]? = some k) ∧ (k ∉ ns → i = -1) ∧
    Calls Try.prog 45 #[.slice A n c, .string (strB k)] W fun r w' => r = .returned (.int .i64 i) ∧ W = w' := by
  subst hn
  obtain ⟨i, hi, h1, h2⟩ := idx_ok ns k
  refine ⟨i, h1, h2, ?_⟩
  by_cases h0 : ns.length = 0
  · obtain rfl : ns = [] := List.length_eq_zero_iff.1 h0
    refine (Try.slices_Index_string_empty A c (strB k) W).mono fun r w' ⟨hr, hw⟩ => ⟨?_, hw.symm⟩
    rw [hr, ← hi]
    rfl
  · obtain ⟨g, cur, rfl, _, hb, _, hm, _, h4⟩ := str_cells h h0
    refine (Try.slices_Index_string g 0 ns.length c (ns.map strB) (strB k) W (by simp) (by unfold maxLen at hm; omega) (str_cell hb h4)).mono fun r w' ⟨hr, hw⟩ => ⟨?_, hw.symm⟩
    rw [hr, hi]
theorem delete_st (h : St W0 (Row (.slice A n c) 9 1 n (ns.map sv) :: L) W) (hn : ns.length = n) {i : Nat} (hi : i < n) {j : Int} (hj : j = ((i + 1 : Nat) : Int)) :
    Calls Try.prog 36 #[.slice A n c, .int .i64 i, .int .i64 j] W fun r w' => r = .returned (.slice A (n - 1) c) ∧ St W0 (Row (.slice A (n - 1) c) 9 1 (n - 1) ((ns.take i ++ ns.drop (i + 1)).map sv) :: L) w' := by
  subst hn hj
  obtain ⟨g, cur, rfl, _, hb, h1, hm, h3, h4⟩ := str_cells h (by omega)
  refine (Try.slices_Delete_string g 0 c i (i + 1) ns W (holds_of_block hb h4) h1 (by unfold maxLen at hm; omega) (by omega) (by omega)).mono fun r w' ⟨hr, q, hw⟩ => ?_
  have e1 : i + 1 - i = 1 := by omega
  rw [e1] at hr hw
  refine ⟨hr, ?_⟩
  have hl : (ns.take i ++ ns.drop (i + 1) ++ List.replicate 1 []).length = ns.length := by simp; omega
  have e2 : w' = Sort.grow (Sort.putRow encStr (Sort.ahead W q) g 0 (ns.take i ++ ns.drop (i + 1) ++ List.replicate 1 []).toArray) #[] := by rw [Sort.grow_empty]; exact hw
  subst e2
  have ho := ownsRow_sorted (w := W) (base := 0) (n := q) (os := #[]) hl (Nat.zero_le g) hb h1 hm h3
  have hgb := grownBy_sorted (w := W) (g := g) (n := q) (os := #[]) (ns.take i ++ ns.drop (i + 1) ++ List.replicate 1 []).toArray
  refine h.grow ?_ ⟨hgb.os, hgb.tape, hgb.output, hgb.size, fun k hk hF => hgb.block k hk fun e => hF (by cases e; rfl)⟩ (.inl rfl)
  rcases ho.2 with ⟨hv, _⟩ | ⟨g', cap', cur', hv, h5, h6, h7, h8, h9, h10⟩
  · cases hv
  · cases hv
    refine ⟨by simp; omega, .inr ⟨g, c, cur', rfl, Nat.zero_le _, h6, by omega, h8, h9, ?_⟩⟩
    have h11 : cur'.toList.take ((ns.length - 1) * 1) = (cur'.toList.take (ns.length * 1)).take (ns.length - 1) := by rw [List.take_take]; congr 1; omega
    rw [h11, h10, ← List.map_take]
    have e3 : (ns.take i ++ ns.drop (i + 1)).length = ns.length - 1 := by simp; omega
    rw [← e3, List.take_left]
    rfl
theorem clone_st (h : St W0 (Row (.slice A n c) 9 1 n (ns.map sv) :: L) W) (hn : ns.length = n) (hb : n ≤ 1000000) :
    Calls Try.prog 37 #[.slice A n c] W fun r w' => ∃ v', r = .returned v' ∧ St W0 (Row v' 9 1 n (ns.map sv) :: Row (.slice A n c) 9 1 n (ns.map sv) :: L) w' := by
  subst hn
  have hnew : ∀ (v' : Value) (w' : World) (xs : List Value), w'.ownsRow W.heap.size 9 1 v' ns.length xs → Below W.heap.size W w' → xs = ns.map sv → St W0 (Row v' 9 1 ns.length (ns.map sv) :: Row (.slice A ns.length c) 9 1 ns.length (ns.map sv) :: L) w' := fun v' w' xs ho hb' hx => by
    subst hx
    refine h.push hb' ⟨fun g hg => ?_, ho.1, ?_⟩
    · rcases ho.2 with ⟨rfl, _⟩ | ⟨g', cap, cur, rfl, hbase, _⟩
      · cases hg
      · cases hg
        exact hbase
    · rcases ho.2 with hx | ⟨g', cap, cur, e1, _, r⟩
      · exact .inl hx
      · exact .inr ⟨g', cap, cur, e1, Nat.zero_le _, r⟩
  by_cases h0 : ns.length = 0
  · obtain rfl : ns = [] := List.length_eq_zero_iff.1 h0
    cases A with
    | none =>
      refine (Try.slices_Clone_string_nil 0 c W).mono fun r w' ⟨hr, hw⟩ => ⟨_, hr, ?_⟩
      subst hw
      exact h.nilRow 9 1
    | some a =>
      refine (Try.slices_Clone_string_zero a c W).mono fun r w' ⟨v', hr, ho, _, hb'⟩ => ⟨v', hr, ?_⟩
      exact hnew v' w' _ ho hb' rfl
  · obtain ⟨g, cur, rfl, _, hbk, _, hm, _, h4⟩ := str_cells h h0
    refine (Try.slices_Clone_string g 0 ns.length c (ns.map strB) W (by simp) (by omega) (str_cell hbk h4)).mono fun r w' ⟨v', hr, ho, _, hb'⟩ => ⟨v', hr, ?_⟩
    refine hnew v' w' _ ho hb' ?_
    rw [show ns.length = (ns.map strB).length by simp, List.take_length, List.map_map]
    rfl
theorem reverse_st (h : St W0 (Row (.slice A n c) 9 1 n (ns.map sv) :: L) W) (hn : ns.length = n) :
    Calls Try.prog 38 #[.slice A n c] W fun r w' => r = .returned (.tuple #[]) ∧ St W0 (Row (.slice A n c) 9 1 n (ns.reverse.map sv) :: L) w' := by
  subst hn
  by_cases h0 : ns.length = 0
  · obtain rfl : ns = [] := List.length_eq_zero_iff.1 h0
    refine (Try.slices_Reverse_string_empty A c W).mono fun r w' ⟨hr, hw⟩ => ⟨hr, ?_⟩
    subst hw
    exact h
  · obtain ⟨g, cur, rfl, _, hb, h1, hm, h3, h4⟩ := str_cells h h0
    refine (Try.slices_Reverse_string g 0 c ns W (holds_of_block hb h4) (by unfold maxLen at hm; omega)).mono fun r w' ⟨hr, q, hw⟩ => ⟨hr, ?_⟩
    have e2 : w' = Sort.grow (Sort.putRow encStr (Sort.ahead W q) g 0 ns.reverse.toArray) #[] := by rw [Sort.grow_empty]; exact hw
    subst e2
    have ho := ownsRow_sorted (w := W) (base := 0) (n := q) (os := #[]) (ts := ns.reverse) (ss := ns) (by simp) (Nat.zero_le g) hb h1 hm h3
    have hgb := grownBy_sorted (w := W) (g := g) (n := q) (os := #[]) ns.reverse.toArray
    exact h.grow ho ⟨hgb.os, hgb.tape, hgb.output, hgb.size, fun k hk hF => hgb.block k hk fun e => hF (by cases e; rfl)⟩ (.inl rfl)
end
end Go.Proofs.Ytnakbdgoaepehaa
