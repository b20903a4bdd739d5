/- Extents in memory: what only reads them. -/
import Derived.Test.YthmchbdhikakhaaDiskRefNew
import Derived.Test.YthmchbdhikakhaaExtSpec
namespace Go.Proofs.Ythmchbdhikakhaa
open Go.RowKit Go.Cu
/-- The cells of extents. -/
def extV (p : Nat) (e : Ex) : Array Value := #[.pointer (some ⟨p, 0, none⟩), .int .i64 e.first, .int .i64 e.count, .int .i64 e.size]
theorem ext_cells {W : World} {x p : Nat} {e : Ex} (h : W.heap[x]? = some (.cells (extV p e) 111 (0, 0))) :
    W.cell? ⟨x, 0, none⟩ = some (.pointer (some ⟨p, 0, none⟩)) ∧ W.cell? ⟨x, 1, none⟩ = some (.int .i64 e.first) ∧ W.cell? ⟨x, 2, none⟩ = some (.int .i64 e.count) ∧ W.cell? ⟨x, 3, none⟩ = some (.int .i64 e.size) :=
  ⟨(cell_of_row W x 0 _ _ _ h).trans rfl, (cell_of_row W x 1 _ _ _ h).trans rfl, (cell_of_row W x 2 _ _ _ h).trans rfl, (cell_of_row W x 3 _ _ _ h).trans rfl⟩
set_option maxHeartbeats 400000 in
theorem area_nil (i : Int) (w : World) : Calls Try.prog 35 #[.pointer none, .int .i64 i] w fun r w' => r = .returned (.tuple #[.int .i64 0, .int .i64 0, .int .i64 1]) ∧ w = w' := by
  go_enter Try.func35, Try.ntmps35
  go_wp2
  go_ret3
  exact ⟨rfl, rfl⟩
set_option maxHeartbeats 400000 in
theorem area_out {w : World} {x p : Nat} {e : Ex} {n : Nat} (h : w.heap[x]? = some (.cells (extV p e) 111 (0, 0))) (he : e.Ok n) {i : Int} (hi : i < 0 ∨ (e.count : Int) ≤ i) :
    Calls Try.prog 35 #[.pointer (some ⟨x, 0, none⟩), .int .i64 i] w fun r w' => r = .returned (.tuple #[.int .i64 0, .int .i64 0, .int .i64 1]) ∧ w = w' := by
  obtain ⟨c0, c1, c2, c3⟩ := ext_cells h
  have hb := he.big
  have hc := he.c2
  clear h he
  by_cases h0 : i < 0
  · clear hi
    go_enter Try.func35, Try.ntmps35
    go_wp2
    go_ret3
    exact ⟨rfl, rfl⟩
  · have h1 : (e.count : Int) ≤ i := by omega
    clear hi
    go_enter Try.func35, Try.ntmps35
    go_wp2
    go_ret3
    exact ⟨rfl, rfl⟩
set_option maxHeartbeats 400000 in
theorem area_in {w : World} {x p : Nat} {e : Ex} {n : Nat} (h : w.heap[x]? = some (.cells (extV p e) 111 (0, 0))) (he : e.Ok n) {i : Nat} (hi : i < e.count) :
    Calls Try.prog 35 #[.pointer (some ⟨x, 0, none⟩), .int .i64 i] w fun r w' => r = .returned (.tuple #[.int .i64 (e.first + i * e.size : Nat), .int .i64 e.size, .int .i64 0]) ∧ Below w.heap.size w w' := by
  obtain ⟨c0, c1, c2, c3⟩ := ext_cells h
  have hb := he.big
  have hc := he.c2
  have hs := he.s2
  have hin := he.within hi
  obtain ⟨m, hm⟩ : ∃ m : Nat, m = i * e.size := ⟨_, rfl⟩
  have em : (i : Int) * (e.size : Int) = (m : Int) := by rw [hm]; simp
  rw [← hm] at hin ⊢
  have h0 : ¬ (i : Int) < 0 := by omega
  have h1 : (i : Int) < (e.count : Int) := by omega
  have hm1 : (m : Int) ≤ 8192 := by omega
  have hf1 : (e.first : Int) ≤ 8192 := by omega
  clear h he hi hm hin
  go_enter Try.func35, Try.ntmps35
  go_wp2_with fail
  refine wp_region_ord [] [(0, 1), (1, 1), (2, 1), (3, 1), (4, 1), (5, 1), (6, 1), (7, 1), (8, 1), (9, 1), (10, 1), (11, 1), (12, 1), (13, 1), (14, 1), (15, 1), (16, 1), (17, 1)] (fun X => X = World.drew w) (by kernel_rfl) (by kernel_rfl) (fun d _ c _ _ h => by cases d <;> exact h) rfl (fun X hXe _ => ?_)
  subst hXe
  repeat (apply wpOrd_class; ((· first | (rw [List.getElem?_toArray, List.getElem?_cons_zero]; done) | (simp only [List.getElem?_toArray, List.getElem?_cons_succ, List.getElem?_cons_zero]; exact rfl))); (· exact rfl); intro K hK; apply Exists.intro; refine And.intro (fun X' hX' => ?_) ?_; (· go_simp; (try go_bits); first | done | exact rfl | exact ⟨rfl, rfl⟩); go_simp; refine hK _ _ ?_; clear hK K)
  refine wpOrd_done ?_
  go_wp2
  go_ret3
  exact ⟨rfl, Below.drew (Below.refl _ _)⟩
set_option maxHeartbeats 400000 in
theorem of_nil (i : Int) (w : World) : Calls Try.prog 38 #[.pointer none, .int .i64 i] w fun r w' => r = .returned (.int .i64 (-1)) ∧ Below w.heap.size w w' := by
  go_enter Try.func38, Try.ntmps38
  go_wp2_with fail
  refine wp_region_ord [] [(0, 1), (1, 1), (2, 1), (3, 1), (4, 1), (5, 1), (6, 1), (7, 1), (8, 1), (9, 1), (10, 1), (11, 1), (12, 1), (13, 1), (14, 1), (15, 1), (16, 1), (17, 1), (18, 1), (19, 1), (20, 1), (21, 1), (22, 1), (23, 1), (24, 1), (25, 1), (26, 1), (27, 1)] (fun X => X = World.drew w) (by kernel_rfl) (by kernel_rfl) (fun d _ c _ _ h => by cases d <;> exact h) rfl (fun X hXe _ => ?_)
  subst hXe
  repeat (first | (apply wpOrd_class; ((· first | (rw [List.getElem?_toArray, List.getElem?_cons_zero]; done) | (simp only [List.getElem?_toArray, List.getElem?_cons_succ, List.getElem?_cons_zero]; exact rfl))); (· exact rfl); intro K hK; apply Exists.intro; refine And.intro (fun X' hX' => ?_) ?_; (· go_simp; (try go_bits); first | done | exact rfl | exact ⟨rfl, rfl⟩); go_simp; refine hK _ _ ?_; clear hK K) | (apply wpOrd_skip1; ((· first | (rw [List.getElem?_toArray, List.getElem?_cons_zero]; done) | (simp only [List.getElem?_toArray, List.getElem?_cons_succ, List.getElem?_cons_zero]; exact rfl))); (· exact rfl); intro K hK; go_simp; refine hK _ _ ?_; clear hK K))
  refine wpOrd_done ?_
  go_wp2
  go_ret
  exact ⟨rfl, Below.drew (Below.refl _ _)⟩
set_option maxHeartbeats 400000 in
theorem of_low {w : World} {x p : Nat} {e : Ex} (h : w.heap[x]? = some (.cells (extV p e) 111 (0, 0))) {b : Int} (hlt : b < e.first) :
    Calls Try.prog 38 #[.pointer (some ⟨x, 0, none⟩), .int .i64 b] w fun r w' => r = .returned (.int .i64 (-1)) ∧ Below w.heap.size w w' := by
  obtain ⟨c0, c1, c2, c3⟩ := ext_cells h
  clear h
  go_enter Try.func38, Try.ntmps38
  go_wp2_with fail
  refine wp_region_ord [] [(0, 1), (1, 1), (2, 1), (3, 1), (4, 1), (5, 1), (6, 1), (7, 1), (8, 1), (9, 1), (10, 1), (11, 1), (12, 1), (13, 1), (14, 1), (15, 1), (16, 1), (17, 1), (18, 1), (19, 1), (20, 1), (21, 1), (22, 1), (23, 1), (24, 1), (25, 1), (26, 1), (27, 1)] (fun X => X = World.drew w) (by kernel_rfl) (by kernel_rfl) (fun d _ c _ _ h => by cases d <;> exact h) rfl (fun X hXe _ => ?_)
  subst hXe
  repeat (first | (apply wpOrd_class; ((· first | (rw [List.getElem?_toArray, List.getElem?_cons_zero]; done) | (simp only [List.getElem?_toArray, List.getElem?_cons_succ, List.getElem?_cons_zero]; exact rfl))); (· exact rfl); intro K hK; apply Exists.intro; refine And.intro (fun X' hX' => ?_) ?_; (· go_simp; (try go_bits); first | done | exact rfl | exact ⟨rfl, rfl⟩); go_simp; refine hK _ _ ?_; clear hK K) | (apply wpOrd_skip1; ((· first | (rw [List.getElem?_toArray, List.getElem?_cons_zero]; done) | (simp only [List.getElem?_toArray, List.getElem?_cons_succ, List.getElem?_cons_zero]; exact rfl))); (· exact rfl); intro K hK; go_simp; refine hK _ _ ?_; clear hK K))
  refine wpOrd_done ?_
  go_wp2
  go_ret
  exact ⟨rfl, Below.drew (Below.refl _ _)⟩
set_option maxHeartbeats 400000 in
theorem of_high {w : World} {x p : Nat} {e : Ex} {n : Nat} (h : w.heap[x]? = some (.cells (extV p e) 111 (0, 0))) (he : e.Ok n) {b : Int} (hge : (e.first : Int) + (e.count * e.size : Nat) ≤ b) :
    Calls Try.prog 38 #[.pointer (some ⟨x, 0, none⟩), .int .i64 b] w fun r w' => r = .returned (.int .i64 (-1)) ∧ Below w.heap.size w w' := by
  obtain ⟨c0, c1, c2, c3⟩ := ext_cells h
  have hb := he.big
  have hfit := he.fits
  have hc1 := he.c1
  have hs1 := he.s1
  have hc := he.c2
  have hs := he.s2
  obtain ⟨m, hm⟩ : ∃ m : Nat, m = e.count * e.size := ⟨_, rfl⟩
  have em : (e.count : Int) * (e.size : Int) = (m : Int) := by rw [hm]; simp
  rw [← hm] at hfit hge
  have hm1 : (m : Int) ≤ 8192 := by omega
  have hf1 : (e.first : Int) ≤ 8192 := by omega
  have hl : ¬ b < (e.first : Int) := by omega
  clear h he hm hfit
  go_enter Try.func38, Try.ntmps38
  go_wp2_with fail
  have hdl : decide (b < (e.first : Int)) = false := decide_eq_false (by omega)
  have hdg : decide ((e.first : Int) + (m : Int) ≤ b) = true := decide_eq_true (by omega)
  refine wp_region_ord [] [(0, 1), (1, 1), (2, 1), (3, 1), (4, 1), (5, 1), (6, 1), (7, 1), (8, 1), (9, 1), (10, 1), (11, 1), (12, 1), (13, 1), (14, 1), (15, 1), (16, 1), (17, 1), (18, 1), (19, 1), (20, 1), (21, 1), (22, 1), (23, 1), (24, 1), (25, 1), (26, 1), (27, 1)] (fun X => X = World.drew w) (by kernel_rfl) (by kernel_rfl) (fun d _ c _ _ h => by cases d <;> exact h) rfl (fun X hXe _ => ?_)
  subst hXe
  repeat (first | (apply wpOrd_class; ((· first | (rw [List.getElem?_toArray, List.getElem?_cons_zero]; done) | (simp only [List.getElem?_toArray, List.getElem?_cons_succ, List.getElem?_cons_zero]; exact rfl))); (· exact rfl); intro K hK; apply Exists.intro; refine And.intro (fun X' hX' => ?_) ?_; (· go_simp; (try go_bits); first | done | exact rfl | exact ⟨rfl, rfl⟩); go_simp; refine hK _ _ ?_; clear hK K) | (apply wpOrd_skip1; ((· first | (rw [List.getElem?_toArray, List.getElem?_cons_zero]; done) | (simp only [List.getElem?_toArray, List.getElem?_cons_succ, List.getElem?_cons_zero]; exact rfl))); (· exact rfl); intro K hK; go_simp; refine hK _ _ ?_; clear hK K))
  refine wpOrd_done ?_
  clear hdl hdg
  go_wp2
  go_ret
  exact ⟨rfl, Below.drew (Below.refl _ _)⟩
set_option maxHeartbeats 400000 in
theorem of_in {w : World} {x p : Nat} {e : Ex} {n : Nat} (h : w.heap[x]? = some (.cells (extV p e) 111 (0, 0))) (he : e.Ok n) {b : Int} (hl : (e.first : Int) ≤ b) (hge : b < (e.first : Int) + (e.count * e.size : Nat)) :
    Calls Try.prog 38 #[.pointer (some ⟨x, 0, none⟩), .int .i64 b] w fun r w' => r = .returned (.int .i64 ((b - e.first) / e.size)) ∧ Below w.heap.size w w' := by
  obtain ⟨c0, c1, c2, c3⟩ := ext_cells h
  have hb := he.big
  have hfit := he.fits
  have hc1 := he.c1
  have hs1 := he.s1
  have hc := he.c2
  have hs := he.s2
  obtain ⟨m, hm⟩ : ∃ m : Nat, m = e.count * e.size := ⟨_, rfl⟩
  have em : (e.count : Int) * (e.size : Int) = (m : Int) := by rw [hm]; simp
  rw [← hm] at hfit hge
  have hm1 : (m : Int) ≤ 8192 := by omega
  have hf1 : (e.first : Int) ≤ 8192 := by omega
  have hb1 : b ≤ 16384 := by omega
  have hb0 : 0 ≤ b - (e.first : Int) := by omega
  have hl0 : ¬ b < (e.first : Int) := by omega
  have hs0 : (1 : Int) ≤ (e.size : Int) := by omega
  have hsn : ((e.size : Int) == 0) = false := by rw [beq_eq_false_iff_ne]; omega
  have hg0 : ¬ (e.first : Int) + (m : Int) ≤ b := by omega
  have hd0 : 0 ≤ (b - (e.first : Int)) / (e.size : Int) := Int.ediv_nonneg hb0 (by omega)
  have hd1 : (b - (e.first : Int)) / (e.size : Int) ≤ 16384 := by
    have := Int.ediv_le_self (e.size : Int) hb0
    omega
  clear h he hm hfit
  go_enter Try.func38, Try.ntmps38
  go_wp2_with fail
  have hdl : decide (b < (e.first : Int)) = false := decide_eq_false (by omega)
  have hdg : decide ((e.first : Int) + (m : Int) ≤ b) = false := decide_eq_false (by omega)
  refine wp_region_ord [] [(0, 1), (1, 1), (2, 1), (3, 1), (4, 1), (5, 1), (6, 1), (7, 1), (8, 1), (9, 1), (10, 1), (11, 1), (12, 1), (13, 1), (14, 1), (15, 1), (16, 1), (17, 1), (18, 1), (19, 1), (20, 1), (21, 1), (22, 1), (23, 1), (24, 1), (25, 1), (26, 1), (27, 1)] (fun X => X = World.drew w) (by kernel_rfl) (by kernel_rfl) (fun d _ c _ _ h => by cases d <;> exact h) rfl (fun X hXe _ => ?_)
  subst hXe
  repeat (first | (apply wpOrd_class; ((· first | (rw [List.getElem?_toArray, List.getElem?_cons_zero]; done) | (simp only [List.getElem?_toArray, List.getElem?_cons_succ, List.getElem?_cons_zero]; exact rfl))); (· exact rfl); intro K hK; apply Exists.intro; refine And.intro (fun X' hX' => ?_) ?_; (· go_simp; (try go_bits); first | done | exact rfl | exact ⟨rfl, rfl⟩); go_simp; refine hK _ _ ?_; clear hK K) | (apply wpOrd_skip1; ((· first | (rw [List.getElem?_toArray, List.getElem?_cons_zero]; done) | (simp only [List.getElem?_toArray, List.getElem?_cons_succ, List.getElem?_cons_zero]; exact rfl))); (· exact rfl); intro K hK; go_simp; refine hK _ _ ?_; clear hK K))
  refine wpOrd_done ?_
  clear hdl hdg
  go_wp2_with fail
  have hsz : ¬ e.size = 0 := by omega
  have htd := Int.tdiv_eq_ediv_of_nonneg (b := (e.size : Int)) hb0
  have hwd : IntKind.i64.wrap ((b - (e.first : Int)) / (e.size : Int)) = (b - (e.first : Int)) / (e.size : Int) := IntWalk.i64_in _ ⟨by omega, by omega⟩
  refine wp_region_ord [] [(0, 1), (1, 1), (2, 1), (3, 1), (4, 1), (5, 1), (6, 1), (7, 1), (8, 1), (9, 1), (10, 1), (11, 1)] (fun X => X = World.drew w.drew) (by kernel_rfl) (by kernel_rfl) (fun d _ c _ _ h => by cases d <;> exact h) rfl (fun X hXe _ => ?_)
  subst hXe
  repeat (first | (apply wpOrd_class; ((· first | (rw [List.getElem?_toArray, List.getElem?_cons_zero]; done) | (simp only [List.getElem?_toArray, List.getElem?_cons_succ, List.getElem?_cons_zero]; exact rfl))); (· exact rfl); intro K hK; apply Exists.intro; refine And.intro (fun X' hX' => ?_) ?_; (· go_simp; (try go_bits); first | done | exact rfl | exact ⟨rfl, rfl⟩); go_simp; refine hK _ _ ?_; clear hK K) | (apply wpOrd_skip1; ((· first | (rw [List.getElem?_toArray, List.getElem?_cons_zero]; done) | (simp only [List.getElem?_toArray, List.getElem?_cons_succ, List.getElem?_cons_zero]; exact rfl))); (· exact rfl); intro K hK; go_simp; refine hK _ _ ?_; clear hK K))
  refine wpOrd_done ?_
  go_wp2
  go_ret
  exact ⟨rfl, Below.drew (Below.drew (Below.refl _ _))⟩
theorem of_any {w : World} {x p : Nat} {e : Ex} {n : Nat} (h : w.heap[x]? = some (.cells (extV p e) 111 (0, 0))) (he : e.Ok n) (b : Int) :
    Calls Try.prog 38 #[.pointer (some ⟨x, 0, none⟩), .int .i64 b] w fun r w' => r = .returned (.int .i64 (e.of b)) ∧ Below w.heap.size w w' := by
  unfold Ex.of
  by_cases h1 : b < e.first
  · rw [if_pos (.inl h1)]
    exact of_low h h1
  · by_cases h2 : (e.first : Int) + (e.count * e.size : Nat) ≤ b
    · rw [if_pos (.inr h2)]
      exact of_high h he h2
    · rw [if_neg (by omega)]
      exact of_in h he (by omega) (by omega)
set_option maxHeartbeats 400000 in
theorem xnone_ok (w : World) : Calls Try.prog 34 #[] w fun x w' => x = .returned (.pointer none) ∧ w = w' := by
  go_enter Try.func34, Try.ntmps34
  go_wp2
  go_ret
  exact ⟨rfl, rfl⟩
set_option maxHeartbeats 400000 in
theorem count_nil (w : World) : Calls Try.prog 37 #[.pointer none] w fun x w' => x = .returned (.int .i64 0) ∧ w = w' := by
  go_enter Try.func37, Try.ntmps37
  go_wp2
  go_ret
  exact ⟨rfl, rfl⟩
set_option maxHeartbeats 400000 in
theorem count_any {w : World} {x p : Nat} {e : Ex} (h : w.heap[x]? = some (.cells (extV p e) 111 (0, 0))) : Calls Try.prog 37 #[.pointer (some ⟨x, 0, none⟩)] w fun r w' => r = .returned (.int .i64 e.count) ∧ w = w' := by
  obtain ⟨c0, c1, c2, c3⟩ := ext_cells h
  clear h
  go_enter Try.func37, Try.ntmps37
  go_wp2
  go_ret
  exact ⟨rfl, rfl⟩
end Go.Proofs.Ythmchbdhikakhaa
