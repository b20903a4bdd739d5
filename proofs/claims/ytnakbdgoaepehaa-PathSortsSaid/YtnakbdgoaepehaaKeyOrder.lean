/- The order of keys, as the library's sort asks it. -/
import Derived.Test.YtnakbdgoaepehaaKeyCompact
import Derived.Test.YtnakbdgoaepehaaKeyShelf
namespace Go.Proofs.Ytnakbdgoaepehaa
open Go.RowKit Go.Cu
set_option maxHeartbeats 400000 in
theorem order_grow (k l : List UInt8) (W : World) (hk : k.length = 32) (hl : l.length = 32) :
    Calls Try.prog 32 #[.agg (bv k), .agg (bv l)] W fun e w' => e = .returned (.int .i64 (ordB k l)) ∧ ∃ q os', w' = Sort.grow (W.drewN q) os' := by
  obtain ⟨W2, hW2⟩ : ∃ W2, W2 = (W.alloc (.cells (bv k) 23)).alloc (.cells (bv l) 23) := ⟨_, rfl⟩
  have hg1 : W2.heap[W.heap.size]? = some (.cells (bv k) 23 (0, 0)) := by
    rw [hW2, heap_alloc_past _ _ (by simp)]
    exact heap_alloc_at _ _ rfl
  have hg2 : W2.heap[W.heap.size + 1]? = some (.cells (bv l) 23 (0, 0)) := by
    rw [hW2]
    exact heap_alloc_at _ _ (by simp)
  have HC := hid (fun (X : World) (hX : X = W2.drew) => compare_any k l X W.heap.size (W.heap.size + 1) 23 23 hk hl (by rw [hX]; exact hg1) (by rw [hX]; exact hg2))
  have HW := hid hW2
  clear hW2 hg1 hg2 hk hl
  go_enter Try.func32, Try.ntmps32
  go_wp2
  rw [show (W.alloc (.cells (bv k) 23)).alloc (.cells (bv l) 23) = W2 from HW.out.symm]
  refine wp_region_ord [] [(0, 1), (1, 1), (2, 2), (3, 1)] (fun X => X = World.drew W2) (by kernel_rfl) (by kernel_rfl) (fun d _ c _ _ h => by cases d <;> exact h) rfl (fun X hXe _ => ?_)
  clear hXe
  (apply wpOrd_class; ((· first | (rw [List.getElem?_toArray, List.getElem?_cons_zero]; done) | (simp only [List.getElem?_toArray, List.getElem?_cons_succ, List.getElem?_cons_zero]; exact rfl))); (· exact rfl); intro K hK; apply Exists.intro; refine And.intro (fun X' hX' => ?_) ?_; (· go_simp; (try go_bits); first | done | exact rfl | exact ⟨rfl, rfl⟩); go_simp; refine hK _ _ ?_; clear hK K)
  (apply wpOrd_class; ((· first | (rw [List.getElem?_toArray, List.getElem?_cons_zero]; done) | (simp only [List.getElem?_toArray, List.getElem?_cons_succ, List.getElem?_cons_zero]; exact rfl))); (· exact rfl); intro K hK; apply Exists.intro; refine And.intro (fun X' hX' => ?_) ?_; (· go_simp; (try go_bits); first | done | exact rfl | exact ⟨rfl, rfl⟩); go_simp; refine hK _ _ ?_; clear hK K)
  (apply wpOrd_comes; ((· first | (rw [List.getElem?_toArray, List.getElem?_cons_zero]; done) | (simp only [List.getElem?_toArray, List.getElem?_cons_succ, List.getElem?_cons_zero]; exact rfl))); intro N hN)
  go_wp2_with (go_at_call 44; (with_reducible refine ((HC.out _ rfl)).mono ?_); rintro e X1 ⟨rfl, rfl⟩)
  refine hN _ _ (fun _ => rfl) ?_
  clear hN N
  (apply wpOrd_class; ((· first | (rw [List.getElem?_toArray, List.getElem?_cons_zero]; done) | (simp only [List.getElem?_toArray, List.getElem?_cons_succ, List.getElem?_cons_zero]; exact rfl))); (· exact rfl); intro K hK; apply Exists.intro; refine And.intro (fun X' hX' => ?_) ?_; (· go_simp; (try go_bits); first | done | exact rfl | exact ⟨rfl, rfl⟩); go_simp; refine hK _ _ ?_; clear hK K)
  refine wpOrd_done ?_
  go_wp2
  go_ret
  refine ⟨rfl, 1, #[.cells (bv k) 23, .cells (bv l) 23], ?_⟩
  have e : W2 = Sort.grow W #[.cells (bv k) 23, .cells (bv l) 23] := by
    rw [HW.out, Sort.alloc_eq_grow, Sort.alloc_eq_grow, Sort.grow_grow]; rfl
  rw [e]; rfl
end Go.Proofs.Ytnakbdgoaepehaa
