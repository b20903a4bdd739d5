/- Write where nothing is answered; a new disk. -/
import Derived.Test.YthmchbdhikakhaaDiskWrite
namespace Go.Proofs.Ythmchbdhikakhaa
open Go.RowKit Go.Cu
set_option maxRecDepth 20000 in
set_option maxHeartbeats 400000 in
theorem write_bad {v : Value} {e : Int} {w : World} {i : Int} {b : Bk} (he : e ≠ 0) (ha : Hid (∀ w', Below w.heap.size w w' → Calls Try.prog 57 #[v, .int .i64 i] w' fun x w'' => x = .returned (.int .i64 e) ∧ w' = w'')) :
    Calls Try.prog 15 #[v, .int .i64 i, .agg (bv b)] w fun x w' => x = .returned (.int .i64 e) ∧ Below w.heap.size w w' := by
  have hne : (e != 0) = true := by simpa using he
  clear he
  go_enter Try.func15, Try.ntmps15
  repeat (apply wp_seq_k; intro _ _)
  apply wp_region_lit
  refine wpList_box rfl 33 _ rfl (.agg (bv b)) rfl ?_
  intro gb V0 hG hgb hgeb hW
  clear hG
  go_wp2_with (go_at_call 57; refine (ha.out _ hW).mono ?_; rintro x w' ⟨rfl, rfl⟩)
  go_ret
  exact ⟨rfl, hW⟩
set_option maxHeartbeats 400000 in
theorem new_bad {n : Int} (w : World) (hn : n < 1 ∨ 8192 < n) : Calls Try.prog 13 #[.int .i64 n] w fun x w' => x = .returned (.tuple #[.pointer none, .int .i64 1]) ∧ w = w' := by
  by_cases h1 : n < 1
  · clear hn
    go_enter Try.func13, Try.ntmps13
    go_wp2
    go_ret2
    exact ⟨rfl, rfl⟩
  · have h2 : 8192 < n := by omega
    clear hn
    go_enter Try.func13, Try.ntmps13
    go_wp2
    go_ret2
    exact ⟨rfl, rfl⟩
end Go.Proofs.Ythmchbdhikakhaa
