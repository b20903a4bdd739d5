/- A new disk. -/
import Derived.Test.YthmchbdhikakhaaDiskBad
namespace Go.Proofs.Ythmchbdhikakhaa
open Go.RowKit Go.Cu
set_option maxRecDepth 20000 in
theorem info33 : (Try.prog.info? 33).map (fun i => (i.zero, i.size, i.bytes)) = some (some (.agg (bv zeroB)), 128, 128) := by kernel_rfl
theorem full_zero (n : Nat) : Full (List.replicate n zeroB) := fun b hb => by rw [List.eq_of_mem_replicate hb]; exact zeroB_len
theorem made_flat (n : Nat) : madeCells (bv zeroB) (n * 128) = flat (List.replicate n zeroB) := by
  apply Array.ext
  · rw [size_madeCells, flat_size (full_zero n), List.length_replicate]
  · intro j h1 h2
    rw [size_madeCells] at h1
    have hj : j % 128 < 128 := Nat.mod_lt _ (by decide)
    have hi : j / 128 < n := by omega
    have h3 := flat_get (full_zero n) (i := j / 128) (b := zeroB) (by rw [List.getElem?_replicate, if_pos hi]) (j % 128) (by rw [bv_size, zeroB_len]; exact hj)
    rw [show j / 128 * 128 + j % 128 = j by omega, Array.getElem?_eq_getElem h2] at h3
    have h4 : (bv zeroB)[j % 128]? = some (bv zeroB)[j % 128]! := by
      rw [getElem!_def, Array.getElem?_eq_getElem (by rw [bv_size, zeroB_len]; exact hj)]
    rw [h4] at h3
    have h5 : (madeCells (bv zeroB) (n * 128))[j] = (bv zeroB)[j % (bv zeroB).size]! := by simp [madeCells]
    rw [h5, bv_size, zeroB_len]
    exact (Option.some.inj h3).symm
theorem make101 (n : Nat) (hn : n ≤ 8192) (W : World) : (Instr.makeSlice 101 (.int .i64 n) (.int .i64 n)).run Try.prog W = .ok (.slice (some ⟨W.heap.size, 0, none⟩) n n) (W.alloc (.cells (flat (List.replicate n zeroB)) 33)) := by
  obtain ⟨i0, hi, hiz, his, hib⟩ := info_parts info33
  have h := run_make (P := Try.prog) W 101 33 i0 _ Try.underlying101 hi hiz .i64 .i64 n n (by omega) (Int.le_refl _) (by rw [hib]; omega) (by omega)
  rw [his] at h
  simp only [Int.toNat_natCast] at h
  rw [show (Value.agg (bv zeroB)).cells = bv zeroB from rfl, made_flat] at h
  exact h
def makeK (t : TypeId) (u v : Value) : Sem Next := do pure (.value (← Instr.makeSlice t u v))
@[go_sem ↓] theorem mkk101 (a : Act) (dst : Option Tmp) (x y : Operand) (ty : TypeId) (pos : String) (after : Array Edge) (guard : Option (Nat × Bool)) :
    execOp a.eval { dst, op := .makeSlice 101 x y, type := ty, pos, after, guard } = makeK 101 (a.eval x) (a.eval y) := rfl
theorem new_world (n : Nat) (w : World) (a b : Nat) (hab : a = w.heap.size ∧ b = w.heap.size + 1 ∨ a = w.heap.size + 1 ∧ b = w.heap.size) (W : World)
    (hW : W = (((w.alloc (Obj.cells (flat (List.replicate n zeroB)) 33)).alloc (Obj.cells (flat (List.replicate n zeroB)) 33)).alloc (Obj.cells #[.slice (some ⟨a, 0, none⟩) n n, .slice (some ⟨b, 0, none⟩) n n, .slice none 0 0, .int .i64 0, .int .i64 0, .bool false] 104)).drew) :
    DiskIn W (w.heap.size + 1 + 1) (fun g => w.heap.size ≤ g) (DS.new n) ∧ Below w.heap.size w W := by
  subst hW
  have e0 : ((w.alloc (Obj.cells (flat (List.replicate n zeroB)) 33)).alloc (Obj.cells (flat (List.replicate n zeroB)) 33)).heap[w.heap.size]? = some (.cells (flat (List.replicate n zeroB)) 33 (0, 0)) := by
    rw [heap_alloc_past _ _ (by simp)]
    exact heap_alloc_at _ _ rfl
  have e1 : ((w.alloc (Obj.cells (flat (List.replicate n zeroB)) 33)).alloc (Obj.cells (flat (List.replicate n zeroB)) 33)).heap[w.heap.size + 1]? = some (.cells (flat (List.replicate n zeroB)) 33 (0, 0)) := heap_alloc_at _ _ (by simp)
  have hl : (List.replicate n zeroB).length = n := List.length_replicate
  refine ⟨⟨a, b, .slice none 0 0, by omega, by show w.heap.size ≤ a; omega, by show w.heap.size ≤ b; omega, fun g hg => by simp [Value.ownBlock] at hg, by omega, ?_, ?_, ?_, by simp [DS.new, waitL], .inl ⟨rfl, rfl⟩⟩, ?_⟩
  · simp only [DS.new, hl]
    exact heap_alloc_at _ _ (by simp)
  · refine (heap_alloc_past _ _ (by simp; omega)).trans ?_
    rcases hab with ⟨rfl, rfl⟩ | ⟨rfl, rfl⟩
    · exact e0
    · exact e1
  · refine (heap_alloc_past _ _ (by simp; omega)).trans ?_
    rcases hab with ⟨rfl, rfl⟩ | ⟨rfl, rfl⟩
    · exact e1
    · exact e0
  · exact ((((Below.refl _ _).alloc (Nat.le_refl _) _).alloc (by simp) _).alloc (by simp; omega) _).drew
set_option maxRecDepth 20000 in
set_option maxHeartbeats 1000000 in
theorem new_ok {n : Nat} (h1 : 1 ≤ n) (h2 : n ≤ 8192) (w : World) : Calls Try.prog 13 #[.int .i64 n] w fun x w' => ∃ p, x = .returned (.tuple #[.pointer (some ⟨p, 0, none⟩), .int .i64 0]) ∧ w.heap.size ≤ p ∧ DiskIn w' p (fun g => w.heap.size ≤ g) (DS.new n) ∧ Below w.heap.size w w' := by
  have HM : ∀ W, (makeK 101 (.int .i64 n) (.int .i64 n)).run Try.prog W = .ok (.value (.slice (some ⟨W.heap.size, 0, none⟩) n n)) (W.alloc (.cells (flat (List.replicate n zeroB)) 33)) := fun W => by
    simp only [makeK, Sem.run_bind, make101 n h2 W, Result.andThen_ok, Sem.run_pure]
  have g1 : ¬ (n : Int) < 1 := by omega
  have g2 : ¬ (8192 : Int) < (n : Int) := by omega
  clear h1 h2
  go_enter Try.func13, Try.ntmps13
  go_wp2_with fail
  go_region
  · go_wp2
    go_ret2
    have h := new_world n w _ _ (.inl ⟨rfl, rfl⟩) _ rfl
    exact ⟨_, rfl, by omega, h.1, h.2⟩
  · go_wp2
    go_ret2
    have h := new_world n w _ _ (.inr ⟨rfl, rfl⟩) _ rfl
    exact ⟨_, rfl, by omega, h.1, h.2⟩
end Go.Proofs.Ythmchbdhikakhaa
