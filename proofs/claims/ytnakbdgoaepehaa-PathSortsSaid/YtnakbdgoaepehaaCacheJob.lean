/- Jobs of a cache in memory. -/
import Derived.Test.YtnakbdgoaepehaaCacheFullBody
namespace Go.Cu
open Go Go.RowKit
structure CJob where
  what : Int
  part : Int
  name : Str
  kept : Str
def CJobsIn (W : World) (A : Option Addr) (row : List CJob) : Prop := ∀ i j, row[i]? = some j → ∃ g o, A = some ⟨g, o, none⟩ ∧ g < W.heap.size ∧ j.name.length ≤ maxLen ∧ j.kept.length ≤ maxLen ∧
  -9223372036854775808 ≤ j.what ∧ j.what ≤ 9223372036854775807 ∧ -9223372036854775808 ≤ j.part ∧ j.part ≤ 9223372036854775807 ∧
  W.cell? ⟨g, o + i * 4, none⟩ = some (.int .i64 j.what) ∧ W.cell? ⟨g, o + i * 4 + 1, none⟩ = some (.int .i64 j.part) ∧ W.cell? ⟨g, o + i * 4 + 2, none⟩ = some (.string (strB j.name)) ∧ W.cell? ⟨g, o + i * 4 + 3, none⟩ = some (.string (strB j.kept))
def cjobV (j : CJob) : Array Value := #[.int .i64 j.what, .int .i64 j.part, .string (strB j.name), .string (strB j.kept)]
theorem cjobV_one (j : CJob) : ∀ u ∈ (cjobV j).toList, u.oneCell' = true := by
  intro u hu
  simp only [cjobV, List.mem_cons, List.not_mem_nil, or_false] at hu
  rcases hu with rfl | rfl | rfl | rfl <;> rfl
theorem cjob_cells {W : World} {g t : Nat} {j : CJob} (h : W.heap[g]? = some (.cells (cjobV j) t (0, 0))) : W.cell? ⟨g, 0, none⟩ = some (.int .i64 j.what) ∧ W.cell? ⟨g, 1, none⟩ = some (.int .i64 j.part) ∧ W.cell? ⟨g, 2, none⟩ = some (.string (strB j.name)) ∧ W.cell? ⟨g, 3, none⟩ = some (.string (strB j.kept)) :=
  ⟨(cell_of_row W g 0 _ _ _ h).trans rfl, (cell_of_row W g 1 _ _ _ h).trans rfl, (cell_of_row W g 2 _ _ _ h).trans rfl, (cell_of_row W g 3 _ _ _ h).trans rfl⟩
end Go.Cu
namespace Go.Proofs.Ytnakbdgoaepehaa
open Go.ChangeShapes Go.WideShapes Go.ChangeAt Go.RowKit Go.Cu
theorem size56 : (Try.prog.info? 56).map (·.size) = some 4 := by kernel_rfl
def zero56v : Value := .agg #[.int .i64 0, .int .i64 0, .string ByteArray.empty, .string ByteArray.empty]
theorem zero56 (W : World) : (zeroValue 56).run Try.prog W = .ok zero56v W := by kernel_rfl
section
variable {H : Type} {enc : TypeId × Value → H} {w : World} {base : Nat} {spare : Nat → Bool} {held : Bool}
set_option maxRecDepth 20000 in
theorem cjob_open {fuel : Nat} {cs : List Value} {x : DataW H × List MemPlace} (h : DataW.trod enc Try.prog w base spare held fuel 56 cs = some x) (hl : cs.length = 4) :
    ∃ j : CJob, cs = [.int .i64 j.what, .int .i64 j.part, .string (strB j.name), .string (strB j.kept)] ∧ j.name.length ≤ maxLen ∧ j.kept.length ≤ maxLen ∧
      -9223372036854775808 ≤ j.what ∧ j.what ≤ 9223372036854775807 ∧ -9223372036854775808 ≤ j.part ∧ j.part ≤ 9223372036854775807 := by
  obtain ⟨_, y0, t0⟩ := field_cells Try.underlying56 h 0 _ rfl
  obtain ⟨_, y1, t1⟩ := field_cells Try.underlying56 h 1 _ rfl
  obtain ⟨_, y2, t2⟩ := field_cells Try.underlying56 h 2 _ rfl
  obtain ⟨_, y3, t3⟩ := field_cells Try.underlying56 h 3 _ rfl
  match cs, hl with
  | [a, b, c, d], _ =>
    obtain ⟨x0, e0, _, w0⟩ := DataW.trod_int Try.underlying3 t0
    obtain ⟨x1, e1, _, w1⟩ := DataW.trod_int Try.underlying3 t1
    obtain ⟨x2, e2, _, w2⟩ := DataW.trod_string Try.underlying9 t2
    obtain ⟨x3, e3, _, w3⟩ := DataW.trod_string Try.underlying9 t3
    have b0 := bounds_i64 w0
    have b1 := bounds_i64 w1
    have c0 : [a] = [.int .i64 x0] := e0
    have c1 : [b] = [.int .i64 x1] := e1
    have c2 : [c] = [.string x2] := e2
    have c3 : [d] = [.string x3] := e3
    simp only [List.cons.injEq, and_true] at c0 c1 c2 c3
    subst c0 c1 c2 c3
    have s2 : x2.data.toList.length = x2.size := Array.length_toList
    have s3 : x3.data.toList.length = x3.size := Array.length_toList
    exact ⟨⟨x0, x1, x2.data.toList, x3.data.toList⟩, by rw [← strB_of, ← strB_of], by rw [s2]; exact w2, by rw [s3]; exact w3, b0.1, b0.2, b1.1, b1.2⟩
set_option maxRecDepth 20000 in
theorem cjobs_open {r : Reach} {b0 : Nat} {v : Value} {d : DataW H} {p : List MemPlace} (hv : Value.okWide Try.prog w r b0 44 v) (h : DataW.Trod enc Try.prog w base spare held 44 v d p) :
    ∃ (A : Option Addr) (c : Nat) (row : List CJob), v = .slice A row.length c ∧ CJobsIn w A row := by
  obtain ⟨A, len, cap, rfl, _, _, h3⟩ := param_slice Try.underlying44 (s := 4) (by kernel_rfl) (by decide) hv h
  obtain ⟨row, rfl, hp⟩ := choose_list (α := CJob) (p := fun i j => ∃ g o, A = some ⟨g, o, none⟩ ∧ g < w.heap.size ∧ j.name.length ≤ maxLen ∧ j.kept.length ≤ maxLen ∧
      -9223372036854775808 ≤ j.what ∧ j.what ≤ 9223372036854775807 ∧ -9223372036854775808 ≤ j.part ∧ j.part ≤ 9223372036854775807 ∧
      w.cell? ⟨g, o + i * 4, none⟩ = some (.int .i64 j.what) ∧ w.cell? ⟨g, o + i * 4 + 1, none⟩ = some (.int .i64 j.part) ∧ w.cell? ⟨g, o + i * 4 + 2, none⟩ = some (.string (strB j.name)) ∧ w.cell? ⟨g, o + i * 4 + 3, none⟩ = some (.string (strB j.kept))) len (fun i hi => by
    obtain ⟨g, o, n, cs', y, hA, hg, hl, hcell, hy⟩ := h3 i hi
    obtain ⟨j, rfl, b⟩ := cjob_open hy hl
    exact ⟨j, g, o, hA, hg, b.1, b.2.1, b.2.2.1, b.2.2.2.1, b.2.2.2.2.1, b.2.2.2.2.2, (hcell 0 (by decide)).trans rfl, (hcell 1 (by decide)).trans rfl, (hcell 2 (by decide)).trans rfl, (hcell 3 (by decide)).trans rfl⟩)
  exact ⟨A, cap, row, rfl, hp⟩
end
end Go.Proofs.Ytnakbdgoaepehaa
