/- Rows of jobs among a law's parameters. -/
import Derived.Test.YthmchbdhikakhaaDiskJobsBody
import Derived.Test.YthmchbdhikakhaaOpen2
namespace Go.Proofs.Ythmchbdhikakhaa
open Go.ChangeShapes Go.WideShapes Go.ChangeAt Go.RowKit Go.Cu
section
variable {H : Type} {enc : TypeId × Value → H} {w : World} {base : Nat} {spare : Nat → Bool} {held : Bool}
set_option maxRecDepth 20000 in
theorem job_cells {fuel : Nat} {cs : List Value} {x : DataW H × List MemPlace} (h : DataW.trod enc Try.prog w base spare held fuel 37 cs = some x) (hl : cs.length = 4) :
    ∃ (j : JobD) (Ak : Option Addr) (ck : Nat), cs = [.int .i64 j.what, .int .i64 j.at_, .int .u8 j.by_.toNat, .slice Ak j.keep.length ck] ∧ KeepIn w Ak j.keep ∧ j.keep.length ≤ 9223372036854775807 ∧
      -9223372036854775808 ≤ j.what ∧ j.what ≤ 9223372036854775807 ∧ -9223372036854775808 ≤ j.at_ ∧ j.at_ ≤ 9223372036854775807 := by
  obtain ⟨_, y0, t0⟩ := field_cells Try.underlying37 h 0 _ rfl
  obtain ⟨_, y1, t1⟩ := field_cells Try.underlying37 h 1 _ rfl
  obtain ⟨_, y2, t2⟩ := field_cells Try.underlying37 h 2 _ rfl
  obtain ⟨_, y3, t3⟩ := field_cells Try.underlying37 h 3 _ rfl
  match cs, hl with
  | [a, b, c, d], _ =>
    obtain ⟨x0, e0, _, w0⟩ := DataW.trod_int Try.underlying3 t0
    obtain ⟨x1, e1, _, w1⟩ := DataW.trod_int Try.underlying3 t1
    obtain ⟨x2, e2, _, w2⟩ := DataW.trod_int Try.underlying5 t2
    obtain ⟨Ak, ck, keep, e3, hkl, hk⟩ := bools_cells Try.underlying24 Try.underlying4 (by kernel_rfl) t3
    have b0 := bounds_i64 w0
    have b1 := bounds_i64 w1
    have b2 := bounds_u8 w2
    have c0 : [a] = [.int .i64 x0] := e0
    have c1 : [b] = [.int .i64 x1] := e1
    have c2 : [c] = [.int .u8 x2] := e2
    have c3 : [d] = [.slice Ak keep.length ck] := e3
    simp only [List.cons.injEq, and_true] at c0 c1 c2 c3
    subst c0 c1 c2 c3
    have e : ((UInt8.ofNat x2.toNat).toNat : Int) = x2 := by
      rw [UInt8.toNat_ofNat', Nat.mod_eq_of_lt (by omega)]
      omega
    unfold maxLen at hkl
    exact ⟨⟨x0, x1, UInt8.ofNat x2.toNat, keep⟩, Ak, ck, by rw [e], hk, by omega, b0.1, b0.2, b1.1, b1.2⟩
set_option maxRecDepth 20000 in
theorem jobs_open {r : Reach} {b0 : Nat} {v : Value} {d : DataW H} {p : List MemPlace} (hv : Value.okWide Try.prog w r b0 23 v) (h : DataW.Trod enc Try.prog w base spare held 23 v d p) :
    ∃ (A : Option Addr) (c : Nat) (row : List JobD), v = .slice A row.length c ∧ JobsIn w A row := by
  obtain ⟨A, len, cap, rfl, _, _, h3⟩ := param_slice Try.underlying23 (s := 4) (by kernel_rfl) (by decide) hv h
  obtain ⟨row, rfl, hp⟩ := choose_list (α := JobD) (p := fun i j => ∃ g o Ak ck, A = some ⟨g, o, none⟩ ∧ g < w.heap.size ∧ KeepIn w Ak j.keep ∧ j.keep.length ≤ 9223372036854775807 ∧
  -9223372036854775808 ≤ j.what ∧ j.what ≤ 9223372036854775807 ∧ -9223372036854775808 ≤ j.at_ ∧ j.at_ ≤ 9223372036854775807 ∧
  w.cell? ⟨g, o + i * 4, none⟩ = some (.int .i64 j.what) ∧ w.cell? ⟨g, o + i * 4 + 1, none⟩ = some (.int .i64 j.at_) ∧ w.cell? ⟨g, o + i * 4 + 2, none⟩ = some (.int .u8 j.by_.toNat) ∧ w.cell? ⟨g, o + i * 4 + 3, none⟩ = some (.slice Ak j.keep.length ck)) len (fun i hi => by
    obtain ⟨g, o, n, cs', y, hA, hg, hl, hcell, hy⟩ := h3 i hi
    obtain ⟨j, Ak, ck, rfl, hk, hkl, b⟩ := job_cells hy hl
    exact ⟨j, g, o, Ak, ck, hA, hg, hk, hkl, b.1, b.2.1, b.2.2.1, b.2.2.2, (hcell 0 (by decide)).trans rfl, (hcell 1 (by decide)).trans rfl, (hcell 2 (by decide)).trans rfl, (hcell 3 (by decide)).trans rfl⟩)
  exact ⟨A, cap, row, rfl, hp⟩
end
end Go.Proofs.Ythmchbdhikakhaa
