/- Rows of writes among a law's parameters. -/
import Derived.Test.YthmchbdhikakhaaExtZerosPlain
import Derived.Test.YthmchbdhikakhaaOpen2
namespace Go.Proofs.Ythmchbdhikakhaa
open Go.ChangeShapes Go.WideShapes Go.ChangeAt Go.RowKit Go.Cu
section
variable {H : Type} {enc : TypeId × Value → H} {w : World} {base : Nat} {spare : Nat → Bool} {held : Bool}
set_option maxRecDepth 20000 in
theorem wr_cells {fuel : Nat} {cs : List Value} {x : DataW H × List MemPlace} (h : DataW.trod enc Try.prog w base spare held fuel 77 cs = some x) (hl : cs.length = 2) :
    ∃ j : WrD, cs = [.int .i64 j.at_, .int .u8 j.by_.toNat] ∧ -9223372036854775808 ≤ j.at_ ∧ j.at_ ≤ 9223372036854775807 := by
  obtain ⟨_, y0, t0⟩ := field_cells Try.underlying77 h 0 _ rfl
  obtain ⟨_, y1, t1⟩ := field_cells Try.underlying77 h 1 _ rfl
  match cs, hl with
  | [a, b], _ =>
    obtain ⟨x0, e0, _, w0⟩ := DataW.trod_int Try.underlying3 t0
    obtain ⟨x1, e1, _, w1⟩ := DataW.trod_int Try.underlying5 t1
    have b0 := bounds_i64 w0
    have b1 := bounds_u8 w1
    have c0 : [a] = [.int .i64 x0] := e0
    have c1 : [b] = [.int .u8 x1] := e1
    simp only [List.cons.injEq, and_true] at c0 c1
    subst c0 c1
    have e : ((UInt8.ofNat x1.toNat).toNat : Int) = x1 := by
      rw [UInt8.toNat_ofNat', Nat.mod_eq_of_lt (by omega)]
      omega
    exact ⟨⟨x0, UInt8.ofNat x1.toNat⟩, by rw [e], b0.1, b0.2⟩
set_option maxRecDepth 20000 in
theorem writes_open {r : Reach} {b0 : Nat} {v : Value} {d : DataW H} {p : List MemPlace} (hv : Value.okWide Try.prog w r b0 74 v) (h : DataW.Trod enc Try.prog w base spare held 74 v d p) :
    ∃ (A : Option Addr) (c : Nat) (row : List WrD), v = .slice A row.length c ∧ WritesIn w A row := by
  obtain ⟨A, len, cap, rfl, _, _, h3⟩ := param_slice Try.underlying74 (s := 2) (by kernel_rfl) (by decide) hv h
  obtain ⟨row, rfl, hp⟩ := choose_list (α := WrD) (p := fun i j => ∃ g o, A = some ⟨g, o, none⟩ ∧ g < w.heap.size ∧ -9223372036854775808 ≤ j.at_ ∧ j.at_ ≤ 9223372036854775807 ∧
  w.cell? ⟨g, o + i * 2, none⟩ = some (.int .i64 j.at_) ∧ w.cell? ⟨g, o + i * 2 + 1, none⟩ = some (.int .u8 j.by_.toNat)) len (fun i hi => by
    obtain ⟨g, o, n, cs', y, hA, hg, hl, hcell, hy⟩ := h3 i hi
    obtain ⟨j, rfl, b⟩ := wr_cells hy hl
    exact ⟨j, g, o, hA, hg, b.1, b.2, (hcell 0 (by decide)).trans rfl, (hcell 1 (by decide)).trans rfl⟩)
  exact ⟨A, cap, row, rfl, hp⟩
end
end Go.Proofs.Ythmchbdhikakhaa
