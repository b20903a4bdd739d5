/- A pair of numbers among a law's parameters. -/
import Derived.Test.YthmchbdhikakhaaExtAreasBody
import Derived.Test.YthmchbdhikakhaaOpen2
namespace Go.Proofs.Ythmchbdhikakhaa
open Go.ChangeShapes Go.WideShapes Go.ChangeAt Go.RowKit Go.Cu
set_option maxRecDepth 20000 in
theorem pair_open {H : Type} {enc : TypeId × Value → H} {w : World} {base : Nat} {spare : Nat → Bool} {held : Bool} {r : Reach} {b0 : Nat} {v : Value} {d : DataW H} {p : List MemPlace} (hv : Value.okWide Try.prog w r b0 63 v) (h : DataW.Trod enc Try.prog w base spare held 63 v d p) :
    ∃ c s : Int, v = .agg (pairV c s) := by
  simp only [Value.okWide, Try.underlying63] at hv
  obtain ⟨cs, rfl, hsz, _⟩ := hv
  obtain ⟨fuel, hf⟩ := h
  obtain ⟨xs, m, _, _, _, hl, hel⟩ := DataW.trod_array Try.underlying63 hf
  have hC : Try.prog.cellsOf 63 = 2 := by kernel_rfl
  have hc3 : Try.prog.cellsOf 3 = 1 := by kernel_rfl
  rw [hC] at hsz
  have h0 := hel 0 (by decide)
  have h1 := hel 1 (by decide)
  rw [hc3, List.getElem?_eq_getElem (by omega)] at h0 h1
  obtain ⟨a, e0, _, _⟩ := DataW.trod_int Try.underlying3 h0
  obtain ⟨b, e1, _, _⟩ := DataW.trod_int Try.underlying3 h1
  obtain ⟨l⟩ := cs
  match l, hsz with
  | [x, y], _ =>
    have c0 : [x] = [.int .i64 a] := e0
    have c1 : [y] = [.int .i64 b] := e1
    simp only [List.cons.injEq, and_true] at c0 c1
    subst c0 c1
    exact ⟨a, b, rfl⟩
end Go.Proofs.Ythmchbdhikakhaa
