/- What ExtentZeros asks, plainly. -/
import Derived.Test.YthmchbdhikakhaaExtFoul
import Derived.Test.YthmchbdhikakhaaExtPlain
import Derived.Test.YthmchbdhikakhaaDiskLastsBody
namespace Go.Proofs.Ythmchbdhikakhaa
open Go.RowKit Go.Cu
/-- A block of which only the last byte is set. -/
def tailB (b : UInt8) : Bk := List.replicate 127 0 ++ [b]
theorem tailB_len (b : UInt8) : (tailB b).length = 128 := by simp [tailB]
theorem tailB_zero : tailB 0 = zeroB := by decide
theorem tailB_inj {a b : UInt8} (h : tailB a = tailB b) : a = b := by
  unfold tailB at h
  have := List.append_inj_right' h rfl
  simpa using this
set_option maxRecDepth 20000 in
theorem build33_tail (b : UInt8) (W : World) : (Instr.build 33 #[(127, .int .u8 b.toNat)]).run Try.prog W = .ok (.agg (bv (tailB b))) W := by kernel_rfl
def gZ (l : List UInt8) : List Bk := l.map tailB
theorem gZ_start : gZ (List.replicate 20 0) = List.replicate 20 zeroB := by
  unfold gZ
  rw [List.map_replicate, tailB_zero]
theorem gZ_set (l : List UInt8) (i : Nat) (b : UInt8) : (gZ l).set i (tailB b) = gZ (l.set i b) := by
  unfold gZ
  rw [List.map_set]
theorem gZ_get (l : List UInt8) (i : Nat) : (gZ l).getD i zeroB = tailB (l.getD i 0) := by
  unfold gZ
  rw [List.getD_eq_getElem?_getD, List.getElem?_map, List.getD_eq_getElem?_getD]
  cases l[i]? with
  | none => exact tailB_zero.symm
  | some b => rfl
/-- Has one of the first k blocks of the i-th extent a byte? -/
def dirtyTo (l : List UInt8) (i k : Nat) : Bool := (List.range k).any fun j => l.getD (2 + 4 * i + j) 0 != 0
theorem dirty_step (l : List UInt8) (i k : Nat) : dirtyTo l i (k + 1) = (dirtyTo l i k || l.getD (2 + 4 * i + k) 0 != 0) := by
  unfold dirtyTo
  rw [List.range_succ, List.any_append]
  simp
theorem dirty_clear {l : List UInt8} {S : DS} (h : S.now = gZ l) (i : Nat) : S.clear (2 + i * 4) 4 = !dirtyTo l i 4 := by
  rw [Bool.eq_iff_iff, clear_iff]
  unfold dirtyTo
  rw [h]
  simp only [gZ_get, Bool.not_eq_true', List.any_eq_false, List.mem_range, bne_iff_ne, ne_eq, Decidable.not_not]
  constructor
  · intro hz j hj
    have := hz j hj
    rw [← tailB_zero] at this
    have := tailB_inj this
    rwa [show 2 + i * 4 + j = 2 + 4 * i + j by omega] at this
  · intro hz j hj
    rw [show 2 + i * 4 + j = 2 + 4 * i + j by omega, hz j hj, tailB_zero]
section
variable {W0 W : World} {L : List Atm}
theorem row_cell {A : Option Addr} {n c e : Nat} {xs : List Value} (h : St W0 (Row (.slice A n c) e 1 n xs :: L) W) {i : Nat} (hi : i < n) : ∃ g, A = some ⟨g, 0, none⟩ ∧ W.cell? ⟨g, i, none⟩ = xs[i]? := by
  obtain ⟨_, h2⟩ := h.row
  rcases h2 with ⟨_, h0⟩ | ⟨g, cap, cur, hv, _, hg, hcap, hmax, hcs, htk⟩
  · omega
  · obtain ⟨rfl, _⟩ : A = some ⟨g, 0, none⟩ ∧ c = cap := by
      injection hv with e1 e2 e3
      exact ⟨e1, e3⟩
    refine ⟨g, rfl, ?_⟩
    rw [cell_of_row W g i _ _ _ hg, ← htk, List.getElem?_take, if_pos (by omega)]
    simp
end
/-- A row of writes lies in memory. -/
structure WrD where
  at_ : Int
  by_ : UInt8
def WritesIn (W : World) (A : Option Addr) (row : List WrD) : Prop := ∀ i j, row[i]? = some j → ∃ g o, A = some ⟨g, o, none⟩ ∧ g < W.heap.size ∧ -9223372036854775808 ≤ j.at_ ∧ j.at_ ≤ 9223372036854775807 ∧
  W.cell? ⟨g, o + i * 2, none⟩ = some (.int .i64 j.at_) ∧ W.cell? ⟨g, o + i * 2 + 1, none⟩ = some (.int .u8 j.by_.toNat)
theorem zero75 (W : World) : (zeroValue 75).run Try.prog W = .ok (.agg (bv (List.replicate 20 0))) W := by kernel_rfl
end Go.Proofs.Ythmchbdhikakhaa
