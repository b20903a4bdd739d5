/- What the settling asks: is write k kept? -/
import Derived.Test.YthmchbdhikakhaaDiskSmall
namespace Go.Proofs.Ythmchbdhikakhaa
open Go.RowKit Go.Cu

set_option maxHeartbeats 400000 in
theorem sync1_ok (k : Int) (w : World) : Calls Try.prog 60 #[.int .i64 k] w fun e w' => e = .returned (.bool true) ∧ w = w' := by
  go_enter Try.func60, Try.ntmps60
  go_wp2
  go_ret
  exact ⟨rfl, rfl⟩

/-- What Crash is handed lies in memory: the box g holds the slice, whose cells are the words of keep. -/
structure KeepAt (W : World) (g : Nat) (keep : List Bool) (A : Option Addr) (c : Nat) : Prop where
  box : W.cell? ⟨g, 0, none⟩ = some (.slice A keep.length c)
  row : ∀ j b, keep[j]? = some b → ∃ q, A = some q ∧ W.cell? (q.add j) = some (.bool b)
  big : keep.length ≤ 9223372036854775807

theorem lastOf_snoc (kept : Nat → Bool) (p : Nat × Blk8) : ∀ (l : List (Nat × Blk8)) (k : Nat) (L : List Blk8), lastOf kept k (l ++ [p]) L = if kept (k + l.length) then (lastOf kept k l L).set p.1 p.2 else lastOf kept k l L
  | [], k, L => by simp [lastOf]
  | q :: l, k, L => by
    simp only [List.cons_append, lastOf, List.length_cons]
    rw [lastOf_snoc kept p l]
    simp only [Nat.add_assoc, Nat.add_comm 1]
theorem nowOf_snoc (last : List Blk8) (p : Nat × Blk8) : ∀ (l : List (Nat × Blk8)) (N : List Blk8), nowOf last (l ++ [p]) N = (nowOf last l N).set p.1 (last.getD p.1 zeroB)
  | [], N => by simp [nowOf]
  | q :: l, N => by simp only [List.cons_append, nowOf]; rw [nowOf_snoc last p l]
theorem take_snoc {α : Type} {l : List α} {i : Nat} {x : α} (h : l[i]? = some x) : l.take (i + 1) = l.take i ++ [x] := by
  rw [List.take_add_one, h]
  rfl
theorem lastOf_step (kept : Nat → Bool) {l : List (Nat × Blk8)} {i : Nat} {p : Nat × Blk8} (h : l[i]? = some p) (L : List Blk8) :
    lastOf kept 0 (l.take (i + 1)) L = if kept i then (lastOf kept 0 (l.take i) L).set p.1 p.2 else lastOf kept 0 (l.take i) L := by
  have hlt := (List.getElem?_eq_some_iff.1 h).1
  rw [take_snoc h, lastOf_snoc, List.length_take, Nat.zero_add, Nat.min_eq_left (by omega)]
theorem nowOf_step (last : List Blk8) {l : List (Nat × Blk8)} {i : Nat} {p : Nat × Blk8} (h : l[i]? = some p) (N : List Blk8) :
    nowOf last (l.take (i + 1)) N = (nowOf last (l.take i) N).set p.1 (last.getD p.1 zeroB) := by
  rw [take_snoc h, nowOf_snoc]

set_option maxHeartbeats 400000 in
theorem crash1_in {W : World} {g : Nat} {keep : List Bool} {A : Option Addr} {c : Nat} (h : KeepAt W g keep A c) {k : Nat} {b : Bool} (hk : keep[k]? = some b) :
    Calls Try.prog 61 #[.int .i64 k, .pointer (some ⟨g, 0, none⟩)] W fun e w' => e = .returned (.bool b) ∧ W = w' := by
  obtain ⟨q, rfl, hq⟩ := h.row k b hk
  have h0 := h.box
  have hbig := h.big
  have hlt : k < keep.length := (List.getElem?_eq_some_iff.1 hk).1
  clear h hk
  go_enter Try.func61, Try.ntmps61
  go_wp2
  go_ret
  exact ⟨rfl, rfl⟩
set_option maxHeartbeats 400000 in
theorem crash1_past {W : World} {g : Nat} {keep : List Bool} {A : Option Addr} {c : Nat} (h : KeepAt W g keep A c) {k : Nat} (hk : keep[k]? = none) :
    Calls Try.prog 61 #[.int .i64 k, .pointer (some ⟨g, 0, none⟩)] W fun e w' => e = .returned (.bool false) ∧ W = w' := by
  have h0 := h.box
  have hbig := h.big
  have hlt : ¬ k < keep.length := by simpa using hk
  clear h hk
  go_enter Try.func61, Try.ntmps61
  go_wp2
  go_ret
  exact ⟨rfl, rfl⟩
theorem crash1_ok {W : World} {g : Nat} {keep : List Bool} {A : Option Addr} {c : Nat} (h : KeepAt W g keep A c) {k : Nat} :
    Calls Try.prog 61 #[.int .i64 k, .pointer (some ⟨g, 0, none⟩)] W fun e w' => e = .returned (.bool (keep.getD k false)) ∧ W = w' := by
  rw [List.getD_eq_getElem?_getD]
  cases hk : keep[k]? with
  | none => exact crash1_past h hk
  | some b => exact crash1_in h hk
end Go.Proofs.Ythmchbdhikakhaa
