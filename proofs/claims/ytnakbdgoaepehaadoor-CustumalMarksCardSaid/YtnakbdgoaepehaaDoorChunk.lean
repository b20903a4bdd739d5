/- Lists of chunks of one length, as cells one behind the other; blocks of bytes in a row. -/
import Derived.Test.YtnakbdgoaepehaaDoorArr
namespace Go.Cu
open Go Go.RowKit
section
variable {α β : Type} {f : α → List β} {n : Nat}

theorem fm_len : ∀ (l : List α), (∀ x ∈ l, (f x).length = n) → (l.flatMap f).length = l.length * n
  | [], _ => by simp
  | x :: l, h => by
    have := fm_len l (fun y hy => h y (by simp [hy]))
    simp only [List.flatMap_cons, List.length_append, this, h x (by simp), List.length_cons, Nat.succ_mul]
    omega
theorem fm_get : ∀ (l : List α) (i j : Nat) (x : α), (∀ x ∈ l, (f x).length = n) → l[i]? = some x → j < n → (l.flatMap f)[i * n + j]? = (f x)[j]?
  | [], _, _, _, _, hi, _ => by simp at hi
  | y :: l, 0, j, x, h, hi, hj => by
    have e : y = x := by simpa using hi
    subst e
    rw [List.flatMap_cons, List.getElem?_append_left (by rw [h y (by simp)]; omega)]
    simp
  | y :: l, i + 1, j, x, h, hi, hj => by
    have hy := h y (by simp)
    rw [List.flatMap_cons, List.getElem?_append_right (by rw [hy, Nat.succ_mul]; omega), hy, show (i + 1) * n + j - n = i * n + j by rw [Nat.succ_mul]; omega]
    exact fm_get l i j x (fun z hz => h z (by simp [hz])) (by simpa using hi) hj
theorem fm_put : ∀ (l : List α) (i : Nat) (y : α), (∀ x ∈ l, (f x).length = n) → i < l.length →
    (l.flatMap f).take (i * n) ++ f y ++ (l.flatMap f).drop (i * n + n) = (l.set i y).flatMap f
  | [], _, _, _, hi => by simp at hi
  | x :: l, 0, y, h, _ => by
    have hx := h x (by simp)
    rw [List.flatMap_cons, List.set_cons_zero, List.flatMap_cons, Nat.zero_mul, Nat.zero_add, List.take_zero, List.nil_append, List.drop_append_of_le_length (by omega), List.drop_of_length_le (by omega), List.nil_append]
  | x :: l, i + 1, y, h, hi => by
    have hx := h x (by simp)
    have ih := fm_put l i y (fun z hz => h z (by simp [hz])) (by simpa using hi)
    rw [List.flatMap_cons, List.set_cons_succ, List.flatMap_cons, ← ih, show (i + 1) * n = (f x).length + i * n by rw [Nat.succ_mul, hx]; omega, List.take_length_add_append,
      show (f x).length + i * n + n = (f x).length + (i * n + n) by omega, List.drop_length_add_append]
    simp
end

/-- Bytes as a list of cells. -/
def bvL (l : List UInt8) : List Value := l.map fun b => Value.int .u8 b.toNat
theorem bvL_len (l : List UInt8) : (bvL l).length = l.length := by simp [bvL]
theorem bv_eq (l : List UInt8) : bv l = (bvL l).toArray := rfl
theorem bvL_one (l : List UInt8) : ∀ u ∈ bvL l, u.oneCell' = true := by
  intro u hu
  simp only [bvL, List.mem_map] at hu
  obtain ⟨b, _, rfl⟩ := hu
  rfl

abbrev Bk := List UInt8
/-- Blocks of bytes, one behind the other. -/
def flat (L : List Bk) : Array Value := (L.flatMap bvL).toArray
def Full (L : List Bk) : Prop := ∀ b ∈ L, b.length = 128
theorem Full.get {L : List Bk} (h : Full L) {i : Nat} {b : Bk} (hi : L[i]? = some b) : b.length = 128 := h b (List.mem_of_getElem? hi)
theorem Full.set {L : List Bk} (h : Full L) {i : Nat} {b : Bk} (hb : b.length = 128) : Full (L.set i b) := by
  intro x hx
  rcases List.mem_or_eq_of_mem_set hx with h1 | h1
  · exact h x h1
  · subst h1; exact hb
theorem Full.len {L : List Bk} (h : Full L) : ∀ x ∈ L, (bvL x).length = 128 := fun x hx => (bvL_len x).trans (h x hx)
theorem flat_size {L : List Bk} (h : Full L) : (flat L).size = L.length * 128 := by
  unfold flat
  rw [List.size_toArray]
  exact fm_len L h.len
theorem flat_get {L : List Bk} (h : Full L) {i : Nat} {b : Bk} (hi : L[i]? = some b) : ∀ j, j < (bv b).size → (flat L)[i * 128 + j]? = (bv b)[j]? := by
  intro j hj
  rw [bv_size, h.get hi] at hj
  unfold flat
  rw [bv_eq, List.getElem?_toArray, List.getElem?_toArray]
  exact fm_get L i j b h.len hi hj
theorem flat_put {L : List Bk} (h : Full L) {i : Nat} (hi : i < L.length) {b : Bk} (hb : b.length = 128) : putAt (flat L) (i * 128) (bvL b) = flat (L.set i b) := by
  unfold putAt flat
  rw [bvL_len, hb]
  congr 1
  exact fm_put L i b h.len hi

/-- A write that doesn't last yet: a place and a block. -/
def putL (p : Nat × Bk) : List Value := .int .i64 p.1 :: bvL p.2
def waitL (l : List (Nat × Bk)) : List Value := l.flatMap putL
def FullW (l : List (Nat × Bk)) : Prop := ∀ p ∈ l, p.2.length = 128
theorem FullW.len {l : List (Nat × Bk)} (h : FullW l) : ∀ x ∈ l, (putL x).length = 129 := fun x hx => by simp [putL, bvL_len, h x hx]
theorem waitL_len {l : List (Nat × Bk)} (h : FullW l) : (waitL l).length = l.length * 129 := fm_len l h.len
theorem waitL_get {l : List (Nat × Bk)} (h : FullW l) {i : Nat} {p : Nat × Bk} (hi : l[i]? = some p) : ∀ j, j < 129 → (waitL l)[i * 129 + j]? = (putL p)[j]? :=
  fun j hj => fm_get l i j p h.len hi hj
theorem waitL_snoc (l : List (Nat × Bk)) (p : Nat × Bk) : waitL (l ++ [p]) = waitL l ++ putL p := by simp [waitL]
theorem putL_one (p : Nat × Bk) : ∀ u ∈ putL p, u.oneCell' = true := by
  intro u hu
  rcases List.mem_cons.1 hu with rfl | h
  · rfl
  · exact bvL_one _ u h
theorem putL_len {p : Nat × Bk} (h : p.2.length = 128) : (putL p).length = 129 := by simp [putL, bvL_len, h]
theorem putL_size {p : Nat × Bk} (h : p.2.length = 128) : (putL p).toArray.size = 129 := by simp [putL, bvL_len, h]
end Go.Cu
