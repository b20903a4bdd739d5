/- Slices among a law's parameters: their cells; lists out of 'there is one at each index'. -/
import Derived.Test.YtnakbdgoaepehaaDoorOpen
import Derived.Deep.Slices
namespace Go.Cu
open Go Go.RowKit Go.ChangeShapes Go.WideShapes
theorem choose_list {α : Type} {p : Nat → α → Prop} : ∀ (n : Nat), (∀ i, i < n → ∃ x, p i x) → ∃ l : List α, l.length = n ∧ ∀ i x, l[i]? = some x → p i x
  | 0, _ => ⟨[], rfl, fun i x h => by simp at h⟩
  | n + 1, h => by
    obtain ⟨l, hl, hp⟩ := choose_list n fun i hi => h i (by omega)
    obtain ⟨x, hx⟩ := h n (by omega)
    refine ⟨l ++ [x], by simp [hl], fun i y hy => ?_⟩
    by_cases hi : i < n
    · rw [List.getElem?_append_left (by omega)] at hy
      exact hp i y hy
    · have hlt := (List.getElem?_eq_some_iff.1 hy).1
      simp only [List.length_append, List.length_singleton] at hlt
      have e : i = n := by omega
      subst e
      rw [List.getElem?_append_right (by omega)] at hy
      rw [hl, Nat.sub_self] at hy
      obtain rfl : x = y := by simpa using hy
      exact hx
section
variable {H : Type} {enc : TypeId × Value → H} {P : Program} {w : World} {base : Nat} {spare : Nat → Bool} {held : Bool}
/-- A slice's cells. -/
theorem slice_cells {t e : TypeId} {s fuel : Nat} {cs : List Value} {x : DataW H × List MemPlace} (ht : P.underlying t = some (.slice e)) (hs : P.cellsOf e = s) (h0 : 0 < s) (h : DataW.trod enc P w base spare held fuel t cs = some x) :
    ∃ (A : Option Addr) (len cap : Nat), cs = [.slice A len cap] ∧ len ≤ cap ∧ cap ≤ maxLen ∧ ∀ i, i < len → ∃ (g o n : Nat) (cs' : List Value) (y : DataW H × List MemPlace), A = some ⟨g, o, none⟩ ∧ g < w.heap.size ∧ cs'.length = s ∧
      (∀ k, k < s → w.cell? ⟨g, o + i * s + k, none⟩ = cs'[k]?) ∧ DataW.trod enc P w base spare held n e cs' = some y := by
  subst hs
  rcases DataW.trod_slice ht h with ⟨rfl, _⟩ | ⟨a, len, cap, elems, rest, n, _, rfl, _, _, hl, hm, hlen, hel, _, _⟩
  · exact ⟨none, 0, 0, rfl, Nat.le_refl _, Nat.zero_le _, fun i hi => absurd hi (by omega)⟩
  · refine ⟨some a, len, cap, rfl, hl, hm, fun i hi => ?_⟩
    have hspot : a.spot = none ∧ a.block < w.heap.size := by
      have h1 := hel 0 (by omega)
      rw [List.getElem?_eq_getElem (by omega), Option.bind_eq_some_iff] at h1
      obtain ⟨cs', hc, _⟩ := h1
      obtain ⟨_, hcl, hat⟩ := World.cells?_some hc
      have h2 := hat 0 h0
      rw [List.getElem?_eq_getElem (by omega)] at h2
      have e : (a.add (0 * P.cellsOf e)).add 0 = a := by simp [Addr.add]
      rw [e] at h2
      refine ⟨World.cell?_spot h2, ?_⟩
      rcases Nat.lt_or_ge a.block w.heap.size with h3 | h3
      · exact h3
      · unfold World.cell? at h2
        rw [Array.getElem?_eq_none h3] at h2
        simp at h2
    obtain ⟨g, o, sp⟩ := a
    obtain ⟨rfl, hg⟩ := hspot
    have h1 := hel i hi
    rw [List.getElem?_eq_getElem (by omega), Option.bind_eq_some_iff] at h1
    obtain ⟨cs', hc, hy⟩ := h1
    obtain ⟨_, hcl, hat⟩ := World.cells?_some hc
    refine ⟨g, o, n, cs', _, rfl, hg, hcl, fun k hk => ?_, hy⟩
    have h2 := hat k hk
    rw [Go.Deep.add_add] at h2
    have e : (⟨g, o, none⟩ : Addr).add (i * P.cellsOf e + k) = ⟨g, o + i * P.cellsOf e + k, none⟩ := by
      unfold Addr.add
      split
      · rename_i hz
        simp only [Addr.mk.injEq, and_true, true_and]
        omega
      · simp [Nat.add_assoc]
    rw [e] at h2
    exact h2
/-- A struct's fields. -/
theorem field_cells {t : TypeId} {fs : Array Field} {fuel : Nat} {cs : List Value} {x : DataW H × List MemPlace} (ht : P.underlying t = some (.struct fs)) (h : DataW.trod enc P w base spare held fuel t cs = some x) :
    ∀ (i : Nat) (f : Field), fs[i]? = some f → ∃ n y, DataW.trod enc P w base spare held n f.type ((cs.drop f.offset).take (P.cellsOf f.type)) = some y := by
  obtain ⟨xs, n, _, _, _, hl, hf⟩ := DataW.trod_struct ht h
  intro i f hi
  have h1 := hf i f hi
  have hlt := (Array.getElem?_eq_some_iff.1 hi).1
  rw [List.getElem?_eq_getElem (by omega)] at h1
  exact ⟨n, _, h1⟩
/-- A parameter that is a slice. -/
theorem param_slice {r : Reach} {b0 : Nat} {t e : TypeId} {s : Nat} {v : Value} {d : DataW H} {p : List MemPlace} (ht : P.underlying t = some (.slice e)) (hs : P.cellsOf e = s) (h0 : 0 < s)
    (hv : Value.okWide P w r b0 t v) (h : DataW.Trod enc P w base spare held t v d p) :
    ∃ (A : Option Addr) (len cap : Nat), v = .slice A len cap ∧ len ≤ cap ∧ cap ≤ maxLen ∧ ∀ i, i < len → ∃ (g o n : Nat) (cs' : List Value) (y : DataW H × List MemPlace), A = some ⟨g, o, none⟩ ∧ g < w.heap.size ∧ cs'.length = s ∧
      (∀ k, k < s → w.cell? ⟨g, o + i * s + k, none⟩ = cs'[k]?) ∧ DataW.trod enc P w base spare held n e cs' = some y := by
  obtain ⟨fuel, hf⟩ := h
  obtain ⟨A, len, cap, hcs, h1, h2, h3⟩ := slice_cells ht hs h0 hf
  refine ⟨A, len, cap, ?_, h1, h2, h3⟩
  simp only [Value.okWide, ht, Cell.okWide] at hv
  unfold Cell.ok at hv
  rw [ht] at hv
  cases v <;> simp [Value.cells] at hcs hv ⊢
  · exact hcs
end
/-- Bytes that lie in memory that was there. -/
def BytesIn (W : World) (A : Option Addr) (l : List UInt8) : Prop := ∀ i b, l[i]? = some b → ∃ g o, A = some ⟨g, o, none⟩ ∧ g < W.heap.size ∧ W.cell? ⟨g, o + i, none⟩ = some (.int .u8 b.toNat)
section
variable {H : Type} {enc : TypeId × Value → H} {P : Program} {w : World} {base : Nat} {spare : Nat → Bool} {held : Bool}
theorem bytes_cells {t e : TypeId} {fuel : Nat} {cs : List Value} {x : DataW H × List MemPlace} (ht : P.underlying t = some (.slice e)) (he : P.underlying e = some (.int .u8)) (hc : P.cellsOf e = 1) (h : DataW.trod enc P w base spare held fuel t cs = some x) :
    ∃ (A : Option Addr) (c : Nat) (l : List UInt8), cs = [.slice A l.length c] ∧ l.length ≤ maxLen ∧ BytesIn w A l := by
  obtain ⟨A, len, cap, rfl, h1, h2, h3⟩ := slice_cells ht hc (by omega) h
  obtain ⟨l, rfl, hp⟩ := choose_list (α := UInt8) (p := fun i b => ∃ g o, A = some ⟨g, o, none⟩ ∧ g < w.heap.size ∧ w.cell? ⟨g, o + i, none⟩ = some (.int .u8 b.toNat)) len (fun i hi => by
    obtain ⟨g, o, n, cs', y, hA, hg, hl, hcell, hy⟩ := h3 i hi
    obtain ⟨a, rfl, _, wa⟩ := DataW.trod_int he hy
    have hb := bounds_u8 wa
    have h4 := hcell 0 (by omega)
    refine ⟨UInt8.ofNat a.toNat, g, o, hA, hg, ?_⟩
    have e : ((UInt8.ofNat a.toNat).toNat : Int) = a := by
      rw [UInt8.toNat_ofNat', Nat.mod_eq_of_lt (by omega)]
      omega
    rw [e]
    simpa using h4)
  exact ⟨A, cap, l, rfl, by omega, hp⟩
theorem bools_cells {t e : TypeId} {fuel : Nat} {cs : List Value} {x : DataW H × List MemPlace} (ht : P.underlying t = some (.slice e)) (he : P.underlying e = some .bool) (hc : P.cellsOf e = 1) (h : DataW.trod enc P w base spare held fuel t cs = some x) :
    ∃ (A : Option Addr) (c : Nat) (l : List Bool), cs = [.slice A l.length c] ∧ l.length ≤ maxLen ∧ ∀ i b, l[i]? = some b → ∃ q, A = some q ∧ (q.add i).block < w.heap.size ∧ w.cell? (q.add i) = some (.bool b) := by
  obtain ⟨A, len, cap, rfl, h1, h2, h3⟩ := slice_cells ht hc (by omega) h
  obtain ⟨l, rfl, hp⟩ := choose_list (α := Bool) (p := fun i b => ∃ q, A = some q ∧ (q.add i).block < w.heap.size ∧ w.cell? (q.add i) = some (.bool b)) len (fun i hi => by
    obtain ⟨g, o, n, cs', y, hA, hg, hl, hcell, hy⟩ := h3 i hi
    obtain ⟨a, rfl, _⟩ := DataW.trod_bool he hy
    have h4 := hcell 0 (by omega)
    have e : (⟨g, o, none⟩ : Addr).add i = ⟨g, o + i, none⟩ := by unfold Addr.add; split <;> simp_all
    refine ⟨a, _, hA, ?_, ?_⟩
    · rw [e]; exact hg
    · rw [e]; simpa using h4)
  exact ⟨A, cap, l, rfl, by omega, hp⟩
/-- A parameter of one cell that is a slice: its cells are its value. -/
theorem slice_value {r : Reach} {b0 : Nat} {t e : TypeId} {v u : Value} (ht : P.underlying t = some (.slice e)) (hv : Value.okWide P w r b0 t v) (h : v.cells.toList = [u]) : v = u := by
  simp only [Value.okWide, ht, Cell.okWide] at hv
  unfold Cell.ok at hv
  rw [ht] at hv
  cases v <;> simp [Value.cells] at h hv ⊢
  · exact h
theorem param_bytes {r : Reach} {b0 : Nat} {t e : TypeId} {v : Value} {d : DataW H} {p : List MemPlace} (ht : P.underlying t = some (.slice e)) (he : P.underlying e = some (.int .u8)) (hc : P.cellsOf e = 1)
    (hv : Value.okWide P w r b0 t v) (h : DataW.Trod enc P w base spare held t v d p) : ∃ (A : Option Addr) (c : Nat) (l : List UInt8), v = .slice A l.length c ∧ l.length ≤ maxLen ∧ BytesIn w A l := by
  obtain ⟨fuel, hf⟩ := h
  obtain ⟨A, c, l, hcs, h1, h2⟩ := bytes_cells ht he hc hf
  exact ⟨A, c, l, slice_value ht hv hcs, h1, h2⟩
theorem param_bools {r : Reach} {b0 : Nat} {t e : TypeId} {v : Value} {d : DataW H} {p : List MemPlace} (ht : P.underlying t = some (.slice e)) (he : P.underlying e = some .bool) (hc : P.cellsOf e = 1)
    (hv : Value.okWide P w r b0 t v) (h : DataW.Trod enc P w base spare held t v d p) : ∃ (A : Option Addr) (c : Nat) (l : List Bool), v = .slice A l.length c ∧ l.length ≤ maxLen ∧ ∀ i b, l[i]? = some b → ∃ q, A = some q ∧ (q.add i).block < w.heap.size ∧ w.cell? (q.add i) = some (.bool b) := by
  obtain ⟨fuel, hf⟩ := h
  obtain ⟨A, c, l, hcs, h1, h2⟩ := bools_cells ht he hc hf
  exact ⟨A, c, l, slice_value ht hv hcs, h1, h2⟩
end
end Go.Cu
