/- Slices of bytes that lie somewhere: of each the bytes that it has. -/
import Derived.Test.YtnakbdgoaepehaaDoorSep2
import Derived.Test.YtnakbdgoaepehaaDoorOpen2
namespace Go.Cu
open Go Go.RowKit
/-- The bytes r lie behind A, in blocks of F. -/
def BytesF (F : Nat → Prop) (W : World) (A : Option Addr) (r : List UInt8) : Prop := ∀ (k : Nat) (b : UInt8), r[k]? = some b → ∃ g o, A = some ⟨g, o, none⟩ ∧ F g ∧ g < W.heap.size ∧ W.cell? ⟨g, o + k, none⟩ = some (.int .u8 b.toNat)
theorem BytesF.keep {F : Nat → Prop} {W W' : World} {A : Option Addr} {r : List UInt8} (h : BytesF F W A r) (hk : ∀ g, g < W.heap.size → F g → W'.heap[g]? = W.heap[g]?) : BytesF F W' A r := fun k b hb => by
  obtain ⟨g, o, e, hf, hg, hc⟩ := h k b hb
  have hh := hk g hg hf
  have hb' : W'.heap[(⟨g, o + k, none⟩ : Addr).block]? = W.heap[(⟨g, o + k, none⟩ : Addr).block]? := hh
  refine ⟨g, o, e, hf, ?_, ?_⟩
  · rcases Nat.lt_or_ge g W'.heap.size with h1 | h1
    · exact h1
    · rw [Array.getElem?_eq_none h1] at hh
      rw [Array.getElem?_eq_getElem hg] at hh
      cases hh
  · rw [World.cell?_of_block (a := ⟨g, o + k, none⟩) hb']
    exact hc
theorem BytesF.mono {F G : Nat → Prop} {W : World} {A : Option Addr} {r : List UInt8} (h : BytesF F W A r) (hm : ∀ g, g < W.heap.size → F g → G g) : BytesF G W A r := fun k b hb => by
  obtain ⟨g, o, e, hf, hg, hc⟩ := h k b hb
  exact ⟨g, o, e, hm g hg hf, hg, hc⟩
/-- Of each of the values the bytes. -/
def ValsIn (F : Nat → Prop) (W : World) (xs : List Value) (rs : List (List UInt8)) : Prop :=
  xs.length = rs.length ∧ ∀ (i : Nat) (r : List UInt8), rs[i]? = some r → ∃ A c, xs[i]? = some (.slice A r.length c) ∧ r.length ≤ c ∧ c ≤ maxLen ∧ BytesF F W A r
def Vals (xs : List Value) (rs : List (List UInt8)) : Atm :=
  ⟨fun F W => ValsIn F W xs rs, fun {F W W'} h hk => ⟨h.1, fun i r hi => by
    obtain ⟨A, c, e, h1, h2, hb⟩ := h.2 i r hi
    exact ⟨A, c, e, h1, h2, hb.keep hk⟩⟩, fun {F G W} h hm => ⟨h.1, fun i r hi => by
    obtain ⟨A, c, e, h1, h2, hb⟩ := h.2 i r hi
    exact ⟨A, c, e, h1, h2, hb.mono hm⟩⟩⟩
theorem ValsIn.join {F : Nat → Prop} {W : World} {xs ys : List Value} {rs ss : List (List UInt8)} (h : ValsIn F W xs rs) (h' : ValsIn F W ys ss) : ValsIn F W (xs ++ ys) (rs ++ ss) := by
  refine ⟨by rw [List.length_append, List.length_append, h.1, h'.1], fun i r hi => ?_⟩
  rcases Nat.lt_or_ge i rs.length with hl | hl
  · rw [List.getElem?_append_left hl] at hi
    rw [List.getElem?_append_left (by rw [h.1]; exact hl)]
    exact h.2 i r hi
  · rw [List.getElem?_append_right hl] at hi
    rw [List.getElem?_append_right (by rw [h.1]; exact hl), h.1]
    exact h'.2 _ r hi
section
variable {W0 W W' : World} {L : List Atm}
theorem St.vals_nil (h : St W0 L W) : St W0 (Vals [] [] :: L) W := h.push (Below.refl _ _) ⟨rfl, fun i r hi => by cases hi⟩
theorem St.vals_join {xs ys : List Value} {rs ss : List (List UInt8)} (h : St W0 (Vals xs rs :: Vals ys ss :: L) W) : St W0 (Vals (xs ++ ys) (rs ++ ss) :: L) W := by
  obtain ⟨hb, G, ha, H, hb', r⟩ := h
  refine ⟨hb, fun g => G g ∨ H g, ?_, r.mono fun g _ hf => ⟨hf.1.1, fun h => h.elim hf.1.2 hf.2⟩⟩
  exact ValsIn.join ((Vals xs rs).mono ha fun g _ hf => ⟨hf.1, .inl hf.2⟩) ((Vals ys ss).mono hb' fun g _ hf => ⟨hf.1.1, .inr hf.2⟩)
theorem St.vals {xs : List Value} {rs : List (List UInt8)} (h : St W0 (Vals xs rs :: L) W) : ValsIn (fun g => W0.heap.size ≤ g) W xs rs := by
  obtain ⟨F, ha, hf, _⟩ := h.first
  exact (Vals xs rs).mono ha fun g _ hg => (hf g hg).1
theorem BytesF.bytes {F : Nat → Prop} {A : Option Addr} {r : List UInt8} (h : BytesF F W A r) : BytesIn W A r := fun k b hb => by
  obtain ⟨g, o, e, _, hg, hc⟩ := h k b hb
  exact ⟨g, o, e, hg, hc⟩
/-- A row of bytes, cut: one slice. -/
theorem St.cut_row {v : Value} {e n s : Nat} {bs : List UInt8} {A : Option Addr} {c : Nat} (h : St W0 (Row v e 1 n (bs.map fun b => Value.int .u8 b.toNat) :: L) W) (hv : v = .slice A n c) (hs : s ≤ n) (h0 : 0 < n) :
    St W0 (Vals [.slice A s s] [bs.take s] :: L) W := by
  have hx := h.row.1
  simp only [List.length_map, Nat.mul_one] at hx
  obtain ⟨F, ha, hF, hr⟩ := h.first
  refine hr _ _ ?_ (Tch.refl _ _)
  refine ⟨rfl, fun i r hi => ?_⟩
  match i with
  | i + 1 => cases hi
  | 0 =>
  have hi' : bs.take s = r := by simpa using hi
  subst hi'
  have hl : (bs.take s).length = s := by rw [List.length_take]; omega
  rcases ha.2.2 with ⟨_, h1⟩ | ⟨g, cap, cur, e1, _, hh, hc, hm, _, hp⟩
  · omega
  · have e2 : A = some ⟨g, 0, none⟩ ∧ c = cap := by rw [hv] at e1; injection e1 with p1 p2 p3; exact ⟨p1, p3⟩
    refine ⟨A, s, by rw [hl]; rfl, by omega, by omega, fun k b hb => ?_⟩
    have hk : k < s := by
      rcases Nat.lt_or_ge k s with h | h
      · exact h
      · rw [List.getElem?_eq_none (by rw [hl]; exact h)] at hb; cases hb
    rw [List.getElem?_take_of_lt hk] at hb
    refine ⟨g, 0, e2.1, .inl (ha.1 g (by rw [e1]; rfl)), heap_lt hh, ?_⟩
    rw [cell_of_row W g (0 + k) _ _ _ hh, Nat.zero_add]
    have h3 : (cur.toList.take (n * 1))[k]? = some (Value.int .u8 b.toNat) := by rw [hp, List.getElem?_map, hb]; rfl
    rw [Nat.mul_one, List.getElem?_take_of_lt (by omega)] at h3
    simpa using h3
end
end Go.Cu
