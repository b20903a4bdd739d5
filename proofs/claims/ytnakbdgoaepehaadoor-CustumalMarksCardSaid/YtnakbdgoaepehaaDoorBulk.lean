/- An order of one's own, and blocks of operations that may come in any order that their edges allow: each keeps what is held of those that came. -/
import Derived.Test.YtnakbdgoaepehaaDoorFork
namespace Go.Cu
open Go Go.RowKit
section
variable {P : Program} {ops : Array Oper} {Q : Exit → Act → World → Prop} {S : World → Prop} {loose : List Nat}
/-- So many steps inside the block B, and then E. -/
def bulkB (ops : Array Oper) (loose : List Nat) (B : List (Nat × List Nat)) (E : Bool → Array Bool → Bool) : Nat → Bool → Array Bool → Bool
  | 0, s, listed => (B.all fun p => listed.getD p.1 false) && E s listed
  | m + 1, _, listed => !(Region.ready .any ops listed).isEmpty && (Region.ready .any ops listed).all fun i =>
      match B.find? (fun p => p.1 == i) with
      | some p => (p.2.all fun d => listed.getD d false) && bulkB ops loose B E m (!loose.contains i) (listed.setIfInBounds i true)
      | none => false
def bulkE (ops : Array Oper) (loose : List Nat) (B : List (Nat × List Nat)) (E : Bool → Array Bool → Bool) (s : Bool) (listed : Array Bool) : Bool :=
  (B.all fun p => !listed.getD p.1 false) && bulkB ops loose B E B.length s listed
/-- What a block asks: J holds where none came; each keeps it; where all came F holds. -/
def BulkF (P : Program) (ops : Array Oper) (Q : Exit → Act → World → Prop) (S : World → Prop) (loose : List Nat) (B : List (Nat × List Nat)) (F : Act → World → Prop) (a : Act) (w : World) : Prop :=
  ∃ J : (Nat → Bool) → Act → World → Prop, (∀ done, (∀ p ∈ B, done p.1 = false) → J done a w) ∧
    (∀ p ∈ B, ∀ done a w, done p.1 = false → (∀ d ∈ p.2, done d = true) → J done a w → ∃ o, ops[p.1]? = some o ∧ wpList P ops (Qn Q fun a' w' => (loose.contains p.1 = false → S w') ∧ J (fun k => k == p.1 || done k) a' w') [o] a w) ∧
    (∀ done a w, (∀ p ∈ B, done p.1 = true) → J done a w → F a w)
theorem wpAnyN_bulk {B : List (Nat × List Nat)} {F : Act → World → Prop} {E : Bool → Array Bool → Bool} {n : Nat}
    (hF : ∀ s listed a w, OInv .any ops listed → E s listed = true → (s = true → S w) → F a w → wpAnyN P .any ops Q S loose n listed a w)
    (s : Bool) (listed : Array Bool) (a : Act) (w : World) (inv : OInv .any ops listed) (hB : bulkE ops loose B E s listed = true) (hS : s = true → S w) (h : BulkF P ops Q S loose B F a w) : wpAnyN P .any ops Q S loose (n + B.length) listed a w := by
  obtain ⟨J, h0, hop, hend⟩ := h
  simp only [bulkE, Bool.and_eq_true, List.all_eq_true, Bool.not_eq_true'] at hB
  have hJ0 := h0 (fun k => listed.getD k false) hB.1
  have key : ∀ (m : Nat) (s : Bool) (listed : Array Bool) (a : Act) (w : World), OInv .any ops listed → bulkB ops loose B E m s listed = true → (s = true → S w) → J (fun k => listed.getD k false) a w → wpAnyN P .any ops Q S loose (n + m) listed a w := by
    intro m
    induction m with
    | zero =>
      intro s listed a w inv hb hS hJ
      simp only [bulkB, Bool.and_eq_true, List.all_eq_true] at hb
      exact hF s listed a w inv hb.2 hS (hend _ a w hb.1 hJ)
    | succ m ih =>
      intro s listed a w inv hb hS hJ
      simp only [bulkB, Bool.and_eq_true, Bool.not_eq_true'] at hb
      obtain ⟨hne, hall⟩ := hb
      refine ⟨fun h1 => (by rw [h1] at hne; cases hne), fun i hi => ?_⟩
      have h1 := List.all_eq_true.1 hall i hi
      split at h1
      · rename_i p hp
        have hpi : p.1 = i := by simpa using List.find?_some hp
        have hpm : p ∈ B := List.mem_of_find?_eq_some hp
        simp only [Bool.and_eq_true, List.all_eq_true] at h1
        obtain ⟨hun, oi, hoi, _⟩ := mem_ready.1 hi
        have hnd : listed.getD i false = false := by
          cases hx : listed.getD i false with
          | false => rfl
          | true =>
            rw [getD_both hun] at hx
            cases hx
        subst hpi
        obtain ⟨o, ho, hw⟩ := hop p hpm (fun k => listed.getD k false) a w hnd h1.1 hJ
        refine wpOp_mono (fun a' w' h' => ⟨h'.1, ih _ _ a' w' (inv.set hi) h1.2 (fun hs => h'.1 (by simpa using hs)) ?_⟩) (wpOp_of_one ho hw)
        have hlt : p.1 < listed.size := by rw [inv.size]; exact (Array.getElem?_eq_some_iff.1 hoi).1
        have e : (fun k => (listed.setIfInBounds p.1 true).getD k false) = fun k => k == p.1 || listed.getD k false := by
          funext k
          by_cases hk : p.1 = k
          · subst hk
            simp [Array.getD_eq_getD_getElem?, hlt]
          · rw [getD_set_ne false hk]
            have : (k == p.1) = false := by simpa using fun e => hk e.symm
            rw [this, Bool.false_or]
        rw [e]
        exact h'.2
      · cases h1
  exact key B.length s listed a w inv hB.2 hS hJ0
theorem bulk_intro {B : List (Nat × List Nat)} {F : Act → World → Prop} {a : Act} {w : World} (J : Act → (Nat → Bool) → Act → World → Prop) (h0 : ∀ done, (∀ p ∈ B, done p.1 = false) → J a done a w)
    (hop : ∀ p ∈ B, ∀ done a' w', done p.1 = false → (∀ d ∈ p.2, done d = true) → J a done a' w' → ∃ o, ops[p.1]? = some o ∧ ∀ N : Act → World → Prop, (∀ a2 w2, (loose.contains p.1 = false → S w2) → J a (fun k => k == p.1 || done k) a2 w2 → N a2 w2) → wpList P ops (Qn Q N) [o] a' w')
    (hend : ∀ done a' w', (∀ p ∈ B, done p.1 = true) → J a done a' w' → F a' w') : BulkF P ops Q S loose B F a w :=
  ⟨J a, h0, fun p hp done a' w' h1 h2 h3 => by
    obtain ⟨o, ho, hw⟩ := hop p hp done a' w' h1 h2 h3
    exact ⟨o, ho, hw _ fun a2 w2 h4 h5 => ⟨h4, h5⟩⟩, hend⟩
def endB (ops : Array Oper) (_ : Bool) (listed : Array Bool) : Bool := (Region.ready .any ops listed).isEmpty
/-- An order, a block, an order. -/
theorem wp_region_bulk1 {id : Nat} {a : Act} {w : World} {l : List Oper} (loose : List Nat) (l1 : List (Nat × Nat)) (B1 : List (Nat × List Nat)) (l2 : List (Nat × Nat)) (S : World → Prop) (hm : P.follows .mixedOrders = true)
    (hB : (Region.noSelect l.toArray && decide (0 + l2.length + B1.length + l1.length = l.toArray.size) && ordrF .any l.toArray loose (bulkE l.toArray loose B1 (ordrF .any l.toArray loose (endB l.toArray) l2)) l1 true (Array.replicate l.toArray.size false)) = true)
    (hQ : ∀ (d : Option Tmp) (v : Value) c a w, Q (.panic c) (a.put d v) w → Q (.panic c) a w) (hS : S w.drew)
    (h : ∀ X, X = w.drew → S X → wpOrd P l.toArray (Qn Q (BulkF P l.toArray Q S loose B1 (wpOrd P l.toArray (Qn Q fun a w => Q .normal a w) S loose l2))) S loose l1 a X) : (Code.region id l.toArray true).wp P Q a w := by
  simp only [Bool.and_eq_true, decide_eq_true_eq] at hB
  obtain ⟨⟨hsel, hlen⟩, hb⟩ := hB
  refine wp_region_any hm ?_
  have hend : ∀ (s : Bool) (listed : Array Bool) (a : Act) (w : World), OInv .any l.toArray listed → endB l.toArray s listed = true → (s = true → S w) → Q .normal a w → wpAnyN P .any l.toArray Q S loose 0 listed a w := by
    intro s listed a w _ hE _ hq
    unfold endB at hE
    exact ⟨by simpa using hE, hq⟩
  have h2 := fun s listed a w inv => wpAnyN_of_ordF (S := S) hsel hQ hend l2 s listed a w inv
  have hb1 := fun s listed a w inv => wpAnyN_bulk (B := B1) h2 s listed a w inv
  have := wpAnyN_of_ordF (md := .any) (S := S) hsel hQ hb1 l1 true _ a w.drew OInv.start hb (fun _ => hS) (h _ rfl hS)
  rw [hlen] at this
  exact wpAny_of_N _ _ _ _ this
/-- An order, a block, an order, a block, an order. -/
theorem wp_region_bulk2 {id : Nat} {a : Act} {w : World} {l : List Oper} (loose : List Nat) (l1 : List (Nat × Nat)) (B1 : List (Nat × List Nat)) (l2 : List (Nat × Nat)) (B2 : List (Nat × List Nat)) (l3 : List (Nat × Nat)) (S : World → Prop) (hm : P.follows .mixedOrders = true)
    (hB : (Region.noSelect l.toArray && decide (0 + l3.length + B2.length + l2.length + B1.length + l1.length = l.toArray.size) && ordrF .any l.toArray loose (bulkE l.toArray loose B1 (ordrF .any l.toArray loose (bulkE l.toArray loose B2 (ordrF .any l.toArray loose (endB l.toArray) l3)) l2)) l1 true (Array.replicate l.toArray.size false)) = true)
    (hQ : ∀ (d : Option Tmp) (v : Value) c a w, Q (.panic c) (a.put d v) w → Q (.panic c) a w) (hS : S w.drew)
    (h : ∀ X, X = w.drew → S X → wpOrd P l.toArray (Qn Q (BulkF P l.toArray Q S loose B1 (wpOrd P l.toArray (Qn Q (BulkF P l.toArray Q S loose B2 (wpOrd P l.toArray (Qn Q fun a w => Q .normal a w) S loose l3))) S loose l2))) S loose l1 a X) : (Code.region id l.toArray true).wp P Q a w := by
  simp only [Bool.and_eq_true, decide_eq_true_eq] at hB
  obtain ⟨⟨hsel, hlen⟩, hb⟩ := hB
  refine wp_region_any hm ?_
  have hend : ∀ (s : Bool) (listed : Array Bool) (a : Act) (w : World), OInv .any l.toArray listed → endB l.toArray s listed = true → (s = true → S w) → Q .normal a w → wpAnyN P .any l.toArray Q S loose 0 listed a w := by
    intro s listed a w _ hE _ hq
    unfold endB at hE
    exact ⟨by simpa using hE, hq⟩
  have h3 := fun s listed a w inv => wpAnyN_of_ordF (S := S) hsel hQ hend l3 s listed a w inv
  have hb2 := fun s listed a w inv => wpAnyN_bulk (B := B2) h3 s listed a w inv
  have h2 := fun s listed a w inv => wpAnyN_of_ordF (S := S) hsel hQ hb2 l2 s listed a w inv
  have hb1 := fun s listed a w inv => wpAnyN_bulk (B := B1) h2 s listed a w inv
  have := wpAnyN_of_ordF (md := .any) (S := S) hsel hQ hb1 l1 true _ a w.drew OInv.start hb (fun _ => hS) (h _ rfl hS)
  rw [hlen] at this
  exact wpAny_of_N _ _ _ _ this
theorem wpOrd_to {F : Act → World → Prop} {a : Act} {w : World} (h : F a w) : wpOrd P ops (Qn Q F) S loose [] a w := h
end
end Go.Cu
