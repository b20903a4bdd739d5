/- An order of one's own with one fork: two that turn the world may come in either order. -/
import Derived.Test.YtnakbdgoaepehaaDoorOrder
namespace Go.Cu
open Go Go.RowKit
section
variable {P : Program} {ops : Array Oper} {Q : Exit → Act → World → Prop} {md : Region.Mode} {S : World → Prop} {loose : List Nat}
theorem Qn_Qn (F N : Act → World → Prop) : Qn (Qn Q F) N = Qn Q N := by
  funext x a w
  cases x <;> rfl
def ordrF (md : Region.Mode) (ops : Array Oper) (loose : List Nat) (E : Bool → Array Bool → Bool) : List (Nat × Nat) → Bool → Array Bool → Bool
  | [], s, listed => E s listed
  | (i, 0) :: r, s, listed => loose.contains i && (Region.ready md ops listed).contains i && Region.free md ops listed i && ordrF md ops loose E r s (listed.setIfInBounds i true)
  | (i, 1) :: r, s, listed => s && (Region.ready md ops listed).contains i && Region.free md ops listed i && waitB md ops i (waitOf md ops i) &&
      ((List.range ops.size).all fun j => listed.getD j true || j == i || !loose.contains j || (waitOf md ops i).contains j) && ordrF md ops loose E r s (listed.setIfInBounds i true)
  | (i, _ + 2) :: r, _, listed => decide (Region.ready md ops listed = [i]) && ordrF md ops loose E r (!loose.contains i) (listed.setIfInBounds i true)

theorem wpAnyN_of_ordF (hsel : Region.noSelect ops = true) (hQ : ∀ (d : Option Tmp) (v : Value) c a w, Q (.panic c) (a.put d v) w → Q (.panic c) a w)
    {F : Act → World → Prop} {E : Bool → Array Bool → Bool} {n : Nat} (hE : ∀ s listed a w, OInv md ops listed → E s listed = true → (s = true → S w) → F a w → wpAnyN P md ops Q S loose n listed a w) :
    ∀ (l : List (Nat × Nat)) (s : Bool) (listed : Array Bool) (a : Act) (w : World), OInv md ops listed → ordrF md ops loose E l s listed = true → (s = true → S w) → wpOrd P ops (Qn Q F) S loose l a w → wpAnyN P md ops Q S loose (n + l.length) listed a w
  | [], s, listed, a, w, inv, hB, hS, h => hE s listed a w inv (by simpa [ordrF] using hB) hS h
  | (i, 0) :: r, s, listed, a, w, inv, hB, hS, h => by
    simp only [ordrF, Bool.and_eq_true] at hB
    obtain ⟨⟨⟨hl, hr⟩, hf⟩, hB'⟩ := hB
    obtain ⟨o, ho, v, hy, hK⟩ := h
    have hr' : i ∈ Region.ready md ops listed := by simpa using hr
    exact wpAnyN_pure ho (Region.noSelect_spec hsel) (fun c a w => hQ _ _ c a w) hl _ listed a w (Region.free_spec ho hf) hr' hy (wpAnyN_of_ordF hsel hQ hE r s _ _ w (inv.set hr') hB' hS hK)
  | (i, 1) :: r, s, listed, a, w, inv, hB, hS, h => by
    simp only [ordrF, Bool.and_eq_true] at hB
    obtain ⟨⟨⟨⟨⟨hs, hr⟩, hf⟩, hD⟩, hn⟩, hB'⟩ := hB
    obtain ⟨o, ho, v, hy, hK⟩ := h
    have hr' : i ∈ Region.ready md ops listed := by simpa using hr
    refine wpAnyN_first ho (Region.noSelect_spec hsel) hD (fun c a w => hQ _ _ c a w) _ listed a w inv (fun j hj hun hji hlo => ?_) (Region.free_spec ho hf) hr' hy (hS hs) (wpAnyN_of_ordF hsel hQ hE r s _ _ w (inv.set hr') hB' hS hK)
    have h1 := List.all_eq_true.1 hn j (List.mem_range.2 hj)
    simp only [Bool.or_eq_true, beq_iff_eq, hun, hji, hlo, Bool.not_true, Bool.false_eq_true, false_or] at h1
    simpa using h1
  | (i, k + 2) :: r, s, listed, a, w, inv, hB, hS, h => by
    simp only [ordrF, Bool.and_eq_true, decide_eq_true_eq] at hB
    obtain ⟨hr, hB'⟩ := hB
    obtain ⟨o, ho, h⟩ := h
    rw [Qn_Qn] at h
    refine ⟨fun h1 => (by rw [hr] at h1; cases h1), fun j hj => ?_⟩
    have hji : j = i := by rw [hr] at hj; simpa using hj
    subst hji
    refine wpOp_mono (fun a' w' h' => ⟨h'.1, wpAnyN_of_ordF hsel hQ hE r _ _ a' w' (inv.set hj) hB' (fun hs => h'.1 (by simpa using hs)) h'.2⟩) (wpOp_of_one ho h)

/-- Behind the order l one of i and j comes, and then its own order. -/
def forkB (ops : Array Oper) (loose : List Nat) (i j : Nat) (li lj : List (Nat × Nat)) (_ : Bool) (listed : Array Bool) : Bool :=
  decide (Region.ready .any ops listed = [i, j]) && ordrF .any ops loose (fun _ l => (Region.ready .any ops l).isEmpty) li (!loose.contains i) (listed.setIfInBounds i true) &&
    ordrF .any ops loose (fun _ l => (Region.ready .any ops l).isEmpty) lj (!loose.contains j) (listed.setIfInBounds j true)
def Forked (P : Program) (ops : Array Oper) (Q : Exit → Act → World → Prop) (S : World → Prop) (loose : List Nat) (i j : Nat) (li lj : List (Nat × Nat)) (a : Act) (w : World) : Prop :=
  wpOrd P ops Q S loose ((i, 2) :: li) a w ∧ wpOrd P ops Q S loose ((j, 2) :: lj) a w
theorem wp_region_fork {id : Nat} {a : Act} {w : World} {l : List Oper} {A : Nat → Act} (loose : List Nat) (order : List (Nat × Nat)) (i j : Nat) (li lj : List (Nat × Nat)) (S : World → Prop) (R : Nat → World → Prop) (hm : P.follows .mixedOrders = true)
    (hB : (Region.noSelect l.toArray && decide (order.length + li.length + 1 = l.toArray.size) && decide (li.length = lj.length) && ordrF .any l.toArray loose (forkB l.toArray loose i j li lj) order true (Array.replicate l.toArray.size false)) = true)
    (hQ : ∀ (d : Option Tmp) (v : Value) c a w, Q (.panic c) (a.put d v) w → Q (.panic c) a w) (hS : S w.drew)
    (h : ∀ X, S X → wpOrd P l.toArray (Qn Q (Forked P l.toArray (Qn Q fun a w => ∃ g, R g w ∧ a = A g) S loose i j li lj)) S loose order a X)
    (hC : ∀ g w, R g w → Q .normal (A g) w) : (Code.region id l.toArray true).wp P Q a w := by
  simp only [Bool.and_eq_true, decide_eq_true_eq] at hB
  obtain ⟨⟨⟨hsel, hlen⟩, hl2⟩, hb⟩ := hB
  refine wp_region_any hm ?_
  have hend : ∀ (s : Bool) (listed : Array Bool) (a : Act) (w : World), OInv .any l.toArray listed → (Region.ready .any l.toArray listed).isEmpty = true → (s = true → S w) → (∃ g, R g w ∧ a = A g) → wpAnyN P .any l.toArray Q S loose 0 listed a w := by
    rintro s listed a w _ hE _ ⟨g, hg, rfl⟩
    exact ⟨by simpa using hE, hC g w hg⟩
  have hfork : ∀ (s : Bool) (listed : Array Bool) (a : Act) (w : World), OInv .any l.toArray listed → forkB l.toArray loose i j li lj s listed = true → (s = true → S w) → Forked P l.toArray (Qn Q fun a w => ∃ g, R g w ∧ a = A g) S loose i j li lj a w → wpAnyN P .any l.toArray Q S loose (0 + li.length + 1) listed a w := by
    rintro s listed a w inv hE _ ⟨⟨oi, hoi, h1⟩, ⟨oj, hoj, h2⟩⟩
    simp only [forkB, Bool.and_eq_true, decide_eq_true_eq] at hE
    obtain ⟨⟨hr, hi⟩, hj⟩ := hE
    rw [Qn_Qn] at h1 h2
    refine ⟨fun h1 => (by rw [hr] at h1; cases h1), fun k hk => ?_⟩
    have hkk : k = i ∨ k = j := by rw [hr] at hk; simpa using hk
    rcases hkk with rfl | rfl
    · exact wpOp_mono (fun a' w' h' => ⟨h'.1, wpAnyN_of_ordF hsel hQ hend li _ _ a' w' (inv.set hk) hi (fun hs => h'.1 (by simpa using hs)) h'.2⟩) (wpOp_of_one hoi h1)
    · rw [hl2]
      exact wpOp_mono (fun a' w' h' => ⟨h'.1, wpAnyN_of_ordF hsel hQ hend lj _ _ a' w' (inv.set hk) hj (fun hs => h'.1 (by simpa using hs)) h'.2⟩) (wpOp_of_one hoj h2)
  have := wpAnyN_of_ordF (md := .any) (S := S) hsel hQ hfork order true _ a w.drew OInv.start hb (fun _ => hS) (h _ hS)
  rw [show 0 + li.length + 1 + order.length = l.toArray.size by omega] at this
  exact wpAny_of_N _ _ _ _ this
theorem wpFork_done {a : Act} {w : World} {F : Act → World → Prop} (h : F a w) : wpOrd P ops (Qn Q F) S loose [] a w := h
end
end Go.Cu
