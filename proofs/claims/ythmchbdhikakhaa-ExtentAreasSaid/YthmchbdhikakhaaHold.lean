/- A region that draws its order: the first k operations yield whatever the world; those up to n in every world of a class; one that may come early keeps the class; the rest comes in one forced order. -/
import Derived.Test.YthmchbdhikakhaaArr
import Derived.OrdersHeld
import Derived.StillTail
import Derived.Test.YthmchbdhikakhaaBuild
namespace Go.Cu
open Go Go.RowKit
section
variable {P : Program} {ops : Array Oper} {Q : Exit → Act → World → Prop} {md : Region.Mode} {S : World → Prop}

/-- As sinkB, from number k on. -/
def sinkFrom (md : Region.Mode) (ops : Array Oper) (k m : Nat) : Bool :=
  (List.range m).all fun i => decide (i < k) || (List.range (m + 1)).any fun j => decide (i < j) && Region.waitsFor md ops j i
theorem waitsFrom {k m : Nat} {listed : Array Bool} (hs : sinkFrom md ops k m = true) (hc : Region.chainB md ops m = true) (hn : m < ops.size) (inv : HeadInv md ops m listed) :
    ∀ (d i : Nat), m - i = d → i < m → k ≤ i → listed.getD i true = false → ∀ t, m ≤ t → t ∉ Region.ready md ops listed := by
  intro d
  induction d using Nat.strongRecOn with
  | _ d ih =>
    intro i hd hi hki hun t ht hr
    obtain ⟨_, ot, hot, hall⟩ := mem_ready.1 hr
    have htlt : t < ops.size := (Array.getElem?_eq_some_iff.1 hot).1
    by_cases htn : t = m
    · subst htn
      have h1 := List.all_eq_true.1 hs i (List.mem_range.2 hi)
      simp only [Bool.or_eq_true, decide_eq_true_eq] at h1
      rcases h1 with h1 | h1
      · omega
      obtain ⟨j, hj, hj2⟩ := List.any_eq_true.1 h1
      simp only [Bool.and_eq_true, decide_eq_true_eq] at hj2
      obtain ⟨oj, hoj, e, he, hb, hon⟩ := Region.waitsFor_spec hj2.2
      have hjle : j ≤ t := by have := List.mem_range.1 hj; omega
      by_cases hjt : j = t
      · subst hjt
        have : oj = ot := Option.some.inj (hoj.symm.trans hot)
        subst this
        have h2 := hall e he hb
        rw [hon, getD_both hun] at h2
        cases h2
      · cases hl : listed.getD j false with
        | true =>
          have h2 := inv.closed j oj hoj hl e he hb
          rw [hon, getD_both hun] at h2
          cases h2
        | false =>
          have hjs : j < listed.size := by rw [inv.size]; omega
          exact ih (t - j) (by omega) j rfl (by omega) (by omega) (getD_in hjs hl) t (Nat.le_refl _) hr
    · have h1 := List.all_eq_true.1 hc t (List.mem_range.2 htlt)
      simp only [Bool.or_eq_true, decide_eq_true_eq] at h1
      rcases h1 with h1 | h1
      · omega
      · obtain ⟨o', ho', e, he, hb, hon⟩ := Region.waitsFor_spec h1
        have : o' = ot := Option.some.inj (ho'.symm.trans hot)
        subst this
        have h2 := hall e he hb
        rw [hon, getD_both (inv.tail (t - 1) (by omega) (by omega))] at h2
        cases h2

/-- Whatever order is picked; S holds behind each from k on that stands ahead of m. -/
def wpAnyO (P : Program) (md : Region.Mode) (ops : Array Oper) (Q : Exit → Act → World → Prop) (S : World → Prop) (k m : Nat) : Nat → Array Bool → Act → World → Prop
  | 0, listed, a, w => Region.ready md ops listed = [] ∧ Q .normal a w
  | fuel + 1, listed, a, w =>
    (Region.ready md ops listed = [] → Q .normal a w) ∧
    ∀ i ∈ Region.ready md ops listed, wpOp P ops Q i (fun a' w' => (k ≤ i → i < m → S w') ∧ wpAnyO P md ops Q S k m fuel (listed.setIfInBounds i true) a' w') a w
theorem wpAny_of_O {k m : Nat} : ∀ (fuel : Nat) (listed : Array Bool) (a : Act) (w : World), wpAnyO P md ops Q S k m fuel listed a w → wpAny P md ops Q fuel listed a w
  | 0, _, _, _, h => h
  | fuel + 1, _, _, _, h => ⟨h.1, fun i hi => wpOp_mono (fun a' w' h' => wpAny_of_O fuel _ a' w' h'.2) (h.2 i hi)⟩

theorem not_after {i : Nat} {oj : Oper} {listed : Array Bool} (hun : listed.getD i true = false) (hall : ∀ e ∈ oj.after, Region.binds md e = true → listed.getD e.on false = true) : ∀ e ∈ oj.after, Region.binds md e = true → e.on ≠ i := fun e he hb heq => by
  have h1 := hall e he hb
  rw [heq, getD_both hun] at h1
  cases h1
theorem free_set {i j : Nat} {oi : Oper} {listed : Array Bool} (hjun : listed.getD j true = false)
    (hfree : ∀ j oj, ops[j]? = some oj → j ≠ i → listed.getD j true = false → (∀ e ∈ oj.after, Region.binds md e = true → e.on ≠ i) → oi.apart ops oj = true) :
    ∀ k ok, ops[k]? = some ok → k ≠ i → (listed.setIfInBounds j true).getD k true = false → (∀ e ∈ ok.after, Region.binds md e = true → e.on ≠ i) → oi.apart ops ok = true := fun k ok hk hki hun hno => by
  refine hfree k ok hk hki ?_ hno
  by_cases hjk : j = k
  · subst hjk; exact hjun
  · rw [getD_set_ne true hjk] at hun; exact hun

/-- One that yields whatever the world may be taken first. -/
theorem wpAnyO_pure {k m i : Nat} {oi : Oper} {v : Value} (hik : i < k) (hi : ops[i]? = some oi) (hsel : ∀ (j : Nat) (o : Oper) cs b, ops[j]? = some o → o.op ≠ .select cs b)
    (hQ : ∀ c a w, Q (.panic c) (a.put oi.dst v) w → Q (.panic c) a w) :
    ∀ (fuel : Nat) (listed : Array Bool) (a : Act) (w : World),
      (∀ j oj, ops[j]? = some oj → j ≠ i → listed.getD j true = false → (∀ e ∈ oj.after, Region.binds md e = true → e.on ≠ i) → oi.apart ops oj = true) →
      i ∈ Region.ready md ops listed → YieldsIf P ops (fun _ => True) oi v a →
      wpAnyO P md ops Q S k m fuel (listed.setIfInBounds i true) (a.put oi.dst v) w → wpAnyO P md ops Q S k m (fuel + 1) listed a w := by
  intro fuel
  induction fuel with
  | zero =>
    intro listed a w _ hr hy H
    refine ⟨fun h => (by rw [h] at hr; cases hr), fun j hj => ?_⟩
    by_cases hji : j = i
    · subst hji; exact hy.wpOp hi trivial ⟨fun h => absurd h (by omega), H⟩
    · have := ready_mono hj hji
      rw [H.1] at this
      cases this
  | succ fuel ih =>
    intro listed a w hfree hr hy H
    have hun := (mem_ready.1 hr).1
    refine ⟨fun h => (by rw [h] at hr; cases hr), fun j hj => ?_⟩
    by_cases hji : j = i
    · subst hji; exact hy.wpOp hi trivial ⟨fun h => absurd h (by omega), H⟩
    · have h1 := H.2 j (ready_mono hj hji)
      obtain ⟨hjun, oj, hoj, hall⟩ := mem_ready.1 hj
      have h2 := wpOp_putIf hoj (hfree j oj hoj hji hjun (not_after hun hall)) (fun cs b => hsel i oi cs b hi) (fun cs b => hsel j oj cs b hoj) hQ hy h1
      refine wpOp_mono (fun a' w' h3 => ⟨h3.2.1, ih (listed.setIfInBounds j true) a' w' (free_set hjun hfree) (ready_mono hr (Ne.symm hji)) h3.1 ?_⟩) h2
      rw [Array.setIfInBounds_comm _ _ hji]
      exact h3.2.2

/-- One that yields in every world of the class may be taken first. -/
theorem wpAnyO_first {k m i : Nat} {oi : Oper} {v : Value} (hki : k ≤ i) (him : i < m) (hi : ops[i]? = some oi) (hsel : ∀ (j : Nat) (o : Oper) cs b, ops[j]? = some o → o.op ≠ .select cs b)
    (hs : sinkFrom md ops k m = true) (hc : Region.chainB md ops m = true) (hm : m < ops.size)
    (hQ : ∀ c a w, Q (.panic c) (a.put oi.dst v) w → Q (.panic c) a w) :
    ∀ (fuel : Nat) (listed : Array Bool) (a : Act) (w : World), HeadInv md ops m listed → (∀ j, j < k → listed.getD j true = true) →
      (∀ j oj, ops[j]? = some oj → j ≠ i → listed.getD j true = false → (∀ e ∈ oj.after, Region.binds md e = true → e.on ≠ i) → oi.apart ops oj = true) →
      i ∈ Region.ready md ops listed → YieldsIf P ops S oi v a → S w →
      wpAnyO P md ops Q S k m fuel (listed.setIfInBounds i true) (a.put oi.dst v) w → wpAnyO P md ops Q S k m (fuel + 1) listed a w := by
  intro fuel
  induction fuel with
  | zero =>
    intro listed a w _ _ _ hr hy hS H
    refine ⟨fun h => (by rw [h] at hr; cases hr), fun j hj => ?_⟩
    by_cases hji : j = i
    · subst hji; exact hy.wpOp hi hS ⟨fun _ _ => hS, H⟩
    · have := ready_mono hj hji
      rw [H.1] at this
      cases this
  | succ fuel ih =>
    intro listed a w inv hlow hfree hr hy hS H
    have hun := (mem_ready.1 hr).1
    refine ⟨fun h => (by rw [h] at hr; cases hr), fun j hj => ?_⟩
    by_cases hji : j = i
    · subst hji; exact hy.wpOp hi hS ⟨fun _ _ => hS, H⟩
    · have hjm : j < m := by
        rcases Nat.lt_or_ge j m with h | h
        · exact h
        · exact absurd hj (waitsFrom hs hc hm inv _ i rfl him hki hun j h)
      have h1 := H.2 j (ready_mono hj hji)
      obtain ⟨hjun, oj, hoj, hall⟩ := mem_ready.1 hj
      have hkj : k ≤ j := by
        rcases Nat.lt_or_ge j k with h | h
        · rw [hlow j h] at hjun; cases hjun
        · exact h
      have h2 := wpOp_putIf hoj (hfree j oj hoj hji hjun (not_after hun hall)) (fun cs b => hsel i oi cs b hi) (fun cs b => hsel j oj cs b hoj) hQ hy h1
      refine wpOp_mono (fun a' w' h3 => ⟨fun _ _ => h3.2.1 hkj hjm, ih (listed.setIfInBounds j true) a' w' (inv.set hj hjm) (fun q hq => by rw [getD_set_ne true (by omega)]; exact hlow q hq) (free_set hjun hfree) (ready_mono hr (Ne.symm hji)) h3.1 (h3.2.1 hkj hjm) ?_⟩) h2
      rw [Array.setIfInBounds_comm _ _ hji]
      exact h3.2.2

/-- The forced rest: S behind those ahead of m. -/
def wpTail (P : Program) (ops : Array Oper) (Q : Exit → Act → World → Prop) (S : World → Prop) (m : Nat) : Nat → List Oper → Act → World → Prop
  | _, [], a, w => Q .normal a w
  | k, o :: rest, a, w => if k < m then wpOp P ops Q k (fun a' w' => S w' ∧ wpTail P ops Q S m (k + 1) rest a' w') a w else wpList P ops Q (o :: rest) a w
theorem wpAnyO_of_list {k m : Nat} : ∀ (l : List Oper) (q : Nat) (listed : Array Bool) (a : Act) (w : World), m ≤ q → (∀ j, l[j]? = ops[q + j]?) →
    Region.seqB md ops l.length q listed = true → wpList P ops Q l a w → wpAnyO P md ops Q S k m l.length listed a w
  | [], _, _, _, _, _, _, hB, h => ⟨by simpa [Region.seqB] using hB, h⟩
  | o :: l, q, listed, a, w, hmq, hl, hB, h => by
    have h0 : ops[q]? = some o := by simpa using (hl 0).symm
    simp only [List.length_cons, Region.seqB, Bool.and_eq_true, decide_eq_true_eq] at hB
    refine ⟨fun h1 => (by rw [hB.1] at h1; cases h1), fun i hi => ?_⟩
    rw [hB.1] at hi
    have hik : i = q := by simpa using hi
    subst hik
    have hw : wpOp P ops Q i (wpList P ops Q l) a w := by unfold wpOp; simp only [h0]; exact h
    exact wpOp_mono (fun a' w' h' => ⟨fun _ h => absurd h (by omega), wpAnyO_of_list l (i + 1) _ a' w' (by omega) (fun j => by have := hl (j + 1); simpa [Nat.add_assoc, Nat.add_comm 1 j] using this) hB.2 h'⟩) hw
theorem wpAnyO_of_tail {k m : Nat} : ∀ (l : List Oper) (q : Nat) (listed : Array Bool) (a : Act) (w : World), (∀ j, l[j]? = ops[q + j]?) →
    Region.seqB md ops l.length q listed = true → wpTail P ops Q S m q l a w → wpAnyO P md ops Q S k m l.length listed a w
  | [], _, _, _, _, _, hB, h => ⟨by simpa [Region.seqB] using hB, h⟩
  | o :: l, q, listed, a, w, hl, hB, h => by
    unfold wpTail at h
    split at h
    · simp only [List.length_cons, Region.seqB, Bool.and_eq_true, decide_eq_true_eq] at hB
      refine ⟨fun h1 => (by rw [hB.1] at h1; cases h1), fun i hi => ?_⟩
      rw [hB.1] at hi
      have hik : i = q := by simpa using hi
      subst hik
      exact wpOp_mono (fun a' w' h' => ⟨fun _ _ => h'.1, wpAnyO_of_tail l (i + 1) _ a' w' (fun j => by have := hl (j + 1); simpa [Nat.add_assoc, Nat.add_comm 1 j] using this) hB.2 h'.2⟩) h
    · exact wpAnyO_of_list (o :: l) q listed a w (by omega) hl hB h

/-- Operations that yield in every world of the class, one behind the other. -/
def wpHold (P : Program) (ops : Array Oper) (S : World → Prop) (L : Act → Prop) : List Oper → Act → Prop
  | [], a => L a
  | o :: rest, a => ∃ v, YieldsIf P ops S o v a ∧ wpHold P ops S L rest (a.put o.dst v)

/-- What the kernel looks at: the first f from number k on may each be taken first; then comes what g says. -/
def headB (md : Region.Mode) (ops : Array Oper) (g : Array Bool → Bool) : Nat → Nat → Array Bool → Bool
  | 0, _, listed => g listed
  | f + 1, k, listed => (Region.ready md ops listed).contains k && Region.free md ops listed k && headB md ops g f (k + 1) (listed.setIfInBounds k true)

theorem wpAnyO_pures {k m c : Nat} {L : Act → Prop} {g : Array Bool → Bool} {w : World} (hsel : Region.noSelect ops = true) (hQ : ∀ (d : Option Tmp) (v : Value) c a w, Q (.panic c) (a.put d v) w → Q (.panic c) a w)
    (hL : ∀ listed a, HeadInv md ops m listed → (∀ j, j < k → listed.getD j true = true) → g listed = true → L a → wpAnyO P md ops Q S k m c listed a w) (hkm : k ≤ m) :
    ∀ (l : List Oper) (q : Nat) (listed : Array Bool) (a : Act), (∀ j, j < l.length → l[j]? = ops[q + j]?) → q + l.length = k → HeadInv md ops m listed → (∀ j, j < q → listed.getD j true = true) →
    headB md ops g l.length q listed = true → wpHold P ops (fun _ => True) L l a → wpAnyO P md ops Q S k m (l.length + c) listed a w
  | [], q, listed, a, _, hq, inv, hlow, hB, h => by
    rw [List.length_nil, Nat.zero_add]
    exact hL listed a inv (fun j hj => hlow j (by simp at hq; omega)) hB h
  | o :: l, q, listed, a, hl, hq, inv, hlow, hB, h => by
    have h0 : ops[q]? = some o := by simpa using (hl 0 (by simp)).symm
    simp only [List.length_cons, headB, Bool.and_eq_true] at hB hq
    obtain ⟨⟨hr, hf⟩, hB'⟩ := hB
    have hr' : q ∈ Region.ready md ops listed := by simpa using hr
    obtain ⟨v, hy, hK⟩ := h
    have hqs : q < listed.size := by rw [inv.size]; exact (Array.getElem?_eq_some_iff.1 h0).1
    rw [List.length_cons, show l.length + 1 + c = (l.length + c) + 1 by omega]
    exact wpAnyO_pure (by omega) h0 (Region.noSelect_spec hsel) (fun c a w => hQ _ _ c a w) _ listed a w (Region.free_spec h0 hf) hr' hy
      (wpAnyO_pures hsel hQ hL hkm l (q + 1) _ _ (fun j hj => by have := hl (j + 1) (by simp; omega); simpa [Nat.add_assoc, Nat.add_comm 1 j] using this) (by omega) (inv.set hr' (by omega))
        (fun j hj => by
          by_cases e : q = j
          · subst e; simp [hqs]
          · rw [getD_set_ne true e]; exact hlow j (by omega)) hB' hK)

theorem wpAnyO_heads {k n m c : Nat} {L : Act → Prop} {g : Array Bool → Bool} {w : World} (hsel : Region.noSelect ops = true) (hQ : ∀ (d : Option Tmp) (v : Value) c a w, Q (.panic c) (a.put d v) w → Q (.panic c) a w)
    (hs : sinkFrom md ops k m = true) (hc : Region.chainB md ops m = true) (hm : m < ops.size) (hnm : n ≤ m) (hS : S w)
    (hL : ∀ listed a, g listed = true → L a → wpAnyO P md ops Q S k m c listed a w) :
    ∀ (l : List Oper) (q : Nat) (listed : Array Bool) (a : Act), (∀ j, j < l.length → l[j]? = ops[q + j]?) → k ≤ q → q + l.length = n → HeadInv md ops m listed → (∀ j, j < k → listed.getD j true = true) →
    headB md ops g l.length q listed = true → wpHold P ops S L l a → wpAnyO P md ops Q S k m (l.length + c) listed a w
  | [], _, listed, a, _, _, _, _, _, hB, h => by
    rw [List.length_nil, Nat.zero_add]
    exact hL listed a hB h
  | o :: l, q, listed, a, hl, hkq, hq, inv, hlow, hB, h => by
    have h0 : ops[q]? = some o := by simpa using (hl 0 (by simp)).symm
    simp only [List.length_cons, headB, Bool.and_eq_true] at hB hq
    obtain ⟨⟨hr, hf⟩, hB'⟩ := hB
    have hr' : q ∈ Region.ready md ops listed := by simpa using hr
    obtain ⟨v, hy, hK⟩ := h
    rw [List.length_cons, show l.length + 1 + c = (l.length + c) + 1 by omega]
    exact wpAnyO_first hkq (by omega) h0 (Region.noSelect_spec hsel) hs hc hm (fun c a w => hQ _ _ c a w) _ listed a w inv hlow (Region.free_spec h0 hf) hr' hy hS
      (wpAnyO_heads hsel hQ hs hc hm hnm hS hL l (q + 1) _ _ (fun j hj => by have := hl (j + 1) (by simp; omega); simpa [Nat.add_assoc, Nat.add_comm 1 j] using this) (by omega) (by omega) (inv.set hr' (by omega))
        (fun j hj => by rw [getD_set_ne true (by omega)]; exact hlow j hj) hB' hK)

/-- What the kernel looks at. -/
def holdB (md : Region.Mode) (ops : Array Oper) (k n m : Nat) : Bool :=
  Region.noSelect ops && decide (k ≤ n) && decide (n ≤ m) && decide (m < ops.size) && sinkFrom md ops k m && Region.chainB md ops m &&
    headB md ops (headB md ops (Region.seqB md ops (ops.size - n) n) (n - k) k) k 0 (Array.replicate ops.size false)

theorem wp_region_hold {id : Nat} {a : Act} {w : World} {l : List Oper} (k n m : Nat) (S : World → Prop) (hm : P.follows .mixedOrders = true) (hB : holdB .any l.toArray k n m = true)
    (hQ : ∀ (d : Option Tmp) (v : Value) c a w, Q (.panic c) (a.put d v) w → Q (.panic c) a w) (hS : S w.drew)
    (h : wpHold P l.toArray (fun _ => True) (wpHold P l.toArray S (fun a' => wpTail P l.toArray Q S m n (l.drop n) a' w.drew) ((l.take n).drop k)) (l.take k) a) : (Code.region id l.toArray true).wp P Q a w := by
  simp only [holdB, Bool.and_eq_true, decide_eq_true_eq] at hB
  obtain ⟨⟨⟨⟨⟨⟨hsel, hkn⟩, hnm⟩, hms⟩, hs⟩, hc⟩, hb⟩ := hB
  have hml : m < l.length := by simpa using hms
  have inv0 : HeadInv .any l.toArray m (Array.replicate l.toArray.size false) :=
    ⟨by simp, fun j oj _ hl => (by rw [getD_replicate_false] at hl; cases hl), fun t _ ht => getD_in (by simpa using ht) (getD_replicate_false _ _)⟩
  have lk : (l.take k).length = k := by simp; omega
  have ln : ((l.take n).drop k).length = n - k := by simp; omega
  have ld : (l.drop n).length = l.toArray.size - n := by simp
  have H := wpAnyO_pures (md := .any) (Q := Q) (S := S) (k := k) (m := m) (c := (n - k) + (l.toArray.size - n)) (w := w.drew) (g := headB .any l.toArray (Region.seqB .any l.toArray (l.toArray.size - n) n) (n - k) k)
    hsel hQ (fun listed a' inv hlow hg hL => by
      have := wpAnyO_heads (md := .any) (Q := Q) (S := S) (k := k) (n := n) (m := m) (c := l.toArray.size - n) (w := w.drew) (g := Region.seqB .any l.toArray (l.toArray.size - n) n) hsel hQ hs hc hms hnm hS
        (fun listed2 a2 hg2 hL2 => by
          have := wpAnyO_of_tail (md := .any) (Q := Q) (k := k) (l.drop n) n listed2 a2 w.drew (fun j => by simp [List.getElem?_drop]) (by rw [ld]; exact hg2) hL2
          rwa [ld] at this) ((l.take n).drop k) k listed a' (fun j hj => by
            rw [ln] at hj
            simp [show k + j < n by omega]) (Nat.le_refl _) (by rw [ln]; omega) inv hlow (by rw [ln]; exact hg) hL
      rwa [ln] at this) (by omega) (l.take k) 0 (Array.replicate l.toArray.size false) a (fun j hj => by
        rw [lk] at hj
        simp [hj]) (by rw [lk]; omega) inv0 (fun j hj => absurd hj (by omega)) (by rw [lk]; exact hb) h
  rw [lk, show k + ((n - k) + (l.toArray.size - n)) = l.toArray.size by omega] at H
  exact wp_region_any hm (wpAny_of_O _ _ _ _ H)

theorem wpHold_nil {L : Act → Prop} {a : Act} (h : L a) : wpHold P ops S L [] a := h
theorem wpHold_cons {L : Act → Prop} {o : Oper} {rest : List Oper} {a : Act} (hw : Region.wanted o (yielded ops a.tmps) = true)
    (h : ∀ K : Act → Prop, (∀ a, wpHold P ops S L rest a → K a) → ∃ v, (∀ W, S W → (execOp a.eval o).run P W = .ok (.value v) W) ∧ K (a.put o.dst v)) : wpHold P ops S L (o :: rest) a :=
  let ⟨v, hv, hK⟩ := h _ fun _ hh => hh
  ⟨v, .inl ⟨hw, hv⟩, hK⟩
theorem wpTail_hi {k m : Nat} {l : List Oper} {a : Act} {w : World} (hk : m ≤ k) (h : wpList P ops Q l a w) : wpTail P ops Q S m k l a w := by
  cases l with
  | nil => exact h
  | cons o l =>
    unfold wpTail
    rw [if_neg (by omega)]
    exact h
theorem wpTail_lo {k m : Nat} {o : Oper} {rest : List Oper} {a : Act} {w : World} (h0 : ops[k]? = some o) (hk : k < m) (hw : Region.wanted o (yielded ops a.tmps) = true)
    (h : o.wp P a w (fun a' w' => S w' ∧ wpTail P ops Q S m (k + 1) rest a' w') Q) : wpTail P ops Q S m k (o :: rest) a w := by
  unfold wpTail
  rw [if_pos hk]
  unfold wpOp
  simp only [h0]
  rw [if_pos hw]
  exact .inl h
theorem wpTail_buildSlice1 {k m : Nat} {t e : TypeId} {o : Oper} {rest : List Oper} {a : Act} {w : World} (ps : Array (Nat × Operand)) (ho : o.op = .buildSlice t 1 ps) (x : Value) (hvs : (ps.map fun (i, y) => (i, a.eval y)) = #[(0, x)])
    (h0 : ops[k]? = some o) (hk : k + 1 = m) (hw : Region.wanted o (yielded ops a.tmps) = true) {z : Value} {s : Nat} (ht : P.underlying t = some (.slice e)) (hz : ∀ W, (zeroValue e).run P W = .ok z W) (hi : (P.info? e).map (·.size) = some s) (hs0 : 0 < s) (h24 : s ≤ 2 ^ 24) (hx : x.cells.size = s)
    (h : ∀ (g : Nat) (W : World), W.heap[g]? = some (.cells x.cells e (0, 0)) → g < W.heap.size → w.heap.size ≤ g → Below w.heap.size w W → S W ∧ wpList P ops Q rest (a.put o.dst (.slice (some ⟨g, 0, none⟩) 1 1)) W) : wpTail P ops Q S m k (o :: rest) a w := by
  refine wpTail_lo h0 (by omega) hw ?_
  have hrun : (execOp a.eval o).run P w = .ok (.value (.slice (some ⟨w.heap.size, 0, none⟩) 1 1)) (w.alloc (.cells x.cells e)) := by
    unfold execOp
    simp only [ho, hvs, Sem.run_bind, run_buildSlice1 ht hz hi hs0 h24 x hx w, Result.andThen_ok, Sem.run_pure]
  unfold Oper.wp
  rw [hrun]
  have := h w.heap.size _ (heap_alloc_at _ _ rfl) (by simp) (Nat.le_refl _) ((Below.refl _ _).alloc (Nat.le_refl _) _)
  exact ⟨this.1, wpTail_hi (by omega) this.2⟩
theorem wp_region_holdX {id : Nat} {a : Act} {w : World} {l : List Oper} (k n m : Nat) (S : World → Prop) (hm : P.follows .mixedOrders = true) (hB : holdB .any l.toArray k n m = true)
    (hQ : ∀ (d : Option Tmp) (v : Value) c a w, Q (.panic c) (a.put d v) w → Q (.panic c) a w) (hS : S w.drew)
    (h : ∀ X, S X → wpHold P l.toArray (fun _ => True) (wpHold P l.toArray S (fun a' => wpTail P l.toArray Q S m n (l.drop n) a' X) ((l.take n).drop k)) (l.take k) a) : (Code.region id l.toArray true).wp P Q a w :=
  wp_region_hold k n m S hm hB hQ hS (h _ hS)
end
end Go.Cu
