/- Part 2 of the texts below this law, put together: what each holds is said at its head. -/
import Derived.Test.YthmchbdhikakhaaDoorJa1
import Derived.OrdersHeld
import Derived.StillTail
import Derived.Deep.CutBlock
import Derived.Deep.DeepCutAuto
import Derived.Laws.CopyOwn
import Derived.Laws.IdiomCopy
/- A region that draws its order: the first k operations yield whatever the world; those up to n in every world of a class; one that may come early keeps the class; the rest comes in one forced order. -/
namespace Go.Cu
open Go Go.RowKit
section
variable {P : Program} {ops : Array Oper} {Q : Exit → Act → World → Prop} {md : Region.Mode} {S : World → Prop}

/-- As sinkB, from number k on. -/
def sinkFrom (md : Region.Mode) (ops : Array Oper) (k m : Nat) : Bool :=
  (List.range m).all fun i => decide (i < k) || (List.range (m + 1)).any fun j => decide (i < j) && Region.waitsFor md ops j i
theorem waitsFrom {k m : Nat} {listed : Array Bool} (hs : sinkFrom md ops k m = true) (hc : Region.chainB md ops m = true) (hn : m < ops.size) (inv : HeadInv md ops m listed) :
    ∀ (d i : Nat), m - i = d → i < m → k ≤ i → listed.getD i true = false → ∀ t, m ≤ t → t ∉ Region.ready md ops listed := by
  intro d
  induction d using Nat.strongRecOn with
  | _ d ih =>
    intro i hd hi hki hun t ht hr
    obtain ⟨_, ot, hot, hall⟩ := mem_ready.1 hr
    have htlt : t < ops.size := (Array.getElem?_eq_some_iff.1 hot).1
    by_cases htn : t = m
    · subst htn
      have h1 := List.all_eq_true.1 hs i (List.mem_range.2 hi)
      simp only [Bool.or_eq_true, decide_eq_true_eq] at h1
      rcases h1 with h1 | h1
      · omega
      obtain ⟨j, hj, hj2⟩ := List.any_eq_true.1 h1
      simp only [Bool.and_eq_true, decide_eq_true_eq] at hj2
      obtain ⟨oj, hoj, e, he, hb, hon⟩ := Region.waitsFor_spec hj2.2
      have hjle : j ≤ t := by have := List.mem_range.1 hj; omega
      by_cases hjt : j = t
      · subst hjt
        have : oj = ot := Option.some.inj (hoj.symm.trans hot)
        subst this
        have h2 := hall e he hb
        rw [hon, getD_both hun] at h2
        cases h2
      · cases hl : listed.getD j false with
        | true =>
          have h2 := inv.closed j oj hoj hl e he hb
          rw [hon, getD_both hun] at h2
          cases h2
        | false =>
          have hjs : j < listed.size := by rw [inv.size]; omega
          exact ih (t - j) (by omega) j rfl (by omega) (by omega) (getD_in hjs hl) t (Nat.le_refl _) hr
    · have h1 := List.all_eq_true.1 hc t (List.mem_range.2 htlt)
      simp only [Bool.or_eq_true, decide_eq_true_eq] at h1
      rcases h1 with h1 | h1
      · omega
      · obtain ⟨o', ho', e, he, hb, hon⟩ := Region.waitsFor_spec h1
        have : o' = ot := Option.some.inj (ho'.symm.trans hot)
        subst this
        have h2 := hall e he hb
        rw [hon, getD_both (inv.tail (t - 1) (by omega) (by omega))] at h2
        cases h2

/-- Whatever order is picked; S holds behind each from k on that stands ahead of m. -/
def wpAnyO (P : Program) (md : Region.Mode) (ops : Array Oper) (Q : Exit → Act → World → Prop) (S : World → Prop) (k m : Nat) : Nat → Array Bool → Act → World → Prop
  | 0, listed, a, w => Region.ready md ops listed = [] ∧ Q .normal a w
  | fuel + 1, listed, a, w =>
    (Region.ready md ops listed = [] → Q .normal a w) ∧
    ∀ i ∈ Region.ready md ops listed, wpOp P ops Q i (fun a' w' => (k ≤ i → i < m → S w') ∧ wpAnyO P md ops Q S k m fuel (listed.setIfInBounds i true) a' w') a w
theorem wpAny_of_O {k m : Nat} : ∀ (fuel : Nat) (listed : Array Bool) (a : Act) (w : World), wpAnyO P md ops Q S k m fuel listed a w → wpAny P md ops Q fuel listed a w
  | 0, _, _, _, h => h
  | fuel + 1, _, _, _, h => ⟨h.1, fun i hi => wpOp_mono (fun a' w' h' => wpAny_of_O fuel _ a' w' h'.2) (h.2 i hi)⟩

theorem not_after {i : Nat} {oj : Oper} {listed : Array Bool} (hun : listed.getD i true = false) (hall : ∀ e ∈ oj.after, Region.binds md e = true → listed.getD e.on false = true) : ∀ e ∈ oj.after, Region.binds md e = true → e.on ≠ i := fun e he hb heq => by
  have h1 := hall e he hb
  rw [heq, getD_both hun] at h1
  cases h1
theorem free_set {i j : Nat} {oi : Oper} {listed : Array Bool} (hjun : listed.getD j true = false)
    (hfree : ∀ j oj, ops[j]? = some oj → j ≠ i → listed.getD j true = false → (∀ e ∈ oj.after, Region.binds md e = true → e.on ≠ i) → oi.apart ops oj = true) :
    ∀ k ok, ops[k]? = some ok → k ≠ i → (listed.setIfInBounds j true).getD k true = false → (∀ e ∈ ok.after, Region.binds md e = true → e.on ≠ i) → oi.apart ops ok = true := fun k ok hk hki hun hno => by
  refine hfree k ok hk hki ?_ hno
  by_cases hjk : j = k
  · subst hjk; exact hjun
  · rw [getD_set_ne true hjk] at hun; exact hun

/-- One that yields whatever the world may be taken first. -/
theorem wpAnyO_pure {k m i : Nat} {oi : Oper} {v : Value} (hik : i < k) (hi : ops[i]? = some oi) (hsel : ∀ (j : Nat) (o : Oper) cs b, ops[j]? = some o → o.op ≠ .select cs b)
    (hQ : ∀ c a w, Q (.panic c) (a.put oi.dst v) w → Q (.panic c) a w) :
    ∀ (fuel : Nat) (listed : Array Bool) (a : Act) (w : World),
      (∀ j oj, ops[j]? = some oj → j ≠ i → listed.getD j true = false → (∀ e ∈ oj.after, Region.binds md e = true → e.on ≠ i) → oi.apart ops oj = true) →
      i ∈ Region.ready md ops listed → YieldsIf P ops (fun _ => True) oi v a →
      wpAnyO P md ops Q S k m fuel (listed.setIfInBounds i true) (a.put oi.dst v) w → wpAnyO P md ops Q S k m (fuel + 1) listed a w := by
  intro fuel
  induction fuel with
  | zero =>
    intro listed a w _ hr hy H
    refine ⟨fun h => (by rw [h] at hr; cases hr), fun j hj => ?_⟩
    by_cases hji : j = i
    · subst hji; exact hy.wpOp hi trivial ⟨fun h => absurd h (by omega), H⟩
    · have := ready_mono hj hji
      rw [H.1] at this
      cases this
  | succ fuel ih =>
    intro listed a w hfree hr hy H
    have hun := (mem_ready.1 hr).1
    refine ⟨fun h => (by rw [h] at hr; cases hr), fun j hj => ?_⟩
    by_cases hji : j = i
    · subst hji; exact hy.wpOp hi trivial ⟨fun h => absurd h (by omega), H⟩
    · have h1 := H.2 j (ready_mono hj hji)
      obtain ⟨hjun, oj, hoj, hall⟩ := mem_ready.1 hj
      have h2 := wpOp_putIf hoj (hfree j oj hoj hji hjun (not_after hun hall)) (fun cs b => hsel i oi cs b hi) (fun cs b => hsel j oj cs b hoj) hQ hy h1
      refine wpOp_mono (fun a' w' h3 => ⟨h3.2.1, ih (listed.setIfInBounds j true) a' w' (free_set hjun hfree) (ready_mono hr (Ne.symm hji)) h3.1 ?_⟩) h2
      rw [Array.setIfInBounds_comm _ _ hji]
      exact h3.2.2

/-- One that yields in every world of the class may be taken first. -/
theorem wpAnyO_first {k m i : Nat} {oi : Oper} {v : Value} (hki : k ≤ i) (him : i < m) (hi : ops[i]? = some oi) (hsel : ∀ (j : Nat) (o : Oper) cs b, ops[j]? = some o → o.op ≠ .select cs b)
    (hs : sinkFrom md ops k m = true) (hc : Region.chainB md ops m = true) (hm : m < ops.size)
    (hQ : ∀ c a w, Q (.panic c) (a.put oi.dst v) w → Q (.panic c) a w) :
    ∀ (fuel : Nat) (listed : Array Bool) (a : Act) (w : World), HeadInv md ops m listed → (∀ j, j < k → listed.getD j true = true) →
      (∀ j oj, ops[j]? = some oj → j ≠ i → listed.getD j true = false → (∀ e ∈ oj.after, Region.binds md e = true → e.on ≠ i) → oi.apart ops oj = true) →
      i ∈ Region.ready md ops listed → YieldsIf P ops S oi v a → S w →
      wpAnyO P md ops Q S k m fuel (listed.setIfInBounds i true) (a.put oi.dst v) w → wpAnyO P md ops Q S k m (fuel + 1) listed a w := by
  intro fuel
  induction fuel with
  | zero =>
    intro listed a w _ _ _ hr hy hS H
    refine ⟨fun h => (by rw [h] at hr; cases hr), fun j hj => ?_⟩
    by_cases hji : j = i
    · subst hji; exact hy.wpOp hi hS ⟨fun _ _ => hS, H⟩
    · have := ready_mono hj hji
      rw [H.1] at this
      cases this
  | succ fuel ih =>
    intro listed a w inv hlow hfree hr hy hS H
    have hun := (mem_ready.1 hr).1
    refine ⟨fun h => (by rw [h] at hr; cases hr), fun j hj => ?_⟩
    by_cases hji : j = i
    · subst hji; exact hy.wpOp hi hS ⟨fun _ _ => hS, H⟩
    · have hjm : j < m := by
        rcases Nat.lt_or_ge j m with h | h
        · exact h
        · exact absurd hj (waitsFrom hs hc hm inv _ i rfl him hki hun j h)
      have h1 := H.2 j (ready_mono hj hji)
      obtain ⟨hjun, oj, hoj, hall⟩ := mem_ready.1 hj
      have hkj : k ≤ j := by
        rcases Nat.lt_or_ge j k with h | h
        · rw [hlow j h] at hjun; cases hjun
        · exact h
      have h2 := wpOp_putIf hoj (hfree j oj hoj hji hjun (not_after hun hall)) (fun cs b => hsel i oi cs b hi) (fun cs b => hsel j oj cs b hoj) hQ hy h1
      refine wpOp_mono (fun a' w' h3 => ⟨fun _ _ => h3.2.1 hkj hjm, ih (listed.setIfInBounds j true) a' w' (inv.set hj hjm) (fun q hq => by rw [getD_set_ne true (by omega)]; exact hlow q hq) (free_set hjun hfree) (ready_mono hr (Ne.symm hji)) h3.1 (h3.2.1 hkj hjm) ?_⟩) h2
      rw [Array.setIfInBounds_comm _ _ hji]
      exact h3.2.2

/-- The forced rest: S behind those ahead of m. -/
def wpTail (P : Program) (ops : Array Oper) (Q : Exit → Act → World → Prop) (S : World → Prop) (m : Nat) : Nat → List Oper → Act → World → Prop
  | _, [], a, w => Q .normal a w
  | k, o :: rest, a, w => if k < m then wpOp P ops Q k (fun a' w' => S w' ∧ wpTail P ops Q S m (k + 1) rest a' w') a w else wpList P ops Q (o :: rest) a w
theorem wpAnyO_of_list {k m : Nat} : ∀ (l : List Oper) (q : Nat) (listed : Array Bool) (a : Act) (w : World), m ≤ q → (∀ j, l[j]? = ops[q + j]?) →
    Region.seqB md ops l.length q listed = true → wpList P ops Q l a w → wpAnyO P md ops Q S k m l.length listed a w
  | [], _, _, _, _, _, _, hB, h => ⟨by simpa [Region.seqB] using hB, h⟩
  | o :: l, q, listed, a, w, hmq, hl, hB, h => by
    have h0 : ops[q]? = some o := by simpa using (hl 0).symm
    simp only [List.length_cons, Region.seqB, Bool.and_eq_true, decide_eq_true_eq] at hB
    refine ⟨fun h1 => (by rw [hB.1] at h1; cases h1), fun i hi => ?_⟩
    rw [hB.1] at hi
    have hik : i = q := by simpa using hi
    subst hik
    have hw : wpOp P ops Q i (wpList P ops Q l) a w := by unfold wpOp; simp only [h0]; exact h
    exact wpOp_mono (fun a' w' h' => ⟨fun _ h => absurd h (by omega), wpAnyO_of_list l (i + 1) _ a' w' (by omega) (fun j => by have := hl (j + 1); simpa [Nat.add_assoc, Nat.add_comm 1 j] using this) hB.2 h'⟩) hw
theorem wpAnyO_of_tail {k m : Nat} : ∀ (l : List Oper) (q : Nat) (listed : Array Bool) (a : Act) (w : World), (∀ j, l[j]? = ops[q + j]?) →
    Region.seqB md ops l.length q listed = true → wpTail P ops Q S m q l a w → wpAnyO P md ops Q S k m l.length listed a w
  | [], _, _, _, _, _, hB, h => ⟨by simpa [Region.seqB] using hB, h⟩
  | o :: l, q, listed, a, w, hl, hB, h => by
    unfold wpTail at h
    split at h
    · simp only [List.length_cons, Region.seqB, Bool.and_eq_true, decide_eq_true_eq] at hB
      refine ⟨fun h1 => (by rw [hB.1] at h1; cases h1), fun i hi => ?_⟩
      rw [hB.1] at hi
      have hik : i = q := by simpa using hi
      subst hik
      exact wpOp_mono (fun a' w' h' => ⟨fun _ _ => h'.1, wpAnyO_of_tail l (i + 1) _ a' w' (fun j => by have := hl (j + 1); simpa [Nat.add_assoc, Nat.add_comm 1 j] using this) hB.2 h'.2⟩) h
    · exact wpAnyO_of_list (o :: l) q listed a w (by omega) hl hB h

/-- Operations that yield in every world of the class, one behind the other. -/
def wpHold (P : Program) (ops : Array Oper) (S : World → Prop) (L : Act → Prop) : List Oper → Act → Prop
  | [], a => L a
  | o :: rest, a => ∃ v, YieldsIf P ops S o v a ∧ wpHold P ops S L rest (a.put o.dst v)

/-- What the kernel looks at: the first f from number k on may each be taken first; then comes what g says. -/
def headB (md : Region.Mode) (ops : Array Oper) (g : Array Bool → Bool) : Nat → Nat → Array Bool → Bool
  | 0, _, listed => g listed
  | f + 1, k, listed => (Region.ready md ops listed).contains k && Region.free md ops listed k && headB md ops g f (k + 1) (listed.setIfInBounds k true)

theorem wpAnyO_pures {k m c : Nat} {L : Act → Prop} {g : Array Bool → Bool} {w : World} (hsel : Region.noSelect ops = true) (hQ : ∀ (d : Option Tmp) (v : Value) c a w, Q (.panic c) (a.put d v) w → Q (.panic c) a w)
    (hL : ∀ listed a, HeadInv md ops m listed → (∀ j, j < k → listed.getD j true = true) → g listed = true → L a → wpAnyO P md ops Q S k m c listed a w) (hkm : k ≤ m) :
    ∀ (l : List Oper) (q : Nat) (listed : Array Bool) (a : Act), (∀ j, j < l.length → l[j]? = ops[q + j]?) → q + l.length = k → HeadInv md ops m listed → (∀ j, j < q → listed.getD j true = true) →
    headB md ops g l.length q listed = true → wpHold P ops (fun _ => True) L l a → wpAnyO P md ops Q S k m (l.length + c) listed a w
  | [], q, listed, a, _, hq, inv, hlow, hB, h => by
    rw [List.length_nil, Nat.zero_add]
    exact hL listed a inv (fun j hj => hlow j (by simp at hq; omega)) hB h
  | o :: l, q, listed, a, hl, hq, inv, hlow, hB, h => by
    have h0 : ops[q]? = some o := by simpa using (hl 0 (by simp)).symm
    simp only [List.length_cons, headB, Bool.and_eq_true] at hB hq
    obtain ⟨⟨hr, hf⟩, hB'⟩ := hB
    have hr' : q ∈ Region.ready md ops listed := by simpa using hr
    obtain ⟨v, hy, hK⟩ := h
    have hqs : q < listed.size := by rw [inv.size]; exact (Array.getElem?_eq_some_iff.1 h0).1
    rw [List.length_cons, show l.length + 1 + c = (l.length + c) + 1 by omega]
    exact wpAnyO_pure (by omega) h0 (Region.noSelect_spec hsel) (fun c a w => hQ _ _ c a w) _ listed a w (Region.free_spec h0 hf) hr' hy
      (wpAnyO_pures hsel hQ hL hkm l (q + 1) _ _ (fun j hj => by have := hl (j + 1) (by simp; omega); simpa [Nat.add_assoc, Nat.add_comm 1 j] using this) (by omega) (inv.set hr' (by omega))
        (fun j hj => by
          by_cases e : q = j
          · subst e; simp [hqs]
          · rw [getD_set_ne true e]; exact hlow j (by omega)) hB' hK)

theorem wpAnyO_heads {k n m c : Nat} {L : Act → Prop} {g : Array Bool → Bool} {w : World} (hsel : Region.noSelect ops = true) (hQ : ∀ (d : Option Tmp) (v : Value) c a w, Q (.panic c) (a.put d v) w → Q (.panic c) a w)
    (hs : sinkFrom md ops k m = true) (hc : Region.chainB md ops m = true) (hm : m < ops.size) (hnm : n ≤ m) (hS : S w)
    (hL : ∀ listed a, g listed = true → L a → wpAnyO P md ops Q S k m c listed a w) :
    ∀ (l : List Oper) (q : Nat) (listed : Array Bool) (a : Act), (∀ j, j < l.length → l[j]? = ops[q + j]?) → k ≤ q → q + l.length = n → HeadInv md ops m listed → (∀ j, j < k → listed.getD j true = true) →
    headB md ops g l.length q listed = true → wpHold P ops S L l a → wpAnyO P md ops Q S k m (l.length + c) listed a w
  | [], _, listed, a, _, _, _, _, _, hB, h => by
    rw [List.length_nil, Nat.zero_add]
    exact hL listed a hB h
  | o :: l, q, listed, a, hl, hkq, hq, inv, hlow, hB, h => by
    have h0 : ops[q]? = some o := by simpa using (hl 0 (by simp)).symm
    simp only [List.length_cons, headB, Bool.and_eq_true] at hB hq
    obtain ⟨⟨hr, hf⟩, hB'⟩ := hB
    have hr' : q ∈ Region.ready md ops listed := by simpa using hr
    obtain ⟨v, hy, hK⟩ := h
    rw [List.length_cons, show l.length + 1 + c = (l.length + c) + 1 by omega]
    exact wpAnyO_first hkq (by omega) h0 (Region.noSelect_spec hsel) hs hc hm (fun c a w => hQ _ _ c a w) _ listed a w inv hlow (Region.free_spec h0 hf) hr' hy hS
      (wpAnyO_heads hsel hQ hs hc hm hnm hS hL l (q + 1) _ _ (fun j hj => by have := hl (j + 1) (by simp; omega); simpa [Nat.add_assoc, Nat.add_comm 1 j] using this) (by omega) (by omega) (inv.set hr' (by omega))
        (fun j hj => by rw [getD_set_ne true (by omega)]; exact hlow j hj) hB' hK)

/-- What the kernel looks at. -/
def holdB (md : Region.Mode) (ops : Array Oper) (k n m : Nat) : Bool :=
  Region.noSelect ops && decide (k ≤ n) && decide (n ≤ m) && decide (m < ops.size) && sinkFrom md ops k m && Region.chainB md ops m &&
    headB md ops (headB md ops (Region.seqB md ops (ops.size - n) n) (n - k) k) k 0 (Array.replicate ops.size false)

theorem wp_region_hold {id : Nat} {a : Act} {w : World} {l : List Oper} (k n m : Nat) (S : World → Prop) (hm : P.follows .mixedOrders = true) (hB : holdB .any l.toArray k n m = true)
    (hQ : ∀ (d : Option Tmp) (v : Value) c a w, Q (.panic c) (a.put d v) w → Q (.panic c) a w) (hS : S w.drew)
    (h : wpHold P l.toArray (fun _ => True) (wpHold P l.toArray S (fun a' => wpTail P l.toArray Q S m n (l.drop n) a' w.drew) ((l.take n).drop k)) (l.take k) a) : (Code.region id l.toArray true).wp P Q a w := by
  simp only [holdB, Bool.and_eq_true, decide_eq_true_eq] at hB
  obtain ⟨⟨⟨⟨⟨⟨hsel, hkn⟩, hnm⟩, hms⟩, hs⟩, hc⟩, hb⟩ := hB
  have hml : m < l.length := by simpa using hms
  have inv0 : HeadInv .any l.toArray m (Array.replicate l.toArray.size false) :=
    ⟨by simp, fun j oj _ hl => (by rw [getD_replicate_false] at hl; cases hl), fun t _ ht => getD_in (by simpa using ht) (getD_replicate_false _ _)⟩
  have lk : (l.take k).length = k := by simp; omega
  have ln : ((l.take n).drop k).length = n - k := by simp; omega
  have ld : (l.drop n).length = l.toArray.size - n := by simp
  have H := wpAnyO_pures (md := .any) (Q := Q) (S := S) (k := k) (m := m) (c := (n - k) + (l.toArray.size - n)) (w := w.drew) (g := headB .any l.toArray (Region.seqB .any l.toArray (l.toArray.size - n) n) (n - k) k)
    hsel hQ (fun listed a' inv hlow hg hL => by
      have := wpAnyO_heads (md := .any) (Q := Q) (S := S) (k := k) (n := n) (m := m) (c := l.toArray.size - n) (w := w.drew) (g := Region.seqB .any l.toArray (l.toArray.size - n) n) hsel hQ hs hc hms hnm hS
        (fun listed2 a2 hg2 hL2 => by
          have := wpAnyO_of_tail (md := .any) (Q := Q) (k := k) (l.drop n) n listed2 a2 w.drew (fun j => by simp [List.getElem?_drop]) (by rw [ld]; exact hg2) hL2
          rwa [ld] at this) ((l.take n).drop k) k listed a' (fun j hj => by
            rw [ln] at hj
            simp [show k + j < n by omega]) (Nat.le_refl _) (by rw [ln]; omega) inv hlow (by rw [ln]; exact hg) hL
      rwa [ln] at this) (by omega) (l.take k) 0 (Array.replicate l.toArray.size false) a (fun j hj => by
        rw [lk] at hj
        simp [hj]) (by rw [lk]; omega) inv0 (fun j hj => absurd hj (by omega)) (by rw [lk]; exact hb) h
  rw [lk, show k + ((n - k) + (l.toArray.size - n)) = l.toArray.size by omega] at H
  exact wp_region_any hm (wpAny_of_O _ _ _ _ H)

theorem wpHold_nil {L : Act → Prop} {a : Act} (h : L a) : wpHold P ops S L [] a := h
theorem wpHold_cons {L : Act → Prop} {o : Oper} {rest : List Oper} {a : Act} (hw : Region.wanted o (yielded ops a.tmps) = true)
    (h : ∀ K : Act → Prop, (∀ a, wpHold P ops S L rest a → K a) → ∃ v, (∀ W, S W → (execOp a.eval o).run P W = .ok (.value v) W) ∧ K (a.put o.dst v)) : wpHold P ops S L (o :: rest) a :=
  let ⟨v, hv, hK⟩ := h _ fun _ hh => hh
  ⟨v, .inl ⟨hw, hv⟩, hK⟩
theorem wpTail_hi {k m : Nat} {l : List Oper} {a : Act} {w : World} (hk : m ≤ k) (h : wpList P ops Q l a w) : wpTail P ops Q S m k l a w := by
  cases l with
  | nil => exact h
  | cons o l =>
    unfold wpTail
    rw [if_neg (by omega)]
    exact h
theorem wpTail_lo {k m : Nat} {o : Oper} {rest : List Oper} {a : Act} {w : World} (h0 : ops[k]? = some o) (hk : k < m) (hw : Region.wanted o (yielded ops a.tmps) = true)
    (h : o.wp P a w (fun a' w' => S w' ∧ wpTail P ops Q S m (k + 1) rest a' w') Q) : wpTail P ops Q S m k (o :: rest) a w := by
  unfold wpTail
  rw [if_pos hk]
  unfold wpOp
  simp only [h0]
  rw [if_pos hw]
  exact .inl h
theorem wpTail_buildSlice1 {k m : Nat} {t e : TypeId} {o : Oper} {rest : List Oper} {a : Act} {w : World} (ps : Array (Nat × Operand)) (ho : o.op = .buildSlice t 1 ps) (x : Value) (hvs : (ps.map fun (i, y) => (i, a.eval y)) = #[(0, x)])
    (h0 : ops[k]? = some o) (hk : k + 1 = m) (hw : Region.wanted o (yielded ops a.tmps) = true) {z : Value} {s : Nat} (ht : P.underlying t = some (.slice e)) (hz : ∀ W, (zeroValue e).run P W = .ok z W) (hi : (P.info? e).map (·.size) = some s) (hs0 : 0 < s) (h24 : s ≤ 2 ^ 24) (hx : x.cells.size = s)
    (h : ∀ (g : Nat) (W : World), W.heap[g]? = some (.cells x.cells e (0, 0)) → g < W.heap.size → w.heap.size ≤ g → Below w.heap.size w W → S W ∧ wpList P ops Q rest (a.put o.dst (.slice (some ⟨g, 0, none⟩) 1 1)) W) : wpTail P ops Q S m k (o :: rest) a w := by
  refine wpTail_lo h0 (by omega) hw ?_
  have hrun : (execOp a.eval o).run P w = .ok (.value (.slice (some ⟨w.heap.size, 0, none⟩) 1 1)) (w.alloc (.cells x.cells e)) := by
    unfold execOp
    simp only [ho, hvs, Sem.run_bind, run_buildSlice1 ht hz hi hs0 h24 x hx w, Result.andThen_ok, Sem.run_pure]
  unfold Oper.wp
  rw [hrun]
  have := h w.heap.size _ (heap_alloc_at _ _ rfl) (by simp) (Nat.le_refl _) ((Below.refl _ _).alloc (Nat.le_refl _) _)
  exact ⟨this.1, wpTail_hi (by omega) this.2⟩
theorem wp_region_holdX {id : Nat} {a : Act} {w : World} {l : List Oper} (k n m : Nat) (S : World → Prop) (hm : P.follows .mixedOrders = true) (hB : holdB .any l.toArray k n m = true)
    (hQ : ∀ (d : Option Tmp) (v : Value) c a w, Q (.panic c) (a.put d v) w → Q (.panic c) a w) (hS : S w.drew)
    (h : ∀ X, S X → wpHold P l.toArray (fun _ => True) (wpHold P l.toArray S (fun a' => wpTail P l.toArray Q S m n (l.drop n) a' X) ((l.take n).drop k)) (l.take k) a) : (Code.region id l.toArray true).wp P Q a w :=
  wp_region_hold k n m S hm hB hQ hS (h _ hS)
end
end Go.Cu
namespace Go.Proofs.YthmchbdhikakhaaDoor
open Go.RowKit Go.Cu
theorem size3 : (Tryd.prog.info? 3).map (·.size) = some 1 := by kernel_rfl
theorem size102 : (Tryd.prog.info? 48).map (·.size) = some 1 := by kernel_rfl
theorem size106 : (Tryd.prog.info? 79).map (·.size) = some 129 := by kernel_rfl
def zeroPut : Value := .agg (putL (0, zeroB)).toArray
set_option maxRecDepth 20000 in
theorem zero106 (W : World) : (zeroValue 79).run Tryd.prog W = .ok zeroPut W := by kernel_rfl
set_option maxRecDepth 20000 in
theorem info106 : (Tryd.prog.info? 79).map (fun i => (i.zero, i.size, i.bytes)) = some (some zeroPut, 129, 136) := by kernel_rfl
@[go_sem ↓] theorem bdk106 (a : Act) (dst : Option Tmp) (ps : Array (Nat × Operand)) (ty : TypeId) (pos : String) (after : Array Edge) (guard : Option (Nat × Bool)) :
    execOp a.eval { dst, op := .build 79 ps, type := ty, pos, after, guard } = buildK 79 (ps.map fun (i, x) => (i, a.eval x)) := rfl
theorem build106 (n : Nat) (b : Bk) (hb : b.length = 128) (w : World) : (buildK 79 #[(0, .int .i64 n), (1, .agg (bv b))]).run Tryd.prog w = .ok (.value (.agg (putL (n, b)).toArray)) w := by
  refine (run_buildK (run_build2 (z := zeroPut) (s0 := 1) (s1 := 128) Tryd.underlying79 zero106 size3 size33 rfl rfl ?_ _ _ rfl ?_ w)).trans ?_
  · show (putL (0, zeroB)).toArray.size = 129
    exact putL_size zeroB_len
  · exact (bv_size b).trans hb
  · congr 3
    apply Array.ext'
    simp [Value.cells, putL, bvL, bv]

set_option maxRecDepth 20000 in
set_option maxHeartbeats 1000000 in
theorem write_ok {p : Nat} {F : Nat → Prop} {S : DS} {w : World} {N : Nat} (h : DiskIn w p F S) (hok : S.Ok N) (hN : N ≤ 1000000) {n : Nat} (hz : S.at_ (n : Int) = 0) {b : Bk} (hb : b.length = 128) :
    Calls Tryd.prog 19 #[.pointer (some ⟨p, 0, none⟩), .int .i64 n, .agg (bv b)] w fun x w' => x = .returned (.int .i64 ((S.put n b).tick).2) ∧ DiskIn w' p (fun g => F g ∨ w.heap.size ≤ g) ((S.put n b).tick).1 ∧ Tch F w w' := by
  have ha := hid fun w' (hb : Below w.heap.size w w') => at_any (w := w') (h.below hb) hok n
  rw [hz] at ha
  obtain ⟨_, _, hlt⟩ := DS.at_zero hz
  have hbig := hok.big
  have hfew := hok.few
  have hwr0 := hok.writes0
  have hwr := hok.writes
  have har0 := hok.armed0
  have har := hok.armed
  have HF := hid (show Full S.now from hok.now)
  have HB := hid hb
  have HSB := hid ((bv_size b).trans hb)
  have HFW := hid (show FullW S.wait from fun q hq => (hok.wait q hq).2)
  have hbd := build106 n b hb
  obtain ⟨pn, pl, wv, hat⟩ := h
  clear hok hz hb
  go_enter Tryd.func19, Tryd.ntmps19
  repeat (apply wp_seq_k; intro _ _)
  apply wp_region_lit
  refine wpList_box rfl 64 _ rfl (.agg (bv b)) rfl ?_
  intro gb V0 hG hgb hgeb hW
  have H0 := hid (hat.below hW)
  have hpl := lt_of_heap hat.box
  have hnl := lt_of_heap hat.now
  have hX : Below V0.heap.size V0 V0 := Below.refl _ _
  have LB : ∀ X, Below V0.heap.size V0 X → (loadK 64 (.pointer (some ⟨gb, 0, none⟩))).run Tryd.prog X = .ok (.value (.agg (bv b))) X := fun X hb => run_loadK_box ((hb.block _ hgb).trans hG) Tryd.underlying64 rfl size33 HSB.out
  have L0 : ∀ X, Below V0.heap.size V0 X → X.cell? ⟨p, 0, none⟩ = some (.slice (some ⟨pn, 0, none⟩) S.now.length S.now.length) := fun X hb => (hb.cell (p := ⟨p, 0, none⟩) (Nat.lt_of_lt_of_le hpl hW.size)).trans ((cell_of_row V0 p 0 _ _ _ H0.out.box).trans rfl)
  go_wp2_with (go_at_call 30; refine (ha.out _ hW).mono ?_; rintro x w' ⟨rfl, rfl⟩)
  refine wp_region_class_tail 7 (fun X => Below V0.heap.size V0 X) (by kernel_rfl) (by kernel_rfl) (Below.drew hX) ?_
  clear hX
  simp only [List.take_succ_cons, List.take_zero, List.drop_succ_cons, List.drop_zero]
  repeat (refine wpQuiet_exK rfl (fun K hK => ?_); apply Exists.intro; refine And.intro (fun X hX => ?_) ?_; (· go_simp; (try go_bits); first | exact rfl | exact ⟨rfl, rfl⟩ | (rw [if_pos (by omega)]; exact ⟨rfl, rfl⟩)); go_simp; refine hK _ ?_; clear hK K)
  refine wpQuiet_nil (fun X hX => ?_)
  have hX0 := H0.out.below hX
  clear LB L0
  refine wpList_store_part 64 _ _ rfl pn (n * 128) rfl rfl (.agg (bv b)) rfl 128 size33 HSB.out (bv_one _) 64 _ hX0.now (by rw [flat_size HF.out]; omega) ?_
  intro V1 hN1 hT1 hs1
  replace hN1 : V1.heap[pn]? = some (.cells (flat (S.now.set n b)) 64 (0, 0)) := by
    rw [hN1]
    exact congrArg (fun c => some (Obj.cells c 64 (0, 0))) (flat_put HF.out (by omega) HB.out)
  have hpn : p ≠ pn := heap_ne hX0.box hX0.now (by decide)
  have hP1 := (hT1.block p (lt_of_heap hX0.box) hpn).trans hX0.box
  have hL1 := (hT1.block pl (lt_of_heap hX0.last) hX0.ne.symm).trans hX0.last
  have hwn := own_ne hX0.wait hX0.now (by decide)
  have hO1 := own_keep (W' := V1) hX0.wait (fun g hg => hT1.block g (own_lt hX0.wait hg) (fun e => hwn (by rw [hg]; exact congrArg some e)))
  have hTw1 : Tch F w V1 := by
    refine (Tch.of_below (F := F) (hW.trans (hX.mono hW.size))).trans hT1 (fun _ h => h) (fun i _ e => ?_)
    subst e
    exact H0.out.on
  have hG1 : V1.heap[gb]? = some (.cells (bv b) 64 (0, 0)) := (hT1.block gb (Nat.lt_of_lt_of_le hgb hX.size) (by show gb ≠ pn; omega)).trans ((hX.block gb hgb).trans hG)
  have hg1 := lt_of_heap hG1
  have hp1 := lt_of_heap hP1
  have HO := hid hO1
  have HP := hid hP1
  have HL := hid hL1
  have HNn := hid hN1
  have hnl' : pn < V1.heap.size := lt_of_heap hN1
  have hne := H0.out.ne
  have HFo := hid (And.intro H0.out.op (And.intro H0.out.on (And.intro H0.out.ol H0.out.ow)))
  clear hX hX0 H0 hT1 hs1 hG hat ha hO1 hP1 hL1 hN1
  have hX : Below V1.heap.size V1 V1 := Below.refl _ _
  have LB : ∀ X, Below V1.heap.size V1 X → (loadK 64 (.pointer (some ⟨gb, 0, none⟩))).run Tryd.prog X = .ok (.value (.agg (bv b))) X := fun X hb => run_loadK_box ((hb.block _ hg1).trans hG1) Tryd.underlying64 rfl size33 HSB.out
  have L2 : ∀ X, Below V1.heap.size V1 X → X.cell? ⟨p, 2, none⟩ = some wv := fun X hb => (hb.cell (p := ⟨p, 2, none⟩) hp1).trans ((cell_of_row V1 p 2 _ _ _ HP.out).trans rfl)
  go_wp2
  refine wp_region_holdX 1 8 9 (fun X => Below V1.heap.size V1 X) (by kernel_rfl) (by kernel_rfl) (fun d _ c _ _ h => by cases d <;> exact h) (Below.drew hX) (fun X hX1 => ?_)
  replace hX := hX1
  clear hX1
  simp only [List.take_succ_cons, List.take_zero, List.drop_succ_cons, List.drop_zero]
  (refine wpHold_cons rfl (fun K hK => ?_); apply Exists.intro; refine And.intro (fun X' hX' => ?_) ?_; (· go_simp; (try go_bits); first | done | exact rfl | exact ⟨rfl, rfl⟩); go_simp; refine hK _ ?_; clear hK K)
  refine wpHold_nil ?_
  repeat (refine wpHold_cons rfl (fun K hK => ?_); apply Exists.intro; refine And.intro (fun X' hX' => ?_) ?_; (· go_simp; (try go_bits); first | done | exact rfl | exact ⟨rfl, rfl⟩); go_simp; refine hK _ ?_; clear hK K)
  refine wpHold_nil ?_
  clear LB L2
  refine wpTail_buildSlice1 _ rfl (.agg (putL (n, b)).toArray) (by simp [Act.eval]) rfl rfl rfl Tryd.underlying48 zero106 size106 (by decide) (by decide) (putL_size HB.out) ?_
  intro gs X1 hS hgs hges hX1
  refine ⟨hX.trans (hX1.mono hX.size), ?_⟩
  obtain ⟨i0, hi, hiz, his, hib⟩ := info_parts info106
  have hOX := own_keep (W' := X1) HO.out (fun g hg => (hX1.block g (Nat.lt_of_lt_of_le (own_lt HO.out hg) hX.size)).trans (hX.block g (own_lt HO.out hg)))
  refine wpList_append_at _ _ _ rfl wv rfl ⟨gs, 0, none⟩ 1 1 rfl rfl 79 i0 zeroPut 129 136 Tryd.underlying48 hi hiz his hib (putL_size zeroB_len) (by decide) S.wait.length (waitL S.wait) hOX (putL (n, b)) ((putL_len HB.out).trans rfl) ?_ (putL_one _) (by unfold maxLen; omega) (by omega) ?_
  · intro j u hu
    have e : (⟨gs, 0, none⟩ : Addr).add j = ⟨gs, j, none⟩ := by unfold Addr.add; split <;> simp_all
    rw [e, cell_of_row X1 gs j _ _ _ hS]
    simpa [Value.cells] using hu
  intro v' V2 hO2 hT2 hfr
  have hXX : Below V1.heap.size V1 X1 := hX.trans (hX1.mono hX.size)
  have hk : ∀ {g : Nat}, g < V1.heap.size → wv.ownBlock ≠ some g → V2.heap[g]? = V1.heap[g]? := fun {g} hg hn => (hT2.block g (Nat.lt_of_lt_of_le hg hXX.size) hn).trans (hXX.block g hg)
  have HP2 := hid ((hk hp1 (own_ne HO.out HP.out (by decide))).trans HP.out)
  have HN2 := hid ((hk hnl' (own_ne HO.out HNn.out (by decide))).trans HNn.out)
  have HL2 := hid ((hk (lt_of_heap HL.out) (own_ne HO.out HL.out (by decide))).trans HL.out)
  have hT02 : Tch F w V2 := (hTw1.trans (Tch.of_below (F := F) hXX) (fun _ h => h) (fun _ _ h => h)).trans hT2 (fun _ h => h) (fun i _ e => HFo.out.2.2.2 i e)
  have hvb : ∀ g, v'.ownBlock = some g → F g ∨ w.heap.size ≤ g := by
    intro g hg
    rcases hfr with e | e
    · exact .inl (HFo.out.2.2.2 g (e.symm.trans hg))
    · have : g = X1.heap.size := by rw [hg] at e; exact Option.some.inj e
      have h2 := hTw1.size
      have h3 := hXX.size
      exact .inr (by omega)
  obtain ⟨A', c', rfl⟩ : ∃ A c, v' = .slice A (S.wait.length + 1) c := by
    rcases hO2.2 with ⟨_, h0⟩ | ⟨g, cap, cur, h0, _⟩
    · omega
    · exact ⟨_, _, h0⟩
  have HO2 := hid hO2
  have HVB := hid hvb
  clear hO2 hfr hk hXX hX1 hOX hT2 hX hS hgs hges hi hiz his hib hvb hG1
  have FIN := hid fun (W' : World) (wr ar : Int) (off : Bool) (hp : W'.heap[p]? = some (.cells #[.slice (some ⟨pn, 0, none⟩) S.now.length S.now.length, .slice (some ⟨pl, 0, none⟩) S.now.length S.now.length, .slice A' (S.wait.length + 1) c', .int .i64 wr, .int .i64 ar, .bool off] 50 (0, 0))) (ht : Tch (· = p) V2 W') =>
    (show DiskIn W' p (fun g => F g ∨ w.heap.size ≤ g) { now := S.now.set n b, last := S.last, wait := S.wait ++ [(n, b)], writes := wr, armed := ar, off := off } ∧ Tch F w W' from by
      have hpn2 : pn ≠ p := heap_ne HN2.out HP2.out (by decide)
      have hpl2 : pl ≠ p := heap_ne HL2.out HP2.out (by decide)
      refine ⟨⟨pn, pl, .slice A' (S.wait.length + 1) c', .inl HFo.out.1, .inl HFo.out.2.1, .inl HFo.out.2.2.1, HVB.out, hne, ?_, ?_, ?_, ?_⟩, hT02.trans ht (fun _ h => h) (fun i _ e => by subst e; exact HFo.out.1)⟩
      · simpa using hp
      · exact (ht.block pn (lt_of_heap HN2.out) hpn2).trans HN2.out
      · exact (ht.block pl (lt_of_heap HL2.out) hpl2).trans HL2.out
      · simp only [List.length_append, List.length_singleton, waitL_snoc]
        exact own_keep HO2.out (fun g hg => ht.block g (own_lt HO2.out hg) (fun e => own_ne HO2.out HP2.out (by decide) (by rw [hg]; exact congrArg some e))))
  have c2 : V2.cell? ⟨p, 2, none⟩ = some wv := (cell_of_row V2 p 2 _ _ _ HP2.out).trans rfl
  have c3 : V2.cell? ⟨p, 3, none⟩ = some (.int .i64 S.writes) := (cell_of_row V2 p 3 _ _ _ HP2.out).trans rfl
  have c4 : V2.cell? ⟨p, 4, none⟩ = some (.int .i64 S.armed) := (cell_of_row V2 p 4 _ _ _ HP2.out).trans rfl
  have c5 : V2.cell? ⟨p, 5, none⟩ = some (.bool S.off) := (cell_of_row V2 p 5 _ _ _ HP2.out).trans rfl
  have f2 : V2.frozen? ⟨p, 2, none⟩ = false := frozen_of_row V2 p 2 _ _ HP2.out
  have f3 : V2.frozen? ⟨p, 3, none⟩ = false := frozen_of_row V2 p 3 _ _ HP2.out
  have f4 : V2.frozen? ⟨p, 4, none⟩ = false := frozen_of_row V2 p 4 _ _ HP2.out
  have f5 : V2.frozen? ⟨p, 5, none⟩ = false := frozen_of_row V2 p 5 _ _ HP2.out
  have P2 := hid (heap_setCell_same V2 p 2 _ 50 (.slice A' (S.wait.length + 1) c') HP2.out)
  have P3 := hid (heap_setCell_same _ p 3 _ 50 (.int .i64 (S.writes + 1)) P2.out)
  have T3 := hid (((Tch.refl (· = p) V2).setCell (g := p) (i := 2) rfl (.slice A' (S.wait.length + 1) c')).setCell (g := p) (i := 3) rfl (.int .i64 (S.writes + 1)))
  have P4 := hid (heap_setCell_same _ p 4 _ 50 (.int .i64 (S.armed - 1)) P3.out)
  have T4 := hid (T3.out.setCell (g := p) (i := 4) rfl (.int .i64 (S.armed - 1)))
  by_cases h0 : S.armed = 0
  · have b0 : (S.armed == 0) = true := by simpa using h0
    have HE := hid (DS.put_tick0 (n := n) (b := b) h0)
    clear h0 har0 har
    go_wp2
    go_ret
    rw [HE.out]
    exact ⟨rfl, FIN.out _ _ _ _ (P3.out.trans rfl) T3.out⟩
  · have b0 : (S.armed == 0) = false := by simpa using h0
    by_cases h1 : 0 < S.armed - 1
    · have HE := hid (DS.put_tick1 (n := n) (b := b) h0 h1)
      clear h0
      go_wp2
      go_ret
      rw [HE.out]
      exact ⟨rfl, FIN.out _ _ _ _ (P4.out.trans rfl) T4.out⟩
    · have HE := hid (DS.put_tick2 (n := n) (b := b) h0 h1)
      have h2 : S.armed = 1 := by omega
      have E := hid (show S.armed - 1 = 0 by omega)
      have P4 := hid (heap_setCell_same _ p 4 _ 50 (.int .i64 0) P3.out)
      have T4 := hid (T3.out.setCell (g := p) (i := 4) rfl (.int .i64 0))
      have P5 := hid (heap_setCell_same _ p 5 _ 50 (.bool true) P4.out)
      have T5 := hid (T4.out.setCell (g := p) (i := 5) rfl (.bool true))
      rw [h2] at c4 b0
      clear h0 h1 har0 har h2
      go_wp2
      go_ret
      rw [HE.out, E.out]
      exact ⟨rfl, FIN.out _ _ _ _ (P5.out.trans rfl) T5.out⟩
end Go.Proofs.YthmchbdhikakhaaDoor
/- What a disk tells of itself, and arming it. -/
namespace Go.Proofs.YthmchbdhikakhaaDoor
open Go.RowKit Go.Cu

set_option maxHeartbeats 400000 in
theorem size_nil (w : World) : Calls Tryd.prog 13 #[.pointer none] w fun e w' => e = .returned (.int .i64 0) ∧ w = w' := by
  go_enter Tryd.func13, Tryd.ntmps13
  go_wp2
  go_ret
  exact ⟨rfl, rfl⟩
set_option maxHeartbeats 400000 in
theorem size_any {p : Nat} {F : Nat → Prop} {S : DS} {w : World} (h : DiskIn w p F S) : Calls Tryd.prog 13 #[.pointer (some ⟨p, 0, none⟩)] w fun e w' => e = .returned (.int .i64 S.now.length) ∧ w = w' := by
  obtain ⟨pn, pl, wv, h0, _, _, _, _, _⟩ := h.cells
  clear h
  go_enter Tryd.func13, Tryd.ntmps13
  go_wp2
  go_ret
  exact ⟨rfl, rfl⟩
theorem own_slice {W : World} {b e s n : Nat} {v : Value} {xs : List Value} (h : W.ownsRow b e s v n xs) : ∃ A c, v = .slice A n c := by
  rcases h.2 with ⟨rfl, rfl⟩ | ⟨g, c, cur, rfl, _⟩
  · exact ⟨_, _, rfl⟩
  · exact ⟨_, _, rfl⟩
end Go.Proofs.YthmchbdhikakhaaDoor
/- A region that draws its order, walked in an order of one's own: what yields in every world of a class may be taken first; what turns the world comes when it alone may come. -/
namespace Go.Cu
open Go Go.RowKit
section
variable {P : Program} {ops : Array Oper} {Q : Exit → Act → World → Prop} {md : Region.Mode} {S : World → Prop} {loose : List Nat}

/-- Whatever order is picked; S holds behind each but the loose ones. -/
def wpAnyN (P : Program) (md : Region.Mode) (ops : Array Oper) (Q : Exit → Act → World → Prop) (S : World → Prop) (loose : List Nat) : Nat → Array Bool → Act → World → Prop
  | 0, listed, a, w => Region.ready md ops listed = [] ∧ Q .normal a w
  | fuel + 1, listed, a, w =>
    (Region.ready md ops listed = [] → Q .normal a w) ∧
    ∀ i ∈ Region.ready md ops listed, wpOp P ops Q i (fun a' w' => (loose.contains i = false → S w') ∧ wpAnyN P md ops Q S loose fuel (listed.setIfInBounds i true) a' w') a w
theorem wpAny_of_N : ∀ (fuel : Nat) (listed : Array Bool) (a : Act) (w : World), wpAnyN P md ops Q S loose fuel listed a w → wpAny P md ops Q fuel listed a w
  | 0, _, _, _, h => h
  | fuel + 1, _, _, _, h => ⟨h.1, fun i hi => wpOp_mono (fun a' w' h' => wpAny_of_N fuel _ a' w' h'.2) (h.2 i hi)⟩

structure OInv (md : Region.Mode) (ops : Array Oper) (listed : Array Bool) : Prop where
  size : listed.size = ops.size
  closed : ∀ (j : Nat) oj, ops[j]? = some oj → listed.getD j false = true → ∀ e ∈ oj.after, Region.binds md e = true → listed.getD e.on false = true
theorem OInv.set {i : Nat} {listed : Array Bool} (inv : OInv md ops listed) (hi : i ∈ Region.ready md ops listed) : OInv md ops (listed.setIfInBounds i true) := by
  obtain ⟨_, oi, hoi, hall⟩ := mem_ready.1 hi
  refine ⟨by simp [inv.size], fun j oj hj hl e he hb => ?_⟩
  by_cases hij : i = j
  · subst hij
    have : oj = oi := Option.some.inj (hj.symm.trans hoi)
    subst this
    exact getD_set_true (hall e he hb)
  · rw [getD_set_ne false hij] at hl
    exact getD_set_true (inv.closed j oj hj hl e he hb)
theorem OInv.start : OInv md ops (Array.replicate ops.size false) := ⟨by simp, fun j oj _ hl => (by rw [getD_replicate_false] at hl; cases hl)⟩

/-- Those of D wait for number i. -/
def waitB (md : Region.Mode) (ops : Array Oper) (i : Nat) (D : List Nat) : Bool :=
  D.all fun j => match ops[j]? with | none => false | some oj => oj.after.any fun e => Region.binds md e && (e.on == i || (decide (e.on < j) && D.contains e.on))
def waitOf (md : Region.Mode) (ops : Array Oper) (i : Nat) : List Nat :=
  (List.range ops.size).foldl (fun D j => match ops[j]? with | none => D | some oj => if oj.after.any (fun e => Region.binds md e && (e.on == i || D.contains e.on)) then j :: D else D) []
theorem wait_edge {i j : Nat} {D : List Nat} (hD : waitB md ops i D = true) (hj : j ∈ D) : ∃ oj, ops[j]? = some oj ∧ ∃ e ∈ oj.after, Region.binds md e = true ∧ (e.on = i ∨ e.on < j ∧ e.on ∈ D) := by
  have h := List.all_eq_true.1 hD j hj
  cases ho : ops[j]? with
  | none => simp [ho] at h
  | some oj =>
    simp only [ho] at h
    obtain ⟨e, he, h2⟩ := Array.any_eq_true'.1 h
    simp only [Bool.and_eq_true, Bool.or_eq_true, beq_iff_eq, decide_eq_true_eq, List.contains_iff_mem] at h2
    exact ⟨oj, rfl, e, he, h2.1, h2.2⟩
theorem wait_unlisted {i : Nat} {D : List Nat} {listed : Array Bool} (hD : waitB md ops i D = true) (inv : OInv md ops listed) (hi : listed.getD i true = false) : ∀ (j : Nat), j ∈ D → listed.getD j false = false := by
  intro j
  induction j using Nat.strongRecOn with
  | _ j ih =>
    intro hj
    cases hl : listed.getD j false with
    | false => rfl
    | true =>
      obtain ⟨oj, hoj, e, he, hb, h⟩ := wait_edge hD hj
      have h1 := inv.closed j oj hoj hl e he hb
      rcases h with h | ⟨h, h2⟩
      · rw [h, getD_both hi] at h1; cases h1
      · rw [ih _ h h2] at h1; cases h1
theorem wait_unready {i j : Nat} {D : List Nat} {listed : Array Bool} (hD : waitB md ops i D = true) (inv : OInv md ops listed) (hi : listed.getD i true = false) (hj : j ∈ D) : j ∉ Region.ready md ops listed := by
  intro hr
  obtain ⟨_, ot, hot, hall⟩ := mem_ready.1 hr
  obtain ⟨oj, hoj, e, he, hb, h⟩ := wait_edge hD hj
  have : oj = ot := Option.some.inj (hoj.symm.trans hot)
  subst this
  have h1 := hall e he hb
  rcases h with h | ⟨_, h2⟩
  · rw [h, getD_both hi] at h1; cases h1
  · rw [wait_unlisted hD inv hi _ h2] at h1; cases h1

theorem after_not {i : Nat} {oj : Oper} {listed : Array Bool} (hun : listed.getD i true = false) (hall : ∀ e ∈ oj.after, Region.binds md e = true → listed.getD e.on false = true) : ∀ e ∈ oj.after, Region.binds md e = true → e.on ≠ i := fun e he hb heq => by
  have h1 := hall e he hb
  rw [heq, getD_both hun] at h1
  cases h1
theorem set_free {i j : Nat} {oi : Oper} {listed : Array Bool} (hjun : listed.getD j true = false)
    (hfree : ∀ j oj, ops[j]? = some oj → j ≠ i → listed.getD j true = false → (∀ e ∈ oj.after, Region.binds md e = true → e.on ≠ i) → oi.apart ops oj = true) :
    ∀ k ok, ops[k]? = some ok → k ≠ i → (listed.setIfInBounds j true).getD k true = false → (∀ e ∈ ok.after, Region.binds md e = true → e.on ≠ i) → oi.apart ops ok = true := fun k ok hk hki hun hno => by
  refine hfree k ok hk hki ?_ hno
  by_cases hjk : j = k
  · subst hjk; exact hjun
  · rw [getD_set_ne true hjk] at hun; exact hun

/-- One that yields whatever the world may be taken first. -/
theorem wpAnyN_pure {i : Nat} {oi : Oper} {v : Value} (hi : ops[i]? = some oi) (hsel : ∀ (j : Nat) (o : Oper) cs b, ops[j]? = some o → o.op ≠ .select cs b)
    (hQ : ∀ c a w, Q (.panic c) (a.put oi.dst v) w → Q (.panic c) a w) (hS : loose.contains i = true) :
    ∀ (fuel : Nat) (listed : Array Bool) (a : Act) (w : World),
      (∀ j oj, ops[j]? = some oj → j ≠ i → listed.getD j true = false → (∀ e ∈ oj.after, Region.binds md e = true → e.on ≠ i) → oi.apart ops oj = true) →
      i ∈ Region.ready md ops listed → YieldsIf P ops (fun _ => True) oi v a →
      wpAnyN P md ops Q S loose fuel (listed.setIfInBounds i true) (a.put oi.dst v) w → wpAnyN P md ops Q S loose (fuel + 1) listed a w := by
  intro fuel
  induction fuel with
  | zero =>
    intro listed a w _ hr hy H
    refine ⟨fun h => (by rw [h] at hr; cases hr), fun j hj => ?_⟩
    by_cases hji : j = i
    · subst hji; exact hy.wpOp hi trivial ⟨fun h => (by rw [hS] at h; cases h), H⟩
    · have := ready_mono hj hji
      rw [H.1] at this
      cases this
  | succ fuel ih =>
    intro listed a w hfree hr hy H
    have hun := (mem_ready.1 hr).1
    refine ⟨fun h => (by rw [h] at hr; cases hr), fun j hj => ?_⟩
    by_cases hji : j = i
    · subst hji; exact hy.wpOp hi trivial ⟨fun h => (by rw [hS] at h; cases h), H⟩
    · have h1 := H.2 j (ready_mono hj hji)
      obtain ⟨hjun, oj, hoj, hall⟩ := mem_ready.1 hj
      have h2 := wpOp_putIf hoj (hfree j oj hoj hji hjun (after_not hun hall)) (fun cs b => hsel i oi cs b hi) (fun cs b => hsel j oj cs b hoj) hQ hy h1
      refine wpOp_mono (fun a' w' h3 => ⟨h3.2.1, ih (listed.setIfInBounds j true) a' w' (set_free hjun hfree) (ready_mono hr (Ne.symm hji)) h3.1 ?_⟩) h2
      rw [Array.setIfInBounds_comm _ _ hji]
      exact h3.2.2

/-- One that yields in every world of the class may be taken first. -/
theorem wpAnyN_first {i : Nat} {oi : Oper} {v : Value} {D : List Nat} (hi : ops[i]? = some oi) (hsel : ∀ (j : Nat) (o : Oper) cs b, ops[j]? = some o → o.op ≠ .select cs b)
    (hD : waitB md ops i D = true) (hQ : ∀ c a w, Q (.panic c) (a.put oi.dst v) w → Q (.panic c) a w) :
    ∀ (fuel : Nat) (listed : Array Bool) (a : Act) (w : World), OInv md ops listed → (∀ j, j < ops.size → listed.getD j true = false → j ≠ i → loose.contains j = true → j ∈ D) →
      (∀ j oj, ops[j]? = some oj → j ≠ i → listed.getD j true = false → (∀ e ∈ oj.after, Region.binds md e = true → e.on ≠ i) → oi.apart ops oj = true) →
      i ∈ Region.ready md ops listed → YieldsIf P ops S oi v a → S w →
      wpAnyN P md ops Q S loose fuel (listed.setIfInBounds i true) (a.put oi.dst v) w → wpAnyN P md ops Q S loose (fuel + 1) listed a w := by
  intro fuel
  induction fuel with
  | zero =>
    intro listed a w _ _ _ hr hy hS H
    refine ⟨fun h => (by rw [h] at hr; cases hr), fun j hj => ?_⟩
    by_cases hji : j = i
    · subst hji; exact hy.wpOp hi hS ⟨fun _ => hS, H⟩
    · have := ready_mono hj hji
      rw [H.1] at this
      cases this
  | succ fuel ih =>
    intro listed a w inv hneed hfree hr hy hS H
    have hun := (mem_ready.1 hr).1
    refine ⟨fun h => (by rw [h] at hr; cases hr), fun j hj => ?_⟩
    by_cases hji : j = i
    · subst hji; exact hy.wpOp hi hS ⟨fun _ => hS, H⟩
    · have h1 := H.2 j (ready_mono hj hji)
      obtain ⟨hjun, oj, hoj, hall⟩ := mem_ready.1 hj
      have hl : loose.contains j = false := by
        cases hl : loose.contains j with
        | false => rfl
        | true => exact absurd hj (wait_unready hD inv hun (hneed j (Array.getElem?_eq_some_iff.1 hoj).1 hjun hji hl))
      have h2 := wpOp_putIf hoj (hfree j oj hoj hji hjun (after_not hun hall)) (fun cs b => hsel i oi cs b hi) (fun cs b => hsel j oj cs b hoj) hQ hy h1
      refine wpOp_mono (fun a' w' h3 => ⟨h3.2.1, ih (listed.setIfInBounds j true) a' w' (inv.set hj) (fun k hk hku => hneed k hk (by
        by_cases hjk : j = k
        · subst hjk; exact hjun
        · rw [getD_set_ne true hjk] at hku; exact hku)) (set_free hjun hfree) (ready_mono hr (Ne.symm hji)) h3.1 (h3.2.1 hl) ?_⟩) h2
      rw [Array.setIfInBounds_comm _ _ hji]
      exact h3.2.2

/-- What comes behind one operation. -/
def Qn (Q : Exit → Act → World → Prop) (N : Act → World → Prop) : Exit → Act → World → Prop
  | .normal, a, w => N a w
  | x, a, w => Q x a w
theorem wpOp_of_one {i : Nat} {o : Oper} {N : Act → World → Prop} {a : Act} {w : World} (hi : ops[i]? = some o) (h : wpList P ops (Qn Q N) [o] a w) : wpOp P ops Q i N a w := by
  unfold wpOp
  simp only [hi]
  unfold wpList at h
  have e : (fun a w => wpList P ops (Qn Q N) [] a w) = N := rfl
  split at h
  · rename_i hw
    rw [if_pos hw]
    rcases h with h | ⟨h, a', w', hl⟩
    · refine .inl ?_
      unfold Oper.wp at *
      generalize (execOp a.eval o).run P w = r at *
      cases r with
      | ok n w' =>
        cases n <;> simp only [Oper.upon] at h ⊢
        case value u => exact h
        case skip => exact h
        case defer d => exact h
        case enter f args =>
          refine Calls.mono h fun e w'' he => ?_
          cases e with
          | returned u => exact he
          | panicked c => exact he
          | outgrown =>
            obtain ⟨a', w', hl⟩ := he
            exact ⟨a', w', hl⟩
        case row row args => exact Rows.mono h fun u w'' he => he
      | halt x w' =>
        cases x <;> simp only [Oper.upon] at h ⊢
        case panic u => exact h
    · exact .inr ⟨h, a', w', hl⟩
  · rename_i hw
    rw [if_neg hw]
    exact h

/-- An order of one's own: (number, 0: yields whatever the world; 1: in every world of the class; 2: comes alone). -/
def wpOrd (P : Program) (ops : Array Oper) (Q : Exit → Act → World → Prop) (S : World → Prop) (loose : List Nat) : List (Nat × Nat) → Act → World → Prop
  | [], a, w => Q .normal a w
  | (i, 0) :: r, a, w => ∃ o, ops[i]? = some o ∧ ∃ v, YieldsIf P ops (fun _ => True) o v a ∧ wpOrd P ops Q S loose r (a.put o.dst v) w
  | (i, 1) :: r, a, w => ∃ o, ops[i]? = some o ∧ ∃ v, YieldsIf P ops S o v a ∧ wpOrd P ops Q S loose r (a.put o.dst v) w
  | (i, _ + 2) :: r, a, w => ∃ o, ops[i]? = some o ∧ wpList P ops (Qn Q fun a' w' => (loose.contains i = false → S w') ∧ wpOrd P ops Q S loose r a' w') [o] a w
def ordrB (md : Region.Mode) (ops : Array Oper) (loose : List Nat) : List (Nat × Nat) → Bool → Array Bool → Bool
  | [], _, listed => (Region.ready md ops listed).isEmpty
  | (i, 0) :: r, s, listed => loose.contains i && (Region.ready md ops listed).contains i && Region.free md ops listed i && ordrB md ops loose r s (listed.setIfInBounds i true)
  | (i, 1) :: r, s, listed => s && (Region.ready md ops listed).contains i && Region.free md ops listed i && waitB md ops i (waitOf md ops i) &&
      ((List.range ops.size).all fun j => listed.getD j true || j == i || !loose.contains j || (waitOf md ops i).contains j) && ordrB md ops loose r s (listed.setIfInBounds i true)
  | (i, _ + 2) :: r, _, listed => decide (Region.ready md ops listed = [i]) && ordrB md ops loose r (!loose.contains i) (listed.setIfInBounds i true)

theorem wpAnyN_of_ord (hsel : Region.noSelect ops = true) (hQ : ∀ (d : Option Tmp) (v : Value) c a w, Q (.panic c) (a.put d v) w → Q (.panic c) a w) :
    ∀ (l : List (Nat × Nat)) (s : Bool) (listed : Array Bool) (a : Act) (w : World), OInv md ops listed → ordrB md ops loose l s listed = true → (s = true → S w) → wpOrd P ops Q S loose l a w → wpAnyN P md ops Q S loose l.length listed a w
  | [], _, listed, a, w, _, hB, _, h => ⟨by simpa [ordrB] using hB, h⟩
  | (i, 0) :: r, s, listed, a, w, inv, hB, hS, h => by
    simp only [ordrB, Bool.and_eq_true] at hB
    obtain ⟨⟨⟨hl, hr⟩, hf⟩, hB'⟩ := hB
    obtain ⟨o, ho, v, hy, hK⟩ := h
    have hr' : i ∈ Region.ready md ops listed := by simpa using hr
    exact wpAnyN_pure ho (Region.noSelect_spec hsel) (fun c a w => hQ _ _ c a w) hl _ listed a w (Region.free_spec ho hf) hr' hy (wpAnyN_of_ord hsel hQ r s _ _ w (inv.set hr') hB' hS hK)
  | (i, 1) :: r, s, listed, a, w, inv, hB, hS, h => by
    simp only [ordrB, Bool.and_eq_true] at hB
    obtain ⟨⟨⟨⟨⟨hs, hr⟩, hf⟩, hD⟩, hn⟩, hB'⟩ := hB
    obtain ⟨o, ho, v, hy, hK⟩ := h
    have hr' : i ∈ Region.ready md ops listed := by simpa using hr
    refine wpAnyN_first ho (Region.noSelect_spec hsel) hD (fun c a w => hQ _ _ c a w) _ listed a w inv (fun j hj hun hji hlo => ?_) (Region.free_spec ho hf) hr' hy (hS hs) (wpAnyN_of_ord hsel hQ r s _ _ w (inv.set hr') hB' hS hK)
    have h1 := List.all_eq_true.1 hn j (List.mem_range.2 hj)
    simp only [Bool.or_eq_true, beq_iff_eq, hun, hji, hlo, Bool.not_true, Bool.false_eq_true, false_or] at h1
    simpa using h1
  | (i, k + 2) :: r, s, listed, a, w, inv, hB, hS, h => by
    simp only [ordrB, Bool.and_eq_true, decide_eq_true_eq] at hB
    obtain ⟨hr, hB'⟩ := hB
    obtain ⟨o, ho, h⟩ := h
    refine ⟨fun h1 => (by rw [hr] at h1; cases h1), fun j hj => ?_⟩
    have hji : j = i := by rw [hr] at hj; simpa using hj
    subst hji
    refine wpOp_mono (fun a' w' h' => ⟨h'.1, wpAnyN_of_ord hsel hQ r _ _ a' w' (inv.set hj) hB' (fun hs => h'.1 (by simpa using hs)) h'.2⟩) (wpOp_of_one ho h)

theorem wp_region_ord {id : Nat} {a : Act} {w : World} {l : List Oper} (loose : List Nat) (order : List (Nat × Nat)) (S : World → Prop) (hm : P.follows .mixedOrders = true)
    (hB : (Region.noSelect l.toArray && decide (order.length = l.toArray.size) && ordrB .any l.toArray loose order true (Array.replicate l.toArray.size false)) = true)
    (hQ : ∀ (d : Option Tmp) (v : Value) c a w, Q (.panic c) (a.put d v) w → Q (.panic c) a w) (hS : S w.drew)
    (h : ∀ X, X = w.drew → S X → wpOrd P l.toArray Q S loose order a X) : (Code.region id l.toArray true).wp P Q a w := by
  simp only [Bool.and_eq_true, decide_eq_true_eq] at hB
  obtain ⟨⟨hsel, hlen⟩, hb⟩ := hB
  refine wp_region_any hm ?_
  have := wpAnyN_of_ord (md := .any) (S := S) hsel hQ order true _ a w.drew OInv.start hb (fun _ => hS) (h _ rfl hS)
  rw [hlen] at this
  exact wpAny_of_N _ _ _ _ this

theorem wpOrd_pure {i : Nat} {r : List (Nat × Nat)} {o : Oper} {a : Act} {w : World} (ho : ops[i]? = some o) (hw : Region.wanted o (yielded ops a.tmps) = true)
    (h : ∀ K : Act → World → Prop, (∀ a w, wpOrd P ops Q S loose r a w → K a w) → ∃ v, (∀ W, (execOp a.eval o).run P W = .ok (.value v) W) ∧ K (a.put o.dst v) w) : wpOrd P ops Q S loose ((i, 0) :: r) a w :=
  let ⟨v, hv, hK⟩ := h _ fun _ _ hh => hh
  ⟨o, ho, v, .inl ⟨hw, fun W _ => hv W⟩, hK⟩
theorem wpOrd_class {i : Nat} {r : List (Nat × Nat)} {o : Oper} {a : Act} {w : World} (ho : ops[i]? = some o) (hw : Region.wanted o (yielded ops a.tmps) = true)
    (h : ∀ K : Act → World → Prop, (∀ a w, wpOrd P ops Q S loose r a w → K a w) → ∃ v, (∀ W, S W → (execOp a.eval o).run P W = .ok (.value v) W) ∧ K (a.put o.dst v) w) : wpOrd P ops Q S loose ((i, 1) :: r) a w :=
  let ⟨v, hv, hK⟩ := h _ fun _ _ hh => hh
  ⟨o, ho, v, .inl ⟨hw, hv⟩, hK⟩
theorem wpOrd_skip {i : Nat} {r : List (Nat × Nat)} {o : Oper} {a : Act} {w : World} (ho : ops[i]? = some o) (hw : Region.wanted o (yielded ops a.tmps) = false)
    (h : ∀ K : Act → World → Prop, (∀ a w, wpOrd P ops Q S loose r a w → K a w) → K (a.put o.dst undef) w) : wpOrd P ops Q S loose ((i, 0) :: r) a w :=
  ⟨o, ho, undef, .inr ⟨hw, rfl⟩, h _ fun _ _ hh => hh⟩
theorem wpOrd_skip1 {i : Nat} {r : List (Nat × Nat)} {o : Oper} {a : Act} {w : World} (ho : ops[i]? = some o) (hw : Region.wanted o (yielded ops a.tmps) = false)
    (h : ∀ K : Act → World → Prop, (∀ a w, wpOrd P ops Q S loose r a w → K a w) → K (a.put o.dst undef) w) : wpOrd P ops Q S loose ((i, 1) :: r) a w :=
  ⟨o, ho, undef, .inr ⟨hw, rfl⟩, h _ fun _ _ hh => hh⟩
theorem wpOrd_comes {i : Nat} {r : List (Nat × Nat)} {o : Oper} {a : Act} {w : World} (ho : ops[i]? = some o)
    (h : ∀ N : Act → World → Prop, (∀ a w, (loose.contains i = false → S w) → wpOrd P ops Q S loose r a w → N a w) → wpList P ops (Qn Q N) [o] a w) : wpOrd P ops Q S loose ((i, 2) :: r) a w :=
  ⟨o, ho, h _ fun _ _ h1 h2 => ⟨h1, h2⟩⟩
theorem wpOrd_done {a : Act} {w : World} (h : Q .normal a w) : wpOrd P ops Q S loose [] a w := h
theorem wpList_then {N : Act → World → Prop} {a : Act} {w : World} (h : N a w) : wpList P ops (Qn Q N) [] a w := h
end
end Go.Cu
/- The document's disk in memory. -/
namespace Go.Proofs.YthmchbdhikakhaaDoor
open Go.RowKit Go.Cu

section
variable {W W' : World} {p : Nat} {F G : Nat → Prop} {S : DS} {pl : Nat} {wv : Value}
end
/-- A disk, the document's disk, as things in memory. -/
def Disk (p : Nat) (S : DS) : Atm := ⟨fun F W => DiskIn W p F S, fun h hk => h.keep hk, fun h hm => h.mono hm⟩
theorem size32 : (Tryd.prog.info? 63).map (·.size) = some 128 := by kernel_rfl
theorem guard32 : Tryd.prog.eqGuardType Tryd.prog.depth 63 = false := by kernel_rfl
set_option maxRecDepth 20000 in
theorem zero32 (W : World) : (zeroValue 63).run Tryd.prog W = .ok (.agg (bv zeroB)) W := by kernel_rfl
set_option maxRecDepth 20000 in
theorem build32 (W : World) : (Instr.build 63 #[]).run Tryd.prog W = .ok (.agg (bv zeroB)) W := by kernel_rfl
set_option maxRecDepth 20000 in
theorem info32 : (Tryd.prog.info? 63).map (fun i => (i.zero, i.size, i.bytes)) = some (some (.agg (bv zeroB)), 128, 128) := by kernel_rfl
@[go_sem ↓] theorem ldk32 (a : Act) (dst : Option Tmp) (x : Operand) (ty : TypeId) (pos : String) (after : Array Edge) (guard : Option (Nat × Bool)) :
      execOp a.eval { dst, op := .load 32 x, type := ty, pos, after, guard } = loadK 32 (a.eval x) := rfl
@[go_sem ↓] theorem eqk32 (a : Act) (dst : Option Tmp) (x y : Operand) (t' ty : TypeId) (pos : String) (after : Array Edge) (guard : Option (Nat × Bool)) :
      execOp a.eval { dst, op := .binOp .eql 32 x y t', type := ty, pos, after, guard } = cmpK .eql 32 x y (a.eval x) (a.eval y) := rfl
@[go_sem ↓] theorem nek32 (a : Act) (dst : Option Tmp) (x y : Operand) (t' ty : TypeId) (pos : String) (after : Array Edge) (guard : Option (Nat × Bool)) :
      execOp a.eval { dst, op := .binOp .neq 32 x y t', type := ty, pos, after, guard } = cmpK .neq 32 x y (a.eval x) (a.eval y) := rfl
@[go_sem ↓] theorem ldk109 (a : Act) (dst : Option Tmp) (x : Operand) (ty : TypeId) (pos : String) (after : Array Edge) (guard : Option (Nat × Bool)) :
      execOp a.eval { dst, op := .load 109 x, type := ty, pos, after, guard } = loadK 109 (a.eval x) := rfl
@[go_sem ↓] theorem bdk109 (a : Act) (dst : Option Tmp) (ps : Array (Nat × Operand)) (ty : TypeId) (pos : String) (after : Array Edge) (guard : Option (Nat × Bool)) :
    execOp a.eval { dst, op := .build 109 ps, type := ty, pos, after, guard } = buildK 109 (ps.map fun (i, x) => (i, a.eval x)) := rfl
end Go.Proofs.YthmchbdhikakhaaDoor
/- DocWrite. -/
namespace Go.Proofs.YthmchbdhikakhaaDoor
open Go.RowKit Go.Cu
/-- Where nothing is answered. -/
theorem at_why {S : DS} {i : Int} (hz : S.at_ i ≠ 0) : S.off = true ∧ S.at_ i = 13 ∨ S.off = false ∧ S.at_ i = 1 ∧ (i < 0 ∨ (S.now.length : Int) ≤ i) := by
  unfold DS.at_ at *
  cases ho : S.off
  · rw [ho] at hz
    simp only [Bool.false_eq_true, if_false] at hz ⊢
    have hi : i < 0 ∨ (S.now.length : Int) ≤ i := Decidable.byContradiction fun hc => hz (if_neg hc)
    exact .inr ⟨trivial, if_pos hi, hi⟩
  · exact .inl ⟨rfl, rfl⟩
end Go.Proofs.YthmchbdhikakhaaDoor
/- What the settling asks: is write k kept? -/
namespace Go.Proofs.YthmchbdhikakhaaDoor
open Go.RowKit Go.Cu

set_option maxHeartbeats 400000 in
theorem sync1_ok (k : Int) (w : World) : Calls Tryd.prog 32 #[.int .i64 k] w fun e w' => e = .returned (.bool true) ∧ w = w' := by
  go_enter Tryd.func32, Tryd.ntmps32
  go_wp2
  go_ret
  exact ⟨rfl, rfl⟩

/-- What Crash is handed lies in memory: the box g holds the slice, whose cells are the words of keep. -/
structure KeepAt (W : World) (g : Nat) (keep : List Bool) (A : Option Addr) (c : Nat) : Prop where
  box : W.cell? ⟨g, 0, none⟩ = some (.slice A keep.length c)
  row : ∀ j b, keep[j]? = some b → ∃ q, A = some q ∧ W.cell? (q.add j) = some (.bool b)
  big : keep.length ≤ 9223372036854775807

theorem lastOf_snoc (kept : Nat → Bool) (p : Nat × Blk8) : ∀ (l : List (Nat × Blk8)) (k : Nat) (L : List Blk8), lastOf kept k (l ++ [p]) L = if kept (k + l.length) then (lastOf kept k l L).set p.1 p.2 else lastOf kept k l L
  | [], k, L => by simp [lastOf]
  | q :: l, k, L => by
    simp only [List.cons_append, lastOf, List.length_cons]
    rw [lastOf_snoc kept p l]
    simp only [Nat.add_assoc, Nat.add_comm 1]
theorem nowOf_snoc (last : List Blk8) (p : Nat × Blk8) : ∀ (l : List (Nat × Blk8)) (N : List Blk8), nowOf last (l ++ [p]) N = (nowOf last l N).set p.1 (last.getD p.1 zeroB)
  | [], N => by simp [nowOf]
  | q :: l, N => by simp only [List.cons_append, nowOf]; rw [nowOf_snoc last p l]
theorem take_snoc {α : Type} {l : List α} {i : Nat} {x : α} (h : l[i]? = some x) : l.take (i + 1) = l.take i ++ [x] := by
  rw [List.take_add_one, h]
  rfl
theorem lastOf_step (kept : Nat → Bool) {l : List (Nat × Blk8)} {i : Nat} {p : Nat × Blk8} (h : l[i]? = some p) (L : List Blk8) :
    lastOf kept 0 (l.take (i + 1)) L = if kept i then (lastOf kept 0 (l.take i) L).set p.1 p.2 else lastOf kept 0 (l.take i) L := by
  have hlt := (List.getElem?_eq_some_iff.1 h).1
  rw [take_snoc h, lastOf_snoc, List.length_take, Nat.zero_add, Nat.min_eq_left (by omega)]
theorem nowOf_step (last : List Blk8) {l : List (Nat × Blk8)} {i : Nat} {p : Nat × Blk8} (h : l[i]? = some p) (N : List Blk8) :
    nowOf last (l.take (i + 1)) N = (nowOf last (l.take i) N).set p.1 (last.getD p.1 zeroB) := by
  rw [take_snoc h, nowOf_snoc]

set_option maxHeartbeats 400000 in
theorem crash1_in {W : World} {g : Nat} {keep : List Bool} {A : Option Addr} {c : Nat} (h : KeepAt W g keep A c) {k : Nat} {b : Bool} (hk : keep[k]? = some b) :
    Calls Tryd.prog 24 #[.int .i64 k, .pointer (some ⟨g, 0, none⟩)] W fun e w' => e = .returned (.bool b) ∧ W = w' := by
  obtain ⟨q, rfl, hq⟩ := h.row k b hk
  have h0 := h.box
  have hbig := h.big
  have hlt : k < keep.length := (List.getElem?_eq_some_iff.1 hk).1
  clear h hk
  go_enter Tryd.func24, Tryd.ntmps24
  go_wp2
  go_ret
  exact ⟨rfl, rfl⟩
set_option maxHeartbeats 400000 in
theorem crash1_past {W : World} {g : Nat} {keep : List Bool} {A : Option Addr} {c : Nat} (h : KeepAt W g keep A c) {k : Nat} (hk : keep[k]? = none) :
    Calls Tryd.prog 24 #[.int .i64 k, .pointer (some ⟨g, 0, none⟩)] W fun e w' => e = .returned (.bool false) ∧ W = w' := by
  have h0 := h.box
  have hbig := h.big
  have hlt : ¬ k < keep.length := by simpa using hk
  clear h hk
  go_enter Tryd.func24, Tryd.ntmps24
  go_wp2
  go_ret
  exact ⟨rfl, rfl⟩
theorem crash1_ok {W : World} {g : Nat} {keep : List Bool} {A : Option Addr} {c : Nat} (h : KeepAt W g keep A c) {k : Nat} :
    Calls Tryd.prog 24 #[.int .i64 k, .pointer (some ⟨g, 0, none⟩)] W fun e w' => e = .returned (.bool (keep.getD k false)) ∧ W = w' := by
  rw [List.getD_eq_getElem?_getD]
  cases hk : keep[k]? with
  | none => exact crash1_past h hk
  | some b => exact crash1_in h hk
end Go.Proofs.YthmchbdhikakhaaDoor
/- The settling. -/
namespace Go.Proofs.YthmchbdhikakhaaDoor
open Go.RowKit Go.Cu
@[go_sem ↓] theorem ldk106 (a : Act) (dst : Option Tmp) (x : Operand) (ty : TypeId) (pos : String) (after : Array Edge) (guard : Option (Nat × Bool)) :
      execOp a.eval { dst, op := .load 79 x, type := ty, pos, after, guard } = loadK 79 (a.eval x) := rfl

set_option maxRecDepth 20000 in
set_option maxHeartbeats 1000000 in
theorem settle_sync {p : Nat} {F : Nat → Prop} {S : DS} {w : World} {N : Nat} (h : DiskIn w p F S) (hok : S.Ok N) (hN : N ≤ 1000000) :
    Calls Tryd.prog 23 #[.pointer (some ⟨p, 0, none⟩), .func (.func 32) #[] #[]] w fun x w' => x = .returned (.tuple #[]) ∧ DiskIn w' p F (S.settle fun _ => true) ∧ Tch F w w' := by
  obtain ⟨pn, pl, wv, hat⟩ := h
  obtain ⟨A, c, rfl⟩ := own_slice hat.wait
  have hbig := hok.big
  have hfew := hok.few
  have H := hid hat
  have HOK := hid hok
  have c2 : w.cell? ⟨p, 2, none⟩ = some (.slice A S.wait.length c) := (cell_of_row w p 2 _ _ _ hat.box).trans rfl
  clear hat hok
  go_enter Tryd.func23, Tryd.ntmps23
  go_wp2_with fail
  clear c2
  go_loopw [13, 4, 5] (fun i _ _ X => ∃ n : Nat, n ≤ S.wait.length ∧ i = .int .i64 n ∧ Hid (DiskAt X p F { S with last := lastOf (fun _ => true) 0 (S.wait.take n) S.last } pn pl (.slice A S.wait.length c)) ∧ Hid (Tch F w X)) (fun i _ _ _ => S.wait.length - (intOf i).toNat)
  case atStart => exact ⟨0, by omega, rfl, H, hid (Tch.refl _ _)⟩
  case round =>
    obtain ⟨n, hn, rfl, HX, HT⟩ := hrel
    by_cases hlt : n < S.wait.length
    · obtain ⟨q, hq⟩ : ∃ q, S.wait[n]? = some q := ⟨_, List.getElem?_eq_getElem hlt⟩
      obtain ⟨hq1, hq2⟩ := HOK.out.wait q (List.mem_of_getElem? hq)
      have HQ := hid hq
      have HS := hid (lastOf_step (fun _ => true) hq S.last)
      have HFW : FullW S.wait := fun q hq => (HOK.out.wait q hq).2
      have hw := HX.out.wait
      obtain ⟨_, hw2⟩ := hw
      rcases hw2 with ⟨_, h0⟩ | ⟨gw, cap, cur, hv, _, hgw, hcap, hmax, hcs, htk⟩
      · exact absurd h0 (by show S.wait.length ≠ 0; omega)
      obtain ⟨rfl, rfl⟩ : A = some ⟨gw, 0, none⟩ ∧ c = cap := by
        injection hv with e1 e2 e3
        exact ⟨e1, e3⟩
      have hgwl := lt_of_heap hgw
      have LW : ∀ Y, Below wr.heap.size wr Y → (loadK 79 (.pointer (some ⟨gw, n * 129, none⟩))).run Tryd.prog Y = .ok (.value (.agg (putL q).toArray)) Y := fun Y hb =>
        run_loadK ((hb.block gw hgwl).trans hgw) Tryd.underlying79 rfl size106 (putL_size hq2) (fun j hj => by
          have hj2 : j < 129 := by rw [putL_size hq2] at hj; exact hj
          have h3 := waitL_get HFW hq j hj2
          rw [← htk, List.getElem?_take] at h3
          have hlen : n * 129 + j < S.wait.length * 129 := by omega
          rw [if_pos hlen] at h3
          simpa using h3)
      have HSZ := hid (putL_size hq2)
      have HONE := hid (putL_one q)
      have HZ := hid (putL_size (p := (0, zeroB)) zeroB_len)
      clear HFW hv hgw htk hcs hq
      have hXX : Below wr.heap.size wr wr := Below.refl _ _
      have hl0 : (n : Int) < (S.wait.length : Int) := by omega
      go_wp2_with (first | (refine wpList_alloc 79 rfl rfl zeroPut zero106 ?_; intro g5 X1 hg5 hl5 hge5 hX1) | (refine wpList_store_box 79 _ _ rfl g5 rfl rfl (putL q).toArray rfl 129 size106 HSZ.out HONE.out 79 _ hg5 HZ.out ?_; intro X2 hR2 hT2 hs2) | (go_at_call 32; refine (sync1_ok _ _).mono ?_; rintro x w' ⟨rfl, rfl⟩))
      have hW2 := hX1.trans (hT2.below hX1.size (fun i hi => by subst hi; exact hge5))
      have HX2 := hid (HX.out.below hW2)
      have hT2w := hid (HT.out.trans (Tch.of_below (F := F) hW2) (fun _ h => h) (fun _ _ h => h))
      have hg5X := lt_of_heap hR2
      have hpX := lt_of_heap HX2.out.box
      have HR := hid hR2
      have hqi : (q.1 : Int) < (S.now.length : Int) := by omega
      have HB := hid hq2
      have HSB := hid ((bv_size q.2).trans hq2)
      have HQ1 := hid hq1
      clear LW hXX hT2 hs2 hX1 hg5 hl5 hge5 hR2 hW2 hq1 hq2
      have hX : Below X2.heap.size X2 X2 := Below.refl _ _
      have L5 : ∀ Y, Below X2.heap.size X2 Y → Y.cell? ⟨g5, 0, none⟩ = some (.int .i64 q.1) := fun Y hb => (hb.cell (p := ⟨g5, 0, none⟩) hg5X).trans ((cell_of_row X2 g5 0 _ _ _ HR.out).trans rfl)
      have L1 : ∀ Y, Below X2.heap.size X2 Y → Y.cell? ⟨p, 1, none⟩ = some (.slice (some ⟨pl, 0, none⟩) S.now.length S.now.length) := fun Y hb => (hb.cell (p := ⟨p, 1, none⟩) hpX).trans ((cell_of_row X2 p 1 _ _ _ HX2.out.box).trans rfl)
      have LB : ∀ Y, Below X2.heap.size X2 Y → (loadK 64 (.pointer (some ⟨g5, 1, none⟩))).run Tryd.prog Y = .ok (.value (.agg (bv q.2))) Y := fun Y hb => run_loadK ((hb.block _ hg5X).trans HR.out) Tryd.underlying64 rfl size33 HSB.out (fun j hj => by
        simp [putL, bvL, bv, Nat.add_comm 1 j])
      refine wp_region_class_tail 9 (fun X => Below X2.heap.size X2 X) (by kernel_rfl) (by kernel_rfl) (Below.drew hX) ?_
      clear hX
      simp only [List.take_succ_cons, List.take_zero, List.drop_succ_cons, List.drop_zero]
      repeat (refine wpQuiet_exK rfl (fun K hK => ?_); apply Exists.intro; refine And.intro (fun X hX => ?_) ?_; (· go_simp; (try go_bits); first | exact rfl | exact ⟨rfl, rfl⟩ | (rw [if_pos (by omega)]; exact ⟨rfl, rfl⟩)); go_simp; refine hK _ ?_; clear hK K)
      refine wpQuiet_nil (fun X hX => ?_)
      have hX0 := HX2.out.below hX
      clear LB L1 L5
      have hFL : Full (lastOf (fun _ => true) 0 (S.wait.take n) S.last) := lastOf_full _ _ _ _ (fun p hp => (HOK.out.wait p (List.mem_of_mem_take hp)).2) HOK.out.last
      have hLL : (lastOf (fun _ => true) 0 (S.wait.take n) S.last).length = S.now.length := (lastOf_len _ _ _ _).trans HOK.out.len
      refine wpList_store_part 64 _ _ rfl pl (q.1 * 128) rfl rfl (.agg (bv q.2)) rfl 128 size33 HSB.out (bv_one _) 64 _ hX0.last (by rw [flat_size hFL, hLL]; have := HQ1.out; omega) ?_
      intro V1 hL1 hT1 hs1
      have HV := hid (show DiskAt V1 p F { S with last := lastOf (fun _ => true) 0 (S.wait.take (n + 1)) S.last } pn pl (.slice (some ⟨gw, 0, none⟩) S.wait.length c) from by
        have e1 := (hT1.block p (lt_of_heap hX0.box) (heap_ne hX0.box hX0.last (by decide))).trans hX0.box
        have e2 := (hT1.block pn (lt_of_heap hX0.now) hX0.ne).trans hX0.now
        refine ⟨hX0.op, hX0.on, hX0.ol, hX0.ow, hX0.ne, e1, e2, ?_, own_keep hX0.wait fun g hg => hT1.block g (own_lt hX0.wait hg) (fun e => own_ne hX0.wait hX0.last (by decide) (by rw [hg]; exact congrArg some e))⟩
        rw [hL1]
        have e3 := HS.out
        rw [if_pos trivial] at e3
        refine congrArg (fun c => some (Obj.cells c 64 (0, 0))) ((flat_put hFL (by rw [hLL]; exact HQ1.out) HB.out).trans ?_)
        exact congrArg flat e3.symm)
      have HTV := hid (((hT2w.out.trans (Tch.of_below (F := F) hX) (fun _ h => h) (fun _ _ h => h))).trans hT1 (fun _ h => h) (fun i _ e => by subst e; exact hX0.ol))
      clear hX0 hX hT1 hs1 hL1 hFL hLL HX2 HR hT2w HX HT HS
      go_wp2
      go_roundw
      case rel => exact ⟨n + 1, by omega, by go_num, HV, HTV⟩
      case measure => simp [intOf]; omega
    · have e : n = S.wait.length := by omega
      subst e
      have hl0 : ¬ (S.wait.length : Int) < (S.wait.length : Int) := by omega
      obtain ⟨L, hL⟩ : ∃ L, L = lastOf (fun _ => true) 0 S.wait S.last := ⟨_, rfl⟩
      rw [List.take_length, ← hL] at HX
      have HLD := hid hL
      have hLL := hid (show L.length = S.now.length from by rw [hL]; exact (lastOf_len _ _ _ _).trans HOK.out.len)
      have hFL := hid (show Full L from by rw [hL]; exact lastOf_full _ _ _ _ (fun p hp => (HOK.out.wait p hp).2) HOK.out.last)
      clear hL
      have c2 : wr.cell? ⟨p, 2, none⟩ = some (.slice A S.wait.length c) := (cell_of_row wr p 2 _ _ _ HX.out.box).trans rfl
      go_wp2_with fail
      clear c2
      go_loopw [36, 7] (fun i _ X => ∃ n : Nat, n ≤ S.wait.length ∧ i = .int .i64 n ∧ Hid (DiskAt X p F { S with last := L, now := nowOf L (S.wait.take n) S.now } pn pl (.slice A S.wait.length c)) ∧ Hid (Tch F w X)) (fun i _ _ => S.wait.length - (intOf i).toNat)
      case atStart => exact ⟨0, by omega, rfl, HX, HT⟩
      case round =>
        clear HX HT
        obtain ⟨n, hn, rfl, HX, HT⟩ := hrel
        by_cases hlt : n < S.wait.length
        · obtain ⟨q, hq⟩ : ∃ q, S.wait[n]? = some q := ⟨_, List.getElem?_eq_getElem hlt⟩
          obtain ⟨hq1, hq2⟩ := HOK.out.wait q (List.mem_of_getElem? hq)
          have HQ := hid hq
          have HS := hid (nowOf_step L hq S.now)
          have HFW : FullW S.wait := fun q hq => (HOK.out.wait q hq).2
          have hw := HX.out.wait
          obtain ⟨_, hw2⟩ := hw
          rcases hw2 with ⟨_, h0⟩ | ⟨gw, cap, cur, hv, _, hgw, hcap, hmax, hcs, htk⟩
          · exact absurd h0 (by show S.wait.length ≠ 0; omega)
          obtain ⟨rfl, rfl⟩ : A = some ⟨gw, 0, none⟩ ∧ c = cap := by
            injection hv with e1 e2 e3
            exact ⟨e1, e3⟩
          have hgwl := lt_of_heap hgw
          have LW : ∀ Y, Below wr.heap.size wr Y → (loadK 79 (.pointer (some ⟨gw, n * 129, none⟩))).run Tryd.prog Y = .ok (.value (.agg (putL q).toArray)) Y := fun Y hb =>
            run_loadK ((hb.block gw hgwl).trans hgw) Tryd.underlying79 rfl size106 (putL_size hq2) (fun j hj => by
              have hj2 : j < 129 := by rw [putL_size hq2] at hj; exact hj
              have h3 := waitL_get HFW hq j hj2
              rw [← htk, List.getElem?_take] at h3
              have hlen : n * 129 + j < S.wait.length * 129 := by omega
              rw [if_pos hlen] at h3
              simpa using h3)
          have HSZ := hid (putL_size hq2)
          have HONE := hid (putL_one q)
          have HZ := hid (putL_size (p := (0, zeroB)) zeroB_len)
          clear HFW hv hgw htk hcs hq
          have hXX : Below wr.heap.size wr wr := Below.refl _ _
          have hl0 : (n : Int) < (S.wait.length : Int) := by omega
          go_wp2_with (first | (refine wpList_alloc 79 rfl rfl zeroPut zero106 ?_; intro g5 X1 hg5 hl5 hge5 hX1) | (refine wpList_store_box 79 _ _ rfl g5 rfl rfl (putL q).toArray rfl 129 size106 HSZ.out HONE.out 79 _ hg5 HZ.out ?_; intro X2 hR2 hT2 hs2))
          have hW2 := hX1.trans (hT2.below hX1.size (fun i hi => by subst hi; exact hge5))
          have HX2 := hid (HX.out.below hW2)
          have hT2w := hid (HT.out.trans (Tch.of_below (F := F) hW2) (fun _ h => h) (fun _ _ h => h))
          have hg5X := lt_of_heap hR2
          have hpX := lt_of_heap HX2.out.box
          have HR := hid hR2
          have hqi : (q.1 : Int) < (S.now.length : Int) := by omega
          have HB := hid hq2
          have HSB := hid ((bv_size q.2).trans hq2)
          have HQ1 := hid hq1
          clear LW hXX hT2 hs2 hX1 hg5 hl5 hge5 hR2 hW2 hq1 hq2
          have hX : Below X2.heap.size X2 X2 := Below.refl _ _
          have hNL : (nowOf L (S.wait.take n) S.now).length = S.now.length := nowOf_len _ _ _
          have hFN : Full (nowOf L (S.wait.take n) S.now) := nowOf_full _ hFL.out _ _ HOK.out.now
          have hbox : X2.heap[p]? = some (.cells #[.slice (some ⟨pn, 0, none⟩) S.now.length S.now.length, .slice (some ⟨pl, 0, none⟩) S.now.length S.now.length, .slice (some ⟨gw, 0, none⟩) S.wait.length c, .int .i64 S.writes, .int .i64 S.armed, .bool S.off] 50 (0, 0)) := by
            have e0 := HX2.out.box
            dsimp only at e0
            rw [hNL] at e0
            exact e0
          have HBX := hid hbox
          have HNL := hid hNL
          have HFN := hid hFN
          have hplX := lt_of_heap HX2.out.last
          have HGL := hid (show L[q.1]? = some (L.getD q.1 zeroB) by rw [List.getD_eq_getElem?_getD, List.getElem?_eq_getElem (by have := HQ1.out; have := hLL.out; omega)]; rfl)
          have HB' := hid (full_getD hFL.out q.1)
          have HSG := hid ((bv_size (L.getD q.1 zeroB)).trans HB'.out)
          clear hbox hNL hFN
          have L5 : ∀ Y, Below X2.heap.size X2 Y → Y.cell? ⟨g5, 0, none⟩ = some (.int .i64 q.1) := fun Y hb => (hb.cell (p := ⟨g5, 0, none⟩) hg5X).trans ((cell_of_row X2 g5 0 _ _ _ HR.out).trans rfl)
          have L0 : ∀ Y, Below X2.heap.size X2 Y → Y.cell? ⟨p, 0, none⟩ = some (.slice (some ⟨pn, 0, none⟩) S.now.length S.now.length) := fun Y hb => (hb.cell (p := ⟨p, 0, none⟩) hpX).trans ((cell_of_row X2 p 0 _ _ _ HBX.out).trans rfl)
          have L1 : ∀ Y, Below X2.heap.size X2 Y → Y.cell? ⟨p, 1, none⟩ = some (.slice (some ⟨pl, 0, none⟩) S.now.length S.now.length) := fun Y hb => (hb.cell (p := ⟨p, 1, none⟩) hpX).trans ((cell_of_row X2 p 1 _ _ _ HBX.out).trans rfl)
          have LB : ∀ Y, Below X2.heap.size X2 Y → (loadK 64 (.pointer (some ⟨pl, q.1 * 128, none⟩))).run Tryd.prog Y = .ok (.value (.agg (bv (L.getD q.1 zeroB)))) Y := fun Y hb => run_loadK ((hb.block _ hplX).trans HX2.out.last) Tryd.underlying64 rfl size33 HSG.out (flat_get hFL.out HGL.out)
          refine wp_region_class_tail 15 (fun X => Below X2.heap.size X2 X) (by kernel_rfl) (by kernel_rfl) (Below.drew hX) ?_
          clear hX
          simp only [List.take_succ_cons, List.take_zero, List.drop_succ_cons, List.drop_zero]
          repeat (refine wpQuiet_exK rfl (fun K hK => ?_); apply Exists.intro; refine And.intro (fun X hX => ?_) ?_; (· go_simp; (try go_bits); first | exact rfl | exact ⟨rfl, rfl⟩ | (rw [if_pos (by omega)]; exact ⟨rfl, rfl⟩)); go_simp; refine hK _ ?_; clear hK K)
          refine wpQuiet_nil (fun X hX => ?_)
          have hX0 := HX2.out.below hX
          clear LB L1 L5 L0
          refine wpList_store_part 64 _ _ rfl pn (q.1 * 128) rfl rfl (.agg (bv (L.getD q.1 zeroB))) rfl 128 size33 HSG.out (bv_one _) 64 _ hX0.now (by rw [flat_size HFN.out, HNL.out]; have := HQ1.out; omega) ?_
          intro V1 hN1 hT1 hs1
          have HV := hid (show DiskAt V1 p F { S with last := L, now := nowOf L (S.wait.take (n + 1)) S.now } pn pl (.slice (some ⟨gw, 0, none⟩) S.wait.length c) from by
            have e1 := (hT1.block p (lt_of_heap hX0.box) (heap_ne hX0.box hX0.now (by decide))).trans ((hX.block p hpX).trans HBX.out)
            have e2 := (hT1.block pl (lt_of_heap hX0.last) hX0.ne.symm).trans hX0.last
            refine ⟨hX0.op, hX0.on, hX0.ol, hX0.ow, hX0.ne, ?_, ?_, e2, own_keep hX0.wait fun g hg => hT1.block g (own_lt hX0.wait hg) (fun e => own_ne hX0.wait hX0.now (by decide) (by rw [hg]; exact congrArg some e))⟩
            · dsimp only
              rw [nowOf_len]
              exact e1
            · rw [hN1]
              exact congrArg (fun c => some (Obj.cells c 64 (0, 0))) ((flat_put HFN.out (by rw [HNL.out]; exact HQ1.out) HB'.out).trans (congrArg flat HS.out.symm)))
          have HTV := hid (((hT2w.out.trans (Tch.of_below (F := F) hX) (fun _ h => h) (fun _ _ h => h))).trans hT1 (fun _ h => h) (fun i _ e => by subst e; exact hX0.on))
          clear hX0 hX hT1 hs1 hN1 HX2 HR hT2w HX HT HS HBX HNL HFN HGL
          go_wp2
          go_roundw
          case rel => exact ⟨n + 1, by omega, by go_num, HV, HTV⟩
          case measure => simp [intOf]; omega
        · have e : n = S.wait.length := by omega
          subst e
          have hl0 : ¬ (S.wait.length : Int) < (S.wait.length : Int) := by omega
          rw [List.take_length] at HX
          have HDS := hid (show S.settle (fun _ => true) = { S with last := L, now := nowOf L S.wait S.now, wait := [] } by unfold DS.settle; rw [← HLD.out])
          have f2 : wr.frozen? ⟨p, 2, none⟩ = false := frozen_of_row wr p 2 _ _ HX.out.box
          have c2 : wr.cell? ⟨p, 2, none⟩ = some (.slice A S.wait.length c) := (cell_of_row wr p 2 _ _ _ HX.out.box).trans rfl
          have P2 := hid (heap_setCell_same wr p 2 _ 50 (.slice none 0 0) HX.out.box)
          have T2 := hid ((Tch.refl (· = p) wr).setCell (g := p) (i := 2) rfl (.slice none 0 0))
          go_wp2
          refine bodyPost_end (results_none rfl _ _ _) rfl ⟨rfl, ?_, ?_⟩
          · rw [HDS.out]
            have hpn := heap_ne HX.out.now HX.out.box (by decide)
            have hpl := heap_ne HX.out.last HX.out.box (by decide)
            refine ⟨pn, pl, .slice none 0 0, HX.out.op, HX.out.on, HX.out.ol, fun g hg => by simp [Value.ownBlock] at hg, HX.out.ne, ?_, (T2.out.block pn (lt_of_heap HX.out.now) hpn).trans HX.out.now, (T2.out.block pl (lt_of_heap HX.out.last) hpl).trans HX.out.last, rfl, .inl ⟨rfl, rfl⟩⟩
            exact P2.out.trans rfl
          · exact HT.out.trans T2.out (fun _ h => h) (fun i _ e => by subst e; exact HX.out.op)
end Go.Proofs.YthmchbdhikakhaaDoor
/- The settling behind a crash. -/
namespace Go.Proofs.YthmchbdhikakhaaDoor
open Go.RowKit Go.Cu
set_option maxRecDepth 20000 in
set_option maxHeartbeats 1000000 in
theorem settle_crash {p : Nat} {F : Nat → Prop} {S : DS} {w : World} {N : Nat} (h : DiskIn w p F S) (hok : S.Ok N) (hN : N ≤ 1000000) (gk : Nat) (kept : Nat → Bool) (hk : ∀ (k : Nat) (Y : World), k ≤ 1000000 → Tch F w Y → Calls Tryd.prog 24 #[.int .i64 k, .pointer (some ⟨gk, 0, none⟩)] Y fun e w' => e = .returned (.bool (kept k)) ∧ Y = w') :
    Calls Tryd.prog 23 #[.pointer (some ⟨p, 0, none⟩), .func (.func 24) #[] #[.pointer (some ⟨gk, 0, none⟩)]] w fun x w' => x = .returned (.tuple #[]) ∧ DiskIn w' p F (S.settle kept) ∧ Tch F w w' := by
  obtain ⟨pn, pl, wv, hat⟩ := h
  obtain ⟨A, c, rfl⟩ := own_slice hat.wait
  have hbig := hok.big
  have hfew := hok.few
  have H := hid hat
  have HOK := hid hok
  have HK := hid hk
  have c2 : w.cell? ⟨p, 2, none⟩ = some (.slice A S.wait.length c) := (cell_of_row w p 2 _ _ _ hat.box).trans rfl
  clear hat hok hk
  go_enter Tryd.func23, Tryd.ntmps23
  go_wp2_with fail
  clear c2
  go_loopw [13, 4, 5] (fun i _ _ X => ∃ n : Nat, n ≤ S.wait.length ∧ i = .int .i64 n ∧ Hid (DiskAt X p F { S with last := lastOf kept 0 (S.wait.take n) S.last } pn pl (.slice A S.wait.length c)) ∧ Hid (Tch F w X)) (fun i _ _ _ => S.wait.length - (intOf i).toNat)
  case atStart => exact ⟨0, by omega, rfl, H, hid (Tch.refl _ _)⟩
  case round =>
    obtain ⟨n, hn, rfl, HX, HT⟩ := hrel
    by_cases hlt : n < S.wait.length
    · obtain ⟨q, hq⟩ : ∃ q, S.wait[n]? = some q := ⟨_, List.getElem?_eq_getElem hlt⟩
      obtain ⟨hq1, hq2⟩ := HOK.out.wait q (List.mem_of_getElem? hq)
      have HQ := hid hq
      have HS := hid (lastOf_step kept hq S.last)
      have HFW : FullW S.wait := fun q hq => (HOK.out.wait q hq).2
      have hw := HX.out.wait
      obtain ⟨_, hw2⟩ := hw
      rcases hw2 with ⟨_, h0⟩ | ⟨gw, cap, cur, hv, _, hgw, hcap, hmax, hcs, htk⟩
      · exact absurd h0 (by show S.wait.length ≠ 0; omega)
      obtain ⟨rfl, rfl⟩ : A = some ⟨gw, 0, none⟩ ∧ c = cap := by
        injection hv with e1 e2 e3
        exact ⟨e1, e3⟩
      have hgwl := lt_of_heap hgw
      have LW : ∀ Y, Below wr.heap.size wr Y → (loadK 79 (.pointer (some ⟨gw, n * 129, none⟩))).run Tryd.prog Y = .ok (.value (.agg (putL q).toArray)) Y := fun Y hb =>
        run_loadK ((hb.block gw hgwl).trans hgw) Tryd.underlying79 rfl size106 (putL_size hq2) (fun j hj => by
          have hj2 : j < 129 := by rw [putL_size hq2] at hj; exact hj
          have h3 := waitL_get HFW hq j hj2
          rw [← htk, List.getElem?_take] at h3
          have hlen : n * 129 + j < S.wait.length * 129 := by omega
          rw [if_pos hlen] at h3
          simpa using h3)
      have HSZ := hid (putL_size hq2)
      have HONE := hid (putL_one q)
      have HZ := hid (putL_size (p := (0, zeroB)) zeroB_len)
      clear HFW hv hgw htk hcs hq
      have hXX : Below wr.heap.size wr wr := Below.refl _ _
      have hl0 : (n : Int) < (S.wait.length : Int) := by omega
      have HC := hid fun (Y : World) (hb : Below wr.heap.size wr Y) => HK.out n Y (by omega) (HT.out.trans (Tch.of_below (F := F) hb) (fun _ h => h) (fun _ _ h => h))
      cases hkn : kept n
      · rw [hkn] at HS HC
        clear hkn
        go_wp2_with (first | (refine wpList_alloc 79 rfl rfl zeroPut zero106 ?_; intro g5 X1 hg5 hl5 hge5 hX1) | (refine wpList_store_box 79 _ _ rfl g5 rfl rfl (putL q).toArray rfl 129 size106 HSZ.out HONE.out 79 _ hg5 HZ.out ?_; intro X2 hR2 hT2 hs2) | (go_at_call 24; refine (HC.out _ (hX1.trans (hT2.below hX1.size (fun i hi => by subst hi; exact hge5)))).mono ?_; rintro x w' ⟨rfl, rfl⟩))
        have hW2 := hX1.trans (hT2.below hX1.size (fun i hi => by subst hi; exact hge5))
        have HX2 := hid (HX.out.below hW2)
        have hT2w := hid (HT.out.trans (Tch.of_below (F := F) hW2) (fun _ h => h) (fun _ _ h => h))
        have e3 := HS.out
        rw [if_neg (by decide)] at e3
        rw [← e3] at HX2
        clear e3 LW hXX hT2 hs2 hX1 hg5 hl5 hge5 hR2 hW2 hq1 hq2 HX HT HS HC
        go_wp2
        go_roundw
        case rel => exact ⟨n + 1, by omega, by go_num, HX2, hT2w⟩
        case measure => simp [intOf]; omega
      · rw [hkn] at HS HC
        clear hkn
        go_wp2_with (first | (refine wpList_alloc 79 rfl rfl zeroPut zero106 ?_; intro g5 X1 hg5 hl5 hge5 hX1) | (refine wpList_store_box 79 _ _ rfl g5 rfl rfl (putL q).toArray rfl 129 size106 HSZ.out HONE.out 79 _ hg5 HZ.out ?_; intro X2 hR2 hT2 hs2) | (go_at_call 24; refine (HC.out _ (hX1.trans (hT2.below hX1.size (fun i hi => by subst hi; exact hge5)))).mono ?_; rintro x w' ⟨rfl, rfl⟩))
        have hW2 := hX1.trans (hT2.below hX1.size (fun i hi => by subst hi; exact hge5))
        have HX2 := hid (HX.out.below hW2)
        have hT2w := hid (HT.out.trans (Tch.of_below (F := F) hW2) (fun _ h => h) (fun _ _ h => h))
        have hg5X := lt_of_heap hR2
        have hpX := lt_of_heap HX2.out.box
        have HR := hid hR2
        have hqi : (q.1 : Int) < (S.now.length : Int) := by omega
        have HB := hid hq2
        have HSB := hid ((bv_size q.2).trans hq2)
        have HQ1 := hid hq1
        clear LW hXX hT2 hs2 hX1 hg5 hl5 hge5 hR2 hW2 hq1 hq2
        have hX : Below X2.heap.size X2 X2 := Below.refl _ _
        have L5 : ∀ Y, Below X2.heap.size X2 Y → Y.cell? ⟨g5, 0, none⟩ = some (.int .i64 q.1) := fun Y hb => (hb.cell (p := ⟨g5, 0, none⟩) hg5X).trans ((cell_of_row X2 g5 0 _ _ _ HR.out).trans rfl)
        have L1 : ∀ Y, Below X2.heap.size X2 Y → Y.cell? ⟨p, 1, none⟩ = some (.slice (some ⟨pl, 0, none⟩) S.now.length S.now.length) := fun Y hb => (hb.cell (p := ⟨p, 1, none⟩) hpX).trans ((cell_of_row X2 p 1 _ _ _ HX2.out.box).trans rfl)
        have LB : ∀ Y, Below X2.heap.size X2 Y → (loadK 64 (.pointer (some ⟨g5, 1, none⟩))).run Tryd.prog Y = .ok (.value (.agg (bv q.2))) Y := fun Y hb => run_loadK ((hb.block _ hg5X).trans HR.out) Tryd.underlying64 rfl size33 HSB.out (fun j hj => by
          simp [putL, bvL, bv, Nat.add_comm 1 j])
        refine wp_region_class_tail 9 (fun X => Below X2.heap.size X2 X) (by kernel_rfl) (by kernel_rfl) (Below.drew hX) ?_
        clear hX
        simp only [List.take_succ_cons, List.take_zero, List.drop_succ_cons, List.drop_zero]
        repeat (refine wpQuiet_exK rfl (fun K hK => ?_); apply Exists.intro; refine And.intro (fun X hX => ?_) ?_; (· go_simp; (try go_bits); first | exact rfl | exact ⟨rfl, rfl⟩ | (rw [if_pos (by omega)]; exact ⟨rfl, rfl⟩)); go_simp; refine hK _ ?_; clear hK K)
        refine wpQuiet_nil (fun X hX => ?_)
        have hX0 := HX2.out.below hX
        clear LB L1 L5
        have hFL : Full (lastOf kept 0 (S.wait.take n) S.last) := lastOf_full _ _ _ _ (fun p hp => (HOK.out.wait p (List.mem_of_mem_take hp)).2) HOK.out.last
        have hLL : (lastOf kept 0 (S.wait.take n) S.last).length = S.now.length := (lastOf_len _ _ _ _).trans HOK.out.len
        refine wpList_store_part 64 _ _ rfl pl (q.1 * 128) rfl rfl (.agg (bv q.2)) rfl 128 size33 HSB.out (bv_one _) 64 _ hX0.last (by rw [flat_size hFL, hLL]; have := HQ1.out; omega) ?_
        intro V1 hL1 hT1 hs1
        have HV := hid (show DiskAt V1 p F { S with last := lastOf kept 0 (S.wait.take (n + 1)) S.last } pn pl (.slice (some ⟨gw, 0, none⟩) S.wait.length c) from by
          have e1 := (hT1.block p (lt_of_heap hX0.box) (heap_ne hX0.box hX0.last (by decide))).trans hX0.box
          have e2 := (hT1.block pn (lt_of_heap hX0.now) hX0.ne).trans hX0.now
          refine ⟨hX0.op, hX0.on, hX0.ol, hX0.ow, hX0.ne, e1, e2, ?_, own_keep hX0.wait fun g hg => hT1.block g (own_lt hX0.wait hg) (fun e => own_ne hX0.wait hX0.last (by decide) (by rw [hg]; exact congrArg some e))⟩
          rw [hL1]
          have e3 := HS.out
          rw [if_pos trivial] at e3
          refine congrArg (fun c => some (Obj.cells c 64 (0, 0))) ((flat_put hFL (by rw [hLL]; exact HQ1.out) HB.out).trans ?_)
          exact congrArg flat e3.symm)
        have HTV := hid (((hT2w.out.trans (Tch.of_below (F := F) hX) (fun _ h => h) (fun _ _ h => h))).trans hT1 (fun _ h => h) (fun i _ e => by subst e; exact hX0.ol))
        clear hX0 hX hT1 hs1 hL1 hFL hLL HX2 HR hT2w HX HT HS
        go_wp2
        go_roundw
        case rel => exact ⟨n + 1, by omega, by go_num, HV, HTV⟩
        case measure => simp [intOf]; omega
    · have e : n = S.wait.length := by omega
      subst e
      have hl0 : ¬ (S.wait.length : Int) < (S.wait.length : Int) := by omega
      obtain ⟨L, hL⟩ : ∃ L, L = lastOf kept 0 S.wait S.last := ⟨_, rfl⟩
      rw [List.take_length, ← hL] at HX
      have HLD := hid hL
      have hLL := hid (show L.length = S.now.length from by rw [hL]; exact (lastOf_len _ _ _ _).trans HOK.out.len)
      have hFL := hid (show Full L from by rw [hL]; exact lastOf_full _ _ _ _ (fun p hp => (HOK.out.wait p hp).2) HOK.out.last)
      clear hL
      have c2 : wr.cell? ⟨p, 2, none⟩ = some (.slice A S.wait.length c) := (cell_of_row wr p 2 _ _ _ HX.out.box).trans rfl
      go_wp2_with fail
      clear c2
      go_loopw [36, 7] (fun i _ X => ∃ n : Nat, n ≤ S.wait.length ∧ i = .int .i64 n ∧ Hid (DiskAt X p F { S with last := L, now := nowOf L (S.wait.take n) S.now } pn pl (.slice A S.wait.length c)) ∧ Hid (Tch F w X)) (fun i _ _ => S.wait.length - (intOf i).toNat)
      case atStart => exact ⟨0, by omega, rfl, HX, HT⟩
      case round =>
        clear HX HT
        obtain ⟨n, hn, rfl, HX, HT⟩ := hrel
        by_cases hlt : n < S.wait.length
        · obtain ⟨q, hq⟩ : ∃ q, S.wait[n]? = some q := ⟨_, List.getElem?_eq_getElem hlt⟩
          obtain ⟨hq1, hq2⟩ := HOK.out.wait q (List.mem_of_getElem? hq)
          have HQ := hid hq
          have HS := hid (nowOf_step L hq S.now)
          have HFW : FullW S.wait := fun q hq => (HOK.out.wait q hq).2
          have hw := HX.out.wait
          obtain ⟨_, hw2⟩ := hw
          rcases hw2 with ⟨_, h0⟩ | ⟨gw, cap, cur, hv, _, hgw, hcap, hmax, hcs, htk⟩
          · exact absurd h0 (by show S.wait.length ≠ 0; omega)
          obtain ⟨rfl, rfl⟩ : A = some ⟨gw, 0, none⟩ ∧ c = cap := by
            injection hv with e1 e2 e3
            exact ⟨e1, e3⟩
          have hgwl := lt_of_heap hgw
          have LW : ∀ Y, Below wr.heap.size wr Y → (loadK 79 (.pointer (some ⟨gw, n * 129, none⟩))).run Tryd.prog Y = .ok (.value (.agg (putL q).toArray)) Y := fun Y hb =>
            run_loadK ((hb.block gw hgwl).trans hgw) Tryd.underlying79 rfl size106 (putL_size hq2) (fun j hj => by
              have hj2 : j < 129 := by rw [putL_size hq2] at hj; exact hj
              have h3 := waitL_get HFW hq j hj2
              rw [← htk, List.getElem?_take] at h3
              have hlen : n * 129 + j < S.wait.length * 129 := by omega
              rw [if_pos hlen] at h3
              simpa using h3)
          have HSZ := hid (putL_size hq2)
          have HONE := hid (putL_one q)
          have HZ := hid (putL_size (p := (0, zeroB)) zeroB_len)
          clear HFW hv hgw htk hcs hq
          have hXX : Below wr.heap.size wr wr := Below.refl _ _
          have hl0 : (n : Int) < (S.wait.length : Int) := by omega
          go_wp2_with (first | (refine wpList_alloc 79 rfl rfl zeroPut zero106 ?_; intro g5 X1 hg5 hl5 hge5 hX1) | (refine wpList_store_box 79 _ _ rfl g5 rfl rfl (putL q).toArray rfl 129 size106 HSZ.out HONE.out 79 _ hg5 HZ.out ?_; intro X2 hR2 hT2 hs2))
          have hW2 := hX1.trans (hT2.below hX1.size (fun i hi => by subst hi; exact hge5))
          have HX2 := hid (HX.out.below hW2)
          have hT2w := hid (HT.out.trans (Tch.of_below (F := F) hW2) (fun _ h => h) (fun _ _ h => h))
          have hg5X := lt_of_heap hR2
          have hpX := lt_of_heap HX2.out.box
          have HR := hid hR2
          have hqi : (q.1 : Int) < (S.now.length : Int) := by omega
          have HB := hid hq2
          have HSB := hid ((bv_size q.2).trans hq2)
          have HQ1 := hid hq1
          clear LW hXX hT2 hs2 hX1 hg5 hl5 hge5 hR2 hW2 hq1 hq2
          have hX : Below X2.heap.size X2 X2 := Below.refl _ _
          have hNL : (nowOf L (S.wait.take n) S.now).length = S.now.length := nowOf_len _ _ _
          have hFN : Full (nowOf L (S.wait.take n) S.now) := nowOf_full _ hFL.out _ _ HOK.out.now
          have hbox : X2.heap[p]? = some (.cells #[.slice (some ⟨pn, 0, none⟩) S.now.length S.now.length, .slice (some ⟨pl, 0, none⟩) S.now.length S.now.length, .slice (some ⟨gw, 0, none⟩) S.wait.length c, .int .i64 S.writes, .int .i64 S.armed, .bool S.off] 50 (0, 0)) := by
            have e0 := HX2.out.box
            dsimp only at e0
            rw [hNL] at e0
            exact e0
          have HBX := hid hbox
          have HNL := hid hNL
          have HFN := hid hFN
          have hplX := lt_of_heap HX2.out.last
          have HGL := hid (show L[q.1]? = some (L.getD q.1 zeroB) by rw [List.getD_eq_getElem?_getD, List.getElem?_eq_getElem (by have := HQ1.out; have := hLL.out; omega)]; rfl)
          have HB' := hid (full_getD hFL.out q.1)
          have HSG := hid ((bv_size (L.getD q.1 zeroB)).trans HB'.out)
          clear hbox hNL hFN
          have L5 : ∀ Y, Below X2.heap.size X2 Y → Y.cell? ⟨g5, 0, none⟩ = some (.int .i64 q.1) := fun Y hb => (hb.cell (p := ⟨g5, 0, none⟩) hg5X).trans ((cell_of_row X2 g5 0 _ _ _ HR.out).trans rfl)
          have L0 : ∀ Y, Below X2.heap.size X2 Y → Y.cell? ⟨p, 0, none⟩ = some (.slice (some ⟨pn, 0, none⟩) S.now.length S.now.length) := fun Y hb => (hb.cell (p := ⟨p, 0, none⟩) hpX).trans ((cell_of_row X2 p 0 _ _ _ HBX.out).trans rfl)
          have L1 : ∀ Y, Below X2.heap.size X2 Y → Y.cell? ⟨p, 1, none⟩ = some (.slice (some ⟨pl, 0, none⟩) S.now.length S.now.length) := fun Y hb => (hb.cell (p := ⟨p, 1, none⟩) hpX).trans ((cell_of_row X2 p 1 _ _ _ HBX.out).trans rfl)
          have LB : ∀ Y, Below X2.heap.size X2 Y → (loadK 64 (.pointer (some ⟨pl, q.1 * 128, none⟩))).run Tryd.prog Y = .ok (.value (.agg (bv (L.getD q.1 zeroB)))) Y := fun Y hb => run_loadK ((hb.block _ hplX).trans HX2.out.last) Tryd.underlying64 rfl size33 HSG.out (flat_get hFL.out HGL.out)
          refine wp_region_class_tail 15 (fun X => Below X2.heap.size X2 X) (by kernel_rfl) (by kernel_rfl) (Below.drew hX) ?_
          clear hX
          simp only [List.take_succ_cons, List.take_zero, List.drop_succ_cons, List.drop_zero]
          repeat (refine wpQuiet_exK rfl (fun K hK => ?_); apply Exists.intro; refine And.intro (fun X hX => ?_) ?_; (· go_simp; (try go_bits); first | exact rfl | exact ⟨rfl, rfl⟩ | (rw [if_pos (by omega)]; exact ⟨rfl, rfl⟩)); go_simp; refine hK _ ?_; clear hK K)
          refine wpQuiet_nil (fun X hX => ?_)
          have hX0 := HX2.out.below hX
          clear LB L1 L5 L0
          refine wpList_store_part 64 _ _ rfl pn (q.1 * 128) rfl rfl (.agg (bv (L.getD q.1 zeroB))) rfl 128 size33 HSG.out (bv_one _) 64 _ hX0.now (by rw [flat_size HFN.out, HNL.out]; have := HQ1.out; omega) ?_
          intro V1 hN1 hT1 hs1
          have HV := hid (show DiskAt V1 p F { S with last := L, now := nowOf L (S.wait.take (n + 1)) S.now } pn pl (.slice (some ⟨gw, 0, none⟩) S.wait.length c) from by
            have e1 := (hT1.block p (lt_of_heap hX0.box) (heap_ne hX0.box hX0.now (by decide))).trans ((hX.block p hpX).trans HBX.out)
            have e2 := (hT1.block pl (lt_of_heap hX0.last) hX0.ne.symm).trans hX0.last
            refine ⟨hX0.op, hX0.on, hX0.ol, hX0.ow, hX0.ne, ?_, ?_, e2, own_keep hX0.wait fun g hg => hT1.block g (own_lt hX0.wait hg) (fun e => own_ne hX0.wait hX0.now (by decide) (by rw [hg]; exact congrArg some e))⟩
            · dsimp only
              rw [nowOf_len]
              exact e1
            · rw [hN1]
              exact congrArg (fun c => some (Obj.cells c 64 (0, 0))) ((flat_put HFN.out (by rw [HNL.out]; exact HQ1.out) HB'.out).trans (congrArg flat HS.out.symm)))
          have HTV := hid (((hT2w.out.trans (Tch.of_below (F := F) hX) (fun _ h => h) (fun _ _ h => h))).trans hT1 (fun _ h => h) (fun i _ e => by subst e; exact hX0.on))
          clear hX0 hX hT1 hs1 hN1 HX2 HR hT2w HX HT HS HBX HNL HFN HGL
          go_wp2
          go_roundw
          case rel => exact ⟨n + 1, by omega, by go_num, HV, HTV⟩
          case measure => simp [intOf]; omega
        · have e : n = S.wait.length := by omega
          subst e
          have hl0 : ¬ (S.wait.length : Int) < (S.wait.length : Int) := by omega
          rw [List.take_length] at HX
          have HDS := hid (show S.settle kept = { S with last := L, now := nowOf L S.wait S.now, wait := [] } by unfold DS.settle; rw [← HLD.out])
          have f2 : wr.frozen? ⟨p, 2, none⟩ = false := frozen_of_row wr p 2 _ _ HX.out.box
          have c2 : wr.cell? ⟨p, 2, none⟩ = some (.slice A S.wait.length c) := (cell_of_row wr p 2 _ _ _ HX.out.box).trans rfl
          have P2 := hid (heap_setCell_same wr p 2 _ 50 (.slice none 0 0) HX.out.box)
          have T2 := hid ((Tch.refl (· = p) wr).setCell (g := p) (i := 2) rfl (.slice none 0 0))
          go_wp2
          refine bodyPost_end (results_none rfl _ _ _) rfl ⟨rfl, ?_, ?_⟩
          · rw [HDS.out]
            have hpn := heap_ne HX.out.now HX.out.box (by decide)
            have hpl := heap_ne HX.out.last HX.out.box (by decide)
            refine ⟨pn, pl, .slice none 0 0, HX.out.op, HX.out.on, HX.out.ol, fun g hg => by simp [Value.ownBlock] at hg, HX.out.ne, ?_, (T2.out.block pn (lt_of_heap HX.out.now) hpn).trans HX.out.now, (T2.out.block pl (lt_of_heap HX.out.last) hpl).trans HX.out.last, rfl, .inl ⟨rfl, rfl⟩⟩
            exact P2.out.trans rfl
          · exact HT.out.trans T2.out (fun _ h => h) (fun i _ e => by subst e; exact HX.out.op)
end Go.Proofs.YthmchbdhikakhaaDoor
/- Crash. -/
namespace Go.Proofs.YthmchbdhikakhaaDoor
open Go.RowKit Go.Cu

theorem cell_same {W W' : World} {q : Addr} (h : W'.heap[q.block]? = W.heap[q.block]?) : W'.cell? q = W.cell? q := by
  unfold World.cell?
  rw [h]
theorem tch_cell {F : Nat → Prop} {W W' : World} (h : Tch F W W') {q : Addr} (hq : q.block < W.heap.size) (hn : ¬ F q.block) : W'.cell? q = W.cell? q := cell_same (h.block _ hq hn)
set_option maxHeartbeats 400000 in
theorem crash_nil {v : Value} (w : World) : Calls Tryd.prog 11 #[.pointer none, v] w fun e w' => e = .returned (.tuple #[]) ∧ Below w.heap.size w w' := by
  go_enter Tryd.func11, Tryd.ntmps11
  repeat (apply wp_seq_k; intro _ _)
  apply wp_region_lit
  refine wpList_box rfl 24 _ rfl v rfl ?_
  intro gb W0 hG hgb hgeb hW
  go_wp2
  refine bodyPost_ret (results_none rfl _ _ _) rfl ⟨rfl, hW⟩
set_option maxRecDepth 20000 in
set_option maxHeartbeats 400000 in
theorem crash_any {p : Nat} {F : Nat → Prop} {S : DS} {w : World} {N : Nat} (h : DiskIn w p F S) (hok : S.Ok N) (hN : N ≤ 1000000) {keep : List Bool} {A : Option Addr} {c : Nat} (hk : keep.length ≤ 9223372036854775807)
    (hrow : ∀ j b, keep[j]? = some b → ∃ q, A = some q ∧ (q.add j).block < w.heap.size ∧ ¬ F (q.add j).block ∧ w.cell? (q.add j) = some (.bool b)) :
    Calls Tryd.prog 11 #[.pointer (some ⟨p, 0, none⟩), .slice A keep.length c] w fun x w' => x = .returned (.tuple #[]) ∧ DiskIn w' p F (S.crash keep) ∧ Tch F w w' := by
  have HD := hid (h.mono (G := fun g => F g ∧ g < w.heap.size) (fun g hg hf => ⟨hf, hg⟩))
  have HR := hid hrow
  have HOK := hid hok
  clear h hrow hok
  go_enter Tryd.func11, Tryd.ntmps11
  repeat (apply wp_seq_k; intro _ _)
  apply wp_region_lit
  refine wpList_box rfl 24 _ rfl (.slice A keep.length c) rfl ?_
  intro gb W0 hG hgb hgeb hW
  have HK := hid fun (k : Nat) (Y : World) (_ : k ≤ 1000000) (ht : Tch (fun g => F g ∧ g < w.heap.size) W0 Y) => crash1_ok (W := Y) (g := gb) (keep := keep) (A := A) (c := c) (k := k) ⟨by
      rw [tch_cell ht (q := ⟨gb, 0, none⟩) hgb (fun hf => by have h2 : gb < w.heap.size := hf.2; omega)]
      exact (cell_of_row W0 gb 0 _ _ _ hG).trans rfl, fun j b hj => by
      obtain ⟨q, hq, hl, hn, hc⟩ := HR.out j b hj
      refine ⟨q, hq, ?_⟩
      rw [tch_cell ht (Nat.lt_of_lt_of_le hl hW.size) (fun hf => hn hf.1), hW.cell hl]
      exact hc, hk⟩
  have HS := hid (settle_crash (HD.out.below hW) HOK.out hN gb (fun k => keep.getD k false) HK.out)
  have HW := hid hW
  clear HK HR hG
  go_wp2_with (go_at_call 23; refine HS.out.mono ?_; rintro e w1 ⟨rfl, ⟨pn, pl, wv, hat⟩, ht⟩; have f5 := frozen_of_row w1 p 5 _ _ hat.box; have f4 := frozen_of_row w1 p 4 _ _ hat.box; have c5 := (cell_of_row w1 p 5 _ _ _ hat.box).trans rfl; have c4 := (cell_of_row w1 p 4 _ _ _ hat.box).trans rfl; have HA := hid hat; have HT := hid ht; clear hat ht)
  have P5 := hid (heap_setCell_same w1 p 5 _ 50 (.bool false) HA.out.box)
  have T5 := hid ((Tch.refl (· = p) w1).setCell (g := p) (i := 5) rfl (.bool false))
  have P4 := hid (heap_setCell_same _ p 4 _ 50 (.int .i64 0) P5.out)
  have T4 := hid (T5.out.setCell (g := p) (i := 4) rfl (.int .i64 0))
  refine bodyPost_end (results_none rfl _ _ _) rfl ⟨rfl, ?_, ?_⟩
  · have hpn := heap_ne HA.out.now HA.out.box (by decide)
    have hpl := heap_ne HA.out.last HA.out.box (by decide)
    refine ⟨pn, pl, wv, HA.out.op.1, HA.out.on.1, HA.out.ol.1, fun g hg => (HA.out.ow g hg).1, HA.out.ne, P4.out.trans rfl, (T4.out.block pn (lt_of_heap HA.out.now) hpn).trans HA.out.now, (T4.out.block pl (lt_of_heap HA.out.last) hpl).trans HA.out.last, ?_⟩
    exact own_keep HA.out.wait (fun g hg => T4.out.block g (own_lt HA.out.wait hg) (fun e => own_ne HA.out.wait HA.out.box (by decide) (by rw [hg]; exact congrArg some e)))
  · exact (((Tch.of_below (F := F) HW.out).trans HT.out (fun _ h => h) (fun _ _ h => h.1))).trans T4.out (fun _ h => h) (fun i _ e => by subst e; exact HA.out.op.1)
end Go.Proofs.YthmchbdhikakhaaDoor
/- Write where nothing is answered; a new disk. -/
namespace Go.Proofs.YthmchbdhikakhaaDoor
open Go.RowKit Go.Cu
set_option maxRecDepth 20000 in
set_option maxHeartbeats 400000 in
theorem write_bad {v : Value} {e : Int} {w : World} {i : Int} {b : Bk} (he : e ≠ 0) (ha : Hid (∀ w', Below w.heap.size w w' → Calls Tryd.prog 30 #[v, .int .i64 i] w' fun x w'' => x = .returned (.int .i64 e) ∧ w' = w'')) :
    Calls Tryd.prog 19 #[v, .int .i64 i, .agg (bv b)] w fun x w' => x = .returned (.int .i64 e) ∧ Below w.heap.size w w' := by
  have hne : (e != 0) = true := by simpa using he
  clear he
  go_enter Tryd.func19, Tryd.ntmps19
  repeat (apply wp_seq_k; intro _ _)
  apply wp_region_lit
  refine wpList_box rfl 64 _ rfl (.agg (bv b)) rfl ?_
  intro gb V0 hG hgb hgeb hW
  clear hG
  go_wp2_with (go_at_call 30; refine (ha.out _ hW).mono ?_; rintro x w' ⟨rfl, rfl⟩)
  go_ret
  exact ⟨rfl, hW⟩
set_option maxHeartbeats 400000 in
theorem new_bad {n : Int} (w : World) (hn : n < 1 ∨ 8192 < n) : Calls Tryd.prog 4 #[.int .i64 n] w fun x w' => x = .returned (.tuple #[.pointer none, .int .i64 1]) ∧ w = w' := by
  by_cases h1 : n < 1
  · clear hn
    go_enter Tryd.func4, Tryd.ntmps4
    go_wp2
    go_ret2
    exact ⟨rfl, rfl⟩
  · have h2 : 8192 < n := by omega
    clear hn
    go_enter Tryd.func4, Tryd.ntmps4
    go_wp2
    go_ret2
    exact ⟨rfl, rfl⟩
end Go.Proofs.YthmchbdhikakhaaDoor
/- A new disk. -/
namespace Go.Proofs.YthmchbdhikakhaaDoor
open Go.RowKit Go.Cu
set_option maxRecDepth 20000 in
theorem info33 : (Tryd.prog.info? 64).map (fun i => (i.zero, i.size, i.bytes)) = some (some (.agg (bv zeroB)), 128, 128) := by kernel_rfl
theorem full_zero (n : Nat) : Full (List.replicate n zeroB) := fun b hb => by rw [List.eq_of_mem_replicate hb]; exact zeroB_len
theorem made_flat (n : Nat) : madeCells (bv zeroB) (n * 128) = flat (List.replicate n zeroB) := by
  apply Array.ext
  · rw [size_madeCells, flat_size (full_zero n), List.length_replicate]
  · intro j h1 h2
    rw [size_madeCells] at h1
    have hj : j % 128 < 128 := Nat.mod_lt _ (by decide)
    have hi : j / 128 < n := by omega
    have h3 := flat_get (full_zero n) (i := j / 128) (b := zeroB) (by rw [List.getElem?_replicate, if_pos hi]) (j % 128) (by rw [bv_size, zeroB_len]; exact hj)
    rw [show j / 128 * 128 + j % 128 = j by omega, Array.getElem?_eq_getElem h2] at h3
    have h4 : (bv zeroB)[j % 128]? = some (bv zeroB)[j % 128]! := by
      rw [getElem!_def, Array.getElem?_eq_getElem (by rw [bv_size, zeroB_len]; exact hj)]
    rw [h4] at h3
    have h5 : (madeCells (bv zeroB) (n * 128))[j] = (bv zeroB)[j % (bv zeroB).size]! := by simp [madeCells]
    rw [h5, bv_size, zeroB_len]
    exact (Option.some.inj h3).symm
theorem make101 (n : Nat) (hn : n ≤ 8192) (W : World) : (Instr.makeSlice 47 (.int .i64 n) (.int .i64 n)).run Tryd.prog W = .ok (.slice (some ⟨W.heap.size, 0, none⟩) n n) (W.alloc (.cells (flat (List.replicate n zeroB)) 64)) := by
  obtain ⟨i0, hi, hiz, his, hib⟩ := info_parts info33
  have h := run_make (P := Tryd.prog) W 47 64 i0 _ Tryd.underlying47 hi hiz .i64 .i64 n n (by omega) (Int.le_refl _) (by rw [hib]; omega) (by omega)
  rw [his] at h
  simp only [Int.toNat_natCast] at h
  rw [show (Value.agg (bv zeroB)).cells = bv zeroB from rfl, made_flat] at h
  exact h
def makeK (t : TypeId) (u v : Value) : Sem Next := do pure (.value (← Instr.makeSlice t u v))
@[go_sem ↓] theorem mkk101 (a : Act) (dst : Option Tmp) (x y : Operand) (ty : TypeId) (pos : String) (after : Array Edge) (guard : Option (Nat × Bool)) :
    execOp a.eval { dst, op := .makeSlice 47 x y, type := ty, pos, after, guard } = makeK 47 (a.eval x) (a.eval y) := rfl
theorem new_world (n : Nat) (w : World) (a b : Nat) (hab : a = w.heap.size ∧ b = w.heap.size + 1 ∨ a = w.heap.size + 1 ∧ b = w.heap.size) (W : World)
    (hW : W = (((w.alloc (Obj.cells (flat (List.replicate n zeroB)) 64)).alloc (Obj.cells (flat (List.replicate n zeroB)) 64)).alloc (Obj.cells #[.slice (some ⟨a, 0, none⟩) n n, .slice (some ⟨b, 0, none⟩) n n, .slice none 0 0, .int .i64 0, .int .i64 0, .bool false] 50)).drew) :
    DiskIn W (w.heap.size + 1 + 1) (fun g => w.heap.size ≤ g) (DS.new n) ∧ Below w.heap.size w W := by
  subst hW
  have e0 : ((w.alloc (Obj.cells (flat (List.replicate n zeroB)) 64)).alloc (Obj.cells (flat (List.replicate n zeroB)) 64)).heap[w.heap.size]? = some (.cells (flat (List.replicate n zeroB)) 64 (0, 0)) := by
    rw [heap_alloc_past _ _ (by simp)]
    exact heap_alloc_at _ _ rfl
  have e1 : ((w.alloc (Obj.cells (flat (List.replicate n zeroB)) 64)).alloc (Obj.cells (flat (List.replicate n zeroB)) 64)).heap[w.heap.size + 1]? = some (.cells (flat (List.replicate n zeroB)) 64 (0, 0)) := heap_alloc_at _ _ (by simp)
  have hl : (List.replicate n zeroB).length = n := List.length_replicate
  refine ⟨⟨a, b, .slice none 0 0, by omega, by show w.heap.size ≤ a; omega, by show w.heap.size ≤ b; omega, fun g hg => by simp [Value.ownBlock] at hg, by omega, ?_, ?_, ?_, by simp [DS.new, waitL], .inl ⟨rfl, rfl⟩⟩, ?_⟩
  · simp only [DS.new, hl]
    exact heap_alloc_at _ _ (by simp)
  · refine (heap_alloc_past _ _ (by simp; omega)).trans ?_
    rcases hab with ⟨rfl, rfl⟩ | ⟨rfl, rfl⟩
    · exact e0
    · exact e1
  · refine (heap_alloc_past _ _ (by simp; omega)).trans ?_
    rcases hab with ⟨rfl, rfl⟩ | ⟨rfl, rfl⟩
    · exact e1
    · exact e0
  · exact ((((Below.refl _ _).alloc (Nat.le_refl _) _).alloc (by simp) _).alloc (by simp; omega) _).drew
set_option maxRecDepth 20000 in
set_option maxHeartbeats 1000000 in
theorem new_ok {n : Nat} (h1 : 1 ≤ n) (h2 : n ≤ 8192) (w : World) : Calls Tryd.prog 4 #[.int .i64 n] w fun x w' => ∃ p, x = .returned (.tuple #[.pointer (some ⟨p, 0, none⟩), .int .i64 0]) ∧ w.heap.size ≤ p ∧ DiskIn w' p (fun g => w.heap.size ≤ g) (DS.new n) ∧ Below w.heap.size w w' := by
  have HM : ∀ W, (makeK 47 (.int .i64 n) (.int .i64 n)).run Tryd.prog W = .ok (.value (.slice (some ⟨W.heap.size, 0, none⟩) n n)) (W.alloc (.cells (flat (List.replicate n zeroB)) 64)) := fun W => by
    simp only [makeK, Sem.run_bind, make101 n h2 W, Result.andThen_ok, Sem.run_pure]
  have g1 : ¬ (n : Int) < 1 := by omega
  have g2 : ¬ (8192 : Int) < (n : Int) := by omega
  clear h1 h2
  go_enter Tryd.func4, Tryd.ntmps4
  go_wp2_with fail
  go_region
  · go_wp2
    go_ret2
    have h := new_world n w _ _ (.inl ⟨rfl, rfl⟩) _ rfl
    exact ⟨_, rfl, by omega, h.1, h.2⟩
  · go_wp2
    go_ret2
    have h := new_world n w _ _ (.inr ⟨rfl, rfl⟩) _ rfl
    exact ⟨_, rfl, by omega, h.1, h.2⟩
end Go.Proofs.YthmchbdhikakhaaDoor
/- DocSync and DocCrash; the document's new disk. -/
namespace Go.Proofs.YthmchbdhikakhaaDoor
open Go.RowKit Go.Cu
end Go.Proofs.YthmchbdhikakhaaDoor
/- DocRead. -/
namespace Go.Proofs.YthmchbdhikakhaaDoor
open Go.RowKit Go.Cu
end Go.Proofs.YthmchbdhikakhaaDoor
/- Read and Write of a disk at any place; of no disk. -/
namespace Go.Proofs.YthmchbdhikakhaaDoor
open Go.RowKit Go.Cu
theorem at_ok_nat {S : DS} {i : Int} (h : S.at_ i = 0) : ∃ n : Nat, i = n := by
  obtain ⟨_, h0, _⟩ := DS.at_zero h
  exact ⟨i.toNat, by omega⟩
theorem write_any {p : Nat} {F : Nat → Prop} {S : DS} {w : World} {N : Nat} (h : DiskIn w p F S) (hok : S.Ok N) (hN : N ≤ 1000000) (i : Int) {b : Bk} (hb : b.length = 128) :
    Calls Tryd.prog 19 #[.pointer (some ⟨p, 0, none⟩), .int .i64 i, .agg (bv b)] w fun x w' => x = .returned (.int .i64 (S.write i b).2) ∧ DiskIn w' p (fun g => F g ∨ w.heap.size ≤ g) (S.write i b).1 ∧ Tch F w w' := by
  by_cases hz : S.at_ i = 0
  · obtain ⟨n, rfl⟩ := at_ok_nat hz
    have e : S.write (n : Int) b = (S.put n b).tick := by unfold DS.write; rw [if_neg (by simpa using hz)]; simp
    rw [e]
    exact write_ok h hok hN hz hb
  · have e : S.write i b = (S, S.at_ i) := by unfold DS.write; rw [if_pos hz]
    rw [e]
    exact (write_bad hz (hid fun w' hb => at_any (h.below hb) hok i)).mono fun x w' hx => ⟨hx.1, (h.below hx.2).mono (fun g _ hf => .inl hf), Tch.of_below hx.2⟩
theorem write_nil (w : World) (i : Int) (b : Bk) : Calls Tryd.prog 19 #[.pointer none, .int .i64 i, .agg (bv b)] w fun x w' => x = .returned (.int .i64 1) ∧ Below w.heap.size w w' :=
  write_bad (by decide) (hid fun w' _ => at_nil i w')
theorem read_any {p : Nat} {F : Nat → Prop} {S : DS} {w : World} {N : Nat} (h : DiskIn w p F S) (hok : S.Ok N) (i : Int) :
    Calls Tryd.prog 22 #[.pointer (some ⟨p, 0, none⟩), .int .i64 i] w fun x w' => x = .returned (.tuple #[.agg (bv (if S.at_ i = 0 then S.now.getD i.toNat zeroB else zeroB)), .int .i64 (S.at_ i)]) ∧ Below w.heap.size w w' := by
  by_cases hz : S.at_ i = 0
  · obtain ⟨n, rfl⟩ := at_ok_nat hz
    rw [if_pos hz, hz]
    exact read_ok h hok hz
  · rw [if_neg hz]
    exact read_bad hz (hid fun w' hb => at_any (h.below hb) hok i)
theorem read_nil (w : World) (i : Int) : Calls Tryd.prog 22 #[.pointer none, .int .i64 i] w fun x w' => x = .returned (.tuple #[.agg (bv zeroB), .int .i64 1]) ∧ Below w.heap.size w w' :=
  read_bad (by decide) (hid fun w' _ => at_nil i w')
/-- A block of which only the first byte is set. -/
def oneB (k : UInt8) : Bk := k :: List.replicate 127 0
theorem oneB_len (k : UInt8) : (oneB k).length = 128 := by simp [oneB]
set_option maxRecDepth 20000 in
theorem build33_1 (W : World) : (Instr.build 64 #[(0, .int .u8 1)]).run Tryd.prog W = .ok (.agg (bv (oneB 1))) W := by kernel_rfl
set_option maxRecDepth 20000 in
theorem build33_2 (W : World) : (Instr.build 64 #[(0, .int .u8 2)]).run Tryd.prog W = .ok (.agg (bv (oneB 2))) W := by kernel_rfl
set_option maxRecDepth 20000 in
theorem build33_3 (W : World) : (Instr.build 64 #[(0, .int .u8 3)]).run Tryd.prog W = .ok (.agg (bv (oneB 3))) W := by kernel_rfl
end Go.Proofs.YthmchbdhikakhaaDoor
/- Sync. -/
namespace Go.Proofs.YthmchbdhikakhaaDoor
open Go.RowKit Go.Cu

set_option maxHeartbeats 400000 in
theorem sync_nil (w : World) : Calls Tryd.prog 21 #[.pointer none] w fun e w' => e = .returned (.int .i64 1) ∧ w = w' := by
  go_enter Tryd.func21, Tryd.ntmps21
  go_wp2_with (go_at_call 31; refine (may_nil _).mono ?_; rintro e w' ⟨rfl, rfl⟩)
  go_ret
  exact ⟨rfl, rfl⟩
set_option maxHeartbeats 400000 in
theorem sync_ok {p : Nat} {F : Nat → Prop} {S : DS} {w : World} {N : Nat} (h : DiskIn w p F S) (hok : S.Ok N) (hN : N ≤ 1000000) :
    Calls Tryd.prog 21 #[.pointer (some ⟨p, 0, none⟩)] w fun x w' => x = .returned (.int .i64 S.sync.2) ∧ DiskIn w' p F S.sync.1 ∧ Tch F w w' := by
  have hm := hid (may_any h)
  have hs := hid (settle_sync h hok hN)
  cases ho : S.off
  · have hmay : S.may = 0 := by simp [DS.may, ho]
    rw [hmay] at hm
    have HE := hid (show S.sync = (S.settle fun _ => true, 0) by simp [DS.sync, ho])
    clear hmay ho h hok hN
    go_enter Tryd.func21, Tryd.ntmps21
    go_wp2_with (first | (go_at_call 31; refine hm.out.mono ?_; rintro e w' ⟨rfl, rfl⟩) | (go_at_call 23; refine hs.out.mono ?_; rintro e w1 ⟨rfl, hd, ht⟩; have HD := hid hd; have HT := hid ht; clear hd ht))
    go_ret
    rw [HE.out]
    exact ⟨rfl, HD.out, HT.out⟩
  · have hmay : S.may = 13 := by simp [DS.may, ho]
    rw [hmay] at hm
    have HE := hid (show S.sync = (S, 13) by simp [DS.sync, ho])
    have HD := hid h
    clear hmay ho h hok hN hs
    go_enter Tryd.func21, Tryd.ntmps21
    go_wp2_with (go_at_call 31; refine hm.out.mono ?_; rintro e w' ⟨rfl, rfl⟩)
    go_ret
    rw [HE.out]
    exact ⟨rfl, HD.out, Tch.refl _ _⟩
end Go.Proofs.YthmchbdhikakhaaDoor
/- The document's new disk; the contracts of both disks, over things side by side. -/
namespace Go.Proofs.YthmchbdhikakhaaDoor
open Go.RowKit Go.Cu
section
variable {W0 W : World} {L : List Atm} {p : Nat} {S : DS} {N : Nat}
theorem new_st (h : St W0 L W) {n : Nat} (h1 : 1 ≤ n) (h2 : n ≤ 8192) : Calls Tryd.prog 4 #[.int .i64 n] W fun x W' => ∃ p, x = .returned (.tuple #[.pointer (some ⟨p, 0, none⟩), .int .i64 0]) ∧ St W0 (Disk p (DS.new n) :: L) W' :=
  (new_ok h1 h2 W).mono fun _ _ ⟨p, hx, _, hd, hb⟩ => ⟨p, hx, h.push hb hd⟩
theorem write_st (h : St W0 (Disk p S :: L) W) (hok : S.Ok N) (hN : N ≤ 1000000) (i : Int) {b : Bk} (hb : b.length = 128) :
    Calls Tryd.prog 19 #[.pointer (some ⟨p, 0, none⟩), .int .i64 i, .agg (bv b)] W fun x W' => x = .returned (.int .i64 (S.write i b).2) ∧ St W0 (Disk p (S.write i b).1 :: L) W' := by
  obtain ⟨F, hd, _, hr⟩ := h.first
  exact (write_any hd hok hN i hb).mono fun _ _ ⟨hx, hd', ht⟩ => ⟨hx, hr _ _ hd' ht⟩
theorem sync_st (h : St W0 (Disk p S :: L) W) (hok : S.Ok N) (hN : N ≤ 1000000) :
    Calls Tryd.prog 21 #[.pointer (some ⟨p, 0, none⟩)] W fun x W' => x = .returned (.int .i64 S.sync.2) ∧ St W0 (Disk p S.sync.1 :: L) W' := by
  obtain ⟨F, hd, _, hr⟩ := h.first
  exact (sync_ok hd hok hN).mono fun _ _ ⟨hx, hd', ht⟩ => ⟨hx, hr _ _ (DiskIn.mono hd' fun _ _ h => .inl h) ht⟩
theorem read_st (h : St W0 (Disk p S :: L) W) (hok : S.Ok N) (i : Int) :
    Calls Tryd.prog 22 #[.pointer (some ⟨p, 0, none⟩), .int .i64 i] W fun x W' => x = .returned (.tuple #[.agg (bv (if S.at_ i = 0 then S.now.getD i.toNat zeroB else zeroB)), .int .i64 (S.at_ i)]) ∧ St W0 (Disk p S :: L) W' ∧ Below W.heap.size W W' := by
  obtain ⟨F, hd, _, hr⟩ := h.first
  exact (read_any hd hok i).mono fun _ _ ⟨hx, hb⟩ => ⟨hx, h.turn hb, hb⟩
/-- The words of keep lie in memory that the caller had. -/
def KeepIn (W : World) (A : Option Addr) (keep : List Bool) : Prop := ∀ j b, keep[j]? = some b → ∃ q, A = some q ∧ (q.add j).block < W.heap.size ∧ W.cell? (q.add j) = some (.bool b)
theorem keep_for (h : St W0 L W) {A : Option Addr} {keep : List Bool} (hk : KeepIn W0 A keep) {F : Nat → Prop} (hF : ∀ g, F g → W0.heap.size ≤ g) :
    ∀ j b, keep[j]? = some b → ∃ q, A = some q ∧ (q.add j).block < W.heap.size ∧ ¬ F (q.add j).block ∧ W.cell? (q.add j) = some (.bool b) := fun j b hj => by
  obtain ⟨q, hq, hl, hc⟩ := hk j b hj
  exact ⟨q, hq, Nat.lt_of_lt_of_le hl h.size, fun hf => by have := hF _ hf; omega, (h.below.cell hl).trans hc⟩
theorem crash_st (h : St W0 (Disk p S :: L) W) (hok : S.Ok N) (hN : N ≤ 1000000) {A : Option Addr} {c : Nat} {keep : List Bool} (hlen : keep.length ≤ 9223372036854775807) (hk : KeepIn W0 A keep) :
    Calls Tryd.prog 11 #[.pointer (some ⟨p, 0, none⟩), .slice A keep.length c] W fun x W' => x = .returned (.tuple #[]) ∧ St W0 (Disk p (S.crash keep) :: L) W' := by
  obtain ⟨F, hd, hF, hr⟩ := h.first
  exact (crash_any hd hok hN hlen (keep_for h hk fun g hg => (hF g hg).1)).mono fun _ _ ⟨hx, hd', ht⟩ => ⟨hx, hr _ _ (DiskIn.mono hd' fun _ _ h => .inl h) ht⟩
theorem size_st (h : St W0 (Disk p S :: L) W) : Calls Tryd.prog 13 #[.pointer (some ⟨p, 0, none⟩)] W fun x W' => x = .returned (.int .i64 S.now.length) ∧ W = W' := by
  obtain ⟨F, hd, _, _⟩ := h.first
  exact size_any hd
end
end Go.Proofs.YthmchbdhikakhaaDoor
/- Extents in memory: what only reads them. -/
namespace Go.Proofs.YthmchbdhikakhaaDoor
open Go.RowKit Go.Cu
/-- The cells of extents. -/
def extV (p : Nat) (e : Ex) : Array Value := #[.pointer (some ⟨p, 0, none⟩), .int .i64 e.first, .int .i64 e.count, .int .i64 e.size]
theorem ext_cells {W : World} {x p : Nat} {e : Ex} (h : W.heap[x]? = some (.cells (extV p e) 53 (0, 0))) :
    W.cell? ⟨x, 0, none⟩ = some (.pointer (some ⟨p, 0, none⟩)) ∧ W.cell? ⟨x, 1, none⟩ = some (.int .i64 e.first) ∧ W.cell? ⟨x, 2, none⟩ = some (.int .i64 e.count) ∧ W.cell? ⟨x, 3, none⟩ = some (.int .i64 e.size) :=
  ⟨(cell_of_row W x 0 _ _ _ h).trans rfl, (cell_of_row W x 1 _ _ _ h).trans rfl, (cell_of_row W x 2 _ _ _ h).trans rfl, (cell_of_row W x 3 _ _ _ h).trans rfl⟩
set_option maxHeartbeats 400000 in
theorem area_nil (i : Int) (w : World) : Calls Tryd.prog 7 #[.pointer none, .int .i64 i] w fun r w' => r = .returned (.tuple #[.int .i64 0, .int .i64 0, .int .i64 1]) ∧ w = w' := by
  go_enter Tryd.func7, Tryd.ntmps7
  go_wp2
  go_ret3
  exact ⟨rfl, rfl⟩
set_option maxHeartbeats 400000 in
theorem area_out {w : World} {x p : Nat} {e : Ex} {n : Nat} (h : w.heap[x]? = some (.cells (extV p e) 53 (0, 0))) (he : e.Ok n) {i : Int} (hi : i < 0 ∨ (e.count : Int) ≤ i) :
    Calls Tryd.prog 7 #[.pointer (some ⟨x, 0, none⟩), .int .i64 i] w fun r w' => r = .returned (.tuple #[.int .i64 0, .int .i64 0, .int .i64 1]) ∧ w = w' := by
  obtain ⟨c0, c1, c2, c3⟩ := ext_cells h
  have hb := he.big
  have hc := he.c2
  clear h he
  by_cases h0 : i < 0
  · clear hi
    go_enter Tryd.func7, Tryd.ntmps7
    go_wp2
    go_ret3
    exact ⟨rfl, rfl⟩
  · have h1 : (e.count : Int) ≤ i := by omega
    clear hi
    go_enter Tryd.func7, Tryd.ntmps7
    go_wp2
    go_ret3
    exact ⟨rfl, rfl⟩
set_option maxHeartbeats 400000 in
theorem area_in {w : World} {x p : Nat} {e : Ex} {n : Nat} (h : w.heap[x]? = some (.cells (extV p e) 53 (0, 0))) (he : e.Ok n) {i : Nat} (hi : i < e.count) :
    Calls Tryd.prog 7 #[.pointer (some ⟨x, 0, none⟩), .int .i64 i] w fun r w' => r = .returned (.tuple #[.int .i64 (e.first + i * e.size : Nat), .int .i64 e.size, .int .i64 0]) ∧ Below w.heap.size w w' := by
  obtain ⟨c0, c1, c2, c3⟩ := ext_cells h
  have hb := he.big
  have hc := he.c2
  have hs := he.s2
  have hin := he.within hi
  obtain ⟨m, hm⟩ : ∃ m : Nat, m = i * e.size := ⟨_, rfl⟩
  have em : (i : Int) * (e.size : Int) = (m : Int) := by rw [hm]; simp
  rw [← hm] at hin ⊢
  have h0 : ¬ (i : Int) < 0 := by omega
  have h1 : (i : Int) < (e.count : Int) := by omega
  have hm1 : (m : Int) ≤ 8192 := by omega
  have hf1 : (e.first : Int) ≤ 8192 := by omega
  clear h he hi hm hin
  go_enter Tryd.func7, Tryd.ntmps7
  go_wp2_with fail
  refine wp_region_ord [] [(0, 1), (1, 1), (2, 1), (3, 1), (4, 1), (5, 1), (6, 1), (7, 1), (8, 1), (9, 1), (10, 1), (11, 1), (12, 1), (13, 1), (14, 1), (15, 1), (16, 1), (17, 1)] (fun X => X = World.drew w) (by kernel_rfl) (by kernel_rfl) (fun d _ c _ _ h => by cases d <;> exact h) rfl (fun X hXe _ => ?_)
  subst hXe
  repeat (apply wpOrd_class; ((· first | (rw [List.getElem?_toArray, List.getElem?_cons_zero]; done) | (simp only [List.getElem?_toArray, List.getElem?_cons_succ, List.getElem?_cons_zero]; exact rfl))); (· exact rfl); intro K hK; apply Exists.intro; refine And.intro (fun X' hX' => ?_) ?_; (· go_simp; (try go_bits); first | done | exact rfl | exact ⟨rfl, rfl⟩); go_simp; refine hK _ _ ?_; clear hK K)
  refine wpOrd_done ?_
  go_wp2
  go_ret3
  exact ⟨rfl, Below.drew (Below.refl _ _)⟩
end Go.Proofs.YthmchbdhikakhaaDoor
/- The fixed disk story: disks. -/
namespace Go.Proofs.YthmchbdhikakhaaDoor
open Go.RowKit Go.Cu
def T0 : DS := DS.new 2
def T1 : DS := (T0.write 0 (oneB 1)).1
def T2 : DS := T1.sync.1
def T3 : DS := (T2.write 0 (oneB 2)).1
def T4 : DS := (T3.write 1 (oneB 3)).1
def T5 : DS := T4.crash [false, true]
theorem T0_ok : T0.Ok 0 := DS.Ok.new (by decide)
theorem T1_ok : T1.Ok 1 := (T0_ok.put (i := 0) (by decide) (oneB_len 1))
theorem T2_ok : T2.Ok 1 := (T1_ok.settle _)
theorem T3_ok : T3.Ok 2 := (T2_ok.put (i := 0) (by decide) (oneB_len 2))
theorem T4_ok : T4.Ok 3 := (T3_ok.put (i := 1) (by decide) (oneB_len 3))
theorem T1_e : (T0.write 0 (oneB 1)).2 = 0 := rfl
theorem T2_e : T1.sync.2 = 0 := rfl
theorem T5_0 : (if T5.at_ 0 = 0 then T5.now.getD (0 : Int).toNat zeroB else zeroB) = oneB 1 := rfl
theorem T5_1 : (if T5.at_ 1 = 0 then T5.now.getD (1 : Int).toNat zeroB else zeroB) = oneB 3 := rfl
theorem T5_e0 : T5.at_ 0 = 0 := rfl
theorem T5_e1 : T5.at_ 1 = 0 := rfl
theorem T5_ok : T5.Ok 3 := T4_ok.crash _
theorem keep_row (W : World) (F : Nat → Prop) (hF : ∀ g, F g → g < W.heap.size) : ∀ j b, [false, true][j]? = some b → ∃ q, some (⟨W.heap.size, 0, none⟩ : Addr) = some q ∧ (q.add j).block < (W.alloc (Obj.cells #[Value.bool false, Value.bool true] 4)).heap.size ∧ ¬ F (q.add j).block ∧ (W.alloc (Obj.cells #[Value.bool false, Value.bool true] 4)).cell? (q.add j) = some (.bool b) := by
  intro j b hj
  have e : (⟨W.heap.size, 0, none⟩ : Addr).add j = ⟨W.heap.size, j, none⟩ := by unfold Addr.add; split <;> simp_all
  refine ⟨_, rfl, ?_⟩
  rw [e]
  refine ⟨by simp, fun h => Nat.lt_irrefl _ (hF _ h), ?_⟩
  rw [cell_of_row _ W.heap.size j #[Value.bool false, Value.bool true] 4 (0, 0) (heap_alloc_at _ _ rfl)]
  match j, hj with
  | 0, hj => cases hj; rfl
  | 1, hj => cases hj; rfl
@[go_sem ↓] theorem bdk33 (a : Act) (dst : Option Tmp) (ps : Array (Nat × Operand)) (ty : TypeId) (pos : String) (after : Array Edge) (guard : Option (Nat × Bool)) :
    execOp a.eval { dst, op := .build 64 ps, type := ty, pos, after, guard } = buildK 64 (ps.map fun (i, x) => (i, a.eval x)) := rfl
end Go.Proofs.YthmchbdhikakhaaDoor
/- DiskJobs: the walk. -/
namespace Go.Proofs.YthmchbdhikakhaaDoor
open Go.RowKit Go.Cu
structure JobD where
  what : Int
  at_ : Int
  by_ : UInt8
  keep : List Bool
/-- A row of jobs lies in memory. -/
def JobsIn (W : World) (A : Option Addr) (row : List JobD) : Prop := ∀ i j, row[i]? = some j → ∃ g o Ak ck, A = some ⟨g, o, none⟩ ∧ g < W.heap.size ∧ KeepIn W Ak j.keep ∧ j.keep.length ≤ 9223372036854775807 ∧
  -9223372036854775808 ≤ j.what ∧ j.what ≤ 9223372036854775807 ∧ -9223372036854775808 ≤ j.at_ ∧ j.at_ ≤ 9223372036854775807 ∧
  W.cell? ⟨g, o + i * 4, none⟩ = some (.int .i64 j.what) ∧ W.cell? ⟨g, o + i * 4 + 1, none⟩ = some (.int .i64 j.at_) ∧ W.cell? ⟨g, o + i * 4 + 2, none⟩ = some (.int .u8 j.by_.toNat) ∧ W.cell? ⟨g, o + i * 4 + 3, none⟩ = some (.slice Ak j.keep.length ck)
theorem u64_rem (n : Int) (d : Nat) (hd : 0 < d) : ∃ m : Nat, (IntKind.u64.wrap n).tmod d = m ∧ m < d := by
  have h0 : 0 ≤ IntKind.u64.wrap n := by simp [IntKind.wrap, IntKind.signed, IntKind.bits]; omega
  rw [Int.tmod_eq_emod_of_nonneg h0]
  have h1 := Int.emod_nonneg (IntKind.u64.wrap n) (show (d : Int) ≠ 0 by omega)
  have h2 := Int.emod_lt_of_pos (IntKind.u64.wrap n) (show (0 : Int) < d by omega)
  exact ⟨(IntKind.u64.wrap n % d).toNat, by omega, by omega⟩
section
variable {W0 W : World} {L : List Atm}
theorem new_sti (h : St W0 L W) {m : Int} {n : Nat} (e : m = n) (h1 : 1 ≤ n) (h2 : n ≤ 8192) : Calls Tryd.prog 4 #[.int .i64 m] W fun x W' => ∃ p, x = .returned (.tuple #[.pointer (some ⟨p, 0, none⟩), .int .i64 0]) ∧ St W0 (Disk p (DS.new n) :: L) W' := by
  subst e; exact new_st h h1 h2
end
/-- A job's block. -/
def jobV (j : JobD) (Ak : Option Addr) (ck : Nat) : Array Value := #[.int .i64 j.what, .int .i64 j.at_, .int .u8 j.by_.toNat, .slice Ak j.keep.length ck]
theorem jobV_one (j : JobD) (Ak : Option Addr) (ck : Nat) : ∀ u ∈ (jobV j Ak ck).toList, u.oneCell' = true := by
  intro u hu
  simp only [jobV, List.mem_cons, List.not_mem_nil, or_false] at hu
  rcases hu with rfl | rfl | rfl | rfl <;> rfl
/-- What is written: a byte, and the round's number at the end. -/
def twoB (b : UInt8) (k : Nat) : Bk := b :: List.replicate 126 0 ++ [UInt8.ofNat k]
theorem twoB_len (b : UInt8) (k : Nat) : (twoB b k).length = 128 := by simp [twoB]
set_option maxRecDepth 20000 in
theorem build33_two (b : UInt8) (k : Nat) (W : World) : (Instr.build 64 #[(0, .int .u8 b.toNat), (127, .int .u8 (UInt8.ofNat k).toNat)]).run Tryd.prog W = .ok (.agg (bv (twoB b k))) W := by
  kernel_rfl
theorem u8_k {k : Nat} (h : k < 256) : ((UInt8.ofNat k).toNat : Int) = (k : Int) := by
  rw [UInt8.toNat_ofNat', Nat.mod_eq_of_lt h]
/-- What is read at a place. -/
def _root_.Go.Cu.DS.rd (S : DS) (i : Int) : Bk := if S.at_ i = 0 then S.now.getD i.toNat zeroB else zeroB
theorem rd_len {S : DS} {N : Nat} (h : S.Ok N) (i : Int) : (S.rd i).length = 128 := by
  unfold DS.rd
  split
  · exact full_getD h.now _
  · exact zeroB_len
theorem write_len (S : DS) (i : Int) (b : Bk) : (S.write i b).1.now.length = S.now.length := by
  unfold DS.write
  split
  · rfl
  · unfold DS.tick
    split
    · simp [DS.put]
    · split <;> simp [DS.put]
theorem settle_len (S : DS) (kept : Nat → Bool) : (S.settle kept).now.length = S.now.length := nowOf_len _ _ _
theorem sync_len (S : DS) : S.sync.1.now.length = S.now.length := by
  unfold DS.sync
  split
  · rfl
  · exact settle_len _ _
theorem crash_len (S : DS) (keep : List Bool) : (S.crash keep).now.length = S.now.length := settle_len _ _
section
variable {W0 W : World} {L : List Atm} {p q : Nat} {S : DS}
theorem read_rd {N : Nat} (h : St W0 (Disk p S :: L) W) (hok : S.Ok N) (i : Int) :
    Calls Tryd.prog 22 #[.pointer (some ⟨p, 0, none⟩), .int .i64 i] W fun x W' => x = .returned (.tuple #[.agg (bv (S.rd i)), .int .i64 (S.at_ i)]) ∧ St W0 (Disk p S :: L) W' :=
  (read_st h hok i).mono fun _ _ hx => ⟨hx.1, hx.2.1⟩
theorem _root_.Go.Cu.St.firsts {a b : Atm} (h : St W0 (a :: b :: L) W) : St W0 [a, b] W := ⟨h.below, let ⟨G, ha, G', hb, _⟩ := h.star; ⟨G, ha, G', hb, trivial⟩⟩
theorem blk_cell {g : Nat} {cs : Array Value} {t : TypeId} (h : St W0 (Blk g cs t :: L) W) (i : Nat) : W.cell? ⟨g, i, none⟩ = cs[i]? := cell_of_row W g i _ _ _ h.blk
end
end Go.Proofs.YthmchbdhikakhaaDoor
/- New, Zero, Clear, Foul of extents. -/
namespace Go.Proofs.YthmchbdhikakhaaDoor
open Go.RowKit Go.Cu
set_option maxHeartbeats 400000 in
theorem xnew_nil (f c s : Int) (w : World) : Calls Tryd.prog 5 #[.pointer none, .int .i64 f, .int .i64 c, .int .i64 s] w fun r w' => r = .returned (.tuple #[.pointer none, .int .i64 1]) ∧ w = w' := by
  go_enter Tryd.func5, Tryd.ntmps5
  go_wp2
  go_ret2
  exact ⟨rfl, rfl⟩
/-- Are the blocks there? -/
def fine (n f c s : Int) : Prop := 1 ≤ c ∧ 1 ≤ s ∧ 0 ≤ f ∧ c ≤ n ∧ s ≤ n ∧ f ≤ n - c * s
section
variable {W0 W : World} {L : List Atm} {p : Nat} {S : DS} {N : Nat}
set_option maxHeartbeats 1000000 in
theorem xnew_bad (h : St W0 (Disk p S :: L) W) (hok : S.Ok N) {f c s n : Int} (hn : n = S.now.length) (hb : ¬ fine n f c s) :
    Calls Tryd.prog 5 #[.pointer (some ⟨p, 0, none⟩), .int .i64 f, .int .i64 c, .int .i64 s] W fun r w' => r = .returned (.tuple #[.pointer none, .int .i64 1]) ∧ W = w' := by
  have hbig := hok.big
  have HS := hid (size_st h)
  rw [← hn] at HS
  have hn0 : 0 ≤ n := by omega
  have hn1 : n ≤ 8192 := by omega
  unfold fine at hb
  clear h hok hn hbig
  by_cases g0 : c < 1
  · clear hb
    go_enter Tryd.func5, Tryd.ntmps5
    go_wp2_with (go_at_call 13; (with_reducible refine HS.out.mono ?_); rintro x w' ⟨rfl, rfl⟩)
    go_ret2
    exact ⟨rfl, rfl⟩
  by_cases g1 : s < 1
  · clear hb
    go_enter Tryd.func5, Tryd.ntmps5
    go_wp2_with (go_at_call 13; (with_reducible refine HS.out.mono ?_); rintro x w' ⟨rfl, rfl⟩)
    go_ret2
    exact ⟨rfl, rfl⟩
  by_cases g2 : f < 0
  · clear hb
    go_enter Tryd.func5, Tryd.ntmps5
    go_wp2_with (go_at_call 13; (with_reducible refine HS.out.mono ?_); rintro x w' ⟨rfl, rfl⟩)
    go_ret2
    exact ⟨rfl, rfl⟩
  by_cases g3 : n < c
  · clear hb
    go_enter Tryd.func5, Tryd.ntmps5
    go_wp2_with (go_at_call 13; (with_reducible refine HS.out.mono ?_); rintro x w' ⟨rfl, rfl⟩)
    go_ret2
    exact ⟨rfl, rfl⟩
  by_cases g4 : n < s
  · clear hb
    go_enter Tryd.func5, Tryd.ntmps5
    go_wp2_with (go_at_call 13; (with_reducible refine HS.out.mono ?_); rintro x w' ⟨rfl, rfl⟩)
    go_ret2
    exact ⟨rfl, rfl⟩
  have hm1 : 0 ≤ c * s := Int.mul_nonneg (by omega) (by omega)
  have hm2 : c * s ≤ 8192 * 8192 := Int.mul_le_mul (by omega) (by omega) (by omega) (by omega)
  obtain ⟨m, hm⟩ : ∃ m, c * s = m := ⟨_, rfl⟩
  have g5 : n - m < f := Decidable.byContradiction fun hc => hb ⟨by omega, by omega, by omega, by omega, by omega, by omega⟩
  rw [hm] at hm1 hm2
  have hm3 : m ≤ 67108864 := hm2
  clear hb hm2
  go_enter Tryd.func5, Tryd.ntmps5
  go_wp2_with (go_at_call 13; (with_reducible refine HS.out.mono ?_); rintro x w' ⟨rfl, rfl⟩)
  go_ret2
  exact ⟨rfl, rfl⟩
set_option maxHeartbeats 1000000 in
theorem xnew_ok (h : St W0 (Disk p S :: L) W) {e : Ex} (he : e.Ok S.now.length) {f c s : Int} (hf : f = e.first) (hc : c = e.count) (hs : s = e.size) :
    Calls Tryd.prog 5 #[.pointer (some ⟨p, 0, none⟩), .int .i64 f, .int .i64 c, .int .i64 s] W fun r w' => ∃ x, r = .returned (.tuple #[.pointer (some ⟨x, 0, none⟩), .int .i64 0]) ∧ St W0 (Blk x (extV p e) 53 :: Disk p S :: L) w' := by
  obtain ⟨n, hn⟩ : ∃ n : Int, n = S.now.length := ⟨_, rfl⟩
  have HS := hid (size_st h)
  rw [← hn] at HS
  have h1 := he.c1
  have h2 := he.s1
  have h3 := he.c2
  have h4 := he.s2
  have h5 := he.fits
  have h6 := he.big
  have hm1 : c * s = (e.count * e.size : Nat) := by rw [hc, hs]; simp
  obtain ⟨m, hm⟩ : ∃ m, c * s = m := ⟨_, rfl⟩
  rw [hm] at hm1
  have g0 : ¬ c < 1 := by omega
  have g1 : ¬ s < 1 := by omega
  have g2 : ¬ f < 0 := by omega
  have g3 : ¬ n < c := by omega
  have g4 : ¬ n < s := by omega
  have g5 : ¬ n - m < f := by omega
  have g6 : n ≤ 8192 := by omega
  have g7 : 0 ≤ m := by omega
  have g8 : m ≤ 8192 := by omega
  have HH := hid h
  have HF := hid hf
  have HC := hid hc
  have HZ := hid hs
  clear h he hf hc hs h1 h2 h3 h4 h5 h6 hm1 hn
  go_enter Tryd.func5, Tryd.ntmps5
  go_wp2_with (go_at_call 13; (with_reducible refine HS.out.mono ?_); rintro x w' ⟨rfl, rfl⟩)
  go_ret2
  refine ⟨_, rfl, HH.out.newBlk ((Below.refl _ _).alloc (Nat.le_refl _) _) (Nat.le_refl _) ?_⟩
  rw [show extV p e = #[.pointer (some ⟨p, 0, none⟩), .int .i64 f, .int .i64 c, .int .i64 s] by unfold extV; rw [HF.out, HC.out, HZ.out]]
  exact heap_alloc_at _ _ rfl
end
end Go.Proofs.YthmchbdhikakhaaDoor
/- Zero of extents. -/
namespace Go.Proofs.YthmchbdhikakhaaDoor
open Go.RowKit Go.Cu
theorem zeros_stop {S : DS} {m p : Nat} (h : (S.zstep p).2 ≠ 0) : S.zeros (m + 1) p = S.zstep p := by
  rw [DS.zeros, if_pos h]
theorem zeros_go {S : DS} {m p : Nat} (h : (S.zstep p).2 = 0) : S.zeros (m + 1) p = (S.zstep p).1.zeros m (p + 1) := by
  rw [DS.zeros, if_neg (by rw [h]; decide)]
section
variable {W0 W : World} {L : List Atm} {p x : Nat} {S : DS} {N : Nat} {e : Ex}
theorem zero_out (h : St W0 (Disk p S :: Blk x (extV p e) 53 :: L) W) {n : Nat} (he : e.Ok n) {i : Int} (hi : i < 0 ∨ (e.count : Int) ≤ i) :
    Calls Tryd.prog 10 #[.pointer (some ⟨x, 0, none⟩), .int .i64 i] W fun r w' => r = .returned (.int .i64 1) ∧ W = w' := by
  have HA := hid (area_out h.at2.blk he hi)
  clear h he hi
  go_enter Tryd.func10, Tryd.ntmps10
  go_wp2_with (go_at_call 7; (with_reducible refine HA.out.mono ?_); rintro r w1 ⟨rfl, rfl⟩)
  go_ret
  exact ⟨rfl, rfl⟩
theorem zero_nil (i : Int) (w : World) : Calls Tryd.prog 10 #[.pointer none, .int .i64 i] w fun r w' => r = .returned (.int .i64 1) ∧ w = w' := by
  go_enter Tryd.func10, Tryd.ntmps10
  go_wp2_with (go_at_call 7; (with_reducible refine (area_nil _ _).mono ?_); rintro r w1 ⟨rfl, rfl⟩)
  go_ret
  exact ⟨rfl, rfl⟩
set_option maxRecDepth 20000 in
set_option maxHeartbeats 4000000 in
theorem zero_st (h : St W0 (Disk p S :: Blk x (extV p e) 53 :: L) W) (hok : S.Ok N) (he : e.Ok S.now.length) (hN : N + e.size ≤ 1000000) {i : Nat} (hi : i < e.count) :
    Calls Tryd.prog 10 #[.pointer (some ⟨x, 0, none⟩), .int .i64 i] W fun r w' => r = .returned (.int .i64 (S.zeros e.size (e.first + i * e.size)).2) ∧ St W0 (Disk p (S.zeros e.size (e.first + i * e.size)).1 :: Blk x (extV p e) 53 :: L) w' := by
  have HA := hid (area_in h.at2.blk he hi)
  have hin := he.within hi
  have hbig := he.big
  have HH := hid h
  have HOK := hid hok
  obtain ⟨pos, hpos⟩ : ∃ pos, pos = e.first + i * e.size := ⟨_, rfl⟩
  rw [← hpos] at HA hin ⊢
  obtain ⟨R, hR⟩ : ∃ R, R = S.zeros e.size pos := ⟨_, rfl⟩
  rw [← hR]
  have HR := hid hR
  have BZ := fun W => run_buildK (build33 W)
  have hcs := he.s2
  clear h hok he hi hpos hR
  go_enter Tryd.func10, Tryd.ntmps10
  go_wp2_with (go_at_call 7; (with_reducible refine HA.out.mono ?_); rintro r w1 ⟨rfl, hb1⟩; have H1 := hid (HH.out.turn hb1); clear hb1)
  clear HH
  go_loopw [22] (fun v X => ∃ k : Nat, k ≤ e.size ∧ v = .int .i64 k ∧ ∃ T : DS, Hid (T.zeros (e.size - k) (pos + k) = R) ∧ Hid (T.Ok (N + k)) ∧ Hid (T.now.length = S.now.length) ∧ Hid (St W0 (Disk p T :: Blk x (extV p e) 53 :: L) X)) (fun v _ => e.size - (intOf v).toNat)
  case atStart => exact ⟨0, by omega, rfl, S, hid HR.out.symm, HOK, hid rfl, H1⟩
  case round =>
    clear H1
    obtain ⟨k, hk, rfl, T, HZ, HTO, HTL, HS⟩ := hrel
    obtain ⟨x0, x1, x2, x3⟩ := ext_cells HS.out.at2.blk
    clear x1 x2 x3
    by_cases hlt : k < e.size
    · have e1 : (k : Int) < (e.size : Int) := by omega
      obtain ⟨m, hm⟩ : ∃ m, e.size - k = m + 1 := ⟨e.size - k - 1, by omega⟩
      rw [hm] at HZ
      have HM := hid (show e.size - (k + 1) = m by omega)
      obtain ⟨pk, hpk⟩ : ∃ pk : Nat, pk = pos + k := ⟨_, rfl⟩
      have hpl : pk < T.now.length := by rw [HTL.out]; omega
      have epk : (pos : Int) + (k : Int) = (pk : Int) := by omega
      rw [← hpk] at HZ
      have HPK := hid hpk
      have hpk2 : pk + 1 = pos + (k + 1) := by omega
      have HPK2 := hid hpk2
      clear hpk hm hpk2
      cases ho : T.off
      · have hat : T.at_ (pk : Int) = 0 := by rw [at_in hpl, ho]; rfl
        obtain ⟨V, hV⟩ : ∃ V, V = T.now.getD pk zeroB := ⟨_, rfl⟩
        have HVL := hid (show V.length = 128 by rw [hV]; exact full_getD HTO.out.now _)
        have HVZ := hid ((bv_size V).trans HVL.out)
        have HRD := hid (show ∀ X, St W0 (Disk p T :: Blk x (extV p e) 53 :: L) X → Calls Tryd.prog 22 #[.pointer (some ⟨p, 0, none⟩), .int .i64 pk] X fun x' X' => x' = .returned (.tuple #[.agg (bv V), .int .i64 0]) ∧ St W0 (Disk p T :: Blk x (extV p e) 53 :: L) X' from fun X h => (read_rd h HTO.out _).mono fun x' X' hx => ⟨by rw [hx.1, hat, hV]; unfold DS.rd; rw [if_pos hat, Int.toNat_natCast], hx.2⟩)
        have CM := fun (x y : Operand) (W : World) => run_cmpK_neq (P := Tryd.prog) guard33 Tryd.underlying64 be5 cells5 HVL.out zeroB_len x y W
        by_cases hz : V = zeroB
        · have HST := hid (show T.zstep pk = (T, 0) by unfold DS.zstep; rw [if_neg (by simpa using hat), if_pos (by rw [← hV]; exact hz)])
          simp only [hz, decide_true, Bool.not_true] at CM
          subst hz
          clear hV hat ho
          go_wp2_with (first | (go_at_call 22; (with_reducible refine (HRD.out _ HS.out).mono ?_); rintro x' w6 ⟨rfl, hs6⟩; have HS6 := hid hs6; clear hs6) | (refine wpList_alloc 64 rfl rfl (.agg (bv zeroB)) zero33 ?_; intro gA W7 hA hal hag hW7) | (refine wpList_store_box 64 _ _ rfl gA rfl rfl (bv zeroB) rfl 128 size33 HVZ.out (bv_one _) 64 _ hA bvz ?_; intro W8 hA8 hT8 hs8; have H5 := hid ((HS6.out.newBlk hW7 hag hA).put hA8 hT8).back3; have LA : (loadK 64 (.pointer (some ⟨gA, 0, none⟩))).run Tryd.prog W8 = .ok (.value (.agg (bv zeroB))) W8 := run_loadK_box hA8 Tryd.underlying64 rfl size33 HVZ.out; have y0 : W8.cell? ⟨x, 0, none⟩ = some (.pointer (some ⟨p, 0, none⟩)) := (ext_cells H5.out.at2.blk).1))
          go_roundw
          case rel => exact ⟨k + 1, by omega, by go_num, T, hid (by rw [HM.out, ← HPK2.out]; have := HZ.out; rw [zeros_go (by rw [HST.out]), HST.out] at this; exact this), hid (HTO.out.mono (by omega)), HTL, hid H5.out.drop3⟩
          case measure => simp [intOf]; omega
        · have HST := hid (show T.zstep pk = T.write (pk : Int) zeroB by unfold DS.zstep; rw [if_neg (by simpa using hat), if_neg (by rw [← hV]; exact hz)])
          simp only [hz, decide_false, Bool.not_false] at CM
          rcases (write_in ho hpl zeroB).2.2.2.1 with ⟨ha, _⟩ | ⟨ha, _⟩
          · have HA0 := hid ha
            clear hV hat ho hz ha
            go_wp2_with (first | (go_at_call 22; (with_reducible refine (HRD.out _ HS.out).mono ?_); rintro x' w6 ⟨rfl, hs6⟩; have HS6 := hid hs6; clear hs6) | (refine wpList_alloc 64 rfl rfl (.agg (bv zeroB)) zero33 ?_; intro gA W7 hA hal hag hW7) | (refine wpList_store_box 64 _ _ rfl gA rfl rfl (bv V) rfl 128 size33 HVZ.out (bv_one _) 64 _ hA bvz ?_; intro W8 hA8 hT8 hs8; have H5 := hid ((HS6.out.newBlk hW7 hag hA).put hA8 hT8).back3; have LA : (loadK 64 (.pointer (some ⟨gA, 0, none⟩))).run Tryd.prog W8 = .ok (.value (.agg (bv V))) W8 := run_loadK_box hA8 Tryd.underlying64 rfl size33 HVZ.out; have y0 : W8.cell? ⟨x, 0, none⟩ = some (.pointer (some ⟨p, 0, none⟩)) := (ext_cells H5.out.at2.blk).1) | (go_at_call 19; (with_reducible refine (write_st H5.out HTO.out (by omega) _ zeroB_len).mono ?_); rintro x' w9 ⟨hx, hs9⟩; rw [HA0.out] at hx; subst hx; have H6 := hid hs9; clear hs9))
            go_roundw
            case rel => exact ⟨k + 1, by omega, by go_num, (T.write (pk : Int) zeroB).1, hid (by rw [HM.out, ← HPK2.out]; have := HZ.out; rw [zeros_go (by rw [HST.out]; exact HA0.out), HST.out] at this; exact this), hid (HTO.out.write _ zeroB_len), hid ((write_len' T _ _).trans HTL.out), hid H6.out.drop3⟩
            case measure => simp [intOf]; omega
          · have HA0 := hid ha
            clear hV hat ho hz ha
            go_wp2_with (first | (go_at_call 22; (with_reducible refine (HRD.out _ HS.out).mono ?_); rintro x' w6 ⟨rfl, hs6⟩; have HS6 := hid hs6; clear hs6) | (refine wpList_alloc 64 rfl rfl (.agg (bv zeroB)) zero33 ?_; intro gA W7 hA hal hag hW7) | (refine wpList_store_box 64 _ _ rfl gA rfl rfl (bv V) rfl 128 size33 HVZ.out (bv_one _) 64 _ hA bvz ?_; intro W8 hA8 hT8 hs8; have H5 := hid ((HS6.out.newBlk hW7 hag hA).put hA8 hT8).back3; have LA : (loadK 64 (.pointer (some ⟨gA, 0, none⟩))).run Tryd.prog W8 = .ok (.value (.agg (bv V))) W8 := run_loadK_box hA8 Tryd.underlying64 rfl size33 HVZ.out; have y0 : W8.cell? ⟨x, 0, none⟩ = some (.pointer (some ⟨p, 0, none⟩)) := (ext_cells H5.out.at2.blk).1) | (go_at_call 19; (with_reducible refine (write_st H5.out HTO.out (by omega) _ zeroB_len).mono ?_); rintro x' w9 ⟨hx, hs9⟩; rw [HA0.out] at hx; subst hx; have H6 := hid hs9; clear hs9))
            go_ret
            have hz := HZ.out
            rw [zeros_stop (by rw [HST.out, HA0.out]; decide), HST.out] at hz
            rw [← hz, HA0.out]
            exact ⟨rfl, H6.out.drop3⟩
      · have hat : T.at_ (pk : Int) = 13 := by rw [at_in hpl, ho]; rfl
        have HST := hid (show T.zstep pk = (T, 13) by unfold DS.zstep; rw [if_pos (by rw [hat]; decide), hat])
        obtain ⟨V, hV⟩ : ∃ V, V = zeroB := ⟨_, rfl⟩
        have HVL := hid (show V.length = 128 by rw [hV]; exact zeroB_len)
        have HVZ := hid ((bv_size V).trans HVL.out)
        have HRD := hid (show ∀ X, St W0 (Disk p T :: Blk x (extV p e) 53 :: L) X → Calls Tryd.prog 22 #[.pointer (some ⟨p, 0, none⟩), .int .i64 pk] X fun x' X' => x' = .returned (.tuple #[.agg (bv V), .int .i64 13]) ∧ St W0 (Disk p T :: Blk x (extV p e) 53 :: L) X' from fun X h => (read_rd h HTO.out _).mono fun x' X' hx => ⟨by rw [hx.1, hat, hV]; unfold DS.rd; rw [if_neg (by rw [hat]; decide)], hx.2⟩)
        clear hV hat ho
        go_wp2_with (first | (go_at_call 22; (with_reducible refine (HRD.out _ HS.out).mono ?_); rintro x' w6 ⟨rfl, hs6⟩; have HS6 := hid hs6; clear hs6) | (refine wpList_alloc 64 rfl rfl (.agg (bv zeroB)) zero33 ?_; intro gA W7 hA hal hag hW7) | (refine wpList_store_box 64 _ _ rfl gA rfl rfl (bv V) rfl 128 size33 HVZ.out (bv_one _) 64 _ hA bvz ?_; intro W8 hA8 hT8 hs8; have H5 := hid ((HS6.out.newBlk hW7 hag hA).put hA8 hT8).back3; have LA : (loadK 64 (.pointer (some ⟨gA, 0, none⟩))).run Tryd.prog W8 = .ok (.value (.agg (bv V))) W8 := run_loadK_box hA8 Tryd.underlying64 rfl size33 HVZ.out; have y0 : W8.cell? ⟨x, 0, none⟩ = some (.pointer (some ⟨p, 0, none⟩)) := (ext_cells H5.out.at2.blk).1))
        go_ret
        have hz := HZ.out
        rw [zeros_stop (by rw [HST.out]; simp), HST.out] at hz
        rw [← hz]
        exact ⟨rfl, H5.out.drop3⟩
    · have e1 : ¬ (k : Int) < (e.size : Int) := by omega
      have e2 : k = e.size := by omega
      have HE := hid (show T.sync = R by have := HZ.out; rw [e2, Nat.sub_self] at this; exact this)
      clear e2
      go_wp2_with (go_at_call 21; (with_reducible refine (sync_st HS.out HTO.out (by omega)).mono ?_); rintro x' w5 ⟨rfl, hs5⟩; have HS5 := hid hs5; clear hs5)
      go_ret
      have h5 := HS5.out
      rw [HE.out] at h5 ⊢
      exact ⟨rfl, h5⟩
end
end Go.Proofs.YthmchbdhikakhaaDoor
/- Clear and Foul of extents; the story of them. -/
namespace Go.Proofs.YthmchbdhikakhaaDoor
open Go.RowKit Go.Cu
theorem clear_nil (i : Int) (w : World) : Calls Tryd.prog 12 #[.pointer none, .int .i64 i] w fun r w' => r = .returned (.tuple #[.bool false, .int .i64 1]) ∧ w = w' := by
  go_enter Tryd.func12, Tryd.ntmps12
  go_wp2_with (go_at_call 7; (with_reducible refine (area_nil _ _).mono ?_); rintro r w1 ⟨rfl, rfl⟩)
  go_ret2
  exact ⟨rfl, rfl⟩
section
variable {W0 W : World} {L : List Atm} {p x : Nat} {S : DS} {N : Nat} {e : Ex}
set_option maxRecDepth 20000 in
set_option maxHeartbeats 4000000 in
theorem clear_st (h : St W0 (Disk p S :: Blk x (extV p e) 53 :: L) W) (hok : S.Ok N) (he : e.Ok S.now.length) (ho : S.off = false) {i : Nat} (hi : i < e.count) :
    Calls Tryd.prog 12 #[.pointer (some ⟨x, 0, none⟩), .int .i64 i] W fun r w' => r = .returned (.tuple #[.bool (S.clear (e.first + i * e.size) e.size), .int .i64 0]) ∧ St W0 (Disk p S :: Blk x (extV p e) 53 :: L) w' := by
  have HA := hid (area_in h.at2.blk he hi)
  have hin := he.within hi
  have hbig := he.big
  have HH := hid h
  have HOK := hid hok
  obtain ⟨pos, hpos⟩ : ∃ pos, pos = e.first + i * e.size := ⟨_, rfl⟩
  rw [← hpos] at HA hin ⊢
  obtain ⟨R, hR⟩ : ∃ R, R = S.clear pos e.size := ⟨_, rfl⟩
  rw [← hR]
  have HR := hid hR
  have BZ := fun W => run_buildK (build33 W)
  have hcs := he.s2
  have HO := hid ho
  clear h hok he hi hpos hR ho
  go_enter Tryd.func12, Tryd.ntmps12
  go_wp2_with (go_at_call 7; (with_reducible refine HA.out.mono ?_); rintro r w1 ⟨rfl, hb1⟩; have H1 := hid (HH.out.turn hb1); clear hb1)
  clear HH
  go_loopw [23] (fun v X => ∃ k : Nat, k ≤ e.size ∧ v = .int .i64 k ∧ Hid (∀ j, j < k → S.now.getD (pos + j) zeroB = zeroB) ∧ Hid (St W0 (Disk p S :: Blk x (extV p e) 53 :: L) X)) (fun v _ => e.size - (intOf v).toNat)
  case atStart => exact ⟨0, by omega, rfl, hid (fun j hj => absurd hj (by omega)), H1⟩
  case round =>
    clear H1
    obtain ⟨k, hk, rfl, HZ, HS⟩ := hrel
    obtain ⟨x0, x1, x2, x3⟩ := ext_cells HS.out.at2.blk
    clear x1 x2 x3
    by_cases hlt : k < e.size
    · have e1 : (k : Int) < (e.size : Int) := by omega
      obtain ⟨pk, hpk⟩ : ∃ pk : Nat, pk = pos + k := ⟨_, rfl⟩
      have hpl : pk < S.now.length := by omega
      have epk : (pos : Int) + (k : Int) = (pk : Int) := by omega
      have HPK := hid hpk
      have hat : S.at_ (pk : Int) = 0 := by rw [at_in hpl, HO.out]; rfl
      obtain ⟨V, hV⟩ : ∃ V, V = S.now.getD pk zeroB := ⟨_, rfl⟩
      have HVL := hid (show V.length = 128 by rw [hV]; exact full_getD HOK.out.now _)
      have HVZ := hid ((bv_size V).trans HVL.out)
      have HRD := hid (show ∀ X, St W0 (Disk p S :: Blk x (extV p e) 53 :: L) X → Calls Tryd.prog 22 #[.pointer (some ⟨p, 0, none⟩), .int .i64 pk] X fun x' X' => x' = .returned (.tuple #[.agg (bv V), .int .i64 0]) ∧ St W0 (Disk p S :: Blk x (extV p e) 53 :: L) X' from fun X h => (read_rd h HOK.out _).mono fun x' X' hx => ⟨by rw [hx.1, hat, hV]; unfold DS.rd; rw [if_pos hat, Int.toNat_natCast], hx.2⟩)
      have CM := fun (x y : Operand) (W : World) => run_cmpK_neq (P := Tryd.prog) guard33 Tryd.underlying64 be5 cells5 HVL.out zeroB_len x y W
      have HVV := hid (show V = S.now.getD (pos + k) zeroB by rw [hV, hpk])
      clear hpk
      by_cases hz : V = zeroB
      · simp only [hz, decide_true, Bool.not_true] at CM
        have HK := hid (show ∀ j, j < k + 1 → S.now.getD (pos + j) zeroB = zeroB from fun j hj => by
          by_cases h1 : j < k
          · exact HZ.out j h1
          · have : j = k := by omega
            rw [this, ← HVV.out]; exact hz)
        subst hz
        clear hV hat HVV
        go_wp2_with (first | (go_at_call 22; (with_reducible refine (HRD.out _ HS.out).mono ?_); rintro x' w6 ⟨rfl, hs6⟩; have HS6 := hid hs6; clear hs6) | (refine wpList_alloc 64 rfl rfl (.agg (bv zeroB)) zero33 ?_; intro gA W7 hA hal hag hW7) | (refine wpList_store_box 64 _ _ rfl gA rfl rfl (bv zeroB) rfl 128 size33 HVZ.out (bv_one _) 64 _ hA bvz ?_; intro W8 hA8 hT8 hs8; have H5 := hid ((HS6.out.newBlk hW7 hag hA).put hA8 hT8).back3; have LA : (loadK 64 (.pointer (some ⟨gA, 0, none⟩))).run Tryd.prog W8 = .ok (.value (.agg (bv zeroB))) W8 := run_loadK_box hA8 Tryd.underlying64 rfl size33 HVZ.out))
        go_roundw
        case rel => exact ⟨k + 1, by omega, by go_num, HK, hid H5.out.drop3⟩
        case measure => simp [intOf]; omega
      · simp only [hz, decide_false, Bool.not_false] at CM
        have HF := hid (show R = false by
          rw [HR.out]
          cases hc : S.clear pos e.size with
          | false => rfl
          | true => exact absurd (HVV.out.trans (clear_iff.1 hc k hlt)) hz)
        clear hV hat HVV hz
        go_wp2_with (first | (go_at_call 22; (with_reducible refine (HRD.out _ HS.out).mono ?_); rintro x' w6 ⟨rfl, hs6⟩; have HS6 := hid hs6; clear hs6) | (refine wpList_alloc 64 rfl rfl (.agg (bv zeroB)) zero33 ?_; intro gA W7 hA hal hag hW7) | (refine wpList_store_box 64 _ _ rfl gA rfl rfl (bv V) rfl 128 size33 HVZ.out (bv_one _) 64 _ hA bvz ?_; intro W8 hA8 hT8 hs8; have H5 := hid ((HS6.out.newBlk hW7 hag hA).put hA8 hT8).back3; have LA : (loadK 64 (.pointer (some ⟨gA, 0, none⟩))).run Tryd.prog W8 = .ok (.value (.agg (bv V))) W8 := run_loadK_box hA8 Tryd.underlying64 rfl size33 HVZ.out))
        go_ret2
        rw [HF.out]
        exact ⟨rfl, H5.out.drop3⟩
    · have e1 : ¬ (k : Int) < (e.size : Int) := by omega
      have HT := hid (show R = true by
        rw [HR.out, clear_iff]
        exact fun j hj => HZ.out j (by omega))
      go_wp2
      go_ret2
      rw [HT.out]
      exact ⟨rfl, HS.out⟩
end
end Go.Proofs.YthmchbdhikakhaaDoor
/- Foul of extents; the story of them. -/
namespace Go.Proofs.YthmchbdhikakhaaDoor
open Go.RowKit Go.Cu
theorem info3 : (Tryd.prog.info? 3).map (fun i => (i.zero, i.size, i.bytes)) = some (some (.int .i64 0), 1, 8) := by kernel_rfl
theorem zero3 (W : World) : (zeroValue 3).run Tryd.prog W = .ok (.int .i64 0) W := by kernel_rfl
/-- Numbers as cells. -/
def numV (l : List Nat) : List Value := l.map fun (i : Nat) => Value.int .i64 (i : Int)
def _root_.Go.Cu.DS.foul (S : DS) (e : Ex) (k : Nat) : List Nat := (List.range k).filter fun i => !S.clear (e.first + i * e.size) e.size
theorem foul_step (S : DS) (e : Ex) (k : Nat) : S.foul e (k + 1) = if S.clear (e.first + k * e.size) e.size = true then S.foul e k else S.foul e k ++ [k] := by
  unfold DS.foul
  rw [List.range_succ, List.filter_append]
  cases h : S.clear (e.first + k * e.size) e.size <;> simp [h]
theorem foul_le (S : DS) (e : Ex) (k : Nat) : (S.foul e k).length ≤ k := by
  unfold DS.foul
  exact Nat.le_trans (List.length_filter_le _ _) (by simp)
section
variable {W0 W : World} {L : List Atm} {p x : Nat} {S : DS} {N : Nat} {e : Ex}
end
end Go.Proofs.YthmchbdhikakhaaDoor
/- ExtentAreas: the walk. -/
namespace Go.Proofs.YthmchbdhikakhaaDoor
open Go.RowKit Go.Cu
theorem of_at {e : Ex} {n : Nat} (_he : e.Ok n) {i k : Nat} (hi : i < e.count) (hk : k < e.size) {b : Int} (hb : (e.first + i * e.size + k : Nat) = b) : e.of b = i := by
  have h1 : (i + 1) * e.size ≤ e.count * e.size := Nat.mul_le_mul_right _ hi
  rw [Nat.succ_mul] at h1
  unfold Ex.of
  rw [if_neg (by omega)]
  have h2 : b - (e.first : Int) = ((i * e.size + k : Nat) : Int) := by omega
  rw [h2, ← Int.natCast_ediv]
  congr 1
  rw [Nat.mul_comm, Nat.mul_add_div (by omega), Nat.div_eq_of_lt hk, Nat.add_zero]
theorem of_none {e : Ex} {n : Nat} (he : e.Ok n) {b : Int} (h : ∀ i, i < e.count → ∀ k, k < e.size → ((e.first + i * e.size + k : Nat) : Int) ≠ b) : e.of b = -1 := by
  unfold Ex.of
  by_cases hin : b < e.first ∨ (e.first : Int) + (e.count * e.size : Nat) ≤ b
  · rw [if_pos hin]
  · exfalso
    have hs := he.s1
    obtain ⟨d, hd⟩ : ∃ d : Nat, (d : Int) = b - e.first := ⟨(b - e.first).toNat, by omega⟩
    have hlt : d < e.count * e.size := by omega
    refine h (d / e.size) ((Nat.div_lt_iff_lt_mul (by omega)).2 hlt) (d % e.size) (Nat.mod_lt _ (by omega)) ?_
    have := Nat.div_add_mod d e.size
    rw [Nat.mul_comm] at this
    omega
end Go.Proofs.YthmchbdhikakhaaDoor
/- What a journal reckons: blocks, whether the blocks are there. -/
namespace Go.Proofs.YthmchbdhikakhaaDoor
open Go.RowKit Go.Cu
/-- Blocks of a number of bytes, whatever it is. -/
def blocksI (s : Int) : Int := if s < 0 ∨ 65535 < s then 0 else blocksN s.toNat
theorem blocksI_nat {n : Nat} (h : n ≤ 65535) : blocksI n = blocksN n := by
  unfold blocksI
  rw [if_neg (by omega), Int.toNat_natCast]
set_option maxHeartbeats 400000 in
theorem blocks_any (s : Int) (w : World) : Calls Tryd.prog 17 #[.int .i64 s] w fun r w' => r = .returned (.int .i64 (blocksI s)) ∧ w = w' := by
  unfold blocksI
  by_cases h1 : s < 0
  · rw [if_pos (.inl h1)]
    go_enter Tryd.func17, Tryd.ntmps17
    go_wp2
    go_ret
    exact ⟨rfl, rfl⟩
  · by_cases h2 : 65535 < s
    · rw [if_pos (.inr h2)]
      go_enter Tryd.func17, Tryd.ntmps17
      go_wp2
      go_ret
      exact ⟨rfl, rfl⟩
    · rw [if_neg (by omega)]
      have h0 : 0 ≤ s := by omega
      have h3 : s ≤ 65535 := by omega
      obtain ⟨q, hq⟩ : ∃ q : Int, (s + 117 - 1) / 117 = q := ⟨_, rfl⟩
      have hq0 : 0 ≤ q := by omega
      have hq1 : q ≤ 561 := by omega
      have HB := hid (show ((blocksN s.toNat : Nat) : Int) = max q 1 by unfold blocksN; omega)
      by_cases h4 : 1 ≤ q
      · have HM := hid (show max q 1 = q by omega)
        go_enter Tryd.func17, Tryd.ntmps17
        go_wp2
        go_ret
        rw [HB.out, HM.out]
        exact ⟨rfl, rfl⟩
      · have HM := hid (show max q 1 = 1 by omega)
        go_enter Tryd.func17, Tryd.ntmps17
        go_wp2
        go_ret
        rw [HB.out, HM.out]
        exact ⟨rfl, rfl⟩
/-- Are the blocks there? -/
def fitsI (n f s : Int) : Prop := 0 ≤ f ∧ 1 ≤ s ∧ s ≤ n ∧ f ≤ n - s
section
variable {W0 W : World} {L : List Atm} {p : Nat} {S : DS} {N : Nat}
set_option maxHeartbeats 400000 in
theorem fits_nil (f s : Int) (w : World) : Calls Tryd.prog 15 #[.pointer none, .int .i64 f, .int .i64 s] w fun r w' => r = .returned (.bool false) ∧ w = w' := by
  go_enter Tryd.func15, Tryd.ntmps15
  go_wp2
  go_ret
  exact ⟨rfl, rfl⟩
set_option maxHeartbeats 1000000 in
theorem fits_bad (h : St W0 (Disk p S :: L) W) (hok : S.Ok N) {f s n : Int} (hn : n = S.now.length) (hb : ¬ fitsI n f s) :
    Calls Tryd.prog 15 #[.pointer (some ⟨p, 0, none⟩), .int .i64 f, .int .i64 s] W fun r w' => r = .returned (.bool false) ∧ W = w' := by
  unfold fitsI at hb
  have hbig := hok.big
  have HS := hid (size_st h)
  rw [← hn] at HS
  have hn0 : 0 ≤ n := by omega
  have hn1 : n ≤ 8192 := by omega
  clear h hok hn hbig
  by_cases g0 : 0 ≤ f
  rotate_left
  · clear hb
    go_enter Tryd.func15, Tryd.ntmps15
    go_wp2_with (go_at_call 13; (with_reducible refine HS.out.mono ?_); rintro x w' ⟨rfl, rfl⟩)
    go_ret
    exact ⟨rfl, rfl⟩
  by_cases g1 : 1 ≤ s
  rotate_left
  · clear hb
    go_enter Tryd.func15, Tryd.ntmps15
    go_wp2_with (go_at_call 13; (with_reducible refine HS.out.mono ?_); rintro x w' ⟨rfl, rfl⟩)
    go_ret
    exact ⟨rfl, rfl⟩
  by_cases g2 : s ≤ n
  rotate_left
  · clear hb
    go_enter Tryd.func15, Tryd.ntmps15
    go_wp2_with (go_at_call 13; (with_reducible refine HS.out.mono ?_); rintro x w' ⟨rfl, rfl⟩)
    go_ret
    exact ⟨rfl, rfl⟩
  have g3 : ¬ f ≤ n - s := fun hc => hb ⟨g0, g1, g2, hc⟩
  clear hb
  go_enter Tryd.func15, Tryd.ntmps15
  go_wp2_with (go_at_call 13; (with_reducible refine HS.out.mono ?_); rintro x w' ⟨rfl, rfl⟩)
  go_ret
  exact ⟨congrArg (fun b => Ending.returned (.bool b)) (decide_eq_false (by omega)), rfl⟩
set_option maxHeartbeats 1000000 in
theorem fits_ok (h : St W0 (Disk p S :: L) W) (hok : S.Ok N) {f s n : Int} (hn : n = S.now.length) (hb : fitsI n f s) :
    Calls Tryd.prog 15 #[.pointer (some ⟨p, 0, none⟩), .int .i64 f, .int .i64 s] W fun r w' => r = .returned (.bool true) ∧ W = w' := by
  obtain ⟨g0, g1, g2, g3⟩ := hb
  have hbig := hok.big
  have HS := hid (size_st h)
  rw [← hn] at HS
  have hn0 : 0 ≤ n := by omega
  have hn1 : n ≤ 8192 := by omega
  clear h hok hn hbig
  go_enter Tryd.func15, Tryd.ntmps15
  go_wp2_with (go_at_call 13; (with_reducible refine HS.out.mono ?_); rintro x w' ⟨rfl, rfl⟩)
  go_ret
  exact ⟨rfl, rfl⟩
end
end Go.Proofs.YthmchbdhikakhaaDoor
/- What DiskLasts asks, plainly. -/
namespace Go.Proofs.YthmchbdhikakhaaDoor
open Go.RowKit Go.Cu
theorem write_plain {S : DS} (ho : S.off = false) (ha : S.armed = 0) {i : Nat} (hi : i < S.now.length) (b : Bk) : S.write (i : Int) b = (S.put i b, 0) := by
  have hz : S.at_ (i : Int) = 0 := by
    unfold DS.at_
    rw [ho]
    simp only [Bool.false_eq_true, if_false]
    rw [if_neg (by omega)]
  unfold DS.write
  rw [if_neg (by simpa using hz), Int.toNat_natCast]
  exact DS.put_tick0 ha
structure Good1 (first : List UInt8) (k : Nat) (S : DS) : Prop where
  ok : S.Ok k
  td : S.Tied
  off : S.off = false
  arm : S.armed = 0
  len : S.now.length = 8
  now : ∀ i, i < 8 → S.now.getD i zeroB = if i < k then oneB (first.getD i 0) else zeroB
theorem good1_start (first : List UInt8) : Good1 first 0 (DS.new 8) := by
  refine ⟨DS.Ok.new (by decide), DS.Tied.new 8, rfl, rfl, by simp [DS.new], fun i hi => ?_⟩
  rw [if_neg (by omega)]
  show (List.replicate 8 zeroB).getD i zeroB = zeroB
  rw [List.getD_eq_getElem?_getD, List.getElem?_replicate, if_pos hi]
  rfl
theorem good1_step {first : List UInt8} {k : Nat} {S : DS} (h : Good1 first k S) (hk : k < 8) : Good1 first (k + 1) (S.write (k : Int) (oneB (first.getD k 0))).1 := by
  have hl : k < S.now.length := by rw [h.len]; exact hk
  rw [write_plain h.off h.arm hl]
  refine ⟨h.ok.put hl (oneB_len _), h.td.put _ _, h.off, h.arm, by simpa [DS.put] using h.len, fun i hi => ?_⟩
  show (S.now.set k (oneB (first.getD k 0))).getD i zeroB = _
  rw [List.getD_eq_getElem?_getD]
  by_cases e : k = i
  · subst e
    rw [List.getElem?_set_self hl, if_pos (by omega)]
    rfl
  · rw [List.getElem?_set_ne e, ← List.getD_eq_getElem?_getD, h.now i hi]
    by_cases h1 : i < k
    · rw [if_pos h1, if_pos (by omega)]
    · rw [if_neg h1, if_neg (by omega)]
structure Good2 (first : List UInt8) (t : List Bool) (N : Nat) (S : DS) : Prop where
  ok : S.Ok N
  off : S.off = false
  arm : S.armed = 0
  len : S.now.length = 8
  tl : t.length = 8
  wait : ∀ p ∈ S.wait, t.getD p.1 false = true
  now : ∀ i, i < 8 → t.getD i false = false → S.now.getD i zeroB = oneB (first.getD i 0) ∧ S.last.getD i zeroB = oneB (first.getD i 0)
theorem oneB_zero : oneB 0 = zeroB := rfl
theorem good2_start {first : List UInt8} {k : Nat} {S : DS} (h : Good1 first k S) (hk : k = 8 ∨ first.length ≤ k) : Good2 first (List.replicate 8 false) k S.sync.1 ∧ S.sync.2 = 0 := by
  have hall : ∀ i, i < 8 → S.now.getD i zeroB = oneB (first.getD i 0) := fun i hi => by
    rw [h.now i hi]
    by_cases h1 : i < k
    · rw [if_pos h1]
    · rw [if_neg h1, List.getD_eq_getElem?_getD, List.getElem?_eq_none (by omega)]
      rfl
  have e : S.sync = (S.settle fun _ => true, 0) := by simp [DS.sync, h.off]
  rw [e]
  have e1 : (S.settle fun _ => true).now = S.now := (settle_now h.td h.ok.len _).trans (by show lastOf _ 0 S.wait S.last = S.now; exact h.td.now.symm)
  have e2 : (S.settle fun _ => true).last = S.now := h.td.now.symm
  refine ⟨⟨h.ok.settle _, h.off, h.arm, by rw [e1]; exact h.len, by simp, fun p hp => by simp [DS.settle] at hp, fun i hi _ => ⟨by rw [e1]; exact hall i hi, by rw [e2]; exact hall i hi⟩⟩, rfl⟩
theorem good2_step {first : List UInt8} {t : List Bool} {N : Nat} {S : DS} (h : Good2 first t N S) {a : Nat} (ha : a < 8) {b : Bk} (hb : b.length = 128) : Good2 first (t.set a true) (N + 1) (S.write (a : Int) b).1 := by
  have hl : a < S.now.length := by rw [h.len]; exact ha
  have htl := h.tl
  rw [write_plain h.off h.arm hl]
  have hset : ∀ i, (t.set a true).getD i false = true ↔ (i = a ∨ t.getD i false = true) := fun i => by
    rw [List.getD_eq_getElem?_getD, List.getD_eq_getElem?_getD]
    by_cases e : a = i
    · subst e
      rw [List.getElem?_set_self (by omega)]
      simp
    · rw [List.getElem?_set_ne e]
      exact ⟨.inr, fun h => h.elim (fun h => absurd h.symm e) id⟩
  refine ⟨h.ok.put hl hb, h.off, h.arm, by simpa [DS.put] using h.len, by simpa using h.tl, fun p hp => ?_, fun i hi ht => ?_⟩
  · simp only [DS.put, List.mem_append, List.mem_singleton] at hp
    rw [hset]
    rcases hp with hp | rfl
    · exact .inr (h.wait p hp)
    · exact .inl rfl
  · have hne : i ≠ a ∧ t.getD i false = false := by
      have h1 : ¬ (t.set a true).getD i false = true := by rw [ht]; decide
      rw [hset] at h1
      exact ⟨fun e => h1 (.inl e), by
        cases h2 : t.getD i false with
        | false => rfl
        | true => exact absurd (.inr h2) h1⟩
    obtain ⟨h1, h2⟩ := h.now i hi hne.2
    refine ⟨?_, h2⟩
    show (S.now.set a b).getD i zeroB = _
    rw [List.getD_eq_getElem?_getD, List.getElem?_set_ne (Ne.symm hne.1), ← List.getD_eq_getElem?_getD]
    exact h1
theorem good2_crash {first : List UInt8} {t : List Bool} {N : Nat} {S : DS} (h : Good2 first t N S) (keep : List Bool) :
    (S.crash keep).Ok N ∧ ∀ i : Nat, i < 8 → (S.crash keep).at_ i = 0 ∧ (t.getD i false = false → (S.crash keep).now.getD i zeroB = oneB (first.getD i 0)) := by
  refine ⟨h.ok.crash keep, fun i hi => ⟨?_, fun ht => ?_⟩⟩
  · have hl : (S.crash keep).now.length = 8 := (nowOf_len _ _ _).trans h.len
    unfold DS.at_
    rw [show (S.crash keep).off = false from rfl]
    simp only [Bool.false_eq_true, if_false]
    rw [if_neg (by omega)]
  · show (nowOf (lastOf _ 0 S.wait S.last) S.wait S.now).getD i zeroB = _
    rw [List.getD_eq_getElem?_getD, nowOf_other _ i _ _ (fun p hp e => by have := h.wait p hp; rw [e, ht] at this; cases this), ← List.getD_eq_getElem?_getD]
    exact (h.now i hi ht).1
end Go.Proofs.YthmchbdhikakhaaDoor
/- DiskLasts: the walk. -/
namespace Go.Proofs.YthmchbdhikakhaaDoor
open Go.RowKit Go.Cu
/-- A byte, and a one behind it. -/
def markB (b : UInt8) : Bk := b :: 1 :: List.replicate 126 0
theorem markB_len (b : UInt8) : (markB b).length = 128 := by simp [markB]
set_option maxRecDepth 20000 in
theorem build33_one (b : UInt8) (W : World) : (Instr.build 64 #[(0, .int .u8 b.toNat)]).run Tryd.prog W = .ok (.agg (bv (oneB b))) W := by kernel_rfl
set_option maxRecDepth 20000 in
theorem build33_mark (b : UInt8) (W : World) : (Instr.build 64 #[(0, .int .u8 b.toNat), (1, .int .u8 1)]).run Tryd.prog W = .ok (.agg (bv (markB b))) W := by kernel_rfl
/-- Words as cells. -/
def wv (l : List Bool) : Array Value := (l.map Value.bool).toArray
theorem wv_size (l : List Bool) : (wv l).size = l.length := by simp [wv]
theorem wv_get (l : List Bool) (i : Nat) (h : i < l.length) : (wv l)[i]? = some (.bool (l.getD i false)) := by simp [wv, h]
theorem wv_set (l : List Bool) (i : Nat) (b : Bool) : (wv l).setIfInBounds i (.bool b) = wv (l.set i b) := by
  apply Array.ext_getElem?
  intro j
  simp only [wv, Array.getElem?_setIfInBounds, List.getElem?_toArray, List.getElem?_map, List.getElem?_set, List.size_toArray, List.length_map]
  by_cases h : i = j
  · subst h
    by_cases h2 : i < l.length <;> simp [h2]
  · simp [h]
end Go.Proofs.YthmchbdhikakhaaDoor
/- begin: a head without bytes. -/
namespace Go.Proofs.YthmchbdhikakhaaDoor
open Go.RowKit Go.Cu
/-- The head so far. -/
def headTo (n k : Nat) : Bk := 1 :: ((be8 n).take k ++ List.replicate (127 - k) 0)
theorem headTo_len (n : Nat) {k : Nat} (hk : k ≤ 8) : (headTo n k).length = 128 := by simp [headTo, be8_len]; omega
theorem be8_get (n : Nat) {k : Nat} (hk : k < 8) : (be8 n)[k]? = some (UInt8.ofNat (n / 2 ^ (8 * (7 - k)))) := by
  unfold be8
  rw [List.getElem?_map, List.getElem?_range hk]
  rfl
theorem set_mid {α : Type} (a : List α) (m : Nat) (z x : α) : (a ++ List.replicate (m + 1) z).set a.length x = a ++ [x] ++ List.replicate m z := by
  rw [List.set_append_right _ _ (Nat.le_refl _), Nat.sub_self, List.replicate_succ, List.set_cons_zero]
  simp
theorem headTo_step (n : Nat) {k : Nat} (hk : k < 8) : (headTo n k).set (1 + k) (UInt8.ofNat (n / 2 ^ (8 * (7 - k)))) = headTo n (k + 1) := by
  unfold headTo
  rw [Nat.add_comm 1 k, List.set_cons_succ]
  congr 1
  have hl : ((be8 n).take k).length = k := by rw [List.length_take, be8_len]; omega
  have h := set_mid ((be8 n).take k) (126 - k) 0 (UInt8.ofNat (n / 2 ^ (8 * (7 - k))))
  rw [hl, show 126 - k + 1 = 127 - k by omega] at h
  rw [h, List.take_add_one, be8_get n hk]
  simp only [Option.toList, show 127 - (k + 1) = 126 - k by omega]
theorem headTo_end (n s : Nat) : ((headTo n 8).set 9 (UInt8.ofNat (s / 256))).set 10 (UInt8.ofNat s) = headL n s ++ List.replicate 117 0 := by
  unfold headTo headL
  have hl : ((be8 n).take 8).length = 8 := by rw [List.length_take, be8_len]; rfl
  have e8 : (be8 n).take 8 = be8 n := List.take_of_length_le (by rw [be8_len]; exact Nat.le_refl _)
  rw [List.set_cons_succ, List.set_cons_succ, e8]
  have h1 := set_mid (be8 n) 118 0 (UInt8.ofNat (s / 256))
  rw [be8_len] at h1
  have h2 := set_mid (be8 n ++ [UInt8.ofNat (s / 256)]) 117 0 (UInt8.ofNat s)
  rw [List.length_append, be8_len] at h2
  rw [show 127 - 8 = 118 + 1 from rfl, h1]
  have h2' : (be8 n ++ [UInt8.ofNat (s / 256)] ++ List.replicate 118 0).set 9 (UInt8.ofNat s) = be8 n ++ [UInt8.ofNat (s / 256)] ++ [UInt8.ofNat s] ++ List.replicate 117 0 := h2
  rw [h2']
  simp
theorem u8_cast (m : Nat) : ((UInt8.ofNat m).toNat : Int) = (m : Int) % 256 := by
  rw [UInt8.toNat_ofNat']
  omega
theorem results_cell {fn : Func} {p : Tmp} {ty e : TypeId} {n : Nat} (h : fn.results = #[.cell p ty]) (tmps : Array Value) (P : Program) (w : World) (g : Nat) (t' : TypeId) (cs : Array Value) (fr : Nat × Nat)
    (hp : tmps.getD p undef = .pointer (some ⟨g, 0, none⟩)) (hg : w.heap[g]? = some (.cells cs t' fr))
    (hu : P.underlying ty = some (.array n e)) (hi : (P.info? ty).map (·.size) = some cs.size) :
    (results fn tmps).run P w = .ok (.agg cs) w := by
  have hp' : tmps[p]?.getD undef = .pointer (some ⟨g, 0, none⟩) := by simpa using hp
  have hl := run_loadVar_row (P := P) w g t' ty cs fr _ hg hu rfl hi
  simp [results, h, hp', asAddr, hl]
set_option maxRecDepth 20000 in
set_option maxHeartbeats 1000000 in
theorem begin_ok {n s : Nat} (hn : n ≤ 1000000) (hs : s ≤ 65535) (w : World) : Calls Tryd.prog 28 #[.int .i64 n, .int .i64 s] w fun r w' => r = .returned (.agg (bv (headL n s ++ List.replicate 117 0))) ∧ Below w.heap.size w w' := by
  have BB := fun W => run_buildK (build33_one 1 W)
  simp only [show (((1 : UInt8).toNat : Nat) : Int) = 1 from rfl] at BB
  have HZ1 := hid ((bv_size (oneB 1)).trans (oneB_len 1))
  have tok1 : True := trivial
  go_enter Tryd.func28, Tryd.ntmps28
  go_wp2_with (first | (have _t := tok1; refine wpList_alloc 64 rfl rfl (.agg (bv zeroB)) zero33 ?_; intro gr W1 hR hrl hrg hW1; have H1 := hid ((St.start w).newBlk hW1 hrg hR); clear hR hrl hrg hW1 tok1) | (refine wpList_alloc 64 rfl rfl (.agg (bv zeroB)) zero33 ?_; intro gb W2 hB hbl hbg hW2) | (refine wpList_store_box 64 _ _ rfl gb rfl rfl (bv (oneB 1)) rfl 128 size33 HZ1.out (bv_one _) 64 _ hB bvz ?_; intro W3 hB3 hT3 hs3; have H3 := hid ((H1.out.newBlk hW2 hbg hB).put hB3 hT3); clear hB3 hT3 hs3 hB hbl hbg hW2))
  go_loopw [8] (fun i X => ∃ k : Nat, k ≤ 8 ∧ i = .int .i64 k ∧ Hid (St w [Blk gb (bv (headTo n k)) 64, Blk gr (bv zeroB) 64] X)) (fun i _ => 8 - (intOf i).toNat)
  case atStart => exact ⟨0, by omega, rfl, H3⟩
  case round =>
    clear H1 H3
    obtain ⟨k, hk, rfl, HS⟩ := hrel
    by_cases h8 : k < 8
    · have e1 : (k : Int) < 8 := by omega
      have cg : wr.cell? ⟨gb, 1 + k, none⟩ = some (.int .u8 (bt (headTo n k) (1 + k))) := (blk_cell HS.out (1 + k)).trans (bv_get _ _ (by rw [headTo_len n hk]; omega))
      have fg : wr.frozen? ⟨gb, 1 + k, none⟩ = false := frozen_of_row wr gb (1 + k) _ _ HS.out.blk
      go_wp2_with fail
      go_roundw
      case rel =>
        refine ⟨k + 1, by omega, by go_num, hid ?_⟩
        have h := HS.out.setCell (1 + k) (.int .u8 ((UInt8.ofNat (n / 2 ^ (8 * (7 - k)))).toNat : Int))
        rw [bv_set, headTo_step n h8, u8_cast] at h
        simpa using h
      case measure => simp [intOf]; omega
    · have e1 : ¬ (k : Int) < 8 := by omega
      obtain rfl : k = 8 := by omega
      have cg9 : wr.cell? ⟨gb, 9, none⟩ = some (.int .u8 (bt (headTo n 8) 9)) := (blk_cell HS.out 9).trans (bv_get _ _ (by rw [headTo_len n hk]; omega))
      have cg10 : wr.cell? ⟨gb, 10, none⟩ = some (.int .u8 (bt (headTo n 8) 10)) := (blk_cell HS.out 10).trans (bv_get _ _ (by rw [headTo_len n hk]; omega))
      have fg9 : wr.frozen? ⟨gb, 9, none⟩ = false := frozen_of_row wr gb 9 _ _ HS.out.blk
      have fg10 : wr.frozen? ⟨gb, 10, none⟩ = false := frozen_of_row wr gb 10 _ _ HS.out.blk
      have h10 := (HS.out.setCell 9 (.int .u8 ((UInt8.ofNat (s / 256)).toNat : Int))).setCell 10 (.int .u8 ((UInt8.ofNat s).toNat : Int))
      rw [bv_set, bv_set, headTo_end, u8_cast, u8_cast, show ((s / 256 : Nat) : Int) % 256 = (s : Int) / 256 by omega] at h10
      have HL := hid (show (bv (headL n s ++ List.replicate 117 0)).size = 128 by rw [bv_size, List.length_append, headL_len, List.length_replicate])
      have LB : (loadK 64 (.pointer (some ⟨gb, 0, none⟩))).run Tryd.prog ((wr.setCell ⟨gb, 9, none⟩ (.int .u8 ((s : Int) / 256))).setCell ⟨gb, 10, none⟩ (.int .u8 ((s : Int) % 256))) = .ok (.value (.agg (bv (headL n s ++ List.replicate 117 0)))) _ := run_loadK_box h10.blk Tryd.underlying64 rfl size33 HL.out
      have H10 := hid h10
      clear h10
      go_wp2_with (refine wpList_store_box 64 _ _ rfl gr rfl rfl (bv (headL n s ++ List.replicate 117 0)) rfl 128 size33 HL.out (bv_one _) 64 _ H10.out.at2.blk bvz ?_; intro W5 hB5 hT5 hs5; have H5 := hid (H10.out.at2.put hB5 hT5))
      exact bodyPost_ret (results_cell rfl _ _ _ gr 64 (bv _) (0, 0) rfl hB5 Tryd.underlying64 (by rw [HL.out]; exact size33)) rfl ⟨rfl, H5.out.below⟩
end Go.Proofs.YthmchbdhikakhaaDoor
/- The builtin copy into a block that is known whole. -/
namespace Go.Cu
open Go Go.RowKit
theorem putAt_nil (cur : Array Value) (o : Nat) : putAt cur o [] = cur := by
  unfold putAt
  simp
theorem wpList_copyB {P : Program} {w : World} {ops : Array Oper} {rest : List Oper} {o : Oper} {a : Act} {Q : Exit → Act → World → Prop} (hw : Region.wanted o (yielded ops a.tmps) = true) (d s : Operand) (dT sT : TypeId)
    (ho : o.op = .call { callee := .builtin .copy, args := #[d, s], argTypes := #[dT, sT] }) (elem : TypeId) (hu : P.underlying dT = some (.slice elem)) (hsz : (P.info? elem).map (·.size) = some 1)
    (g off dLen dCap : Nat) (sp : Option Addr) (sLen sCap : Nat) (hd : a.eval d = .slice (some ⟨g, off, none⟩) dLen dCap) (hs : a.eval s = .slice sp sLen sCap)
    (cur : Array Value) (t : TypeId) (hg : w.heap[g]? = some (.cells cur t (0, 0))) (cs : List Value) (hn : cs.length = Nat.min sLen dLen)
    (hsrc : ∀ j v, cs[j]? = some v → ∃ ad, sp = some ad ∧ w.cell? (ad.add j) = some v) (hfit : off + cs.length ≤ cur.size) (h1 : ∀ v ∈ cs, v.oneCell' = true)
    (h : ∀ w' : World, w'.heap[g]? = some (.cells (putAt cur off cs) t (0, 0)) → Tch (· = g) w w' → wpList P ops Q rest (a.put o.dst (goInt cs.length)) w') : wpList P ops Q (o :: rest) a w := by
  refine wpList_wanted hw fun K hK => ?_
  match cs, hn, hsrc, hfit, h1, h with
  | [], hn, _, _, _, h =>
    have hrun := run_copy_none (P := P) w dT sT o.type elem (some ⟨g, off, none⟩) sp dLen dCap sLen sCap hu hsz (by simpa using hn.symm)
    have hz := hK _ _ (h w (by rw [putAt_nil]; exact hg) (Tch.refl _ _))
    unfold Oper.wp execOp
    simp only [ho, resolve, invoke, builtin, Sem.run_bind, Sem.run_pure, Result.andThen_ok, List.map_toArray, List.map_cons, List.map_nil, hd, hs, hrun]
    exact hz
  | c :: cs, hn, hsrc, hfit, h1, h =>
    obtain ⟨ad, rfl, _⟩ := hsrc 0 c rfl
    have hrun := run_copy_row (P := P) w dT sT o.type elem g off dLen dCap ad sLen sCap cur t (c :: cs) hu hsz hg hn (fun j v hj => by
      obtain ⟨ad', e, hc⟩ := hsrc j v hj
      cases e; exact hc) hfit h1
    have hz := hK _ _ (h _ (setRow_heap w g cur _ t _ hg) ⟨rfl, rfl, rfl, by simp, fun k _ hk => setRow_other w g k _ hk⟩)
    unfold Oper.wp execOp
    simp only [ho, resolve, invoke, builtin, Sem.run_bind, Sem.run_pure, Result.andThen_ok, List.map_toArray, List.map_cons, List.map_nil, hd, hs, hrun]
    exact hz
end Go.Cu
/- block: the blocks behind the head. -/
namespace Go.Proofs.YthmchbdhikakhaaDoor
open Go.RowKit Go.Cu
theorem putAt_bv (l m : List UInt8) (o : Nat) : putAt (bv l) o (bvL m) = bv (l.take o ++ m ++ l.drop (o + m.length)) := by
  unfold putAt
  rw [bv_toList, bvL_len]
  simp only [bv, bvL, List.map_append, List.map_take, List.map_drop]
theorem pre_put (h m : List UInt8) (hh : h.length = 11) (hm : m.length ≤ 117) : putAt (bv (h ++ List.replicate 117 0)) 11 (bvL m) = bv (h ++ padL m) := by
  rw [putAt_bv]
  congr 1
  rw [List.take_append_of_le_length (by omega), List.take_of_length_le (by omega), List.drop_append, List.drop_eq_nil_of_le (by omega), List.drop_replicate]
  unfold padL
  rw [hh, List.nil_append, show 117 - (11 + m.length - 11) = 117 - m.length by omega, List.append_assoc]
theorem chunk_get {k : Nat} {rec : List UInt8} {j : Nat} {v : Value} (h : (bvL (chunkL k rec))[j]? = some v) : ∃ b, rec[117 * k + j]? = some b ∧ v = .int .u8 b.toNat := by
  unfold bvL chunkL at h
  rw [List.getElem?_map, List.getElem?_take] at h
  split at h
  · rw [List.getElem?_drop] at h
    cases hb : rec[117 * k + j]? with
    | none => rw [hb] at h; cases h
    | some b => rw [hb] at h; exact ⟨b, rfl, (Option.some.inj h).symm⟩
  · cases h
theorem src_bytes {w X : World} {g o c0 k : Nat} {rec : List UInt8} (hr : BytesIn w (some ⟨g, o, none⟩) rec) (hb : Below w.heap.size w X) (hc0 : c0 = o + 117 * k) :
    ∀ (j : Nat) (v : Value), (bvL (chunkL k rec))[j]? = some v → ∃ ad, (some (⟨g, c0, none⟩ : Addr)) = some ad ∧ X.cell? (ad.add j) = some v := by
  intro j v hv
  obtain ⟨b, hb1, rfl⟩ := chunk_get hv
  obtain ⟨g', o', hA, hg, hcell⟩ := hr _ b hb1
  cases hA
  refine ⟨_, rfl, ?_⟩
  have e : (⟨g, c0, none⟩ : Addr).add j = ⟨g, o + (117 * k + j), none⟩ := by
    unfold Addr.add
    split
    · rename_i hz; subst hz hc0; simp
    · subst hc0; simp [Nat.add_assoc]
  rw [e, hb.cell (p := ⟨g, o + (117 * k + j), none⟩) hg]
  exact hcell
set_option maxRecDepth 20000 in
set_option maxHeartbeats 1000000 in
theorem block_rest {n k : Nat} {rec : List UInt8} {A : Option Addr} {c : Nat} {w : World} (hr : BytesIn w A rec) (hl : rec.length ≤ 65535) (hc : rec.length ≤ c) (hc2 : c ≤ maxLen) (hk : 1 ≤ k) (hk2 : 117 * k < rec.length) :
    Calls Tryd.prog 20 #[.int .i64 n, .int .i64 k, .slice A rec.length c] w fun r w' => r = .returned (.agg (bv (blockB n k rec))) ∧ Below w.heap.size w w' := by
  have BB := fun W => run_buildK (build33_one 2 W)
  simp only [show (((2 : UInt8).toNat : Nat) : Int) = 2 from rfl] at BB
  have HZ1 := hid ((bv_size (oneB 2)).trans (oneB_len 2))
  have tok1 : True := trivial
  unfold maxLen at hc2
  obtain ⟨b0, hb0⟩ : ∃ b, rec[0]? = some b := ⟨_, List.getElem?_eq_getElem (by omega)⟩
  obtain ⟨g, o, rfl, _, _⟩ := hr 0 b0 hb0
  have e1 : (k : Int) ≠ 0 := by omega
  have e2 : ((k : Int) == 0) = false := by rw [beq_eq_false_iff_ne]; exact e1
  have HR := hid hr
  clear hr hb0 e1
  go_enter Tryd.func20, Tryd.ntmps20
  go_wp2_with (first | (have _t := tok1; refine wpList_alloc 64 rfl rfl (.agg (bv zeroB)) zero33 ?_; intro gr W1 hR hrl hrg hW1; have H1 := hid ((St.start w).newBlk hW1 hrg hR); clear hR hrl hrg hW1 tok1) | (refine wpList_alloc 64 rfl rfl (.agg (bv zeroB)) zero33 ?_; intro gb W2 hB hbl hbg hW2) | (refine wpList_store_box 64 _ _ rfl gb rfl rfl (bv (oneB 2)) rfl 128 size33 HZ1.out (bv_one _) 64 _ hB bvz ?_; intro W3 hB3 hT3 hs3; have H3 := hid ((H1.out.newBlk hW2 hbg hB).put hB3 hT3); clear hB3 hT3 hs3 hB hbl hbg hW2))
  have HBL := hid (show blockB n k rec = restL ++ padL (chunkL k rec) by unfold blockB; rw [if_neg (by omega)])
  have HL := hid (show (bv (blockB n k rec)).size = 128 by rw [bv_size]; exact blockB_len n k rec)
  have hk0 : (0 : Int) ≤ 117 * (k : Int) := by omega
  by_cases hlast : (rec.length : Int) < 117 * (k : Int) + 117
  · have h1 : 117 * (k : Int) ≤ (rec.length : Int) := by omega
    have h2 : (rec.length : Int) ≤ (c : Int) := by omega
    have h3 : ¬ (c = 117 * k) := by omega
    refine wp_region_ord [11] [(0, 1), (1, 1), (2, 1), (3, 1), (4, 1), (5, 1), (6, 1), (7, 1), (8, 1), (9, 1), (10, 1), (11, 2)] (fun X => X = W3.drew) (by kernel_rfl) (by kernel_rfl) (fun d _ c _ _ h => by cases d <;> exact h) rfl (fun X hXe _ => ?_)
    subst hXe
    repeat (apply wpOrd_class; ((· first | (rw [List.getElem?_toArray, List.getElem?_cons_zero]; done) | (simp only [List.getElem?_toArray, List.getElem?_cons_succ, List.getElem?_cons_zero]; exact rfl))); (· exact rfl); intro K hK; apply Exists.intro; refine And.intro (fun X' hX' => ?_) ?_; (· go_simp; (try go_bits); first | done | exact rfl | exact ⟨rfl, rfl⟩); go_simp; refine hK _ _ ?_; clear hK K)
    (apply wpOrd_comes; ((· first | (rw [List.getElem?_toArray, List.getElem?_cons_zero]; done) | (simp only [List.getElem?_toArray, List.getElem?_cons_succ, List.getElem?_cons_zero]; exact rfl))); intro N hN)
    have H4 := hid (H3.out.turn (Below.drew (Below.refl _ _)))
    refine wpList_copyB rfl _ _ 40 40 rfl 5 Tryd.underlying40 be5.size gb 11 117 117 _ (rec.length - 117 * k) _ rfl rfl _ 64 H4.out.blk (bvL (chunkL k rec)) ?_ (src_bytes HR.out H4.out.below rfl) ?_ (bvL_one _) ?_
    · rw [bvL_len]; simp only [chunkL, List.length_take, List.length_drop]; show _ = min _ 117; omega
    · rw [bvL_len, bv_size, oneB_len]; have := chunkL_le k rec; omega
    intro W5 hW5 hT5
    rw [show oneB 2 = restL ++ List.replicate 117 0 from rfl, pre_put restL _ restL_len (chunkL_le _ _), ← HBL.out] at hW5
    have H5 := hid (H4.out.put hW5 hT5)
    refine hN _ _ (fun h => by cases h) (wpOrd_done ?_)
    clear hN N
    have LB : (loadK 64 (.pointer (some ⟨gb, 0, none⟩))).run Tryd.prog W5 = .ok (.value (.agg (bv (blockB n k rec)))) W5 := run_loadK_box hW5 Tryd.underlying64 rfl size33 HL.out
    go_wp2_with (refine wpList_store_box 64 _ _ rfl gr rfl rfl (bv (blockB n k rec)) rfl 128 size33 HL.out (bv_one _) 64 _ H5.out.at2.blk bvz ?_; intro W6 hB6 hT6 hs6; have H6 := hid (H5.out.at2.put hB6 hT6))
    exact bodyPost_ret (results_cell rfl _ _ _ gr 64 (bv _) (0, 0) rfl hB6 Tryd.underlying64 (by rw [HL.out]; exact size33)) rfl ⟨rfl, H6.out.below⟩

  · have h1 : 117 * (k : Int) ≤ 117 * (k : Int) + 117 := by omega
    have h2 : 117 * (k : Int) + 117 ≤ (c : Int) := by omega
    have h3 : ¬ (c = 117 * k) := by omega
    refine wp_region_ord [11] [(0, 1), (1, 1), (2, 1), (3, 1), (4, 1), (5, 1), (6, 1), (7, 1), (8, 1), (9, 1), (10, 1), (11, 2)] (fun X => X = W3.drew) (by kernel_rfl) (by kernel_rfl) (fun d _ c _ _ h => by cases d <;> exact h) rfl (fun X hXe _ => ?_)
    subst hXe
    repeat (apply wpOrd_class; ((· first | (rw [List.getElem?_toArray, List.getElem?_cons_zero]; done) | (simp only [List.getElem?_toArray, List.getElem?_cons_succ, List.getElem?_cons_zero]; exact rfl))); (· exact rfl); intro K hK; apply Exists.intro; refine And.intro (fun X' hX' => ?_) ?_; (· go_simp; (try go_bits); first | done | exact rfl | exact ⟨rfl, rfl⟩); go_simp; refine hK _ _ ?_; clear hK K)
    (apply wpOrd_comes; ((· first | (rw [List.getElem?_toArray, List.getElem?_cons_zero]; done) | (simp only [List.getElem?_toArray, List.getElem?_cons_succ, List.getElem?_cons_zero]; exact rfl))); intro N hN)
    have H4 := hid (H3.out.turn (Below.drew (Below.refl _ _)))
    refine wpList_copyB rfl _ _ 40 40 rfl 5 Tryd.underlying40 be5.size gb 11 117 117 _ 117 _ rfl rfl _ 64 H4.out.blk (bvL (chunkL k rec)) ?_ (src_bytes HR.out H4.out.below rfl) ?_ (bvL_one _) ?_
    · rw [bvL_len]; simp only [chunkL, List.length_take, List.length_drop]; show _ = min _ 117; omega
    · rw [bvL_len, bv_size, oneB_len]; have := chunkL_le k rec; omega
    intro W5 hW5 hT5
    rw [show oneB 2 = restL ++ List.replicate 117 0 from rfl, pre_put restL _ restL_len (chunkL_le _ _), ← HBL.out] at hW5
    have H5 := hid (H4.out.put hW5 hT5)
    refine hN _ _ (fun h => by cases h) (wpOrd_done ?_)
    clear hN N
    have LB : (loadK 64 (.pointer (some ⟨gb, 0, none⟩))).run Tryd.prog W5 = .ok (.value (.agg (bv (blockB n k rec)))) W5 := run_loadK_box hW5 Tryd.underlying64 rfl size33 HL.out
    go_wp2_with (refine wpList_store_box 64 _ _ rfl gr rfl rfl (bv (blockB n k rec)) rfl 128 size33 HL.out (bv_one _) 64 _ H5.out.at2.blk bvz ?_; intro W6 hB6 hT6 hs6; have H6 := hid (H5.out.at2.put hB6 hT6))
    exact bodyPost_ret (results_cell rfl _ _ _ gr 64 (bv _) (0, 0) rfl hB6 Tryd.underlying64 (by rw [HL.out]; exact size33)) rfl ⟨rfl, H6.out.below⟩

end Go.Proofs.YthmchbdhikakhaaDoor
/- block: the head. -/
namespace Go.Proofs.YthmchbdhikakhaaDoor
open Go.RowKit Go.Cu
/-- A head, filled up with noughts. -/
def headZ (n s : Nat) : Bk := headL n s ++ List.replicate 117 0
theorem headZ_len (n s : Nat) : (headZ n s).length = 128 := by unfold headZ; rw [List.length_append, headL_len, List.length_replicate]
set_option maxRecDepth 20000 in
set_option maxHeartbeats 2000000 in
theorem block_head {n : Nat} {rec : List UInt8} {A : Option Addr} {c : Nat} {w : World} (hr : BytesIn w A rec) (hn : n ≤ 1000000) (hl : rec.length ≤ 65535) (hc : rec.length ≤ c) (hc2 : c ≤ maxLen) :
    Calls Tryd.prog 20 #[.int .i64 n, .int .i64 0, .slice A rec.length c] w fun r w' => r = .returned (.agg (bv (blockB n 0 rec))) ∧ Below w.heap.size w w' := by
  have BB := fun W => run_buildK (build33_one 2 W)
  simp only [show (((2 : UInt8).toNat : Nat) : Int) = 2 from rfl] at BB
  have HZ1 := hid ((bv_size (oneB 2)).trans (oneB_len 2))
  have HBL := hid (show blockB n 0 rec = headL n rec.length ++ padL (chunkL 0 rec) by unfold blockB; rw [if_pos rfl])
  have HL := hid (show (bv (blockB n 0 rec)).size = 128 by rw [bv_size]; exact blockB_len n 0 rec)
  unfold maxLen at hc2
  have HR := hid hr
  clear hr
  by_cases h0 : rec.length = 0
  · obtain rfl : rec = [] := List.eq_nil_of_length_eq_zero h0
    have HBG := hid (show ∀ X, Calls Tryd.prog 28 #[.int .i64 n, .int .i64 0] X fun r w' => r = .returned (.agg (bv (headZ n 0))) ∧ Below X.heap.size X w' from fun X => begin_ok (s := 0) hn (by decide) X)
    have HHZ := hid ((bv_size (headZ n 0)).trans (headZ_len n 0))
    clear h0 hl
    have tok1 : True := trivial
    have tok2 : True := trivial
    go_enter Tryd.func20, Tryd.ntmps20
    go_wp2_with (first | (have _t := tok1; refine wpList_alloc 64 rfl rfl (.agg (bv zeroB)) zero33 ?_; intro gr W1 hR hrl hrg hW1; have H1 := hid ((St.start w).newBlk hW1 hrg hR); clear hR hrl hrg hW1 tok1) | (refine wpList_alloc 64 rfl rfl (.agg (bv zeroB)) zero33 ?_; intro gb W2 hB hbl hbg hW2) | (have _t := tok2; refine wpList_store_box 64 _ _ rfl gb rfl rfl (bv (oneB 2)) rfl 128 size33 HZ1.out (bv_one _) 64 _ hB bvz ?_; intro W3 hB3 hT3 hs3; have H3 := hid ((H1.out.newBlk hW2 hbg hB).put hB3 hT3); clear hB3 hT3 hs3 hB hbl hbg hW2 tok2) | (go_at_call 28; (with_reducible refine (HBG.out _).mono ?_); rintro r W4 ⟨rfl, hb4⟩; have H4 := hid (H3.out.turn hb4); clear hb4) | (refine wpList_store_box 64 _ _ rfl gb rfl rfl (bv (headZ n 0)) rfl 128 size33 HHZ.out (bv_one _) 64 _ H4.out.blk HZ1.out ?_; intro W5 hB5 hT5 hs5; have H5 := hid (H4.out.put hB5 hT5); clear hB5 hT5 hs5))
    refine wp_region_ord [11] [(0, 1), (1, 1), (2, 1), (3, 1), (4, 1), (5, 1), (6, 1), (7, 1), (8, 1), (9, 1), (10, 1), (11, 2)] (fun X => X = W5.drew) (by kernel_rfl) (by kernel_rfl) (fun d _ c _ _ h => by cases d <;> exact h) rfl (fun X hXe _ => ?_)
    subst hXe
    repeat (apply wpOrd_class; ((· first | (rw [List.getElem?_toArray, List.getElem?_cons_zero]; done) | (simp only [List.getElem?_toArray, List.getElem?_cons_succ, List.getElem?_cons_zero]; exact rfl))); (· exact rfl); intro K hK; apply Exists.intro; refine And.intro (fun X' hX' => ?_) ?_; (· go_simp; (try go_bits); first | done | exact rfl | exact ⟨rfl, rfl⟩); go_simp; refine hK _ _ ?_; clear hK K)
    (apply wpOrd_comes; ((· first | (rw [List.getElem?_toArray, List.getElem?_cons_zero]; done) | (simp only [List.getElem?_toArray, List.getElem?_cons_succ, List.getElem?_cons_zero]; exact rfl))); intro N hN)
    have H6 := hid (H5.out.turn (Below.drew (Below.refl _ _)))
    refine wpList_copyB rfl _ _ 40 40 rfl 5 Tryd.underlying40 be5.size gb 11 117 117 _ 0 _ rfl rfl _ 64 H6.out.blk (bvL (chunkL 0 [])) ?_ (fun j v hj => by simp [chunkL, bvL] at hj) ?_ (bvL_one _) ?_
    · rw [bvL_len]; simp only [chunkL, List.length_take, List.length_drop]; show _ = min _ 117; first | omega | simp
    · rw [bvL_len, HHZ.out]; have := chunkL_le 0 []; omega
    intro W7 hW7 hT7
    unfold headZ at hW7
    rw [pre_put (headL n 0) _ (headL_len _ _) (chunkL_le _ _)] at hW7
    replace hW7 := hW7.trans (congrArg (fun l => some (Obj.cells (bv l) 64 (0, 0))) HBL.out.symm)
    have H7 := hid (H6.out.put hW7 hT7)
    refine hN _ _ (fun h => by cases h) (wpOrd_done ?_)
    clear hN N
    have LB : (loadK 64 (.pointer (some ⟨gb, 0, none⟩))).run Tryd.prog W7 = .ok (.value (.agg (bv (blockB n 0 [])))) W7 := run_loadK_box hW7 Tryd.underlying64 rfl size33 HL.out
    go_wp2_with (refine wpList_store_box 64 _ _ rfl gr rfl rfl (bv (blockB n 0 [])) rfl 128 size33 HL.out (bv_one _) 64 _ H7.out.at2.blk bvz ?_; intro W8 hB8 hT8 hs8; have H8 := hid (H7.out.at2.put hB8 hT8))
    exact bodyPost_ret (results_cell rfl _ _ _ gr 64 (bv _) (0, 0) rfl hB8 Tryd.underlying64 (by rw [HL.out]; exact size33)) rfl ⟨rfl, H8.out.below⟩
  · obtain ⟨b0, hb0⟩ : ∃ b, rec[0]? = some b := ⟨_, List.getElem?_eq_getElem (by omega)⟩
    obtain ⟨g, o, rfl, _, _⟩ := HR.out 0 b0 hb0
    clear hb0
    have h3 : ¬ c = 0 := by omega
    have HBG := hid (show ∀ X, Calls Tryd.prog 28 #[.int .i64 n, .int .i64 rec.length] X fun r w' => r = .returned (.agg (bv (headZ n rec.length))) ∧ Below X.heap.size X w' from fun X => begin_ok hn hl X)
    have HHZ := hid ((bv_size (headZ n rec.length)).trans (headZ_len n rec.length))
    by_cases hlast : (rec.length : Int) < 117
    · have h2 : (rec.length : Int) ≤ (c : Int) := by omega
      have tok1 : True := trivial
      have tok2 : True := trivial
      go_enter Tryd.func20, Tryd.ntmps20
      go_wp2_with (first | (have _t := tok1; refine wpList_alloc 64 rfl rfl (.agg (bv zeroB)) zero33 ?_; intro gr W1 hR hrl hrg hW1; have H1 := hid ((St.start w).newBlk hW1 hrg hR); clear hR hrl hrg hW1 tok1) | (refine wpList_alloc 64 rfl rfl (.agg (bv zeroB)) zero33 ?_; intro gb W2 hB hbl hbg hW2) | (have _t := tok2; refine wpList_store_box 64 _ _ rfl gb rfl rfl (bv (oneB 2)) rfl 128 size33 HZ1.out (bv_one _) 64 _ hB bvz ?_; intro W3 hB3 hT3 hs3; have H3 := hid ((H1.out.newBlk hW2 hbg hB).put hB3 hT3); clear hB3 hT3 hs3 hB hbl hbg hW2 tok2) | (go_at_call 28; (with_reducible refine (HBG.out _).mono ?_); rintro r W4 ⟨rfl, hb4⟩; have H4 := hid (H3.out.turn hb4); clear hb4) | (refine wpList_store_box 64 _ _ rfl gb rfl rfl (bv (headZ n rec.length)) rfl 128 size33 HHZ.out (bv_one _) 64 _ H4.out.blk HZ1.out ?_; intro W5 hB5 hT5 hs5; have H5 := hid (H4.out.put hB5 hT5); clear hB5 hT5 hs5))
      refine wp_region_ord [11] [(0, 1), (1, 1), (2, 1), (3, 1), (4, 1), (5, 1), (6, 1), (7, 1), (8, 1), (9, 1), (10, 1), (11, 2)] (fun X => X = W5.drew) (by kernel_rfl) (by kernel_rfl) (fun d _ c _ _ h => by cases d <;> exact h) rfl (fun X hXe _ => ?_)
      subst hXe
      repeat (apply wpOrd_class; ((· first | (rw [List.getElem?_toArray, List.getElem?_cons_zero]; done) | (simp only [List.getElem?_toArray, List.getElem?_cons_succ, List.getElem?_cons_zero]; exact rfl))); (· exact rfl); intro K hK; apply Exists.intro; refine And.intro (fun X' hX' => ?_) ?_; (· go_simp; (try go_bits); first | done | exact rfl | exact ⟨rfl, rfl⟩); go_simp; refine hK _ _ ?_; clear hK K)
      (apply wpOrd_comes; ((· first | (rw [List.getElem?_toArray, List.getElem?_cons_zero]; done) | (simp only [List.getElem?_toArray, List.getElem?_cons_succ, List.getElem?_cons_zero]; exact rfl))); intro N hN)
      have H6 := hid (H5.out.turn (Below.drew (Below.refl _ _)))
      refine wpList_copyB rfl _ _ 40 40 rfl 5 Tryd.underlying40 be5.size gb 11 117 117 _ rec.length _ rfl rfl _ 64 H6.out.blk (bvL (chunkL 0 rec)) ?_ (src_bytes HR.out H6.out.below rfl) ?_ (bvL_one _) ?_
      · rw [bvL_len]; simp only [chunkL, List.length_take, List.length_drop]; show _ = min _ 117; first | omega | simp
      · rw [bvL_len, HHZ.out]; have := chunkL_le 0 rec; omega
      intro W7 hW7 hT7
      unfold headZ at hW7
      rw [pre_put (headL n rec.length) _ (headL_len _ _) (chunkL_le _ _)] at hW7
      replace hW7 := hW7.trans (congrArg (fun l => some (Obj.cells (bv l) 64 (0, 0))) HBL.out.symm)
      have H7 := hid (H6.out.put hW7 hT7)
      refine hN _ _ (fun h => by cases h) (wpOrd_done ?_)
      clear hN N
      have LB : (loadK 64 (.pointer (some ⟨gb, 0, none⟩))).run Tryd.prog W7 = .ok (.value (.agg (bv (blockB n 0 rec)))) W7 := run_loadK_box hW7 Tryd.underlying64 rfl size33 HL.out
      go_wp2_with (refine wpList_store_box 64 _ _ rfl gr rfl rfl (bv (blockB n 0 rec)) rfl 128 size33 HL.out (bv_one _) 64 _ H7.out.at2.blk bvz ?_; intro W8 hB8 hT8 hs8; have H8 := hid (H7.out.at2.put hB8 hT8))
      exact bodyPost_ret (results_cell rfl _ _ _ gr 64 (bv _) (0, 0) rfl hB8 Tryd.underlying64 (by rw [HL.out]; exact size33)) rfl ⟨rfl, H8.out.below⟩
    · have h2 : (117 : Int) ≤ (c : Int) := by omega
      have h2n : 117 ≤ c := by omega
      have h2m : ¬ c < 117 := by omega
      have HD := hid (show ((rec.length : Int) < 117) = False by simp; omega)
      have tok1 : True := trivial
      have tok2 : True := trivial
      go_enter Tryd.func20, Tryd.ntmps20
      go_wp2_with (first | (have _t := tok1; refine wpList_alloc 64 rfl rfl (.agg (bv zeroB)) zero33 ?_; intro gr W1 hR hrl hrg hW1; have H1 := hid ((St.start w).newBlk hW1 hrg hR); clear hR hrl hrg hW1 tok1) | (refine wpList_alloc 64 rfl rfl (.agg (bv zeroB)) zero33 ?_; intro gb W2 hB hbl hbg hW2) | (have _t := tok2; refine wpList_store_box 64 _ _ rfl gb rfl rfl (bv (oneB 2)) rfl 128 size33 HZ1.out (bv_one _) 64 _ hB bvz ?_; intro W3 hB3 hT3 hs3; have H3 := hid ((H1.out.newBlk hW2 hbg hB).put hB3 hT3); clear hB3 hT3 hs3 hB hbl hbg hW2 tok2) | (go_at_call 28; (with_reducible refine (HBG.out _).mono ?_); rintro r W4 ⟨rfl, hb4⟩; have H4 := hid (H3.out.turn hb4); clear hb4) | (refine wpList_store_box 64 _ _ rfl gb rfl rfl (bv (headZ n rec.length)) rfl 128 size33 HHZ.out (bv_one _) 64 _ H4.out.blk HZ1.out ?_; intro W5 hB5 hT5 hs5; have H5 := hid (H4.out.put hB5 hT5); clear hB5 hT5 hs5))
      refine wp_region_ord [11] [(0, 1), (1, 1), (2, 1), (3, 1), (4, 1), (5, 1), (6, 1), (7, 1), (8, 1), (9, 1), (10, 1), (11, 2)] (fun X => X = W5.drew) (by kernel_rfl) (by kernel_rfl) (fun d _ c _ _ h => by cases d <;> exact h) rfl (fun X hXe _ => ?_)
      subst hXe
      have hdd := HD.out
      repeat (apply wpOrd_class; ((· first | (rw [List.getElem?_toArray, List.getElem?_cons_zero]; done) | (simp only [List.getElem?_toArray, List.getElem?_cons_succ, List.getElem?_cons_zero]; exact rfl))); (· exact rfl); intro K hK; apply Exists.intro; refine And.intro (fun X' hX' => ?_) ?_; (· go_simp; (try go_bits); first | done | exact rfl | exact ⟨rfl, rfl⟩); go_simp; refine hK _ _ ?_; clear hK K)
      (apply wpOrd_comes; ((· first | (rw [List.getElem?_toArray, List.getElem?_cons_zero]; done) | (simp only [List.getElem?_toArray, List.getElem?_cons_succ, List.getElem?_cons_zero]; exact rfl))); intro N hN)
      have H6 := hid (H5.out.turn (Below.drew (Below.refl _ _)))
      refine wpList_copyB rfl _ _ 40 40 rfl 5 Tryd.underlying40 be5.size gb 11 117 117 _ 117 _ rfl rfl _ 64 H6.out.blk (bvL (chunkL 0 rec)) ?_ (src_bytes HR.out H6.out.below rfl) ?_ (bvL_one _) ?_
      · rw [bvL_len]; simp only [chunkL, List.length_take, List.length_drop]; show _ = min _ 117; first | omega | simp
      · rw [bvL_len, HHZ.out]; have := chunkL_le 0 rec; omega
      intro W7 hW7 hT7
      unfold headZ at hW7
      rw [pre_put (headL n rec.length) _ (headL_len _ _) (chunkL_le _ _)] at hW7
      replace hW7 := hW7.trans (congrArg (fun l => some (Obj.cells (bv l) 64 (0, 0))) HBL.out.symm)
      have H7 := hid (H6.out.put hW7 hT7)
      refine hN _ _ (fun h => by cases h) (wpOrd_done ?_)
      clear hN N
      have LB : (loadK 64 (.pointer (some ⟨gb, 0, none⟩))).run Tryd.prog W7 = .ok (.value (.agg (bv (blockB n 0 rec)))) W7 := run_loadK_box hW7 Tryd.underlying64 rfl size33 HL.out
      go_wp2_with (refine wpList_store_box 64 _ _ rfl gr rfl rfl (bv (blockB n 0 rec)) rfl 128 size33 HL.out (bv_one _) 64 _ H7.out.at2.blk bvz ?_; intro W8 hB8 hT8 hs8; have H8 := hid (H7.out.at2.put hB8 hT8))
      exact bodyPost_ret (results_cell rfl _ _ _ gr 64 (bv _) (0, 0) rfl hB8 Tryd.underlying64 (by rw [HL.out]; exact size33)) rfl ⟨rfl, H8.out.below⟩
theorem block_any {n k : Nat} {rec : List UInt8} {A : Option Addr} {c : Nat} {w : World} (hr : BytesIn w A rec) (hn : n ≤ 1000000) (hl : rec.length ≤ 65535) (hc : rec.length ≤ c) (hc2 : c ≤ maxLen) (hk : k < blocksN rec.length) :
    Calls Tryd.prog 20 #[.int .i64 n, .int .i64 k, .slice A rec.length c] w fun r w' => r = .returned (.agg (bv (blockB n k rec))) ∧ Below w.heap.size w w' := by
  by_cases h : k = 0
  · subst h
    exact block_head hr hn hl hc hc2
  · exact block_rest hr hl hc hc2 (by omega) (by unfold blocksN at hk; omega)
end Go.Proofs.YthmchbdhikakhaaDoor
/- Format. -/
namespace Go.Proofs.YthmchbdhikakhaaDoor
open Go.RowKit Go.Cu
section
variable {W0 W : World} {L : List Atm} {p : Nat} {S : DS} {N : Nat}
end
end Go.Proofs.YthmchbdhikakhaaDoor
