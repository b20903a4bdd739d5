/- Part 2 of the texts below this law, put together: what each holds is said at its head. -/
import Derived.Test.YtnakbdgoaepehaaDoorLb1
import Derived.OrdersHeld
import Derived.StillTail
import Derived.Laws.CopyOwn
import Derived.Laws.IdiomCopy
import Derived.Test.YtnakbdgoaepehaaDoorProg
import Derived.Deep.CutBlock
import Derived.Deep.DeepCutAuto
import Derived.Shelf.Small.Bits
import Derived.Laws.Externs
import Derived.Lib.RabinKarpLaws
import Derived.Laws.Bits64b
import Derived.Laws.BitsLemmas
import Derived.ArgAppend
/- A region that draws its order, walked in an order of one's own: what yields in every world of a class may be taken first; what turns the world comes when it alone may come. -/
namespace Go.Cu
open Go Go.RowKit
section
variable {P : Program} {ops : Array Oper} {Q : Exit → Act → World → Prop} {md : Region.Mode} {S : World → Prop} {loose : List Nat}

/-- Whatever order is picked; S holds behind each but the loose ones. -/
def wpAnyN (P : Program) (md : Region.Mode) (ops : Array Oper) (Q : Exit → Act → World → Prop) (S : World → Prop) (loose : List Nat) : Nat → Array Bool → Act → World → Prop
  | 0, listed, a, w => Region.ready md ops listed = [] ∧ Q .normal a w
  | fuel + 1, listed, a, w =>
    (Region.ready md ops listed = [] → Q .normal a w) ∧
    ∀ i ∈ Region.ready md ops listed, wpOp P ops Q i (fun a' w' => (loose.contains i = false → S w') ∧ wpAnyN P md ops Q S loose fuel (listed.setIfInBounds i true) a' w') a w
theorem wpAny_of_N : ∀ (fuel : Nat) (listed : Array Bool) (a : Act) (w : World), wpAnyN P md ops Q S loose fuel listed a w → wpAny P md ops Q fuel listed a w
  | 0, _, _, _, h => h
  | fuel + 1, _, _, _, h => ⟨h.1, fun i hi => wpOp_mono (fun a' w' h' => wpAny_of_N fuel _ a' w' h'.2) (h.2 i hi)⟩

structure OInv (md : Region.Mode) (ops : Array Oper) (listed : Array Bool) : Prop where
  size : listed.size = ops.size
  closed : ∀ (j : Nat) oj, ops[j]? = some oj → listed.getD j false = true → ∀ e ∈ oj.after, Region.binds md e = true → listed.getD e.on false = true
theorem OInv.set {i : Nat} {listed : Array Bool} (inv : OInv md ops listed) (hi : i ∈ Region.ready md ops listed) : OInv md ops (listed.setIfInBounds i true) := by
  obtain ⟨_, oi, hoi, hall⟩ := mem_ready.1 hi
  refine ⟨by simp [inv.size], fun j oj hj hl e he hb => ?_⟩
  by_cases hij : i = j
  · subst hij
    have : oj = oi := Option.some.inj (hj.symm.trans hoi)
    subst this
    exact getD_set_true (hall e he hb)
  · rw [getD_set_ne false hij] at hl
    exact getD_set_true (inv.closed j oj hj hl e he hb)
theorem OInv.start : OInv md ops (Array.replicate ops.size false) := ⟨by simp, fun j oj _ hl => (by rw [getD_replicate_false] at hl; cases hl)⟩

/-- Those of D wait for number i. -/
def waitB (md : Region.Mode) (ops : Array Oper) (i : Nat) (D : List Nat) : Bool :=
  D.all fun j => match ops[j]? with | none => false | some oj => oj.after.any fun e => Region.binds md e && (e.on == i || (decide (e.on < j) && D.contains e.on))
def waitOf (md : Region.Mode) (ops : Array Oper) (i : Nat) : List Nat :=
  (List.range ops.size).foldl (fun D j => match ops[j]? with | none => D | some oj => if oj.after.any (fun e => Region.binds md e && (e.on == i || D.contains e.on)) then j :: D else D) []
theorem wait_edge {i j : Nat} {D : List Nat} (hD : waitB md ops i D = true) (hj : j ∈ D) : ∃ oj, ops[j]? = some oj ∧ ∃ e ∈ oj.after, Region.binds md e = true ∧ (e.on = i ∨ e.on < j ∧ e.on ∈ D) := by
  have h := List.all_eq_true.1 hD j hj
  cases ho : ops[j]? with
  | none => simp [ho] at h
  | some oj =>
    simp only [ho] at h
    obtain ⟨e, he, h2⟩ := Array.any_eq_true'.1 h
    simp only [Bool.and_eq_true, Bool.or_eq_true, beq_iff_eq, decide_eq_true_eq, List.contains_iff_mem] at h2
    exact ⟨oj, rfl, e, he, h2.1, h2.2⟩
theorem wait_unlisted {i : Nat} {D : List Nat} {listed : Array Bool} (hD : waitB md ops i D = true) (inv : OInv md ops listed) (hi : listed.getD i true = false) : ∀ (j : Nat), j ∈ D → listed.getD j false = false := by
  intro j
  induction j using Nat.strongRecOn with
  | _ j ih =>
    intro hj
    cases hl : listed.getD j false with
    | false => rfl
    | true =>
      obtain ⟨oj, hoj, e, he, hb, h⟩ := wait_edge hD hj
      have h1 := inv.closed j oj hoj hl e he hb
      rcases h with h | ⟨h, h2⟩
      · rw [h, getD_both hi] at h1; cases h1
      · rw [ih _ h h2] at h1; cases h1
theorem wait_unready {i j : Nat} {D : List Nat} {listed : Array Bool} (hD : waitB md ops i D = true) (inv : OInv md ops listed) (hi : listed.getD i true = false) (hj : j ∈ D) : j ∉ Region.ready md ops listed := by
  intro hr
  obtain ⟨_, ot, hot, hall⟩ := mem_ready.1 hr
  obtain ⟨oj, hoj, e, he, hb, h⟩ := wait_edge hD hj
  have : oj = ot := Option.some.inj (hoj.symm.trans hot)
  subst this
  have h1 := hall e he hb
  rcases h with h | ⟨_, h2⟩
  · rw [h, getD_both hi] at h1; cases h1
  · rw [wait_unlisted hD inv hi _ h2] at h1; cases h1

theorem after_not {i : Nat} {oj : Oper} {listed : Array Bool} (hun : listed.getD i true = false) (hall : ∀ e ∈ oj.after, Region.binds md e = true → listed.getD e.on false = true) : ∀ e ∈ oj.after, Region.binds md e = true → e.on ≠ i := fun e he hb heq => by
  have h1 := hall e he hb
  rw [heq, getD_both hun] at h1
  cases h1
theorem set_free {i j : Nat} {oi : Oper} {listed : Array Bool} (hjun : listed.getD j true = false)
    (hfree : ∀ j oj, ops[j]? = some oj → j ≠ i → listed.getD j true = false → (∀ e ∈ oj.after, Region.binds md e = true → e.on ≠ i) → oi.apart ops oj = true) :
    ∀ k ok, ops[k]? = some ok → k ≠ i → (listed.setIfInBounds j true).getD k true = false → (∀ e ∈ ok.after, Region.binds md e = true → e.on ≠ i) → oi.apart ops ok = true := fun k ok hk hki hun hno => by
  refine hfree k ok hk hki ?_ hno
  by_cases hjk : j = k
  · subst hjk; exact hjun
  · rw [getD_set_ne true hjk] at hun; exact hun

/-- One that yields whatever the world may be taken first. -/
theorem wpAnyN_pure {i : Nat} {oi : Oper} {v : Value} (hi : ops[i]? = some oi) (hsel : ∀ (j : Nat) (o : Oper) cs b, ops[j]? = some o → o.op ≠ .select cs b)
    (hQ : ∀ c a w, Q (.panic c) (a.put oi.dst v) w → Q (.panic c) a w) (hS : loose.contains i = true) :
    ∀ (fuel : Nat) (listed : Array Bool) (a : Act) (w : World),
      (∀ j oj, ops[j]? = some oj → j ≠ i → listed.getD j true = false → (∀ e ∈ oj.after, Region.binds md e = true → e.on ≠ i) → oi.apart ops oj = true) →
      i ∈ Region.ready md ops listed → YieldsIf P ops (fun _ => True) oi v a →
      wpAnyN P md ops Q S loose fuel (listed.setIfInBounds i true) (a.put oi.dst v) w → wpAnyN P md ops Q S loose (fuel + 1) listed a w := by
  intro fuel
  induction fuel with
  | zero =>
    intro listed a w _ hr hy H
    refine ⟨fun h => (by rw [h] at hr; cases hr), fun j hj => ?_⟩
    by_cases hji : j = i
    · subst hji; exact hy.wpOp hi trivial ⟨fun h => (by rw [hS] at h; cases h), H⟩
    · have := ready_mono hj hji
      rw [H.1] at this
      cases this
  | succ fuel ih =>
    intro listed a w hfree hr hy H
    have hun := (mem_ready.1 hr).1
    refine ⟨fun h => (by rw [h] at hr; cases hr), fun j hj => ?_⟩
    by_cases hji : j = i
    · subst hji; exact hy.wpOp hi trivial ⟨fun h => (by rw [hS] at h; cases h), H⟩
    · have h1 := H.2 j (ready_mono hj hji)
      obtain ⟨hjun, oj, hoj, hall⟩ := mem_ready.1 hj
      have h2 := wpOp_putIf hoj (hfree j oj hoj hji hjun (after_not hun hall)) (fun cs b => hsel i oi cs b hi) (fun cs b => hsel j oj cs b hoj) hQ hy h1
      refine wpOp_mono (fun a' w' h3 => ⟨h3.2.1, ih (listed.setIfInBounds j true) a' w' (set_free hjun hfree) (ready_mono hr (Ne.symm hji)) h3.1 ?_⟩) h2
      rw [Array.setIfInBounds_comm _ _ hji]
      exact h3.2.2

/-- One that yields in every world of the class may be taken first. -/
theorem wpAnyN_first {i : Nat} {oi : Oper} {v : Value} {D : List Nat} (hi : ops[i]? = some oi) (hsel : ∀ (j : Nat) (o : Oper) cs b, ops[j]? = some o → o.op ≠ .select cs b)
    (hD : waitB md ops i D = true) (hQ : ∀ c a w, Q (.panic c) (a.put oi.dst v) w → Q (.panic c) a w) :
    ∀ (fuel : Nat) (listed : Array Bool) (a : Act) (w : World), OInv md ops listed → (∀ j, j < ops.size → listed.getD j true = false → j ≠ i → loose.contains j = true → j ∈ D) →
      (∀ j oj, ops[j]? = some oj → j ≠ i → listed.getD j true = false → (∀ e ∈ oj.after, Region.binds md e = true → e.on ≠ i) → oi.apart ops oj = true) →
      i ∈ Region.ready md ops listed → YieldsIf P ops S oi v a → S w →
      wpAnyN P md ops Q S loose fuel (listed.setIfInBounds i true) (a.put oi.dst v) w → wpAnyN P md ops Q S loose (fuel + 1) listed a w := by
  intro fuel
  induction fuel with
  | zero =>
    intro listed a w _ _ _ hr hy hS H
    refine ⟨fun h => (by rw [h] at hr; cases hr), fun j hj => ?_⟩
    by_cases hji : j = i
    · subst hji; exact hy.wpOp hi hS ⟨fun _ => hS, H⟩
    · have := ready_mono hj hji
      rw [H.1] at this
      cases this
  | succ fuel ih =>
    intro listed a w inv hneed hfree hr hy hS H
    have hun := (mem_ready.1 hr).1
    refine ⟨fun h => (by rw [h] at hr; cases hr), fun j hj => ?_⟩
    by_cases hji : j = i
    · subst hji; exact hy.wpOp hi hS ⟨fun _ => hS, H⟩
    · have h1 := H.2 j (ready_mono hj hji)
      obtain ⟨hjun, oj, hoj, hall⟩ := mem_ready.1 hj
      have hl : loose.contains j = false := by
        cases hl : loose.contains j with
        | false => rfl
        | true => exact absurd hj (wait_unready hD inv hun (hneed j (Array.getElem?_eq_some_iff.1 hoj).1 hjun hji hl))
      have h2 := wpOp_putIf hoj (hfree j oj hoj hji hjun (after_not hun hall)) (fun cs b => hsel i oi cs b hi) (fun cs b => hsel j oj cs b hoj) hQ hy h1
      refine wpOp_mono (fun a' w' h3 => ⟨h3.2.1, ih (listed.setIfInBounds j true) a' w' (inv.set hj) (fun k hk hku => hneed k hk (by
        by_cases hjk : j = k
        · subst hjk; exact hjun
        · rw [getD_set_ne true hjk] at hku; exact hku)) (set_free hjun hfree) (ready_mono hr (Ne.symm hji)) h3.1 (h3.2.1 hl) ?_⟩) h2
      rw [Array.setIfInBounds_comm _ _ hji]
      exact h3.2.2

/-- What comes behind one operation. -/
def Qn (Q : Exit → Act → World → Prop) (N : Act → World → Prop) : Exit → Act → World → Prop
  | .normal, a, w => N a w
  | x, a, w => Q x a w
theorem wpOp_of_one {i : Nat} {o : Oper} {N : Act → World → Prop} {a : Act} {w : World} (hi : ops[i]? = some o) (h : wpList P ops (Qn Q N) [o] a w) : wpOp P ops Q i N a w := by
  unfold wpOp
  simp only [hi]
  unfold wpList at h
  have e : (fun a w => wpList P ops (Qn Q N) [] a w) = N := rfl
  split at h
  · rename_i hw
    rw [if_pos hw]
    rcases h with h | ⟨h, a', w', hl⟩
    · refine .inl ?_
      unfold Oper.wp at *
      generalize (execOp a.eval o).run P w = r at *
      cases r with
      | ok n w' =>
        cases n <;> simp only [Oper.upon] at h ⊢
        case value u => exact h
        case skip => exact h
        case defer d => exact h
        case enter f args =>
          refine Calls.mono h fun e w'' he => ?_
          cases e with
          | returned u => exact he
          | panicked c => exact he
          | outgrown =>
            obtain ⟨a', w', hl⟩ := he
            exact ⟨a', w', hl⟩
        case row row args => exact Rows.mono h fun u w'' he => he
      | halt x w' =>
        cases x <;> simp only [Oper.upon] at h ⊢
        case panic u => exact h
    · exact .inr ⟨h, a', w', hl⟩
  · rename_i hw
    rw [if_neg hw]
    exact h

/-- An order of one's own: (number, 0: yields whatever the world; 1: in every world of the class; 2: comes alone). -/
def wpOrd (P : Program) (ops : Array Oper) (Q : Exit → Act → World → Prop) (S : World → Prop) (loose : List Nat) : List (Nat × Nat) → Act → World → Prop
  | [], a, w => Q .normal a w
  | (i, 0) :: r, a, w => ∃ o, ops[i]? = some o ∧ ∃ v, YieldsIf P ops (fun _ => True) o v a ∧ wpOrd P ops Q S loose r (a.put o.dst v) w
  | (i, 1) :: r, a, w => ∃ o, ops[i]? = some o ∧ ∃ v, YieldsIf P ops S o v a ∧ wpOrd P ops Q S loose r (a.put o.dst v) w
  | (i, _ + 2) :: r, a, w => ∃ o, ops[i]? = some o ∧ wpList P ops (Qn Q fun a' w' => (loose.contains i = false → S w') ∧ wpOrd P ops Q S loose r a' w') [o] a w
def ordrB (md : Region.Mode) (ops : Array Oper) (loose : List Nat) : List (Nat × Nat) → Bool → Array Bool → Bool
  | [], _, listed => (Region.ready md ops listed).isEmpty
  | (i, 0) :: r, s, listed => loose.contains i && (Region.ready md ops listed).contains i && Region.free md ops listed i && ordrB md ops loose r s (listed.setIfInBounds i true)
  | (i, 1) :: r, s, listed => s && (Region.ready md ops listed).contains i && Region.free md ops listed i && waitB md ops i (waitOf md ops i) &&
      ((List.range ops.size).all fun j => listed.getD j true || j == i || !loose.contains j || (waitOf md ops i).contains j) && ordrB md ops loose r s (listed.setIfInBounds i true)
  | (i, _ + 2) :: r, _, listed => decide (Region.ready md ops listed = [i]) && ordrB md ops loose r (!loose.contains i) (listed.setIfInBounds i true)

theorem wpAnyN_of_ord (hsel : Region.noSelect ops = true) (hQ : ∀ (d : Option Tmp) (v : Value) c a w, Q (.panic c) (a.put d v) w → Q (.panic c) a w) :
    ∀ (l : List (Nat × Nat)) (s : Bool) (listed : Array Bool) (a : Act) (w : World), OInv md ops listed → ordrB md ops loose l s listed = true → (s = true → S w) → wpOrd P ops Q S loose l a w → wpAnyN P md ops Q S loose l.length listed a w
  | [], _, listed, a, w, _, hB, _, h => ⟨by simpa [ordrB] using hB, h⟩
  | (i, 0) :: r, s, listed, a, w, inv, hB, hS, h => by
    simp only [ordrB, Bool.and_eq_true] at hB
    obtain ⟨⟨⟨hl, hr⟩, hf⟩, hB'⟩ := hB
    obtain ⟨o, ho, v, hy, hK⟩ := h
    have hr' : i ∈ Region.ready md ops listed := by simpa using hr
    exact wpAnyN_pure ho (Region.noSelect_spec hsel) (fun c a w => hQ _ _ c a w) hl _ listed a w (Region.free_spec ho hf) hr' hy (wpAnyN_of_ord hsel hQ r s _ _ w (inv.set hr') hB' hS hK)
  | (i, 1) :: r, s, listed, a, w, inv, hB, hS, h => by
    simp only [ordrB, Bool.and_eq_true] at hB
    obtain ⟨⟨⟨⟨⟨hs, hr⟩, hf⟩, hD⟩, hn⟩, hB'⟩ := hB
    obtain ⟨o, ho, v, hy, hK⟩ := h
    have hr' : i ∈ Region.ready md ops listed := by simpa using hr
    refine wpAnyN_first ho (Region.noSelect_spec hsel) hD (fun c a w => hQ _ _ c a w) _ listed a w inv (fun j hj hun hji hlo => ?_) (Region.free_spec ho hf) hr' hy (hS hs) (wpAnyN_of_ord hsel hQ r s _ _ w (inv.set hr') hB' hS hK)
    have h1 := List.all_eq_true.1 hn j (List.mem_range.2 hj)
    simp only [Bool.or_eq_true, beq_iff_eq, hun, hji, hlo, Bool.not_true, Bool.false_eq_true, false_or] at h1
    simpa using h1
  | (i, k + 2) :: r, s, listed, a, w, inv, hB, hS, h => by
    simp only [ordrB, Bool.and_eq_true, decide_eq_true_eq] at hB
    obtain ⟨hr, hB'⟩ := hB
    obtain ⟨o, ho, h⟩ := h
    refine ⟨fun h1 => (by rw [hr] at h1; cases h1), fun j hj => ?_⟩
    have hji : j = i := by rw [hr] at hj; simpa using hj
    subst hji
    refine wpOp_mono (fun a' w' h' => ⟨h'.1, wpAnyN_of_ord hsel hQ r _ _ a' w' (inv.set hj) hB' (fun hs => h'.1 (by simpa using hs)) h'.2⟩) (wpOp_of_one ho h)

theorem wp_region_ord {id : Nat} {a : Act} {w : World} {l : List Oper} (loose : List Nat) (order : List (Nat × Nat)) (S : World → Prop) (hm : P.follows .mixedOrders = true)
    (hB : (Region.noSelect l.toArray && decide (order.length = l.toArray.size) && ordrB .any l.toArray loose order true (Array.replicate l.toArray.size false)) = true)
    (hQ : ∀ (d : Option Tmp) (v : Value) c a w, Q (.panic c) (a.put d v) w → Q (.panic c) a w) (hS : S w.drew)
    (h : ∀ X, X = w.drew → S X → wpOrd P l.toArray Q S loose order a X) : (Code.region id l.toArray true).wp P Q a w := by
  simp only [Bool.and_eq_true, decide_eq_true_eq] at hB
  obtain ⟨⟨hsel, hlen⟩, hb⟩ := hB
  refine wp_region_any hm ?_
  have := wpAnyN_of_ord (md := .any) (S := S) hsel hQ order true _ a w.drew OInv.start hb (fun _ => hS) (h _ rfl hS)
  rw [hlen] at this
  exact wpAny_of_N _ _ _ _ this

theorem wpOrd_pure {i : Nat} {r : List (Nat × Nat)} {o : Oper} {a : Act} {w : World} (ho : ops[i]? = some o) (hw : Region.wanted o (yielded ops a.tmps) = true)
    (h : ∀ K : Act → World → Prop, (∀ a w, wpOrd P ops Q S loose r a w → K a w) → ∃ v, (∀ W, (execOp a.eval o).run P W = .ok (.value v) W) ∧ K (a.put o.dst v) w) : wpOrd P ops Q S loose ((i, 0) :: r) a w :=
  let ⟨v, hv, hK⟩ := h _ fun _ _ hh => hh
  ⟨o, ho, v, .inl ⟨hw, fun W _ => hv W⟩, hK⟩
theorem wpOrd_class {i : Nat} {r : List (Nat × Nat)} {o : Oper} {a : Act} {w : World} (ho : ops[i]? = some o) (hw : Region.wanted o (yielded ops a.tmps) = true)
    (h : ∀ K : Act → World → Prop, (∀ a w, wpOrd P ops Q S loose r a w → K a w) → ∃ v, (∀ W, S W → (execOp a.eval o).run P W = .ok (.value v) W) ∧ K (a.put o.dst v) w) : wpOrd P ops Q S loose ((i, 1) :: r) a w :=
  let ⟨v, hv, hK⟩ := h _ fun _ _ hh => hh
  ⟨o, ho, v, .inl ⟨hw, hv⟩, hK⟩
theorem wpOrd_skip {i : Nat} {r : List (Nat × Nat)} {o : Oper} {a : Act} {w : World} (ho : ops[i]? = some o) (hw : Region.wanted o (yielded ops a.tmps) = false)
    (h : ∀ K : Act → World → Prop, (∀ a w, wpOrd P ops Q S loose r a w → K a w) → K (a.put o.dst undef) w) : wpOrd P ops Q S loose ((i, 0) :: r) a w :=
  ⟨o, ho, undef, .inr ⟨hw, rfl⟩, h _ fun _ _ hh => hh⟩
theorem wpOrd_skip1 {i : Nat} {r : List (Nat × Nat)} {o : Oper} {a : Act} {w : World} (ho : ops[i]? = some o) (hw : Region.wanted o (yielded ops a.tmps) = false)
    (h : ∀ K : Act → World → Prop, (∀ a w, wpOrd P ops Q S loose r a w → K a w) → K (a.put o.dst undef) w) : wpOrd P ops Q S loose ((i, 1) :: r) a w :=
  ⟨o, ho, undef, .inr ⟨hw, rfl⟩, h _ fun _ _ hh => hh⟩
theorem wpOrd_comes {i : Nat} {r : List (Nat × Nat)} {o : Oper} {a : Act} {w : World} (ho : ops[i]? = some o)
    (h : ∀ N : Act → World → Prop, (∀ a w, (loose.contains i = false → S w) → wpOrd P ops Q S loose r a w → N a w) → wpList P ops (Qn Q N) [o] a w) : wpOrd P ops Q S loose ((i, 2) :: r) a w :=
  ⟨o, ho, h _ fun _ _ h1 h2 => ⟨h1, h2⟩⟩
theorem wpOrd_done {a : Act} {w : World} (h : Q .normal a w) : wpOrd P ops Q S loose [] a w := h
theorem wpList_then {N : Act → World → Prop} {a : Act} {w : World} (h : N a w) : wpList P ops (Qn Q N) [] a w := h
end
end Go.Cu
/- A region that draws its order: the first n operations quiet in a class of worlds, the rest in one forced order from whatever world of the class. -/
namespace Go.Cu
open Go Go.RowKit
section
variable {P : Program} {ops : Array Oper} {md : Region.Mode} {C : World → Prop}

/-- Whatever order of the head, up to a condition on what is listed. -/
def headQ (P : Program) (md : Region.Mode) (ops : Array Oper) (C : World → Prop) (n : Nat) (L : Array Bool → Act → Prop) : Nat → Array Bool → Act → Prop
  | 0, listed, a => L listed a
  | f + 1, listed, a => Region.ready md ops listed ≠ [] ∧ ∀ i ∈ Region.ready md ops listed, i < n ∧ qOp P ops C i (headQ P md ops C n L f (listed.setIfInBounds i true)) a

theorem wpAny_of_headQ {n g : Nat} {L : Array Bool → Act → Prop} {Q' : Exit → Act → World → Prop} (hL : ∀ listed a w, C w → L listed a → wpAny P md ops Q' g listed a w) :
    ∀ (f : Nat) (listed : Array Bool) (a : Act) (w : World), C w → headQ P md ops C n L f listed a → wpAny P md ops Q' (f + g) listed a w
  | 0, _, _, _, hw, h => by rw [Nat.zero_add]; exact hL _ _ _ hw h
  | f + 1, listed, a, w, hw, h => by
    rw [show f + 1 + g = (f + g) + 1 by omega]
    exact ⟨fun h0 => absurd h0 h.1, fun i hi => wpOp_of_qOp hw (fun a' w' hw' h' => wpAny_of_headQ hL f _ a' w' hw' h') (h.2 i hi).2⟩

theorem headQ_first {n i : Nat} {oi : Oper} {v : Value} {L : Array Bool → Act → Prop} (hi : ops[i]? = some oi) (hsel : ∀ (j : Nat) (o : Oper) cs b, ops[j]? = some o → o.op ≠ .select cs b)
    (hs : Region.sinkB md ops n = true) (hc : Region.chainB md ops n = true) (hn : n < ops.size) (hin : i < n)
    (hdone : ∀ listed a, L listed a → ∀ j ∈ Region.ready md ops listed, n ≤ j) :
    ∀ (f : Nat) (listed : Array Bool) (a : Act), HeadInv md ops n listed →
      (∀ j oj, ops[j]? = some oj → j ≠ i → listed.getD j true = false → (∀ e ∈ oj.after, Region.binds md e = true → e.on ≠ i) → oi.apart ops oj = true) →
      i ∈ Region.ready md ops listed → YieldsIn P ops C oi v a →
      headQ P md ops C n L f (listed.setIfInBounds i true) (a.put oi.dst v) → headQ P md ops C n L (f + 1) listed a := by
  intro f
  induction f with
  | zero =>
    intro listed a inv _ hr hy H
    have hun := (mem_ready.1 hr).1
    refine ⟨fun h => (by rw [h] at hr; cases hr), fun j hj => ?_⟩
    have hjn : j < n := by
      rcases Nat.lt_or_ge j n with h | h
      · exact h
      · exact absurd hj (tail_waits hs hc hn inv _ i rfl hin hun j h)
    refine ⟨hjn, ?_⟩
    by_cases hji : j = i
    · subst hji; exact hy.qOp hi H
    · have := hdone _ _ H j (ready_mono hj hji)
      omega
  | succ f ih =>
    intro listed a inv hfree hr hy H
    have hun := (mem_ready.1 hr).1
    refine ⟨fun h => (by rw [h] at hr; cases hr), fun j hj => ?_⟩
    have hjn : j < n := by
      rcases Nat.lt_or_ge j n with h | h
      · exact h
      · exact absurd hj (tail_waits hs hc hn inv _ i rfl hin hun j h)
    refine ⟨hjn, ?_⟩
    by_cases hji : j = i
    · subst hji; exact hy.qOp hi H
    · have h1 := (H.2 j (ready_mono hj hji)).2
      obtain ⟨hjun, oj, hoj, hall⟩ := mem_ready.1 hj
      have hnot : ∀ e ∈ oj.after, Region.binds md e = true → e.on ≠ i := fun e he hb heq => by
        have h1 := hall e he hb
        rw [heq, getD_both hun] at h1
        cases h1
      have h2 := qOp_put hoj (hfree j oj hoj hji hjun hnot) (fun cs b => hsel i oi cs b hi) (fun cs b => hsel j oj cs b hoj) hy h1
      have hfree' : ∀ k ok, ops[k]? = some ok → k ≠ i → (listed.setIfInBounds j true).getD k true = false →
          (∀ e ∈ ok.after, Region.binds md e = true → e.on ≠ i) → oi.apart ops ok = true := fun k ok hk hki hun hno => by
        refine hfree k ok hk hki ?_ hno
        by_cases hjk : j = k
        · subst hjk; exact hjun
        · rw [getD_set_ne true hjk] at hun; exact hun
      refine qOp_mono (fun a' h3 => ih (listed.setIfInBounds j true) a' (inv.set hj hjn) hfree' (ready_mono hr (Ne.symm hji)) h3.1 ?_) h2
      rw [Array.setIfInBounds_comm _ _ hji]
      exact h3.2

theorem headQ_lex {n g : Nat} {Lq : Act → Prop} (hsel : Region.noSelect ops = true) (hs : Region.sinkB md ops n = true) (hc : Region.chainB md ops n = true) (hn : n < ops.size) :
    ∀ (l : List Oper) (k : Nat) (listed : Array Bool) (a : Act), (∀ j, j < l.length → l[j]? = ops[k + j]?) → k + l.length = n → HeadInv md ops n listed →
    Region.lexHead md ops g l.length k listed = true → wpQuiet P ops C Lq l a →
    headQ P md ops C n (fun listed' a' => Region.seqB md ops g n listed' = true ∧ Lq a') l.length listed a
  | [], k, _, _, _, hk, _, hB, h => by
    have : k = n := by simpa using hk
    subst this
    exact ⟨by simpa [Region.lexHead] using hB, h⟩
  | o :: l, k, listed, a, hl, hk, inv, hB, h => by
    have h0 : ops[k]? = some o := by simpa using (hl 0 (by simp)).symm
    simp only [List.length_cons, Region.lexHead, Bool.and_eq_true] at hB
    obtain ⟨⟨hr, hf⟩, hB'⟩ := hB
    have hkn : k < n := by simp only [List.length_cons] at hk; omega
    have hr' : k ∈ Region.ready md ops listed := by simpa using hr
    have hst : qOp P ops C k (wpQuiet P ops C Lq l) a := by unfold qOp; simp only [h0]; exact h
    obtain ⟨v, hy, hK⟩ := yieldsIn_of_qOp h0 hst
    exact headQ_first h0 (Region.noSelect_spec hsel) hs hc hn hkn (fun listed' a' hL => seqB_ready hL.1) l.length listed a inv (Region.free_spec h0 hf) hr' hy
      (headQ_lex hsel hs hc hn l (k + 1) _ _ (fun j hj => by have := hl (j + 1) (by simp; omega); simpa [Nat.add_assoc, Nat.add_comm 1 j] using this) (by simp only [List.length_cons] at hk; omega) (inv.set hr' hkn) hB' hK)

/-- The head quiet in the class, the tail in its one order. -/
theorem wp_region_class_tail {id : Nat} {Q : Exit → Act → World → Prop} {a : Act} {w : World} {l : List Oper} (n : Nat) (C : World → Prop) (hm : P.follows .mixedOrders = true) (hB : Region.lexTailB .any l.toArray n = true) (hC : C w.drew)
    (h : wpQuiet P l.toArray C (fun a' => ∀ w', C w' → wpList P l.toArray Q (l.drop n) a' w') (l.take n) a) : (Code.region id l.toArray true).wp P Q a w := by
  simp only [Region.lexTailB, Bool.and_eq_true, decide_eq_true_eq] at hB
  obtain ⟨⟨⟨⟨hsel, hn⟩, hs⟩, hc⟩, hlex⟩ := hB
  have hn' : n < l.length := by simpa using hn
  have htl : (l.take n).length = n := by simp; omega
  have hdl : (l.drop n).length = l.toArray.size - n := by simp
  have inv0 : HeadInv .any l.toArray n (Array.replicate l.toArray.size false) :=
    ⟨by simp, fun j oj _ hl => (by rw [getD_replicate_false] at hl; cases hl), fun t _ ht => getD_in (by simpa using ht) (getD_replicate_false _ _)⟩
  have H := headQ_lex (md := .any) (g := l.toArray.size - n) hsel hs hc hn (l.take n) 0 _ a (fun j hj => by
    have hj' : j < n := by rw [htl] at hj; exact hj
    simp [hj']) (by simpa using htl) inv0 (by rw [htl]; exact hlex) h
  refine wp_region_any hm ?_
  have := wpAny_of_headQ (Q' := Q) (g := l.toArray.size - n) (fun listed a' w' hw' hL => by
    have := wpAny_of_seq (md := .any) (Q' := Q) (l.drop n) n listed a' w' (fun j => by simp [List.getElem?_drop]) (by rw [hdl]; exact hL.1) (hL.2 w' hw')
    rwa [hdl] at this) _ _ _ _ hC H
  rw [htl, show n + (l.toArray.size - n) = l.toArray.size by omega] at this
  exact this
end
end Go.Cu
/- The builtin copy into a block that is known whole. -/
namespace Go.Cu
open Go Go.RowKit
theorem putAt_nil (cur : Array Value) (o : Nat) : putAt cur o [] = cur := by
  unfold putAt
  simp
theorem wpList_copyB {P : Program} {w : World} {ops : Array Oper} {rest : List Oper} {o : Oper} {a : Act} {Q : Exit → Act → World → Prop} (hw : Region.wanted o (yielded ops a.tmps) = true) (d s : Operand) (dT sT : TypeId)
    (ho : o.op = .call { callee := .builtin .copy, args := #[d, s], argTypes := #[dT, sT] }) (elem : TypeId) (hu : P.underlying dT = some (.slice elem)) (hsz : (P.info? elem).map (·.size) = some 1)
    (g off dLen dCap : Nat) (sp : Option Addr) (sLen sCap : Nat) (hd : a.eval d = .slice (some ⟨g, off, none⟩) dLen dCap) (hs : a.eval s = .slice sp sLen sCap)
    (cur : Array Value) (t : TypeId) (hg : w.heap[g]? = some (.cells cur t (0, 0))) (cs : List Value) (hn : cs.length = Nat.min sLen dLen)
    (hsrc : ∀ j v, cs[j]? = some v → ∃ ad, sp = some ad ∧ w.cell? (ad.add j) = some v) (hfit : off + cs.length ≤ cur.size) (h1 : ∀ v ∈ cs, v.oneCell' = true)
    (h : ∀ w' : World, w'.heap[g]? = some (.cells (putAt cur off cs) t (0, 0)) → Tch (· = g) w w' → wpList P ops Q rest (a.put o.dst (goInt cs.length)) w') : wpList P ops Q (o :: rest) a w := by
  refine wpList_wanted hw fun K hK => ?_
  match cs, hn, hsrc, hfit, h1, h with
  | [], hn, _, _, _, h =>
    have hrun := run_copy_none (P := P) w dT sT o.type elem (some ⟨g, off, none⟩) sp dLen dCap sLen sCap hu hsz (by simpa using hn.symm)
    have hz := hK _ _ (h w (by rw [putAt_nil]; exact hg) (Tch.refl _ _))
    unfold Oper.wp execOp
    simp only [ho, resolve, invoke, builtin, Sem.run_bind, Sem.run_pure, Result.andThen_ok, List.map_toArray, List.map_cons, List.map_nil, hd, hs, hrun]
    exact hz
  | c :: cs, hn, hsrc, hfit, h1, h =>
    obtain ⟨ad, rfl, _⟩ := hsrc 0 c rfl
    have hrun := run_copy_row (P := P) w dT sT o.type elem g off dLen dCap ad sLen sCap cur t (c :: cs) hu hsz hg hn (fun j v hj => by
      obtain ⟨ad', e, hc⟩ := hsrc j v hj
      cases e; exact hc) hfit h1
    have hz := hK _ _ (h _ (setRow_heap w g cur _ t _ hg) ⟨rfl, rfl, rfl, by simp, fun k _ hk => setRow_other w g k _ hk⟩)
    unfold Oper.wp execOp
    simp only [ho, resolve, invoke, builtin, Sem.run_bind, Sem.run_pure, Result.andThen_ok, List.map_toArray, List.map_cons, List.map_nil, hd, hs, hrun]
    exact hz
end Go.Cu
/- What the sums stand on, at a program without a disk. -/
namespace Go.Cu
open Go Go.RowKit
section
variable {P : Program}
theorem run_append_zero {w : World} (base : Nat) (t ty e : TypeId) (i : TypeInfo) (size : Nat) (ht : P.underlying t = some (.slice e)) (hi : P.info? e = some i)
    (v : Value) (n : Nat) (xs : List Value) (hown : w.ownsRow base e size v n xs) (B : Option Addr) (c : Nat) :
    (Builtin.append_ #[t, t] ty #[v, .slice B 0 c]).run P w = .ok v w := by
  have hl : ∀ a : Addr, (loadCells a 0).run P w = .ok #[] w := fun a => run_loadCells_list (P := P) w a [] (fun j v hj => by cases hj)
  rcases hown.2 with ⟨rfl, rfl⟩ | ⟨g, cap, cur, rfl, _, _, hnc, _⟩
  · cases B <;> simp [Builtin.append_, run_underlying ht, sizeOf, typeInfo, hi, Builtin.lenOf, Builtin.firstCells, hl]
  · cases B <;> simp [Builtin.append_, run_underlying ht, sizeOf, typeInfo, hi, Builtin.lenOf, Builtin.firstCells, hnc, storeCells, hl]
theorem wpList_append_bytes {ops : Array Oper} {rest : List Oper} {o : Oper} {a : Act} {w : World} {Q : Exit → Act → World → Prop} (s x : Operand) (t : TypeId)
    (ho : o.op = .call { callee := .builtin .append, args := #[s, x], argTypes := #[t, t] }) (v : Value) (hs : a.eval s = v) (B : Option Addr) (c : Nat) (r : List UInt8) (hx : a.eval x = .slice B r.length c) (hw : Region.wanted o (yielded ops a.tmps) = true)
    (e : TypeId) (i : TypeInfo) (ht : P.underlying t = some (.slice e)) (hi : P.info? e = some i) (hz : i.zero = some (.int .u8 0))
    (hsize : i.size = 1) (hby : i.bytes = 1)
    (n : Nat) (xs : List Value) (hown : w.ownsRow 0 e 1 v n xs) (hb : BytesIn w B r)
    (h63 : n + r.length ≤ 140737488355328)
    (h : ∀ v' w', w'.ownsRow 0 e 1 v' (n + r.length) (xs ++ bvL r) → Tch (fun g => v.ownBlock = some g) w w' → (v'.ownBlock = v.ownBlock ∨ v'.ownBlock = some w.heap.size) → wpList P ops Q rest (a.put o.dst v') w') : wpList P ops Q (o :: rest) a w := by
  match r, hb, h63, h, hx with
  | [], hb, h63, h, hx =>
    refine wpList_wanted hw fun K hK => ?_
    have hrun := run_append_zero 0 t o.type e i 1 ht hi v n xs hown B c
    unfold Oper.wp execOp
    simp only [ho, resolve, invoke, builtin, Sem.run_bind, Sem.run_pure, Result.andThen_ok, List.map_toArray, List.map_cons, List.map_nil, hs, hx, List.length_nil, hrun]
    exact hK _ _ (h v w (by simpa [bvL] using hown) (Tch.refl _ _) (.inl rfl))
  | b :: r, hb, h63, h, hx =>
    obtain ⟨g, o', rfl, _, _⟩ := hb 0 b rfl
    refine wpList_append_at s x t ho v hs ⟨g, o', none⟩ (b :: r).length c hx hw e i (.int .u8 0) 1 1 ht hi hz hsize hby rfl (by decide) n xs hown (bvL (b :: r)) (by simp [bvL]) (fun j u hj => ?_) (bvL_one _) (by unfold maxLen; omega) (by omega) h
    unfold bvL at hj
    rw [List.getElem?_map] at hj
    cases hq : (b :: r)[j]? with
    | none => rw [hq] at hj; cases hj
    | some q =>
      rw [hq] at hj
      obtain rfl : Value.int .u8 q.toNat = u := by simpa using hj
      obtain ⟨g', o2, e', _, hc⟩ := hb j q hq
      cases e'
      have e3 : (⟨g, o', none⟩ : Addr).add j = ⟨g, o' + j, none⟩ := by unfold Addr.add; split <;> simp_all
      rw [e3]
      exact hc
end
section
variable {W0 W : World} {L : List Atm}
theorem BytesIn.take {W : World} {A : Option Addr} {r : List UInt8} (h : BytesIn W A r) (m : Nat) : BytesIn W A (r.take m) := fun i b hi => by
  have hi' : i < m := by
    rcases Nat.lt_or_ge i m with h1 | h1
    · exact h1
    · rw [List.getElem?_eq_none (by rw [List.length_take]; omega)] at hi; cases hi
  rw [List.getElem?_take_of_lt hi'] at hi
  exact h i b hi
theorem St.row_val {A : Option Addr} {c e n : Nat} {bs : List UInt8} (h : St W0 (Row (.slice A n c) e 1 n (bvL bs) :: L) W) (hn : n = bs.length) : St W0 (Vals [.slice A n c] [bs] :: L) W := by
  obtain ⟨F, ha, hF, hr⟩ := h.first
  refine hr _ _ ⟨rfl, fun i r hi => ?_⟩ (Tch.refl _ _)
  match i with
  | i + 1 => cases hi
  | 0 =>
    obtain rfl : bs = r := by simpa using hi
    rcases ha.2.2 with ⟨h1, h0⟩ | ⟨g, cap, cur, e1, _, hh, hc, hm, _, hp⟩
    · have : bs = [] := List.eq_nil_of_length_eq_zero (by omega)
      subst this
      have e2 : A = none ∧ c = 0 := by injection h1 with p1 p2 p3; exact ⟨p1, p3⟩
      exact ⟨A, c, by rw [hn]; rfl, by simp, by rw [e2.2]; exact Nat.zero_le _, fun k b hb => by cases hb⟩
    · have e2 : A = some ⟨g, 0, none⟩ ∧ c = cap := by injection e1 with p1 p2 p3; exact ⟨p1, p3⟩
      refine ⟨A, c, by rw [hn]; rfl, by omega, by omega, fun k b hb => ?_⟩
      have hk : k < n := by
        rw [hn]
        rcases Nat.lt_or_ge k bs.length with h | h
        · exact h
        · rw [List.getElem?_eq_none h] at hb; cases hb
      refine ⟨g, 0, e2.1, .inl (ha.1 g (by rw [e2.1]; rfl)), heap_lt hh, ?_⟩
      rw [cell_of_row W g (0 + k) _ _ _ hh, Nat.zero_add]
      have h3 : (cur.toList.take (n * 1))[k]? = some (Value.int .u8 b.toNat) := by rw [hp]; unfold bvL; rw [List.getElem?_map, hb]; rfl
      rw [Nat.mul_one, List.getElem?_take_of_lt (by omega)] at h3
      simpa using h3
def be8 (n : Nat) : List UInt8 := (List.range 8).map fun i => UInt8.ofNat (n / 2 ^ (8 * (7 - i)))
theorem be8_len (n : Nat) : (be8 n).length = 8 := by simp [be8]
theorem BytesIn.below {W W' : World} {A : Option Addr} {r : List UInt8} (h : BytesIn W A r) (hb : Below W.heap.size W W') : BytesIn W' A r := fun i b hi => by
  obtain ⟨g, o, e, hg, hc⟩ := h i b hi
  exact ⟨g, o, e, Nat.lt_of_lt_of_le hg hb.size, (hb.cell (p := ⟨g, o + i, none⟩) hg).trans hc⟩
end
end Go.Cu
namespace Go.Proofs.YtnakbdgoaepehaaDoor
open Go.RowKit Go.Cu
def lenOf : Value → Nat
  | .slice _ n _ => n
  | _ => 0
theorem be5 : ByteElem Tryd.prog 5 := ⟨by kernel_rfl, Tryd.underlying5⟩
theorem u8_cast (m : Nat) : ((UInt8.ofNat m).toNat : Int) = (m : Int) % 256 := by
  rw [UInt8.toNat_ofNat']
  omega
theorem results_cell {fn : Func} {p : Tmp} {ty e : TypeId} {n : Nat} (h : fn.results = #[.cell p ty]) (tmps : Array Value) (P : Program) (w : World) (g : Nat) (t' : TypeId) (cs : Array Value) (fr : Nat × Nat)
    (hp : tmps.getD p undef = .pointer (some ⟨g, 0, none⟩)) (hg : w.heap[g]? = some (.cells cs t' fr))
    (hu : P.underlying ty = some (.array n e)) (hi : (P.info? ty).map (·.size) = some cs.size) :
    (results fn tmps).run P w = .ok (.agg cs) w := by
  have hp' : tmps[p]?.getD undef = .pointer (some ⟨g, 0, none⟩) := by simpa using hp
  have hl := run_loadVar_row (P := P) w g t' ty cs fr _ hg hu rfl hi
  simp [results, h, hp', asAddr, hl]
theorem be8_get (n : Nat) {k : Nat} (hk : k < 8) : (be8 n)[k]? = some (UInt8.ofNat (n / 2 ^ (8 * (7 - k)))) := by
  unfold be8
  rw [List.getElem?_map, List.getElem?_range hk]
  rfl
theorem info5 : (Tryd.prog.info? 5).map (fun i => (i.zero, i.size, i.bytes)) = some (some (.int .u8 0), 1, 1) := by kernel_rfl
section
variable {W0 W : World} {L : List Atm}
theorem blk_cell {g : Nat} {cs : Array Value} {t : TypeId} (h : St W0 (Blk g cs t :: L) W) (i : Nat) : W.cell? ⟨g, i, none⟩ = cs[i]? := cell_of_row W g i _ _ _ h.blk
end
end Go.Proofs.YtnakbdgoaepehaaDoor
/- Keys: bits, what two begin with alike. -/
namespace Go.Proofs
open Go.Shelf
def Tryd.lays126_ren : Go.Shelf.Ren := ⟨fun | 126 => 73 | n => n, fun | 5 => 5 | 3 => 3 | 9 => 9 | n => n, fun | n => n⟩
theorem Tryd.lays126 : Go.Proofs.Lays.n126 Tryd.prog Tryd.lays126_ren := {
  mixed := by kernel_rfl
  f126 := Tryd.func73.trans (congrArg some (by kernel_rfl))
  t3 := Tryd.underlying3
  a3 := Tryd.isAgg3
  z3 := Tryd.sizeOf3
  v3 := Tryd.zeroValue3
  t5 := Tryd.underlying5
  a5 := Tryd.isAgg5
  z5 := Tryd.sizeOf5
  v5 := Tryd.zeroValue5
  t9 := Tryd.underlying9
  a9 := Tryd.isAgg9
  z9 := Tryd.sizeOf9
  v9 := Tryd.zeroValue9 }
/-- bits.Len8: "Len8 returns the minimum number of bits required to represent x; the result is 0 for x == 0.": IT RETURNS 'Lib.bitLen x'; the world is as it was. ('h0', 'h1': x is a uint8.) (LAID: no walk: one application.) -/
theorem Tryd.bits_Len8 (x : Int) (w : World) (h0 : 0 ≤ x) (h1 : x ≤ 255) :
    Calls Tryd.prog 73 #[.int .u8 x] w fun e w' => e = .returned (.int .i64 (Lib.bitLen x.toNat)) ∧ w' = w := Any.bits_Len8 Tryd.lays126 x w h0 h1
def Tryd.lays131_ren : Go.Shelf.Ren := ⟨fun | 131 => 69 | 126 => 73 | n => n, fun | 5 => 5 | 3 => 3 | 9 => 9 | n => n, fun | n => n⟩
theorem Tryd.lays131 : Go.Proofs.Lays.n131 Tryd.prog Tryd.lays131_ren := {
  mixed := by kernel_rfl
  f126 := Tryd.func73.trans (congrArg some (by kernel_rfl))
  f131 := Tryd.func69.trans (congrArg some (by kernel_rfl))
  t3 := Tryd.underlying3
  a3 := Tryd.isAgg3
  z3 := Tryd.sizeOf3
  v3 := Tryd.zeroValue3
  t5 := Tryd.underlying5
  a5 := Tryd.isAgg5
  z5 := Tryd.sizeOf5
  v5 := Tryd.zeroValue5
  t9 := Tryd.underlying9
  a9 := Tryd.isAgg9
  z9 := Tryd.sizeOf9
  v9 := Tryd.zeroValue9 }
/-- bits.LeadingZeros8: "LeadingZeros8 returns the number of leading zero bits in x; the result is 8 for x == 0.": IT RETURNS '8 - Lib.bitLen x'; the world is as it was. ITS CALLEE bits.Len8 IS MET BY ITS OWN CONTRACT OFF THE SHELF (lay that first): ENTERED IN PLACE it sends the kernel out of memory. (LAID: no walk: one application.) -/
theorem Tryd.bits_LeadingZeros8 (x : Int) (w : World) (h0 : 0 ≤ x) (h1 : x ≤ 255) :
    Calls Tryd.prog 69 #[.int .u8 x] w fun e w' => e = .returned (.int .i64 (8 - (Lib.bitLen x.toNat : Int))) ∧ w' = w := Any.bits_LeadingZeros8 Tryd.lays131 x w h0 h1
end Go.Proofs
namespace Go.Proofs.YtnakbdgoaepehaaDoor
open Go.RowKit Go.Cu
theorem size24 : (Tryd.prog.info? 24).map (·.size) = some 32 := by kernel_rfl
theorem ret_int {k : IntKind} {a b : Int} (h : a = b) : Ending.returned (.int k a) = .returned (.int k b) := by rw [h]
theorem cm_i64 (k l : List UInt8) : -9223372036854775808 ≤ (cm k l : Int) ∧ (cm k l : Int) ≤ 9223372036854775807 := by have := cm_le k l; omega
theorem cell_of {w : World} {g : Nat} {t : TypeId} {l : List UInt8} (hg : w.heap[g]? = some (.cells (bv l) t (0, 0))) {i : Nat} (hi : i < l.length) : w.cell? ⟨g, i, none⟩ = some (.int .u8 (bt l i)) :=
  (cell_of_row w g i (bv l) t (0, 0) hg).trans (bv_get l i hi)

set_option maxHeartbeats 400000 in
theorem common_any (k l : List UInt8) (w : World) (hk : k.length = 32) (hl : l.length = 32) :
    Calls Tryd.prog 58 #[.agg (bv k), .agg (bv l)] w fun e w' => e = .returned (.int .i64 (cm k l)) ∧ Below w.heap.size w w' := by
  have hix := hid fun (i : Nat) (h : i < 32) (W : World) => run_index_bv (P := Tryd.prog) Tryd.underlying24 be5 k hk i h W
  have HSK := hid ((bv_size k).trans hk)
  have HL := hid hl
  clear hk hl
  go_enter Tryd.func58, Tryd.ntmps58
  repeat (apply wp_seq_k; intro _ _)
  apply wp_region_lit
  refine wpList_box rfl 24 _ rfl (.agg (bv k)) rfl ?_
  intro ga W1 hA1 ha1 _ hW1
  refine wpList_box rfl 24 _ rfl (.agg (bv l)) rfl ?_
  intro gb W0 hB hb _ hW2
  have hA : W0.heap[ga]? = some (.cells (bv k) 24 (0, 0)) := (hW2.block ga ha1).trans hA1
  have hW := (hW1.trans (hW2.mono hW1.size))
  have ha := Nat.lt_of_lt_of_le ha1 hW2.size
  have hX : Below W0.heap.size W0 W0 := Below.refl _ _
  clear hW1 hW2 hA1 ha1
  go_wp2_with ((refine wpList_load_at 24 _ rfl ga rfl rfl _ Tryd.underlying24 rfl 32 size24 24 _ (0, 0) ((hX.block _ ha).trans hA) HSK.out ?_))
  go_loop [5, 6, 8] (fun _ _ i => ∃ n : Nat, n ≤ 32 ∧ i = .int .i64 n ∧ Hid (∀ j, j < n → k.getD j 0 = l.getD j 0)) (fun _ _ i => 32 - (intOf i).toNat)
  case atStart => exact ⟨0, by omega, rfl, fun j hj => absurd hj (by omega)⟩
  case round =>
    obtain ⟨n, hn, rfl, HP⟩ := hrel
    by_cases hlt : n < 32
    · have h1 := hix.out n hlt
      have h2 := cell_of hB (i := n) (by rw [HL.out]; exact hlt)
      by_cases hne : bt k n = bt l n
      · have HE := hid hne
        have hb2 : (bt k n != bt l n) = false := by rw [hne]; simp
        clear hne
        go_wp2_with fail
        go_round
        case rel => exact ⟨n + 1, by omega, by go_num, fun j hj => by
          rcases Nat.lt_or_ge j n with h | h
          · exact HP.out j h
          · rw [show j = n by omega]; exact bt_inj HE.out⟩
        case measure => simp [intOf]; omega
      · have HX := hid (cm_exit hlt HP.out hne)
        have hb2 : (bt k n != bt l n) = true := by simpa using hne
        clear hne
        go_wp2_with (go_at_call 69; refine (Tryd.bits_LeadingZeros8 _ _ HX.out.1 HX.out.2.1).mono ?_; rintro e w' ⟨rfl, rfl⟩)
        go_ret
        exact ⟨ret_int (by rw [HX.out.2.2]; exact IntWalk.wrap64_in _ (cm_i64 k l)), hW⟩
    · go_wp2
      go_ret
      exact ⟨ret_int (by rw [cm_all (fun j hj => HP.out j (by omega))]; rfl), hW⟩

/-- A bit, as the code answers it. -/
def bitI (k : List UInt8) (i : Int) : Int := if 0 ≤ i ∧ i < 256 then (bitN k i.toNat : Int) else 0

set_option maxHeartbeats 400000 in
theorem within_in (i : Int) (w : World) (h0 : 0 ≤ i) (h1 : i < 256) : Calls Tryd.prog 64 #[.int .i64 i] w fun e w' => e = .returned (.bool true) ∧ w = w' := by
  go_enter Tryd.func64, Tryd.ntmps64
  go_wp2
  go_ret
  exact ⟨rfl, rfl⟩
set_option maxHeartbeats 400000 in
theorem within_out (i : Int) (w : World) (h : i < 0 ∨ 256 ≤ i) : Calls Tryd.prog 64 #[.int .i64 i] w fun e w' => e = .returned (.bool false) ∧ w = w' := by
  by_cases h0 : 0 ≤ i
  · have h1 : ¬ i < 256 := by omega
    clear h
    go_enter Tryd.func64, Tryd.ntmps64
    go_wp2
    go_ret
    exact ⟨rfl, rfl⟩
  · clear h
    go_enter Tryd.func64, Tryd.ntmps64
    go_wp2
    go_ret
    exact ⟨rfl, rfl⟩
theorem bt_shift (k : List UInt8) (n : Nat) : bt k (n / 8) / 2 ^ (7 - n % 8) = (((k.getD (n / 8) 0).toNat / 2 ^ (7 - n % 8) : Nat) : Int) := by
  unfold bt
  rw [show ((2 : Int) ^ (7 - n % 8)) = ((2 ^ (7 - n % 8) : Nat) : Int) by simp, ← Int.natCast_ediv]
theorem bt_shift_lt (k : List UInt8) (n : Nat) : (k.getD (n / 8) 0).toNat / 2 ^ (7 - n % 8) < 256 := Nat.lt_of_le_of_lt (Nat.div_le_self _ _) (UInt8.toNat_lt _)
theorem bit_val (k : List UInt8) (n : Nat) : bits .and .i64 (wrap64 (bt k (n / 8) / 2 ^ (7 - n % 8))) 1 = (bitN k n : Int) := by
  have h := bt_shift_lt k n
  rw [bt_shift]
  unfold bitN
  generalize (k.getD (n / 8) 0).toNat / 2 ^ (7 - n % 8) = v at *
  rw [IntWalk.wrap64_in _ (by omega), Go.Proofs.and_one _ (by omega)]
theorem bit_val' (k : List UInt8) (n : Nat) : (wrap64 (bt k (n / 8) / 2 ^ (7 - n % 8))).tmod 2 = (bitN k n : Int) := by
  have h := bt_shift_lt k n
  rw [bt_shift]
  unfold bitN
  generalize (k.getD (n / 8) 0).toNat / 2 ^ (7 - n % 8) = v at *
  rw [IntWalk.wrap64_in _ (by omega), Int.tmod_eq_emod_of_nonneg (by omega)]
  omega
set_option maxHeartbeats 400000 in
theorem bit_in (k : List UInt8) (n : Nat) (w : World) (hk : k.length = 32) (hn : n < 256) :
    Calls Tryd.prog 54 #[.agg (bv k), .int .i64 n] w fun e w' => e = .returned (.int .i64 (bitN k n)) ∧ Below w.heap.size w w' := by
  have HK := hid hk
  clear hk
  go_enter Tryd.func54, Tryd.ntmps54
  repeat (apply wp_seq_k; intro _ _)
  apply wp_region_lit
  refine wpList_box rfl 24 _ rfl (.agg (bv k)) rfl ?_
  intro ga W0 hA ha _ hW
  have hX : Below W0.heap.size W0 W0 := Below.refl _ _
  have h2 := cell_of hA (i := n / 8) (by rw [HK.out]; omega)
  go_wp2_with (go_at_call 64; refine (within_in _ _ (by omega) (by omega)).mono ?_; rintro e w' ⟨rfl, rfl⟩)
  go_ret
  exact ⟨ret_int (bit_val k n), hW⟩
set_option maxHeartbeats 400000 in
theorem bit_out (k : List UInt8) (i : Int) (w : World) (h : i < 0 ∨ 256 ≤ i) :
    Calls Tryd.prog 54 #[.agg (bv k), .int .i64 i] w fun e w' => e = .returned (.int .i64 0) ∧ Below w.heap.size w w' := by
  go_enter Tryd.func54, Tryd.ntmps54
  repeat (apply wp_seq_k; intro _ _)
  apply wp_region_lit
  refine wpList_box rfl 24 _ rfl (.agg (bv k)) rfl ?_
  intro ga W0 hA ha _ hW
  have hX : Below W0.heap.size W0 W0 := Below.refl _ _
  go_wp2_with (go_at_call 64; refine (within_out _ _ h).mono ?_; rintro e w' ⟨rfl, rfl⟩)
  go_ret
  exact ⟨rfl, hW⟩
set_option maxRecDepth 20000 in
set_option maxHeartbeats 400000 in
theorem under_any (k l : List UInt8) (i : Int) (w : World) (hk : k.length = 32) (hl : l.length = 32) :
    Calls Tryd.prog 33 #[.agg (bv k), .agg (bv l), .int .i64 i] w fun e w' => e = .returned (.bool (decide (min i 256 ≤ (cm k l : Int)))) ∧ Below w.heap.size w w' := by
  have HK := hid hk
  have HL := hid hl
  have HSK := hid ((bv_size k).trans hk)
  have HSL := hid ((bv_size l).trans hl)
  clear hk hl
  go_enter Tryd.func33, Tryd.ntmps33
  repeat (apply wp_seq_k; intro _ _)
  apply wp_region_lit
  refine wpList_box rfl 24 _ rfl (.agg (bv k)) rfl ?_
  intro ga W1 hA1 ha1 _ hW1
  refine wpList_box rfl 24 _ rfl (.agg (bv l)) rfl ?_
  intro gb W0 hB hb _ hW2
  have hA : W0.heap[ga]? = some (.cells (bv k) 24 (0, 0)) := (hW2.block ga ha1).trans hA1
  have hW := (hW1.trans (hW2.mono hW1.size))
  have ha := Nat.lt_of_lt_of_le ha1 hW2.size
  have hX : Below W0.heap.size W0 W0 := Below.refl _ _
  clear hW1 hW2 hA1 ha1
  go_wp2_with (first | (refine wpList_load_at 24 _ rfl ga rfl rfl _ Tryd.underlying24 rfl 32 size24 24 _ (0, 0) ((hX.block _ ha).trans hA) HSK.out ?_) | (refine wpList_load_at 24 _ rfl gb rfl rfl _ Tryd.underlying24 rfl 32 size24 24 _ (0, 0) ((hX.block _ hb).trans hB) HSL.out ?_) | (go_at_call 58; (with_reducible refine (common_any k l _ HK.out HL.out).mono ?_); rintro e X ⟨rfl, hX1⟩; replace hX := hX.trans (hX1.mono hX.size); clear hX1))
  go_ret
  exact ⟨rfl, hW.trans (hX.mono hW.size)⟩
/-- A bit of a key at any place from nought on. -/
theorem bit_any (k : List UInt8) (n : Nat) (w : World) (hk : k.length = 32) (hn : n < 9223372036854775808) :
    Calls Tryd.prog 54 #[.agg (bv k), .int .i64 n] w fun e w' => e = .returned (.int .i64 (bitN k n)) ∧ Below w.heap.size w w' := by
  rcases Nat.lt_or_ge n 256 with h | h
  · exact bit_in k n w hk h
  · have h0 : bitN k n = 0 := by
      unfold bitN
      rw [List.getD_eq_getElem?_getD, List.getElem?_eq_none (by omega)]
      simp
    rw [h0]
    exact bit_out k n w (.inr (by omega))
end Go.Proofs.YtnakbdgoaepehaaDoor
/- Words of 32 bits, turned and mixed. -/
namespace Go.Cu
open Go Go.RowKit
/-- A word turned to the right. -/
def rotr (x : UInt32) (n : Nat) : UInt32 := UInt32.ofNat (x.toNat * 2 ^ (32 - n) % 4294967296 ||| x.toNat / 2 ^ n)
def smallW (x : UInt32) (p q r : Nat) : UInt32 := rotr x p ^^^ rotr x q ^^^ UInt32.ofNat (x.toNat / 2 ^ r)
def bigW (x : UInt32) (p q r : Nat) : UInt32 := rotr x p ^^^ rotr x q ^^^ rotr x r
theorem ofInt32 {a : Nat} (h : a < 4294967296) : (BitVec.ofInt 32 (a : Int)).toNat = a := by
  rw [BitVec.ofInt_natCast, BitVec.toNat_ofNat]; exact Nat.mod_eq_of_lt h
theorem bits_or_u32 {a b : Nat} (ha : a < 4294967296) (hb : b < 4294967296) : bits .or .u32 (a : Int) (b : Int) = ((a ||| b : Nat) : Int) := by
  have hx : a ||| b < 2 ^ 32 := Nat.or_lt_two_pow (by omega) (by omega)
  show IntKind.u32.wrap ((BitVec.ofInt 32 (a : Int) ||| BitVec.ofInt 32 (b : Int)).toNat : Int) = _
  rw [BitVec.toNat_or, ofInt32 ha, ofInt32 hb, IntKind.wrap_u32]
  omega
theorem bits_xor_u32 (a b : UInt32) : bits .xor .u32 (a.toNat : Int) (b.toNat : Int) = ((a ^^^ b).toNat : Int) := by
  have ha := a.toNat_lt
  have hb := b.toNat_lt
  have hx : a.toNat ^^^ b.toNat < 2 ^ 32 := Nat.xor_lt_two_pow (by omega) (by omega)
  show IntKind.u32.wrap ((BitVec.ofInt 32 (a.toNat : Int) ^^^ BitVec.ofInt 32 (b.toNat : Int)).toNat : Int) = _
  rw [BitVec.toNat_xor, ofInt32 (by omega), ofInt32 (by omega), IntKind.wrap_u32, UInt32.toNat_xor]
  omega
theorem bits_and_u32 (a b : UInt32) : bits .and .u32 (a.toNat : Int) (b.toNat : Int) = ((a &&& b).toNat : Int) := by
  have ha := a.toNat_lt
  have hb := b.toNat_lt
  have hx : a.toNat &&& b.toNat < 2 ^ 32 := Nat.and_lt_two_pow _ (by omega)
  show IntKind.u32.wrap ((BitVec.ofInt 32 (a.toNat : Int) &&& BitVec.ofInt 32 (b.toNat : Int)).toNat : Int) = _
  rw [BitVec.toNat_and, ofInt32 (by omega), ofInt32 (by omega), IntKind.wrap_u32, UInt32.toNat_and]
  omega
theorem rotr_nat (x : UInt32) (n : Nat) : ((rotr x n).toNat : Int) = ((x.toNat * 2 ^ (32 - n) % 4294967296 ||| x.toNat / 2 ^ n : Nat) : Int) := by
  unfold rotr
  rw [UInt32.toNat_ofNat']
  have hx := x.toNat_lt
  have h2 : x.toNat / 2 ^ n < 2 ^ 32 := Nat.lt_of_le_of_lt (Nat.div_le_self _ _) (by omega)
  have h3 : x.toNat * 2 ^ (32 - n) % 4294967296 ||| x.toNat / 2 ^ n < 2 ^ 32 := Nat.or_lt_two_pow (by omega) h2
  rw [Nat.mod_eq_of_lt h3]
theorem shr_lt (x : UInt32) (n : Nat) : x.toNat / 2 ^ n < 4294967296 := Nat.lt_of_le_of_lt (Nat.div_le_self _ _) (by have := x.toNat_lt; omega)
theorem shr_nat (x : UInt32) (n : Nat) : ((UInt32.ofNat (x.toNat / 2 ^ n)).toNat : Int) = ((x.toNat / 2 ^ n : Nat) : Int) := by
  rw [UInt32.toNat_ofNat', Nat.mod_eq_of_lt (shr_lt x n)]
end Go.Cu
namespace Go.Proofs.YtnakbdgoaepehaaDoor
open Go.RowKit Go.Cu
theorem rot_any (x : UInt32) {k : Int} {m n : Nat} (hmn : m + n = 32) (hs : bits .and .u64 (IntKind.u64.wrap k) 31 = (m : Int)) (w : World) : Calls Tryd.prog 76 #[.int .u32 x.toNat, .int .i64 k] w fun r w' => r = .returned (.int .u32 (rotr x n).toNat) ∧ w = w' := by
  have h1 : (0 : Int) ≤ (m : Int) := by omega
  have h2 : (m : Int) ≤ 32 := by omega
  have HV : bits .or .u32 ((x.toNat : Int) * 2 ^ m % 4294967296) ((x.toNat : Int) / 2 ^ (32 - m)) = ((rotr x n).toNat : Int) := by
    rw [rotr_nat x n, show 32 - n = m by omega, show 32 - m = n by omega]
    have e1 : (x.toNat : Int) * 2 ^ m % 4294967296 = ((x.toNat * 2 ^ m % 4294967296 : Nat) : Int) := by simp
    have e2 : (x.toNat : Int) / 2 ^ n = ((x.toNat / 2 ^ n : Nat) : Int) := by simp
    rw [e1, e2]
    exact bits_or_u32 (Nat.mod_lt _ (by decide)) (shr_lt x n)
  clear hmn
  go_enter Tryd.func76, Tryd.ntmps76
  go_wp2
  go_ret
  exact ⟨rfl, rfl⟩
/-- The turns that a sum uses. -/
def turnsN : List Nat := [6, 11, 25, 2, 13, 22, 7, 18, 17, 19]
theorem turn_any (x : UInt32) {n : Nat} (hn : n ∈ turnsN) (w : World) : Calls Tryd.prog 75 #[.int .u32 x.toNat, .int .i64 n] w fun r w' => r = .returned (.int .u32 (rotr x n).toNat) ∧ w = w' := by
  have HR := hid (show ∀ X, Calls Tryd.prog 76 #[.int .u32 x.toNat, .int .i64 (-(n : Int))] X fun r w' => r = .returned (.int .u32 (rotr x n).toNat) ∧ X = w' from fun X => by
    simp only [turnsN, List.mem_cons, List.not_mem_nil, or_false] at hn
    rcases hn with rfl | rfl | rfl | rfl | rfl | rfl | rfl | rfl | rfl | rfl
    · exact rot_any x (m := 26) rfl (by decide) X
    · exact rot_any x (m := 21) rfl (by decide) X
    · exact rot_any x (m := 7) rfl (by decide) X
    · exact rot_any x (m := 30) rfl (by decide) X
    · exact rot_any x (m := 19) rfl (by decide) X
    · exact rot_any x (m := 10) rfl (by decide) X
    · exact rot_any x (m := 25) rfl (by decide) X
    · exact rot_any x (m := 14) rfl (by decide) X
    · exact rot_any x (m := 15) rfl (by decide) X
    · exact rot_any x (m := 13) rfl (by decide) X)
  have h1 : n ≤ 25 := by
    simp only [turnsN, List.mem_cons, List.not_mem_nil, or_false] at hn
    omega
  clear hn
  go_enter Tryd.func75, Tryd.ntmps75
  go_wp2_with (go_at_call 76; (with_reducible refine (HR.out _).mono ?_); rintro r w1 ⟨rfl, rfl⟩)
  go_ret
  exact ⟨rfl, rfl⟩
theorem big_ok (x : UInt32) {p q r : Nat} (hp : p ∈ turnsN) (hq : q ∈ turnsN) (hr : r ∈ turnsN) {pi qi ri : Int} (ep : pi = p) (eq : qi = q) (er : ri = r) (w : World) :
    Calls Tryd.prog 71 #[.int .u32 x.toNat, .int .i64 pi, .int .i64 qi, .int .i64 ri] w fun v w' => v = .returned (.int .u32 (bigW x p q r).toNat) ∧ w = w' := by
  subst ep eq er
  have HT := hid (fun (n : Nat) (hn : n ∈ turnsN) X => turn_any x hn X)
  have HP := hid hp
  have HQ := hid hq
  have HR := hid hr
  obtain ⟨a, ha⟩ : ∃ a, a = rotr x p ^^^ rotr x q := ⟨_, rfl⟩
  obtain ⟨b, hb⟩ : ∃ b, b = bigW x p q r := ⟨_, rfl⟩
  have X1 : bits .xor .u32 ((rotr x p).toNat : Int) ((rotr x q).toNat : Int) = (a.toNat : Int) := by rw [ha]; exact bits_xor_u32 _ _
  have X2 : bits .xor .u32 (a.toNat : Int) ((rotr x r).toNat : Int) = (b.toNat : Int) := by rw [hb, ha]; exact bits_xor_u32 _ _
  rw [← hb]
  clear hp hq hr ha hb
  go_enter Tryd.func71, Tryd.ntmps71
  go_wp2_with (go_at_call 75; first | ((with_reducible refine (HT.out p HP.out _).mono ?_); rintro v w1 ⟨rfl, rfl⟩) | ((with_reducible refine (HT.out q HQ.out _).mono ?_); rintro v w1 ⟨rfl, rfl⟩) | ((with_reducible refine (HT.out r HR.out _).mono ?_); rintro v w1 ⟨rfl, rfl⟩))
  go_ret
  exact ⟨rfl, rfl⟩
theorem small_ok (x : UInt32) {p q r : Nat} (hp : p ∈ turnsN) (hq : q ∈ turnsN) (hr : r ≤ 20) {pi qi ri : Int} (ep : pi = p) (eq : qi = q) (er : ri = r) (w : World) :
    Calls Tryd.prog 74 #[.int .u32 x.toNat, .int .i64 pi, .int .i64 qi, .int .i64 ri] w fun v w' => v = .returned (.int .u32 (smallW x p q r).toNat) ∧ Below w.heap.size w w' := by
  subst ep eq er
  have HT := hid (fun (n : Nat) (hn : n ∈ turnsN) X => turn_any x hn X)
  have HP := hid hp
  have HQ := hid hq
  have X0 : (x.toNat : Int) / 2 ^ r = ((UInt32.ofNat (x.toNat / 2 ^ r)).toNat : Int) := by rw [shr_nat]; simp
  obtain ⟨a, ha⟩ : ∃ a, a = rotr x p ^^^ rotr x q := ⟨_, rfl⟩
  obtain ⟨b, hb⟩ : ∃ b, b = smallW x p q r := ⟨_, rfl⟩
  obtain ⟨c, hc⟩ : ∃ c, c = UInt32.ofNat (x.toNat / 2 ^ r) := ⟨_, rfl⟩
  rw [← hc] at X0
  have X1 : bits .xor .u32 ((rotr x p).toNat : Int) ((rotr x q).toNat : Int) = (a.toNat : Int) := by rw [ha]; exact bits_xor_u32 _ _
  have X2 : bits .xor .u32 (a.toNat : Int) (c.toNat : Int) = (b.toNat : Int) := by rw [hb, ha, hc]; exact bits_xor_u32 _ _
  rw [← hb]
  clear ha hb hc
  have h1 : (0 : Int) ≤ (r : Int) := by omega
  have h2 : (r : Int) ≤ 32 := by omega
  clear hp hq
  go_enter Tryd.func74, Tryd.ntmps74
  go_wp2_with fail
  refine wp_region_ord [] [(0, 1), (1, 1), (3, 1), (4, 1), (7, 1), (8, 1), (9, 1), (2, 2), (5, 2), (6, 1), (10, 1), (11, 1)] (fun X => X = World.drew w) (by kernel_rfl) (by kernel_rfl) (fun d _ c _ _ h => by cases d <;> exact h) rfl (fun X hXe _ => ?_)
  subst hXe
  repeat (apply wpOrd_class; ((· first | (rw [List.getElem?_toArray, List.getElem?_cons_zero]; done) | (simp only [List.getElem?_toArray, List.getElem?_cons_succ, List.getElem?_cons_zero]; exact rfl))); (· exact rfl); intro K hK; apply Exists.intro; refine And.intro (fun X' hX' => ?_) ?_; (· go_simp; (try go_bits); first | done | exact rfl | exact ⟨rfl, rfl⟩); go_simp; refine hK _ _ ?_; clear hK K)
  (apply wpOrd_comes; ((· first | (rw [List.getElem?_toArray, List.getElem?_cons_zero]; done) | (simp only [List.getElem?_toArray, List.getElem?_cons_succ, List.getElem?_cons_zero]; exact rfl))); intro N hN)
  go_wp2_with (go_at_call 75; (with_reducible refine (HT.out p HP.out _).mono ?_); rintro v w1 ⟨rfl, rfl⟩)
  refine hN _ _ (fun _ => rfl) ?_
  clear hN N
  (apply wpOrd_comes; ((· first | (rw [List.getElem?_toArray, List.getElem?_cons_zero]; done) | (simp only [List.getElem?_toArray, List.getElem?_cons_succ, List.getElem?_cons_zero]; exact rfl))); intro N hN)
  go_wp2_with (go_at_call 75; (with_reducible refine (HT.out q HQ.out _).mono ?_); rintro v w1 ⟨rfl, rfl⟩)
  refine hN _ _ (fun _ => rfl) ?_
  clear hN N
  repeat (apply wpOrd_class; ((· first | (rw [List.getElem?_toArray, List.getElem?_cons_zero]; done) | (simp only [List.getElem?_toArray, List.getElem?_cons_succ, List.getElem?_cons_zero]; exact rfl))); (· exact rfl); intro K hK; apply Exists.intro; refine And.intro (fun X' hX' => ?_) ?_; (· go_simp; (try go_bits); first | done | exact rfl | exact ⟨rfl, rfl⟩); go_simp; refine hK _ _ ?_; clear hK K)
  refine wpOrd_done ?_
  go_wp2_with fail
  go_ret
  exact ⟨rfl, Below.drew (Below.refl _ _)⟩
end Go.Proofs.YtnakbdgoaepehaaDoor
/- A block as 64 words. -/
namespace Go.Cu
open Go Go.RowKit
/-- Words as cells. -/
def w32 (l : List UInt32) : Array Value := (l.map fun x => Value.int .u32 x.toNat).toArray
theorem w32_size (l : List UInt32) : (w32 l).size = l.length := by simp [w32]
theorem w32_get (l : List UInt32) {i : Nat} (h : i < l.length) : (w32 l)[i]? = some (.int .u32 ((l.getD i 0).toNat : Int)) := by simp [w32, h]
theorem w32_set (l : List UInt32) (i : Nat) (x : UInt32) : (w32 l).setIfInBounds i (.int .u32 (x.toNat : Int)) = w32 (l.set i x) := by
  apply Array.ext_getElem?
  intro j
  simp only [w32, Array.getElem?_setIfInBounds, List.getElem?_toArray, List.getElem?_map, List.getElem?_set, List.size_toArray, List.length_map]
  by_cases h : i = j
  · subst h
    by_cases h2 : i < l.length <;> simp [h2]
  · simp [h]
theorem w32_one (l : List UInt32) : ∀ u ∈ (w32 l).toList, u.oneCell' = true := by
  intro u hu
  simp only [w32, List.mem_map] at hu
  obtain ⟨b, _, rfl⟩ := hu
  rfl
def shl8 (x : UInt32) (b : UInt8) : UInt32 := UInt32.ofNat (x.toNat * 256 % 4294967296 ||| b.toNat)
/-- The words of a block, so many bytes in. -/
def wordsTo (bs : List UInt8) : Nat → List UInt32
  | 0 => List.replicate 64 0
  | i + 1 => (wordsTo bs i).set (i / 4) (shl8 ((wordsTo bs i).getD (i / 4) 0) (bs.getD i 0))
def mixW (l : List UInt32) (i : Nat) : UInt32 := l.getD (i - 16) 0 + smallW (l.getD (i - 15) 0) 7 18 3 + l.getD (i - 7) 0 + smallW (l.getD (i - 2) 0) 17 19 10
/-- .. and so many of the others. -/
def spreadTo (bs : List UInt8) : Nat → List UInt32
  | 0 => wordsTo bs 64
  | i + 1 => (spreadTo bs i).set (16 + i) (mixW (spreadTo bs i) (16 + i))
def spreadW (bs : List UInt8) : List UInt32 := spreadTo bs 48
theorem wordsTo_len (bs : List UInt8) : ∀ i, (wordsTo bs i).length = 64
  | 0 => by simp [wordsTo]
  | i + 1 => by rw [wordsTo, List.length_set, wordsTo_len bs i]
theorem spreadTo_len (bs : List UInt8) : ∀ i, (spreadTo bs i).length = 64
  | 0 => wordsTo_len bs 64
  | i + 1 => by rw [spreadTo, List.length_set, spreadTo_len bs i]
theorem shl8_nat (x : UInt32) (b : UInt8) : bits .or .u32 ((x.toNat : Int) * 256 % 4294967296) (b.toNat : Int) = ((shl8 x b).toNat : Int) := by
  have hb := b.toNat_lt
  have e1 : (x.toNat : Int) * 256 % 4294967296 = ((x.toNat * 256 % 4294967296 : Nat) : Int) := by simp
  rw [e1, bits_or_u32 (Nat.mod_lt _ (by decide)) (by omega)]
  unfold shl8
  have h3 : x.toNat * 256 % 4294967296 ||| b.toNat < 2 ^ 32 := Nat.or_lt_two_pow (by omega) (by omega)
  rw [UInt32.toNat_ofNat', Nat.mod_eq_of_lt h3]
theorem add_u32 (a b : UInt32) : ((a.toNat : Int) + (b.toNat : Int)) % 4294967296 = ((a + b).toNat : Int) := by
  rw [UInt32.toNat_add]
  omega
end Go.Cu
namespace Go.Proofs.YtnakbdgoaepehaaDoor
open Go.RowKit Go.Cu
set_option maxRecDepth 20000 in
theorem zero64w (W : World) : (zeroValue 123).run Tryd.prog W = .ok (.agg (w32 (List.replicate 64 0))) W := by kernel_rfl
theorem size64w : (Tryd.prog.info? 123).map (·.size) = some 64 := by kernel_rfl
@[go_sem ↓] theorem ldktW64 (a : Act) (dst : Option Tmp) (x : Operand) (ty : TypeId) (pos : String) (after : Array Edge) (guard : Option (Nat × Bool)) :
      execOp a.eval { dst, op := .load 123 x, type := ty, pos, after, guard } = loadK 123 (a.eval x) := rfl
theorem wblk_cell {W0 W : World} {L : List Atm} {g t i : Nat} {l : List UInt32} (h : St W0 (Blk g (w32 l) t :: L) W) (hi : i < l.length) : W.cell? ⟨g, i, none⟩ = some (.int .u32 ((l.getD i 0).toNat : Int)) := (cell_of_row W g i _ _ _ h.blk).trans (w32_get l hi)
set_option maxRecDepth 20000 in
set_option maxHeartbeats 4000000 in
theorem spread_ok {A : Option Addr} {n c : Nat} {bs : List UInt8} {w : World} (hb : BytesIn w A bs) (hl : 64 ≤ bs.length) (hn : bs.length = n) (hc : n ≤ c) (hc2 : c ≤ maxLen) :
    Calls Tryd.prog 70 #[.slice A n c] w fun r w' => r = .returned (.agg (w32 (spreadW bs))) ∧ Below w.heap.size w w' := by
  obtain ⟨b0, hb0⟩ : ∃ b, bs[0]? = some b := ⟨_, List.getElem?_eq_getElem (by omega)⟩
  obtain ⟨gB, oB, rfl, _, _⟩ := hb 0 b0 hb0
  have HB := hid (show ∀ X i, Below w.heap.size w X → i < 64 → X.cell? ⟨gB, oB + i, none⟩ = some (.int .u8 (((bs.getD i 0).toNat : Nat) : Int)) from fun X i hX hi => by
    have hg := List.getElem?_eq_getElem (l := bs) (i := i) (by omega)
    obtain ⟨g, o, e, hg2, hc⟩ := hb i _ hg
    cases e
    rw [(hX.cell (p := ⟨gB, oB + i, none⟩) hg2).trans hc, List.getD_eq_getElem?_getD, hg]
    rfl)
  have h64 : (64 : Int) ≤ (n : Int) := by omega
  have h64c : (64 : Int) ≤ (c : Int) := by omega
  have h64n : 64 ≤ c := by omega
  unfold maxLen at hc2
  clear hb hb0
  have tok : True := trivial
  go_enter Tryd.func70, Tryd.ntmps70
  go_wp2_with (first | (have _t := tok; refine wpList_alloc 123 rfl rfl (.agg (w32 (List.replicate 64 0))) zero64w ?_; intro g2 W1 h1 hl1 hg1 hW1; have H1 := hid ((St.start w).newBlk hW1 hg1 h1); clear h1 hl1 hg1 hW1 tok) | (refine wpList_alloc 123 rfl rfl (.agg (w32 (List.replicate 64 0))) zero64w ?_; intro g3 W2 h1 hl1 hg1 hW1; have H2 := hid (H1.out.newBlk hW1 hg1 h1); clear h1 hl1 hg1 hW1))
  go_loopw [4, 9] (fun _ v X => ∃ i : Nat, i ≤ 64 ∧ v = .int .i64 i ∧ Hid (St w [Blk g3 (w32 (wordsTo bs i)) 123, Blk g2 (w32 (List.replicate 64 0)) 123] X)) (fun _ v _ => 64 - (intOf v).toNat)
  case atStart => exact ⟨0, Nat.zero_le _, rfl, H2⟩
  case round =>
    clear H1 H2
    obtain ⟨i, hi, rfl, HS⟩ := hrel
    by_cases hlt : i < 64
    · have e1 : (i : Int) < 64 := by omega
      have e0 : (0 : Int) ≤ (i : Int) := by omega
      obtain ⟨q, hq⟩ : ∃ q, q = i / 4 := ⟨_, rfl⟩
      have em : (i : Int) / 4 = (q : Int) := by omega
      have hq1 : (q : Int) < 64 := by omega
      have hq2 : q < 64 := by omega
      have hin : (i : Int) < (n : Int) := by omega
      obtain ⟨x, hx⟩ : ∃ x, x = (wordsTo bs i).getD q 0 := ⟨_, rfl⟩
      obtain ⟨b, hb⟩ : ∃ b, b = bs.getD i 0 := ⟨_, rfl⟩
      obtain ⟨y, hy⟩ : ∃ y, y = shl8 x b := ⟨_, rfl⟩
      have HY := hid (show (wordsTo bs i).set q y = wordsTo bs (i + 1) by rw [hy, hx, hb, hq]; rfl)
      have SH : bits .or .u32 ((x.toNat : Int) * 256 % 4294967296) (b.toNat : Int) = (y.toNat : Int) := by rw [hy]; exact shl8_nat x b
      have hbm : (b.toNat : Int) % 4294967296 = (b.toNat : Int) := by have := b.toNat_lt; omega
      have HC := hid (show ∀ X, St w [Blk g3 (w32 (wordsTo bs i)) 123, Blk g2 (w32 (List.replicate 64 0)) 123] X → X.cell? ⟨g3, q, none⟩ = some (.int .u32 (x.toNat : Int)) ∧ X.cell? ⟨gB, oB + i, none⟩ = some (.int .u8 (b.toNat : Int)) from fun X hX => ⟨by rw [hx]; exact wblk_cell hX (by rw [wordsTo_len]; exact hq2), by rw [hb]; exact HB.out X i hX.below hlt⟩)
      clear hx hb hy hq
      go_wp2_with fail
      refine wp_region_ord [14] [(0, 1), (1, 1), (2, 1), (3, 1), (4, 1), (5, 1), (6, 1), (7, 1), (8, 1), (9, 1), (10, 1), (11, 1), (12, 1), (13, 1), (14, 2)] (fun X => St w [Blk g3 (w32 (wordsTo bs i)) 123, Blk g2 (w32 (List.replicate 64 0)) 123] X) (by kernel_rfl) (by kernel_rfl) (fun d _ c _ _ h => by cases d <;> exact h) (HS.out.turn (Below.drew (Below.refl _ _))) (fun X hXe hX => ?_)
      clear hXe HS
      repeat (apply wpOrd_class; ((· first | (rw [List.getElem?_toArray, List.getElem?_cons_zero]; done) | (simp only [List.getElem?_toArray, List.getElem?_cons_succ, List.getElem?_cons_zero]; exact rfl))); (· exact rfl); intro K hK; apply Exists.intro; refine And.intro (fun X' hX' => ?_) ?_; (· obtain ⟨hq1, hq2⟩ := HC.out _ hX'; clear hX'; go_simp; (try go_bits); first | done | exact rfl | exact ⟨rfl, rfl⟩); go_simp; refine hK _ _ ?_; clear hK K)
      obtain ⟨c3, _⟩ := HC.out X hX
      have f3 := frozen_of_row X g3 q _ _ hX.blk
      (apply wpOrd_comes; ((· first | (rw [List.getElem?_toArray, List.getElem?_cons_zero]; done) | (simp only [List.getElem?_toArray, List.getElem?_cons_succ, List.getElem?_cons_zero]; exact rfl))); intro N hN)
      go_wp2_with fail
      have H3 := hid (hX.setCell q (.int .u32 (y.toNat : Int)))
      rw [w32_set, HY.out] at H3
      clear hX c3 f3
      refine hN _ _ (fun h => by cases h) ?_
      clear hN N
      refine wpOrd_done ?_
      go_wp2_with fail
      go_roundw
      case rel => exact ⟨i + 1, by omega, by go_num, H3⟩
      case measure => simp [intOf]; omega
    · have e1 : ¬ (i : Int) < 64 := by omega
      obtain rfl : i = 64 := by omega
      go_wp2_with fail
      go_loopw [5] (fun v X => ∃ i : Nat, i ≤ 48 ∧ v = .int .i64 (16 + i : Nat) ∧ Hid (St w [Blk g3 (w32 (spreadTo bs i)) 123, Blk g2 (w32 (List.replicate 64 0)) 123] X)) (fun v _ => 64 - (intOf v).toNat)
      case atStart => exact ⟨0, Nat.zero_le _, rfl, HS⟩
      case round =>
        clear HS
        obtain ⟨i, hi, rfl, HS⟩ := hrel
        obtain ⟨k, hk⟩ : ∃ k, k = 16 + i := ⟨_, rfl⟩
        rw [← hk]
        by_cases hlt : i < 48
        · have e1 : (k : Int) < 64 := by omega
          have e0 : (0 : Int) ≤ (k : Int) := by omega
          obtain ⟨p0, hp0⟩ : ∃ p, p = k - 16 := ⟨_, rfl⟩
          obtain ⟨p1, hp1⟩ : ∃ p, p = k - 15 := ⟨_, rfl⟩
          obtain ⟨p2, hp2⟩ : ∃ p, p = k - 7 := ⟨_, rfl⟩
          obtain ⟨p3, hp3⟩ : ∃ p, p = k - 2 := ⟨_, rfl⟩
          have em0 : (k : Int) - 16 = (p0 : Int) := by omega
          have em1 : (k : Int) - 15 = (p1 : Int) := by omega
          have em2 : (k : Int) - 7 = (p2 : Int) := by omega
          have em3 : (k : Int) - 2 = (p3 : Int) := by omega
          have hl0 : (p0 : Int) < 64 := by omega
          have hl1 : (p1 : Int) < 64 := by omega
          have hl2 : (p2 : Int) < 64 := by omega
          have hl3 : (p3 : Int) < 64 := by omega
          obtain ⟨x0, hx0⟩ : ∃ x, x = (spreadTo bs i).getD p0 0 := ⟨_, rfl⟩
          obtain ⟨x1, hx1⟩ : ∃ x, x = (spreadTo bs i).getD p1 0 := ⟨_, rfl⟩
          obtain ⟨x2, hx2⟩ : ∃ x, x = (spreadTo bs i).getD p2 0 := ⟨_, rfl⟩
          obtain ⟨x3, hx3⟩ : ∃ x, x = (spreadTo bs i).getD p3 0 := ⟨_, rfl⟩
          obtain ⟨s1, hs1⟩ : ∃ x, x = smallW x1 7 18 3 := ⟨_, rfl⟩
          obtain ⟨s3, hs3⟩ : ∃ x, x = smallW x3 17 19 10 := ⟨_, rfl⟩
          obtain ⟨t1, ht1⟩ : ∃ x, x = x0 + s1 := ⟨_, rfl⟩
          obtain ⟨t2, ht2⟩ : ∃ x, x = t1 + x2 := ⟨_, rfl⟩
          obtain ⟨t3, ht3⟩ : ∃ x, x = t2 + s3 := ⟨_, rfl⟩
          have HY := hid (show (spreadTo bs i).set k t3 = spreadTo bs (i + 1) by rw [spreadTo, ht3, ht2, ht1, hs1, hs3, hx0, hx1, hx2, hx3, hp0, hp1, hp2, hp3, hk]; rfl)
          have A1 : ((x0.toNat : Int) + (s1.toNat : Int)) % 4294967296 = (t1.toNat : Int) := by rw [ht1]; exact add_u32 _ _
          have A2 : ((t1.toNat : Int) + (x2.toNat : Int)) % 4294967296 = (t2.toNat : Int) := by rw [ht2]; exact add_u32 _ _
          have A3 : ((t2.toNat : Int) + (s3.toNat : Int)) % 4294967296 = (t3.toNat : Int) := by rw [ht3]; exact add_u32 _ _
          have HK1 := hid (show ∀ X, Calls Tryd.prog 74 #[.int .u32 x1.toNat, .int .i64 7, .int .i64 18, .int .i64 3] X fun v w' => v = .returned (.int .u32 s1.toNat) ∧ Below X.heap.size X w' from fun X => by rw [hs1]; exact small_ok x1 (p := 7) (q := 18) (r := 3) (by decide) (by decide) (by decide) rfl rfl rfl X)
          have HK3 := hid (show ∀ X, Calls Tryd.prog 74 #[.int .u32 x3.toNat, .int .i64 17, .int .i64 19, .int .i64 10] X fun v w' => v = .returned (.int .u32 s3.toNat) ∧ Below X.heap.size X w' from fun X => by rw [hs3]; exact small_ok x3 (p := 17) (q := 19) (r := 10) (by decide) (by decide) (by decide) rfl rfl rfl X)
          have HC := hid (show ∀ X, St w [Blk g3 (w32 (spreadTo bs i)) 123, Blk g2 (w32 (List.replicate 64 0)) 123] X → X.cell? ⟨g3, p0, none⟩ = some (.int .u32 (x0.toNat : Int)) ∧ X.cell? ⟨g3, p1, none⟩ = some (.int .u32 (x1.toNat : Int)) ∧ X.cell? ⟨g3, p2, none⟩ = some (.int .u32 (x2.toNat : Int)) ∧ X.cell? ⟨g3, p3, none⟩ = some (.int .u32 (x3.toNat : Int)) from fun X hX =>
            ⟨by rw [hx0]; exact wblk_cell hX (by rw [spreadTo_len]; omega), by rw [hx1]; exact wblk_cell hX (by rw [spreadTo_len]; omega), by rw [hx2]; exact wblk_cell hX (by rw [spreadTo_len]; omega), by rw [hx3]; exact wblk_cell hX (by rw [spreadTo_len]; omega)⟩)
          have HK := hid hk
          clear hx0 hx1 hx2 hx3 hs1 hs3 ht1 ht2 ht3 hp0 hp1 hp2 hp3 hk
          go_wp2_with fail
          refine wp_region_ord [23] [(0, 1), (1, 1), (2, 1), (3, 1), (4, 1), (5, 1), (6, 1), (7, 1), (8, 1), (11, 1), (12, 1), (13, 1), (14, 1), (16, 1), (17, 1), (18, 1), (19, 1), (9, 2), (10, 1), (15, 1), (20, 2), (21, 1), (22, 1), (23, 2)] (fun X => St w [Blk g3 (w32 (spreadTo bs i)) 123, Blk g2 (w32 (List.replicate 64 0)) 123] X) (by kernel_rfl) (by kernel_rfl) (fun d _ c _ _ h => by cases d <;> exact h) (HS.out.turn (Below.drew (Below.refl _ _))) (fun X hXe hX => ?_)
          clear hXe HS
          repeat (apply wpOrd_class; ((· first | (rw [List.getElem?_toArray, List.getElem?_cons_zero]; done) | (simp only [List.getElem?_toArray, List.getElem?_cons_succ, List.getElem?_cons_zero]; exact rfl))); (· exact rfl); intro K hK; apply Exists.intro; refine And.intro (fun X' hX' => ?_) ?_; (· obtain ⟨hq1, hq2, hq3, hq4⟩ := HC.out _ hX'; clear hX'; go_simp; (try go_bits); first | done | exact rfl | exact ⟨rfl, rfl⟩); go_simp; refine hK _ _ ?_; clear hK K)
          (apply wpOrd_comes; ((· first | (rw [List.getElem?_toArray, List.getElem?_cons_zero]; done) | (simp only [List.getElem?_toArray, List.getElem?_cons_succ, List.getElem?_cons_zero]; exact rfl))); intro N hN)
          go_wp2_with (go_at_call 74; (with_reducible refine (HK1.out _).mono ?_); rintro v X2 ⟨rfl, hb⟩; have hX2 := hX.turn hb; clear hb)
          refine hN _ _ (fun _ => hX2) ?_
          clear hN N
          repeat (apply wpOrd_class; ((· first | (rw [List.getElem?_toArray, List.getElem?_cons_zero]; done) | (simp only [List.getElem?_toArray, List.getElem?_cons_succ, List.getElem?_cons_zero]; exact rfl))); (· exact rfl); intro K hK; apply Exists.intro; refine And.intro (fun X' hX' => ?_) ?_; (· obtain ⟨hq1, hq2, hq3, hq4⟩ := HC.out _ hX'; clear hX'; go_simp; (try go_bits); first | done | exact rfl | exact ⟨rfl, rfl⟩); go_simp; refine hK _ _ ?_; clear hK K)
          (apply wpOrd_comes; ((· first | (rw [List.getElem?_toArray, List.getElem?_cons_zero]; done) | (simp only [List.getElem?_toArray, List.getElem?_cons_succ, List.getElem?_cons_zero]; exact rfl))); intro N hN)
          go_wp2_with (go_at_call 74; (with_reducible refine (HK3.out _).mono ?_); rintro v X3 ⟨rfl, hb⟩; have hX3 := hX2.turn hb; clear hb)
          refine hN _ _ (fun _ => hX3) ?_
          clear hN N hX hX2
          repeat (apply wpOrd_class; ((· first | (rw [List.getElem?_toArray, List.getElem?_cons_zero]; done) | (simp only [List.getElem?_toArray, List.getElem?_cons_succ, List.getElem?_cons_zero]; exact rfl))); (· exact rfl); intro K hK; apply Exists.intro; refine And.intro (fun X' hX' => ?_) ?_; (· obtain ⟨hq1, hq2, hq3, hq4⟩ := HC.out _ hX'; clear hX'; go_simp; (try go_bits); first | done | exact rfl | exact ⟨rfl, rfl⟩); go_simp; refine hK _ _ ?_; clear hK K)
          have c3 := wblk_cell hX3 (i := k) (by rw [spreadTo_len]; omega)
          have f3 := frozen_of_row X3 g3 k _ _ hX3.blk
          (apply wpOrd_comes; ((· first | (rw [List.getElem?_toArray, List.getElem?_cons_zero]; done) | (simp only [List.getElem?_toArray, List.getElem?_cons_succ, List.getElem?_cons_zero]; exact rfl))); intro N hN)
          go_wp2_with fail
          have H3 := hid (hX3.setCell k (.int .u32 (t3.toNat : Int)))
          rw [w32_set, HY.out] at H3
          clear hX3 c3 f3
          refine hN _ _ (fun h => by cases h) ?_
          clear hN N
          refine wpOrd_done ?_
          go_wp2_with fail
          go_roundw
          case rel => exact ⟨i + 1, by omega, by rw [HK.out]; go_num, H3⟩
          case measure => simp [intOf]; omega
        · have e1 : ¬ (k : Int) < 64 := by omega
          obtain rfl : i = 48 := by omega
          have HZ := hid ((w32_size (spreadTo bs 48)).trans (spreadTo_len bs 48))
          have HZ0 := hid (show (w32 (List.replicate 64 0)).size = 64 by rw [w32_size, List.length_replicate])
          have LB : (loadK 123 (.pointer (some ⟨g3, 0, none⟩))).run Tryd.prog wr = .ok (.value (.agg (w32 (spreadTo bs 48)))) wr := run_loadK_box HS.out.blk Tryd.underlying123 rfl size64w HZ.out
          go_wp2_with (refine wpList_store_box 123 _ _ rfl g2 rfl rfl (w32 (spreadTo bs 48)) rfl 64 size64w HZ.out (w32_one _) 123 _ HS.out.at2.blk HZ0.out ?_; intro W5 hB5 hT5 hs5; have H5 := hid (HS.out.at2.put hB5 hT5))
          exact bodyPost_ret (results_cell rfl _ _ _ g2 123 (w32 _) (0, 0) rfl hB5 Tryd.underlying123 (by rw [HZ.out]; exact size64w)) rfl ⟨rfl, H5.out.below⟩
end Go.Proofs.YtnakbdgoaepehaaDoor
/- A block worked into the words. -/
namespace Go.Cu
open Go Go.RowKit
def startL : List UInt32 := [0x6a09e667, 0xbb67ae85, 0x3c6ef372, 0xa54ff53a, 0x510e527f, 0x9b05688c, 0x1f83d9ab, 0x5be0cd19]
def roundsL : List UInt32 := [0x428a2f98, 0x71374491, 0xb5c0fbcf, 0xe9b5dba5, 0x3956c25b, 0x59f111f1, 0x923f82a4, 0xab1c5ed5, 0xd807aa98, 0x12835b01, 0x243185be, 0x550c7dc3, 0x72be5d74, 0x80deb1fe, 0x9bdc06a7, 0xc19bf174, 0xe49b69c1, 0xefbe4786, 0x0fc19dc6, 0x240ca1cc, 0x2de92c6f, 0x4a7484aa, 0x5cb0a9dc, 0x76f988da, 0x983e5152, 0xa831c66d, 0xb00327c8, 0xbf597fc7, 0xc6e00bf3, 0xd5a79147, 0x06ca6351, 0x14292967, 0x27b70a85, 0x2e1b2138, 0x4d2c6dfc, 0x53380d13, 0x650a7354, 0x766a0abb, 0x81c2c92e, 0x92722c85, 0xa2bfe8a1, 0xa81a664b, 0xc24b8b70, 0xc76c51a3, 0xd192e819, 0xd6990624, 0xf40e3585, 0x106aa070, 0x19a4c116, 0x1e376c08, 0x2748774c, 0x34b0bcb5, 0x391c0cb3, 0x4ed8aa4a, 0x5b9cca4f, 0x682e6ff3, 0x748f82ee, 0x78a5636f, 0x84c87814, 0x8cc70208, 0x90befffa, 0xa4506ceb, 0xbef9a3f7, 0xc67178f2]
def chW (a b c : UInt32) : UInt32 := (a &&& b) ^^^ ((0xffffffff ^^^ a) &&& c)
def majW (a b c : UInt32) : UInt32 := (a &&& b) ^^^ (a &&& c) ^^^ (b &&& c)
def tW (v : List UInt32) (k w : UInt32) : UInt32 := v.getD 7 0 + bigW (v.getD 4 0) 6 11 25 + chW (v.getD 4 0) (v.getD 5 0) (v.getD 6 0) + k + w
def uW (v : List UInt32) : UInt32 := bigW (v.getD 0 0) 2 13 22 + majW (v.getD 0 0) (v.getD 1 0) (v.getD 2 0)
def stepW (v : List UInt32) (k w : UInt32) : List UInt32 := [tW v k w + uW v, v.getD 0 0, v.getD 1 0, v.getD 2 0, v.getD 3 0 + tW v k w, v.getD 4 0, v.getD 5 0, v.getD 6 0]
/-- So many rounds. -/
def roundsTo (h ws : List UInt32) : Nat → List UInt32
  | 0 => h
  | i + 1 => stepW (roundsTo h ws i) (roundsL.getD i 0) (ws.getD i 0)
/-- The words added, so many of them. -/
def addTo (h v : List UInt32) : Nat → List UInt32
  | 0 => h
  | i + 1 => (addTo h v i).set i ((addTo h v i).getD i 0 + v.getD i 0)
def pressW (h : List UInt32) (bs : List UInt8) : List UInt32 := addTo h (roundsTo h (spreadW bs) 64) 8
theorem roundsTo_len {h ws : List UInt32} (hh : h.length = 8) : ∀ i, (roundsTo h ws i).length = 8
  | 0 => hh
  | _ + 1 => rfl
theorem addTo_len {h v : List UInt32} (hh : h.length = 8) : ∀ i, (addTo h v i).length = 8
  | 0 => hh
  | i + 1 => by rw [addTo, List.length_set, addTo_len hh i]
theorem pressW_len {h : List UInt32} (hh : h.length = 8) (bs : List UInt8) : (pressW h bs).length = 8 := addTo_len hh 8
theorem roundsL_len : roundsL.length = 64 := by decide
theorem startL_len : startL.length = 8 := by decide
/-- The program's two tables. -/
def Glob (W : World) : Prop := ∃ t0 f0 t1 f1, W.heap[1]? = some (.cells (w32 startL) t0 f0) ∧ W.heap[3]? = some (.cells (w32 roundsL) t1 f1)
theorem Glob.below {W X : World} {n : Nat} (h : Glob W) (hb : Below n W X) (hn : 3 + 1 ≤ n) : Glob X := by
  obtain ⟨t0, f0, t1, f1, h0, h1⟩ := h
  exact ⟨t0, f0, t1, f1, (hb.block 1 (by omega)).trans h0, (hb.block 3 (by omega)).trans h1⟩
theorem Glob.two {W : World} (h : Glob W) : 3 + 1 ≤ W.heap.size := by
  obtain ⟨_, _, _, _, _, h1⟩ := h
  have := heap_lt h1
  omega
theorem Glob.round {W : World} (h : Glob W) {i : Nat} (hi : i < 64) : W.cell? ⟨3, i, none⟩ = some (.int .u32 ((roundsL.getD i 0).toNat : Int)) := by
  obtain ⟨_, _, _, _, _, h1⟩ := h
  exact (cell_of_row W 3 i _ _ _ h1).trans (w32_get _ (by rw [roundsL_len]; exact hi))
theorem list8 {l : List UInt32} (h : l.length = 8) : l = [l.getD 0 0, l.getD 1 0, l.getD 2 0, l.getD 3 0, l.getD 4 0, l.getD 5 0, l.getD 6 0, l.getD 7 0] := by
  match l, h with
  | [a, b, c, d, e, f, g, i], _ => rfl
end Go.Cu
namespace Go.Proofs.YtnakbdgoaepehaaDoor
open Go.RowKit Go.Cu
set_option maxRecDepth 20000 in
theorem zero8w (W : World) : (zeroValue 109).run Tryd.prog W = .ok (.agg (w32 (List.replicate 8 0))) W := by kernel_rfl
theorem size8w : (Tryd.prog.info? 109).map (·.size) = some 8 := by kernel_rfl
@[go_sem ↓] theorem ldktW8 (a : Act) (dst : Option Tmp) (x : Operand) (ty : TypeId) (pos : String) (after : Array Edge) (guard : Option (Nat × Bool)) :
      execOp a.eval { dst, op := .load 109 x, type := ty, pos, after, guard } = loadK 109 (a.eval x) := rfl
@[go_sem ↓] theorem bdktW8 (a : Act) (dst : Option Tmp) (ps : Array (Nat × Operand)) (ty : TypeId) (pos : String) (after : Array Edge) (guard : Option (Nat × Bool)) :
    execOp a.eval { dst, op := .build 109 ps, type := ty, pos, after, guard } = buildK 109 (ps.map fun (i, x) => (i, a.eval x)) := rfl
theorem build8w (a b c d e f g i : UInt32) (W : World) : (Instr.build 109 #[(0, .int .u32 a.toNat), (1, .int .u32 b.toNat), (2, .int .u32 c.toNat), (3, .int .u32 d.toNat), (4, .int .u32 e.toNat), (5, .int .u32 f.toNat), (6, .int .u32 g.toNat), (7, .int .u32 i.toNat)]).run Tryd.prog W = .ok (.agg (w32 [a, b, c, d, e, f, g, i])) W := by kernel_rfl
set_option maxRecDepth 20000 in
set_option maxHeartbeats 8000000 in
theorem press_ok {h : List UInt32} {A : Option Addr} {n c : Nat} {bs : List UInt8} {w : World} (hh : h.length = 8) (hG : Glob w) (hb : BytesIn w A bs) (hl : 64 ≤ bs.length) (hn : bs.length = n) (hc : n ≤ c) (hc2 : c ≤ maxLen) :
    Calls Tryd.prog 61 #[.agg (w32 h), .slice A n c] w fun r w' => r = .returned (.agg (w32 (pressW h bs))) ∧ Below w.heap.size w w' := by
  have HG := hid (fun X (hX : Below w.heap.size w X) => hG.below hX hG.two)
  have HSP := hid (fun X (hX : Below w.heap.size w X) => spread_ok (w := X) (hb.below hX) hl hn hc hc2)
  have HH8 := hid ((w32_size h).trans hh)
  have HHL := hid hh
  obtain ⟨ws, hws⟩ : ∃ ws, ws = spreadW bs := ⟨_, rfl⟩
  have HWL := hid (show ws.length = 64 by rw [hws]; exact spreadTo_len bs 48)
  have HW8 := hid ((w32_size ws).trans HWL.out)
  have HZ64 := hid (show (w32 (List.replicate 64 0)).size = 64 by rw [w32_size, List.length_replicate])
  have HZ8 := hid (show (w32 (List.replicate 8 0)).size = 8 by rw [w32_size, List.length_replicate])
  unfold pressW
  rw [← hws] at HSP ⊢
  clear hG hb hl hn hc hc2 hh hws
  have tok : True := trivial
  go_enter Tryd.func61, Tryd.ntmps61
  go_wp2_with (first | (refine wpList_box rfl 109 _ rfl (.agg (w32 h)) rfl ?_; intro gh W1 h1 hl1 hg1 hW1; have H1 := hid ((St.start w).newBlk hW1 hg1 h1); clear h1 hl1 hg1 hW1) | (have _t := tok; refine wpList_alloc 109 rfl rfl (.agg (w32 (List.replicate 8 0))) zero8w ?_; intro gr W2 h1 hl1 hg1 hW1; have H2 := hid (H1.out.newBlk hW1 hg1 h1); clear h1 hl1 hg1 hW1 tok) | (go_at_call 70; (with_reducible refine (HSP.out _ H2.out.below).mono ?_); rintro r W3 ⟨rfl, hb3⟩; have H3 := hid (H2.out.turn hb3); clear hb3) | (refine wpList_alloc 123 rfl rfl (.agg (w32 (List.replicate 64 0))) zero64w ?_; intro gw W4 h1 hl1 hg1 hW1; have H4 := hid (H3.out.newBlk hW1 hg1 h1); clear h1 hl1 hg1 hW1) | (refine wpList_store_box 123 _ _ rfl gw rfl rfl (w32 ws) rfl 64 size64w HW8.out (w32_one _) 123 _ H4.out.blk HZ64.out ?_; intro W5 hB hT hs; have H5 := hid (H4.out.put hB hT); have LH : (loadK 109 (.pointer (some ⟨gh, 0, none⟩))).run Tryd.prog W5 = .ok (.value (.agg (w32 h))) W5 := run_loadK_box H5.out.at3.blk Tryd.underlying109 rfl size8w HH8.out; clear hB hT hs) | (refine wpList_alloc 109 rfl rfl (.agg (w32 (List.replicate 8 0))) zero8w ?_; intro gv W6 h1 hl1 hg1 hW1; have H6 := hid (H5.out.newBlk hW1 hg1 h1); clear h1 hl1 hg1 hW1 LH) | (refine wpList_store_box 109 _ _ rfl gv rfl rfl (w32 h) rfl 8 size8w HH8.out (w32_one _) 109 _ H6.out.blk HZ8.out ?_; intro W7 hB hT hs; have H7 := hid (H6.out.put hB hT); clear hB hT hs))
  go_loopw [7, 8, 9, 14] (fun _ _ _ k X => ∃ i : Nat, i ≤ 64 ∧ k = .int .i64 i ∧ Hid (St w [Blk gv (w32 (roundsTo h ws i)) 109, Blk gw (w32 ws) 123, Blk gr (w32 (List.replicate 8 0)) 109, Blk gh (w32 h) 109] X)) (fun _ _ _ k _ => 64 - (intOf k).toNat)
  case atStart => exact ⟨0, Nat.zero_le _, rfl, H7⟩
  case round =>
    clear H1 H2 H3 H4 H5 H6 H7
    obtain ⟨i, hi, rfl, HS⟩ := hrel
    by_cases hlt : i < 64
    · have e1 : (i : Int) < 64 := by omega
      have e0 : (0 : Int) ≤ (i : Int) := by omega
      obtain ⟨V, hV⟩ : ∃ V, V = roundsTo h ws i := ⟨_, rfl⟩
      have hV8 : V.length = 8 := by rw [hV]; exact roundsTo_len HHL.out i
      rw [← hV] at HS
      have HV := hid hV
      obtain ⟨v0, hv0⟩ : ∃ x, x = V.getD 0 0 := ⟨_, rfl⟩
      obtain ⟨v1, hv1⟩ : ∃ x, x = V.getD 1 0 := ⟨_, rfl⟩
      obtain ⟨v2, hv2⟩ : ∃ x, x = V.getD 2 0 := ⟨_, rfl⟩
      obtain ⟨v3, hv3⟩ : ∃ x, x = V.getD 3 0 := ⟨_, rfl⟩
      obtain ⟨v4, hv4⟩ : ∃ x, x = V.getD 4 0 := ⟨_, rfl⟩
      obtain ⟨v5, hv5⟩ : ∃ x, x = V.getD 5 0 := ⟨_, rfl⟩
      obtain ⟨v6, hv6⟩ : ∃ x, x = V.getD 6 0 := ⟨_, rfl⟩
      obtain ⟨v7, hv7⟩ : ∃ x, x = V.getD 7 0 := ⟨_, rfl⟩
      obtain ⟨k, hk⟩ : ∃ x, x = roundsL.getD i 0 := ⟨_, rfl⟩
      obtain ⟨x, hx⟩ : ∃ x, x = ws.getD i 0 := ⟨_, rfl⟩
      obtain ⟨b4, hb4⟩ : ∃ x, x = bigW v4 6 11 25 := ⟨_, rfl⟩
      obtain ⟨a1, ha1⟩ : ∃ x, x = v7 + b4 := ⟨_, rfl⟩
      obtain ⟨a2, ha2⟩ : ∃ x, x = v4 &&& v5 := ⟨_, rfl⟩
      obtain ⟨a3, ha3⟩ : ∃ x, x = 0xffffffff ^^^ v4 := ⟨_, rfl⟩
      obtain ⟨a4, ha4⟩ : ∃ x, x = a3 &&& v6 := ⟨_, rfl⟩
      obtain ⟨a5, ha5⟩ : ∃ x, x = a2 ^^^ a4 := ⟨_, rfl⟩
      obtain ⟨a6, ha6⟩ : ∃ x, x = a1 + a5 := ⟨_, rfl⟩
      obtain ⟨a7, ha7⟩ : ∃ x, x = a6 + k := ⟨_, rfl⟩
      obtain ⟨t, ht⟩ : ∃ x', x' = a7 + x := ⟨_, rfl⟩
      have E1 : ((v7.toNat : Int) + (b4.toNat : Int)) % 4294967296 = (a1.toNat : Int) := by rw [ha1]; exact add_u32 _ _
      have E2 : bits .and .u32 (v4.toNat : Int) (v5.toNat : Int) = (a2.toNat : Int) := by rw [ha2]; exact bits_and_u32 _ _
      have E3 : bits .xor .u32 (if IntKind.u32.signed = true then -1 else IntKind.u32.max) (v4.toNat : Int) = (a3.toNat : Int) := by rw [ha3]; exact bits_xor_u32 0xffffffff v4
      have E4 : bits .and .u32 (a3.toNat : Int) (v6.toNat : Int) = (a4.toNat : Int) := by rw [ha4]; exact bits_and_u32 _ _
      have E5 : bits .xor .u32 (a2.toNat : Int) (a4.toNat : Int) = (a5.toNat : Int) := by rw [ha5]; exact bits_xor_u32 _ _
      have E6 : ((a1.toNat : Int) + (a5.toNat : Int)) % 4294967296 = (a6.toNat : Int) := by rw [ha6]; exact add_u32 _ _
      have E7 : ((a6.toNat : Int) + (k.toNat : Int)) % 4294967296 = (a7.toNat : Int) := by rw [ha7]; exact add_u32 _ _
      have E8 : ((a7.toNat : Int) + (x.toNat : Int)) % 4294967296 = (t.toNat : Int) := by rw [ht]; exact add_u32 _ _
      have HB4 := hid (show ∀ X, Calls Tryd.prog 71 #[.int .u32 v4.toNat, .int .i64 6, .int .i64 11, .int .i64 25] X fun v w' => v = .returned (.int .u32 b4.toNat) ∧ X = w' from fun X => by rw [hb4]; exact big_ok v4 (p := 6) (q := 11) (r := 25) (by decide) (by decide) (by decide) rfl rfl rfl X)
      have HC := hid (show ∀ X, St w [Blk gv (w32 V) 109, Blk gw (w32 ws) 123, Blk gr (w32 (List.replicate 8 0)) 109, Blk gh (w32 h) 109] X → X.cell? ⟨gv, 4, none⟩ = some (.int .u32 (v4.toNat : Int)) ∧ X.cell? ⟨gv, 5, none⟩ = some (.int .u32 (v5.toNat : Int)) ∧ X.cell? ⟨gv, 6, none⟩ = some (.int .u32 (v6.toNat : Int)) ∧ X.cell? ⟨gv, 7, none⟩ = some (.int .u32 (v7.toNat : Int)) ∧ X.cell? ⟨3, i, none⟩ = some (.int .u32 (k.toNat : Int)) ∧ X.cell? ⟨gw, i, none⟩ = some (.int .u32 (x.toNat : Int)) from fun X hX =>
        ⟨by rw [hv4]; exact wblk_cell hX (by omega), by rw [hv5]; exact wblk_cell hX (by omega), by rw [hv6]; exact wblk_cell hX (by omega), by rw [hv7]; exact wblk_cell hX (by omega), by rw [hk]; exact (HG.out X hX.below).round hlt, by rw [hx]; exact wblk_cell hX.at2 (by rw [HWL.out]; exact hlt)⟩)
      have HT := hid (show tW V k x = t by unfold tW chW; rw [← hv4, ← hv5, ← hv6, ← hv7, ← hb4, ← ha1, ← ha2, ← ha3, ← ha4, ← ha5, ← ha6, ← ha7, ← ht])
      obtain ⟨b0, hb0⟩ : ∃ x, x = bigW v0 2 13 22 := ⟨_, rfl⟩
      obtain ⟨d1, hd1⟩ : ∃ x, x = v0 &&& v1 := ⟨_, rfl⟩
      obtain ⟨d2, hd2⟩ : ∃ x, x = v0 &&& v2 := ⟨_, rfl⟩
      obtain ⟨d3, hd3⟩ : ∃ x, x = d1 ^^^ d2 := ⟨_, rfl⟩
      obtain ⟨d4, hd4⟩ : ∃ x, x = v1 &&& v2 := ⟨_, rfl⟩
      obtain ⟨d5, hd5⟩ : ∃ x, x = d3 ^^^ d4 := ⟨_, rfl⟩
      obtain ⟨u, hu⟩ : ∃ x, x = b0 + d5 := ⟨_, rfl⟩
      obtain ⟨tu, htu⟩ : ∃ x, x = t + u := ⟨_, rfl⟩
      obtain ⟨v3t, hv3t⟩ : ∃ x, x = v3 + t := ⟨_, rfl⟩
      have D1 : bits .and .u32 (v0.toNat : Int) (v1.toNat : Int) = (d1.toNat : Int) := by rw [hd1]; exact bits_and_u32 _ _
      have D2 : bits .and .u32 (v0.toNat : Int) (v2.toNat : Int) = (d2.toNat : Int) := by rw [hd2]; exact bits_and_u32 _ _
      have D3 : bits .xor .u32 (d1.toNat : Int) (d2.toNat : Int) = (d3.toNat : Int) := by rw [hd3]; exact bits_xor_u32 _ _
      have D4 : bits .and .u32 (v1.toNat : Int) (v2.toNat : Int) = (d4.toNat : Int) := by rw [hd4]; exact bits_and_u32 _ _
      have D5 : bits .xor .u32 (d3.toNat : Int) (d4.toNat : Int) = (d5.toNat : Int) := by rw [hd5]; exact bits_xor_u32 _ _
      have D6 : ((b0.toNat : Int) + (d5.toNat : Int)) % 4294967296 = (u.toNat : Int) := by rw [hu]; exact add_u32 _ _
      have D7 : ((t.toNat : Int) + (u.toNat : Int)) % 4294967296 = (tu.toNat : Int) := by rw [htu]; exact add_u32 _ _
      have D8 : ((v3.toNat : Int) + (t.toNat : Int)) % 4294967296 = (v3t.toNat : Int) := by rw [hv3t]; exact add_u32 _ _
      have HU := hid (show uW V = u by unfold uW majW; rw [← hv0, ← hv1, ← hv2, ← hb0, ← hd1, ← hd2, ← hd3, ← hd4, ← hd5, ← hu])
      have HST := hid (show roundsTo h ws (i + 1) = [tu, v0, v1, v2, v3t, v4, v5, v6] by rw [roundsTo, ← hV, ← hk, ← hx]; unfold stepW; rw [HT.out, HU.out, ← hv0, ← hv1, ← hv2, ← hv3, ← hv4, ← hv5, ← hv6, ← htu, ← hv3t])
      have HB0 := hid (show ∀ X, Calls Tryd.prog 71 #[.int .u32 v0.toNat, .int .i64 2, .int .i64 13, .int .i64 22] X fun v w' => v = .returned (.int .u32 b0.toNat) ∧ X = w' from fun X => by rw [hb0]; exact big_ok v0 (p := 2) (q := 13) (r := 22) (by decide) (by decide) (by decide) rfl rfl rfl X)
      have HC3 := hid (show ∀ X, St w [Blk gv (w32 V) 109, Blk gw (w32 ws) 123, Blk gr (w32 (List.replicate 8 0)) 109, Blk gh (w32 h) 109] X → X.cell? ⟨gv, 0, none⟩ = some (.int .u32 (v0.toNat : Int)) ∧ X.cell? ⟨gv, 1, none⟩ = some (.int .u32 (v1.toNat : Int)) ∧ X.cell? ⟨gv, 2, none⟩ = some (.int .u32 (v2.toNat : Int)) from fun X hX =>
        ⟨by rw [hv0]; exact wblk_cell hX (by omega), by rw [hv1]; exact wblk_cell hX (by omega), by rw [hv2]; exact wblk_cell hX (by omega)⟩)
      have HC4 := hid (show ∀ X, St w [Blk gv (w32 V) 109, Blk gw (w32 ws) 123, Blk gr (w32 (List.replicate 8 0)) 109, Blk gh (w32 h) 109] X → X.cell? ⟨gv, 3, none⟩ = some (.int .u32 (v3.toNat : Int)) from fun X hX => by rw [hv3]; exact wblk_cell hX (by omega))
      have BB := fun W => run_buildK (build8w tu v0 v1 v2 v3t v4 v5 v6 W)
      have HV8 := hid ((w32_size V).trans hV8)
      have HN8 := hid (show (w32 [tu, v0, v1, v2, v3t, v4, v5, v6]).size = 8 from rfl)
      clear hV hv0 hv1 hv2 hv3 hv4 hv5 hv6 hv7 hk hx hb4 ha1 ha2 ha3 ha4 ha5 ha6 ha7 ht hb0 hd1 hd2 hd3 hd4 hd5 hu htu hv3t hV8
      go_wp2_with fail
      refine wp_region_ord [] [(0, 1), (1, 1), (2, 1), (3, 1), (6, 1), (7, 1), (8, 1), (9, 1), (10, 1), (11, 1), (12, 1), (13, 1), (14, 1), (15, 1), (16, 1), (17, 1), (19, 1), (20, 1), (21, 1), (23, 1), (24, 1), (25, 1), (4, 2), (5, 1), (18, 1), (22, 1), (26, 1), (27, 1)] (fun X => St w [Blk gv (w32 V) 109, Blk gw (w32 ws) 123, Blk gr (w32 (List.replicate 8 0)) 109, Blk gh (w32 h) 109] X) (by kernel_rfl) (by kernel_rfl) (fun d _ c _ _ h => by cases d <;> exact h) (HS.out.turn (Below.drew (Below.refl _ _))) (fun X hXe hX => ?_)
      clear hXe HS
      repeat (apply wpOrd_class; ((· first | (rw [List.getElem?_toArray, List.getElem?_cons_zero]; done) | (simp only [List.getElem?_toArray, List.getElem?_cons_succ, List.getElem?_cons_zero]; exact rfl))); (· exact rfl); intro K hK; apply Exists.intro; refine And.intro (fun X' hX' => ?_) ?_; (· obtain ⟨hq1, hq2, hq3, hq4, hq5, hq6⟩ := HC.out _ hX'; clear hX'; go_simp; (try go_bits); first | done | exact rfl | exact ⟨rfl, rfl⟩); go_simp; refine hK _ _ ?_; clear hK K)
      (apply wpOrd_comes; ((· first | (rw [List.getElem?_toArray, List.getElem?_cons_zero]; done) | (simp only [List.getElem?_toArray, List.getElem?_cons_succ, List.getElem?_cons_zero]; exact rfl))); intro N hN)
      go_wp2_with (go_at_call 71; (with_reducible refine (HB4.out _).mono ?_); rintro v X2 ⟨rfl, rfl⟩)
      refine hN _ _ (fun _ => hX) ?_
      clear hN N
      repeat (apply wpOrd_class; ((· first | (rw [List.getElem?_toArray, List.getElem?_cons_zero]; done) | (simp only [List.getElem?_toArray, List.getElem?_cons_succ, List.getElem?_cons_zero]; exact rfl))); (· exact rfl); intro K hK; apply Exists.intro; refine And.intro (fun X' hX' => ?_) ?_; (· obtain ⟨hq1, hq2, hq3, hq4, hq5, hq6⟩ := HC.out _ hX'; clear hX'; go_simp; (try go_bits); first | done | exact rfl | exact ⟨rfl, rfl⟩); go_simp; refine hK _ _ ?_; clear hK K)
      refine wpOrd_done ?_
      have HX := hid hX
      clear hX
      go_wp2_with fail
      refine wp_region_ord [] [(0, 1), (1, 1), (3, 1), (4, 1), (5, 1), (6, 1), (7, 1), (8, 1), (9, 1), (10, 1), (11, 1), (12, 1), (13, 1), (14, 1), (15, 1), (16, 1), (17, 1), (18, 1), (19, 1), (2, 2), (20, 1), (21, 1)] (fun X => St w [Blk gv (w32 V) 109, Blk gw (w32 ws) 123, Blk gr (w32 (List.replicate 8 0)) 109, Blk gh (w32 h) 109] X) (by kernel_rfl) (by kernel_rfl) (fun d _ c _ _ h => by cases d <;> exact h) (HX.out.turn (Below.drew (Below.refl _ _))) (fun X hXe hX => ?_)
      clear hXe HX
      repeat (apply wpOrd_class; ((· first | (rw [List.getElem?_toArray, List.getElem?_cons_zero]; done) | (simp only [List.getElem?_toArray, List.getElem?_cons_succ, List.getElem?_cons_zero]; exact rfl))); (· exact rfl); intro K hK; apply Exists.intro; refine And.intro (fun X' hX' => ?_) ?_; (· obtain ⟨hq1, hq2, hq3⟩ := HC3.out _ hX'; clear hX'; go_simp; (try go_bits); first | done | exact rfl | exact ⟨rfl, rfl⟩); go_simp; refine hK _ _ ?_; clear hK K)
      (apply wpOrd_comes; ((· first | (rw [List.getElem?_toArray, List.getElem?_cons_zero]; done) | (simp only [List.getElem?_toArray, List.getElem?_cons_succ, List.getElem?_cons_zero]; exact rfl))); intro N hN)
      go_wp2_with (go_at_call 71; (with_reducible refine (HB0.out _).mono ?_); rintro v X2 ⟨rfl, rfl⟩)
      refine hN _ _ (fun _ => hX) ?_
      clear hN N
      repeat (apply wpOrd_class; ((· first | (rw [List.getElem?_toArray, List.getElem?_cons_zero]; done) | (simp only [List.getElem?_toArray, List.getElem?_cons_succ, List.getElem?_cons_zero]; exact rfl))); (· exact rfl); intro K hK; apply Exists.intro; refine And.intro (fun X' hX' => ?_) ?_; (· obtain ⟨hq1, hq2, hq3⟩ := HC3.out _ hX'; clear hX'; go_simp; (try go_bits); first | done | exact rfl | exact ⟨rfl, rfl⟩); go_simp; refine hK _ _ ?_; clear hK K)
      refine wpOrd_done ?_
      have HX := hid hX
      clear hX
      obtain ⟨c4, c5, c6, c7, _, _⟩ := HC.out X HX.out
      obtain ⟨c0, c1, c2⟩ := HC3.out X HX.out
      have c3 := HC4.out X HX.out
      go_wp2_with (refine wpList_store_box 109 _ _ rfl gv rfl rfl (w32 [tu, v0, v1, v2, v3t, v4, v5, v6]) rfl 8 size8w HN8.out (w32_one _) 109 _ HX.out.blk HV8.out ?_; intro W5 hB hT hs; have H5 := hid (HX.out.put hB hT); clear hB hT hs)
      rw [← HST.out] at H5
      go_roundw
      case rel => exact ⟨i + 1, by omega, by go_num, H5⟩
      case measure => simp [intOf]; omega
    · have e1 : ¬ (i : Int) < 64 := by omega
      obtain rfl : i = 64 := by omega
      obtain ⟨V, hV⟩ : ∃ V, V = roundsTo h ws 64 := ⟨_, rfl⟩
      have HV8 := hid (show V.length = 8 by rw [hV]; exact roundsTo_len HHL.out 64)
      have HVE := hid hV
      rw [← hV] at HS
      clear hV
      have H9 := hid HS.out.at4
      clear HS
      go_wp2_with fail
      go_loopw [10, 86] (fun _ v X => ∃ i : Nat, i ≤ 8 ∧ v = .int .i64 i ∧ Hid (St w [Blk gh (w32 (addTo h V i)) 109, Blk gv (w32 V) 109, Blk gw (w32 ws) 123, Blk gr (w32 (List.replicate 8 0)) 109] X)) (fun _ v _ => 8 - (intOf v).toNat)
      case atStart => exact ⟨0, Nat.zero_le _, rfl, H9⟩
      case round =>
        clear H9
        obtain ⟨i, hi, rfl, HS⟩ := hrel
        by_cases hlt : i < 8
        · have e1 : (i : Int) < 8 := by omega
          have e0 : (0 : Int) ≤ (i : Int) := by omega
          obtain ⟨x, hx⟩ : ∃ x, x = (addTo h V i).getD i 0 := ⟨_, rfl⟩
          obtain ⟨y, hy⟩ : ∃ x, x = V.getD i 0 := ⟨_, rfl⟩
          obtain ⟨z, hz⟩ : ∃ z, z = x + y := ⟨_, rfl⟩
          have E1 : ((x.toNat : Int) + (y.toNat : Int)) % 4294967296 = (z.toNat : Int) := by rw [hz]; exact add_u32 _ _
          have HY := hid (show (addTo h V i).set i z = addTo h V (i + 1) by rw [addTo, hz, hx, hy])
          have HC := hid (show ∀ X, St w [Blk gh (w32 (addTo h V i)) 109, Blk gv (w32 V) 109, Blk gw (w32 ws) 123, Blk gr (w32 (List.replicate 8 0)) 109] X → X.cell? ⟨gh, i, none⟩ = some (.int .u32 (x.toNat : Int)) ∧ X.cell? ⟨gv, i, none⟩ = some (.int .u32 (y.toNat : Int)) from fun X hX => ⟨by rw [hx]; exact wblk_cell hX (by rw [addTo_len HHL.out]; exact hlt), by rw [hy]; exact wblk_cell hX.at2 (by rw [HV8.out]; exact hlt)⟩)
          clear hx hy hz
          go_wp2_with fail
          refine wp_region_ord [8] [(0, 1), (1, 1), (2, 1), (3, 1), (4, 1), (5, 1), (6, 1), (7, 1), (8, 2)] (fun X => St w [Blk gh (w32 (addTo h V i)) 109, Blk gv (w32 V) 109, Blk gw (w32 ws) 123, Blk gr (w32 (List.replicate 8 0)) 109] X) (by kernel_rfl) (by kernel_rfl) (fun d _ c _ _ h => by cases d <;> exact h) (HS.out.turn (Below.drew (Below.refl _ _))) (fun X hXe hX => ?_)
          clear hXe HS
          repeat (apply wpOrd_class; ((· first | (rw [List.getElem?_toArray, List.getElem?_cons_zero]; done) | (simp only [List.getElem?_toArray, List.getElem?_cons_succ, List.getElem?_cons_zero]; exact rfl))); (· exact rfl); intro K hK; apply Exists.intro; refine And.intro (fun X' hX' => ?_) ?_; (· obtain ⟨hq1, hq2⟩ := HC.out _ hX'; clear hX'; go_simp; (try go_bits); first | done | exact rfl | exact ⟨rfl, rfl⟩); go_simp; refine hK _ _ ?_; clear hK K)
          obtain ⟨c3, _⟩ := HC.out X hX
          have f3 := frozen_of_row X gh i _ _ hX.blk
          (apply wpOrd_comes; ((· first | (rw [List.getElem?_toArray, List.getElem?_cons_zero]; done) | (simp only [List.getElem?_toArray, List.getElem?_cons_succ, List.getElem?_cons_zero]; exact rfl))); intro N hN)
          go_wp2_with fail
          have H3 := hid (hX.setCell i (.int .u32 (z.toNat : Int)))
          rw [w32_set, HY.out] at H3
          clear hX c3 f3
          refine hN _ _ (fun h => by cases h) ?_
          clear hN N
          refine wpOrd_done ?_
          go_wp2_with fail
          go_roundw
          case rel => exact ⟨i + 1, by omega, by go_num, H3⟩
          case measure => simp [intOf]; omega
        · have e1 : ¬ (i : Int) < 8 := by omega
          obtain rfl : i = 8 := by omega
          have HZ := hid ((w32_size (addTo h V 8)).trans (addTo_len HHL.out 8))
          have LB : (loadK 109 (.pointer (some ⟨gh, 0, none⟩))).run Tryd.prog wr = .ok (.value (.agg (w32 (addTo h V 8)))) wr := run_loadK_box HS.out.blk Tryd.underlying109 rfl size8w HZ.out
          go_wp2_with (refine wpList_store_box 109 _ _ rfl gr rfl rfl (w32 (addTo h V 8)) rfl 8 size8w HZ.out (w32_one _) 109 _ HS.out.at4.blk HZ8.out ?_; intro W5 hB5 hT5 hs5; have H5 := hid (HS.out.at4.put hB5 hT5))
          exact bodyPost_ret (results_cell rfl _ _ _ gr 109 (w32 _) (0, 0) rfl hB5 Tryd.underlying109 (by rw [HZ.out]; exact size8w)) rfl ⟨by rw [← HVE.out], H5.out.below⟩
end Go.Proofs.YtnakbdgoaepehaaDoor
/- A sum that goes on: plainly, and in memory. -/
namespace Go.Cu
open Go Go.RowKit
/-- The words behind so many blocks. -/
def absorbTo (ws : List UInt32) (all : List UInt8) : Nat → List UInt32
  | 0 => ws
  | i + 1 => pressW (absorbTo ws all i) ((all.drop (64 * i)).take 64)
theorem absorbTo_len {ws : List UInt32} (hw : ws.length = 8) (all : List UInt8) : ∀ i, (absorbTo ws all i).length = 8
  | 0 => hw
  | i + 1 => pressW_len (absorbTo_len hw all i) _
theorem absorbTo_left (ws : List UInt32) (m b : List UInt8) : ∀ k, 64 * k ≤ m.length → absorbTo ws (m ++ b) k = absorbTo ws m k
  | 0, _ => rfl
  | k + 1, h => by
    rw [absorbTo, absorbTo, absorbTo_left ws m b k (by omega)]
    congr 1
    rw [List.drop_append_of_le_length (by omega), List.take_append_of_le_length (by rw [List.length_drop]; omega)]
theorem absorbTo_join (ws : List UInt32) (m b : List UInt8) (k : Nat) (hk : 64 * k ≤ m.length) : ∀ i, absorbTo ws (m ++ b) (k + i) = absorbTo (absorbTo ws m k) (m.drop (64 * k) ++ b) i
  | 0 => absorbTo_left ws m b k hk
  | i + 1 => by
    rw [show k + (i + 1) = k + i + 1 by omega, absorbTo, absorbTo, absorbTo_join ws m b k hk i]
    congr 2
    rw [show 64 * (k + i) = 64 * k + 64 * i by omega, ← List.drop_drop, List.drop_append_of_le_length hk]
/-- What a sum holds behind a message: its words and what is left. -/
def wordsOf (m : List UInt8) : List UInt32 := absorbTo startL m (m.length / 64)
def restOf (m : List UInt8) : List UInt8 := m.drop (64 * (m.length / 64))
theorem restOf_len (m : List UInt8) : (restOf m).length = m.length % 64 := by
  unfold restOf
  rw [List.length_drop]
  omega
theorem wordsOf_len (m : List UInt8) : (wordsOf m).length = 8 := absorbTo_len startL_len _ _
theorem wordsOf_more (m b : List UInt8) : wordsOf (m ++ b) = absorbTo (wordsOf m) (restOf m ++ b) ((restOf m ++ b).length / 64) := by
  have h := absorbTo_join startL m b (m.length / 64) (by omega) ((restOf m ++ b).length / 64)
  unfold wordsOf
  unfold restOf at h ⊢
  rw [← h]
  congr 1
  rw [List.length_append, List.length_append, List.length_drop]
  omega
theorem restOf_more (m b : List UInt8) : restOf (m ++ b) = (restOf m ++ b).drop (64 * ((restOf m ++ b).length / 64)) := by
  have hl := restOf_len m
  unfold restOf at hl ⊢
  rw [← List.drop_append_of_le_length (l₂ := b) (by omega), List.drop_drop]
  congr 1
  rw [List.length_drop, List.length_append]
  omega
def hashV (ws : List UInt32) (s : Value) (n : Nat) : Array Value := ((ws.map fun x => Value.int .u32 x.toNat) ++ [s, .int .i64 n]).toArray
theorem hashV_size {ws : List UInt32} (h : ws.length = 8) (s : Value) (n : Nat) : (hashV ws s n).size = 10 := by simp [hashV, h]
theorem hashV_word {ws : List UInt32} (h : ws.length = 8) (s : Value) (n : Nat) {i : Nat} (hi : i < 8) : (hashV ws s n)[i]? = (w32 ws)[i]? := by
  simp only [hashV, w32, List.getElem?_toArray]
  rw [List.getElem?_append_left (by simp [h, hi])]
theorem hashV_rest {ws : List UInt32} (h : ws.length = 8) (s : Value) (n : Nat) : (hashV ws s n)[8]? = some s := by
  simp only [hashV, List.getElem?_toArray]
  rw [List.getElem?_append_right (by simp [h])]
  simp [h]
theorem hashV_n {ws : List UInt32} (h : ws.length = 8) (s : Value) (n : Nat) : (hashV ws s n)[9]? = some (.int .i64 n) := by
  simp only [hashV, List.getElem?_toArray]
  rw [List.getElem?_append_right (by simp [h])]
  simp [h]
theorem hashV_set8 {ws : List UInt32} (h : ws.length = 8) (s s' : Value) (n : Nat) : (hashV ws s n).setIfInBounds 8 s' = hashV ws s' n := by
  match ws, h with
  | [a, b, c, d, e, f, g, i], _ => rfl
theorem hashV_set9 {ws : List UInt32} (h : ws.length = 8) (s : Value) (n m : Nat) : (hashV ws s n).setIfInBounds 9 (.int .i64 m) = hashV ws s m := by
  match ws, h with
  | [a, b, c, d, e, f, g, i], _ => rfl
theorem hashV_put {ws ws' : List UInt32} (h : ws.length = 8) (h' : ws'.length = 8) (s : Value) (n : Nat) : putAt (hashV ws s n) 0 (w32 ws').toList = hashV ws' s n := by
  match ws, h, ws', h' with
  | [a, b, c, d, e, f, g, i], _, [a', b', c', d', e', f', g', i'], _ => rfl
theorem BytesIn.shift {W : World} {g o : Nat} {l : List UInt8} (h : BytesIn W (some ⟨g, o, none⟩) l) (k : Nat) : BytesIn W (some ⟨g, o + k, none⟩) (l.drop k) := fun i b hi => by
  rw [List.getElem?_drop] at hi
  obtain ⟨g', o', e, hg, hc⟩ := h (k + i) b hi
  cases e
  exact ⟨g, o + k, rfl, hg, by rw [Nat.add_assoc]; exact hc⟩
section
variable {P : Program}
/-- append onto a slice that is full, of bytes. -/
theorem run_append_full {w : World} (t ty e : TypeId) (i : TypeInfo) (ht : P.underlying t = some (.slice e)) (hi : P.info? e = some i) (hz : i.zero = some (.int .u8 0)) (hsize : i.size = 1) (hby : i.bytes = 1)
    (A : Option Addr) (r : List UInt8) (hr : BytesIn w A r) (B : Option Addr) (c : Nat) (b : List UInt8) (hb : BytesIn w B b) (h63 : r.length + b.length ≤ 140737488355328) :
    ∃ A' c' w', (Builtin.append_ #[t, t] ty #[.slice A r.length r.length, .slice B b.length c]).run P w = .ok (.slice A' (r ++ b).length c') w' ∧
      ∀ W0 L c0, r.length ≤ c0 → c0 ≤ maxLen → St W0 (Vals [.slice A r.length c0] [r] :: L) w → St W0 (Vals [.slice A' (r ++ b).length c'] [r ++ b] :: L) w' := by
  have hl0 : ∀ a : Addr, (loadCells a 0).run P w = .ok #[] w := fun a => run_loadCells_list (P := P) w a [] (fun j v hj => by cases hj)
  match b, hb, h63 with
  | [], _, _ =>
    refine ⟨A, r.length, w, ?_, fun W0 L c0 h1 h2 h => ?_⟩
    · rw [List.append_nil]
      cases A <;> cases B <;> simp [Builtin.append_, run_underlying ht, sizeOf, typeInfo, hi, Builtin.lenOf, Builtin.firstCells, storeCells, hl0]
    · rw [List.append_nil]
      obtain ⟨F, ha, _, hrr⟩ := h.first
      refine hrr _ _ ⟨rfl, fun i q hq => ?_⟩ (Tch.refl _ _)
      obtain ⟨A1, c1, e1, g1, g2, g3⟩ := ha.2 i q hq
      match i with
      | i + 1 => cases hq
      | 0 =>
        obtain rfl : r = q := by simpa using hq
        have e2 : Value.slice A r.length c0 = .slice A1 r.length c1 := Option.some.inj e1
        injection e2 with e3 _ _
        subst e3
        exact ⟨A, r.length, rfl, Nat.le_refl _, Nat.le_trans h1 h2, g3.mono fun _ _ hf => .inl hf⟩
  | b0 :: b, hb, h63 =>
    obtain ⟨gb, ob, rfl, _, _⟩ := hb 0 b0 rfl
    have hnews : ∀ j u, (bvL (b0 :: b))[j]? = some u → w.cell? ((⟨gb, ob, none⟩ : Addr).add j) = some u := by
      intro j u hj
      unfold bvL at hj
      rw [List.getElem?_map] at hj
      cases hq : (b0 :: b)[j]? with
      | none => rw [hq] at hj; cases hj
      | some q =>
        rw [hq] at hj
        obtain rfl : Value.int .u8 q.toNat = u := by simpa using hj
        obtain ⟨g', o', e', _, hc⟩ := hb j q hq
        cases e'
        have e3 : (⟨gb, ob, none⟩ : Addr).add j = ⟨gb, ob + j, none⟩ := by unfold Addr.add; split <;> simp_all
        rw [e3]; exact hc
    have key : ∃ v' w', (Builtin.append_ #[t, t] ty #[.slice A r.length r.length, .slice (some ⟨gb, ob, none⟩) (b0 :: b).length c]).run P w = .ok v' w' ∧ w'.ownsRow w.heap.size e 1 v' (r.length + (b0 :: b).length) (bvL r ++ bvL (b0 :: b)) ∧ w.grownBy w' none := by
      cases A with
      | some a =>
        obtain ⟨ga, oa, sp⟩ := a
        exact run_append_arg_grows (P := P) w t ty e i (.int .u8 0) 1 1 ht hi hz hsize hby rfl (by decide) ⟨ga, oa, sp⟩ r.length r.length (bvL r) (by rw [bvL_len, Nat.mul_one]) (fun j u hj => by
          unfold bvL at hj
          rw [List.getElem?_map] at hj
          cases hq : r[j]? with
          | none => rw [hq] at hj; cases hj
          | some q =>
            rw [hq] at hj
            obtain rfl : Value.int .u8 q.toNat = u := by simpa using hj
            obtain ⟨g', o', e', _, hc⟩ := hr j q hq
            cases e'
            have e3 : (⟨ga, oa, none⟩ : Addr).add j = ⟨ga, oa + j, none⟩ := by unfold Addr.add; split <;> simp_all
            rw [e3]; exact hc) ⟨gb, ob, none⟩ (b0 :: b).length c (bvL (b0 :: b)) (by rw [bvL_len, Nat.mul_one]) hnews (by simp) (by unfold maxLen; omega) (by omega)
      | none =>
        have hr0 : r = [] := by
          cases r with
          | nil => rfl
          | cons q r => obtain ⟨g, o, e, _⟩ := hr 0 q rfl; cases e
        subst hr0
        obtain ⟨v', w', hrun, h2, h3, h4, h5⟩ := run_append_own_at (P := P) w w.heap.size t ty e i (.int .u8 0) 1 1 ht hi hz hsize hby rfl (by decide) (.slice none 0 0) 0 [] (World.ownsRow_nil _ _ _ _) ⟨gb, ob, none⟩ (b0 :: b).length c (bvL (b0 :: b)) (by rw [bvL_len, Nat.mul_one]) hnews (bvL_one _) (by unfold maxLen; omega) (by omega) (Nat.le_refl _)
        exact ⟨v', w', hrun, h2, h3⟩
    obtain ⟨v', w', hrun, hown, hgr⟩ := key
    rcases hown.2 with ⟨_, h0⟩ | ⟨g', cap, cur, rfl, hge, hh, hcap, hmax, hcs, htk⟩
    · simp at h0
    · refine ⟨some ⟨g', 0, none⟩, cap, w', by rw [List.length_append]; exact hrun, fun W0 L c0 h1 h2 h => ?_⟩
      refine h.drop.push ⟨hgr.os, hgr.tape, hgr.output, hgr.size, fun k hk => hgr.block k hk (by simp)⟩ ⟨rfl, fun i q hq => ?_⟩
      match i with
      | i + 1 => cases hq
      | 0 =>
        obtain rfl : r ++ b0 :: b = q := by simpa using hq
        refine ⟨some ⟨g', 0, none⟩, cap, rfl, by rw [List.length_append]; exact hcap, hmax, fun k bb hbb => ⟨g', 0, rfl, hge, heap_lt hh, ?_⟩⟩
        rw [Nat.zero_add, cell_of_row w' g' k _ _ _ hh]
        have hk : k < r.length + (b0 :: b).length := by
          rw [← List.length_append]
          exact (List.getElem?_eq_some_iff.1 hbb).1
        have h3 : (cur.toList.take ((r.length + (b0 :: b).length) * 1))[k]? = some (Value.int .u8 bb.toNat) := by
          rw [htk]
          unfold bvL
          rw [← List.map_append, List.getElem?_map, hbb]
          rfl
        rw [Nat.mul_one, List.getElem?_take_of_lt hk] at h3
        simpa using h3
end
end Go.Cu
