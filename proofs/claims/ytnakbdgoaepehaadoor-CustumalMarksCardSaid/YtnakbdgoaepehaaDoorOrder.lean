/- A region that draws its order, walked in an order of one's own: what yields in every world of a class may be taken first; what turns the world comes when it alone may come. -/
import Derived.Test.YtnakbdgoaepehaaDoorArr
import Derived.OrdersHeld
import Derived.StillTail
namespace Go.Cu
open Go Go.RowKit
section
variable {P : Program} {ops : Array Oper} {Q : Exit → Act → World → Prop} {md : Region.Mode} {S : World → Prop} {loose : List Nat}

/-- Whatever order is picked; S holds behind each but the loose ones. -/
def wpAnyN (P : Program) (md : Region.Mode) (ops : Array Oper) (Q : Exit → Act → World → Prop) (S : World → Prop) (loose : List Nat) : Nat → Array Bool → Act → World → Prop
  | 0, listed, a, w => Region.ready md ops listed = [] ∧ Q .normal a w
  | fuel + 1, listed, a, w =>
    (Region.ready md ops listed = [] → Q .normal a w) ∧
    ∀ i ∈ Region.ready md ops listed, wpOp P ops Q i (fun a' w' => (loose.contains i = false → S w') ∧ wpAnyN P md ops Q S loose fuel (listed.setIfInBounds i true) a' w') a w
theorem wpAny_of_N : ∀ (fuel : Nat) (listed : Array Bool) (a : Act) (w : World), wpAnyN P md ops Q S loose fuel listed a w → wpAny P md ops Q fuel listed a w
  | 0, _, _, _, h => h
  | fuel + 1, _, _, _, h => ⟨h.1, fun i hi => wpOp_mono (fun a' w' h' => wpAny_of_N fuel _ a' w' h'.2) (h.2 i hi)⟩

structure OInv (md : Region.Mode) (ops : Array Oper) (listed : Array Bool) : Prop where
  size : listed.size = ops.size
  closed : ∀ (j : Nat) oj, ops[j]? = some oj → listed.getD j false = true → ∀ e ∈ oj.after, Region.binds md e = true → listed.getD e.on false = true
theorem OInv.set {i : Nat} {listed : Array Bool} (inv : OInv md ops listed) (hi : i ∈ Region.ready md ops listed) : OInv md ops (listed.setIfInBounds i true) := by
  obtain ⟨_, oi, hoi, hall⟩ := mem_ready.1 hi
  refine ⟨by simp [inv.size], fun j oj hj hl e he hb => ?_⟩
  by_cases hij : i = j
  · subst hij
    have : oj = oi := Option.some.inj (hj.symm.trans hoi)
    subst this
    exact getD_set_true (hall e he hb)
  · rw [getD_set_ne false hij] at hl
    exact getD_set_true (inv.closed j oj hj hl e he hb)
theorem OInv.start : OInv md ops (Array.replicate ops.size false) := ⟨by simp, fun j oj _ hl => (by rw [getD_replicate_false] at hl; cases hl)⟩

/-- Those of D wait for number i. -/
def waitB (md : Region.Mode) (ops : Array Oper) (i : Nat) (D : List Nat) : Bool :=
  D.all fun j => match ops[j]? with | none => false | some oj => oj.after.any fun e => Region.binds md e && (e.on == i || (decide (e.on < j) && D.contains e.on))
def waitOf (md : Region.Mode) (ops : Array Oper) (i : Nat) : List Nat :=
  (List.range ops.size).foldl (fun D j => match ops[j]? with | none => D | some oj => if oj.after.any (fun e => Region.binds md e && (e.on == i || D.contains e.on)) then j :: D else D) []
theorem wait_edge {i j : Nat} {D : List Nat} (hD : waitB md ops i D = true) (hj : j ∈ D) : ∃ oj, ops[j]? = some oj ∧ ∃ e ∈ oj.after, Region.binds md e = true ∧ (e.on = i ∨ e.on < j ∧ e.on ∈ D) := by
  have h := List.all_eq_true.1 hD j hj
  cases ho : ops[j]? with
  | none => simp [ho] at h
  | some oj =>
    simp only [ho] at h
    obtain ⟨e, he, h2⟩ := Array.any_eq_true'.1 h
    simp only [Bool.and_eq_true, Bool.or_eq_true, beq_iff_eq, decide_eq_true_eq, List.contains_iff_mem] at h2
    exact ⟨oj, rfl, e, he, h2.1, h2.2⟩
theorem wait_unlisted {i : Nat} {D : List Nat} {listed : Array Bool} (hD : waitB md ops i D = true) (inv : OInv md ops listed) (hi : listed.getD i true = false) : ∀ (j : Nat), j ∈ D → listed.getD j false = false := by
  intro j
  induction j using Nat.strongRecOn with
  | _ j ih =>
    intro hj
    cases hl : listed.getD j false with
    | false => rfl
    | true =>
      obtain ⟨oj, hoj, e, he, hb, h⟩ := wait_edge hD hj
      have h1 := inv.closed j oj hoj hl e he hb
      rcases h with h | ⟨h, h2⟩
      · rw [h, getD_both hi] at h1; cases h1
      · rw [ih _ h h2] at h1; cases h1
theorem wait_unready {i j : Nat} {D : List Nat} {listed : Array Bool} (hD : waitB md ops i D = true) (inv : OInv md ops listed) (hi : listed.getD i true = false) (hj : j ∈ D) : j ∉ Region.ready md ops listed := by
  intro hr
  obtain ⟨_, ot, hot, hall⟩ := mem_ready.1 hr
  obtain ⟨oj, hoj, e, he, hb, h⟩ := wait_edge hD hj
  have : oj = ot := Option.some.inj (hoj.symm.trans hot)
  subst this
  have h1 := hall e he hb
  rcases h with h | ⟨_, h2⟩
  · rw [h, getD_both hi] at h1; cases h1
  · rw [wait_unlisted hD inv hi _ h2] at h1; cases h1

theorem after_not {i : Nat} {oj : Oper} {listed : Array Bool} (hun : listed.getD i true = false) (hall : ∀ e ∈ oj.after, Region.binds md e = true → listed.getD e.on false = true) : ∀ e ∈ oj.after, Region.binds md e = true → e.on ≠ i := fun e he hb heq => by
  have h1 := hall e he hb
  rw [heq, getD_both hun] at h1
  cases h1
theorem set_free {i j : Nat} {oi : Oper} {listed : Array Bool} (hjun : listed.getD j true = false)
    (hfree : ∀ j oj, ops[j]? = some oj → j ≠ i → listed.getD j true = false → (∀ e ∈ oj.after, Region.binds md e = true → e.on ≠ i) → oi.apart ops oj = true) :
    ∀ k ok, ops[k]? = some ok → k ≠ i → (listed.setIfInBounds j true).getD k true = false → (∀ e ∈ ok.after, Region.binds md e = true → e.on ≠ i) → oi.apart ops ok = true := fun k ok hk hki hun hno => by
  refine hfree k ok hk hki ?_ hno
  by_cases hjk : j = k
  · subst hjk; exact hjun
  · rw [getD_set_ne true hjk] at hun; exact hun

/-- One that yields whatever the world may be taken first. -/
theorem wpAnyN_pure {i : Nat} {oi : Oper} {v : Value} (hi : ops[i]? = some oi) (hsel : ∀ (j : Nat) (o : Oper) cs b, ops[j]? = some o → o.op ≠ .select cs b)
    (hQ : ∀ c a w, Q (.panic c) (a.put oi.dst v) w → Q (.panic c) a w) (hS : loose.contains i = true) :
    ∀ (fuel : Nat) (listed : Array Bool) (a : Act) (w : World),
      (∀ j oj, ops[j]? = some oj → j ≠ i → listed.getD j true = false → (∀ e ∈ oj.after, Region.binds md e = true → e.on ≠ i) → oi.apart ops oj = true) →
      i ∈ Region.ready md ops listed → YieldsIf P ops (fun _ => True) oi v a →
      wpAnyN P md ops Q S loose fuel (listed.setIfInBounds i true) (a.put oi.dst v) w → wpAnyN P md ops Q S loose (fuel + 1) listed a w := by
  intro fuel
  induction fuel with
  | zero =>
    intro listed a w _ hr hy H
    refine ⟨fun h => (by rw [h] at hr; cases hr), fun j hj => ?_⟩
    by_cases hji : j = i
    · subst hji; exact hy.wpOp hi trivial ⟨fun h => (by rw [hS] at h; cases h), H⟩
    · have := ready_mono hj hji
      rw [H.1] at this
      cases this
  | succ fuel ih =>
    intro listed a w hfree hr hy H
    have hun := (mem_ready.1 hr).1
    refine ⟨fun h => (by rw [h] at hr; cases hr), fun j hj => ?_⟩
    by_cases hji : j = i
    · subst hji; exact hy.wpOp hi trivial ⟨fun h => (by rw [hS] at h; cases h), H⟩
    · have h1 := H.2 j (ready_mono hj hji)
      obtain ⟨hjun, oj, hoj, hall⟩ := mem_ready.1 hj
      have h2 := wpOp_putIf hoj (hfree j oj hoj hji hjun (after_not hun hall)) (fun cs b => hsel i oi cs b hi) (fun cs b => hsel j oj cs b hoj) hQ hy h1
      refine wpOp_mono (fun a' w' h3 => ⟨h3.2.1, ih (listed.setIfInBounds j true) a' w' (set_free hjun hfree) (ready_mono hr (Ne.symm hji)) h3.1 ?_⟩) h2
      rw [Array.setIfInBounds_comm _ _ hji]
      exact h3.2.2

/-- One that yields in every world of the class may be taken first. -/
theorem wpAnyN_first {i : Nat} {oi : Oper} {v : Value} {D : List Nat} (hi : ops[i]? = some oi) (hsel : ∀ (j : Nat) (o : Oper) cs b, ops[j]? = some o → o.op ≠ .select cs b)
    (hD : waitB md ops i D = true) (hQ : ∀ c a w, Q (.panic c) (a.put oi.dst v) w → Q (.panic c) a w) :
    ∀ (fuel : Nat) (listed : Array Bool) (a : Act) (w : World), OInv md ops listed → (∀ j, j < ops.size → listed.getD j true = false → j ≠ i → loose.contains j = true → j ∈ D) →
      (∀ j oj, ops[j]? = some oj → j ≠ i → listed.getD j true = false → (∀ e ∈ oj.after, Region.binds md e = true → e.on ≠ i) → oi.apart ops oj = true) →
      i ∈ Region.ready md ops listed → YieldsIf P ops S oi v a → S w →
      wpAnyN P md ops Q S loose fuel (listed.setIfInBounds i true) (a.put oi.dst v) w → wpAnyN P md ops Q S loose (fuel + 1) listed a w := by
  intro fuel
  induction fuel with
  | zero =>
    intro listed a w _ _ _ hr hy hS H
    refine ⟨fun h => (by rw [h] at hr; cases hr), fun j hj => ?_⟩
    by_cases hji : j = i
    · subst hji; exact hy.wpOp hi hS ⟨fun _ => hS, H⟩
    · have := ready_mono hj hji
      rw [H.1] at this
      cases this
  | succ fuel ih =>
    intro listed a w inv hneed hfree hr hy hS H
    have hun := (mem_ready.1 hr).1
    refine ⟨fun h => (by rw [h] at hr; cases hr), fun j hj => ?_⟩
    by_cases hji : j = i
    · subst hji; exact hy.wpOp hi hS ⟨fun _ => hS, H⟩
    · have h1 := H.2 j (ready_mono hj hji)
      obtain ⟨hjun, oj, hoj, hall⟩ := mem_ready.1 hj
      have hl : loose.contains j = false := by
        cases hl : loose.contains j with
        | false => rfl
        | true => exact absurd hj (wait_unready hD inv hun (hneed j (Array.getElem?_eq_some_iff.1 hoj).1 hjun hji hl))
      have h2 := wpOp_putIf hoj (hfree j oj hoj hji hjun (after_not hun hall)) (fun cs b => hsel i oi cs b hi) (fun cs b => hsel j oj cs b hoj) hQ hy h1
      refine wpOp_mono (fun a' w' h3 => ⟨h3.2.1, ih (listed.setIfInBounds j true) a' w' (inv.set hj) (fun k hk hku => hneed k hk (by
        by_cases hjk : j = k
        · subst hjk; exact hjun
        · rw [getD_set_ne true hjk] at hku; exact hku)) (set_free hjun hfree) (ready_mono hr (Ne.symm hji)) h3.1 (h3.2.1 hl) ?_⟩) h2
      rw [Array.setIfInBounds_comm _ _ hji]
      exact h3.2.2

/-- What comes behind one operation. -/
def Qn (Q : Exit → Act → World → Prop) (N : Act → World → Prop) : Exit → Act → World → Prop
  | .normal, a, w => N a w
  | x, a, w => Q x a w
theorem wpOp_of_one {i : Nat} {o : Oper} {N : Act → World → Prop} {a : Act} {w : World} (hi : ops[i]? = some o) (h : wpList P ops (Qn Q N) [o] a w) : wpOp P ops Q i N a w := by
  unfold wpOp
  simp only [hi]
  unfold wpList at h
  have e : (fun a w => wpList P ops (Qn Q N) [] a w) = N := rfl
  split at h
  · rename_i hw
    rw [if_pos hw]
    rcases h with h | ⟨h, a', w', hl⟩
    · refine .inl ?_
      unfold Oper.wp at *
      generalize (execOp a.eval o).run P w = r at *
      cases r with
      | ok n w' =>
        cases n <;> simp only [Oper.upon] at h ⊢
        case value u => exact h
        case skip => exact h
        case defer d => exact h
        case enter f args =>
          refine Calls.mono h fun e w'' he => ?_
          cases e with
          | returned u => exact he
          | panicked c => exact he
          | outgrown =>
            obtain ⟨a', w', hl⟩ := he
            exact ⟨a', w', hl⟩
        case row row args => exact Rows.mono h fun u w'' he => he
      | halt x w' =>
        cases x <;> simp only [Oper.upon] at h ⊢
        case panic u => exact h
    · exact .inr ⟨h, a', w', hl⟩
  · rename_i hw
    rw [if_neg hw]
    exact h

/-- An order of one's own: (number, 0: yields whatever the world; 1: in every world of the class; 2: comes alone). -/
def wpOrd (P : Program) (ops : Array Oper) (Q : Exit → Act → World → Prop) (S : World → Prop) (loose : List Nat) : List (Nat × Nat) → Act → World → Prop
  | [], a, w => Q .normal a w
  | (i, 0) :: r, a, w => ∃ o, ops[i]? = some o ∧ ∃ v, YieldsIf P ops (fun _ => True) o v a ∧ wpOrd P ops Q S loose r (a.put o.dst v) w
  | (i, 1) :: r, a, w => ∃ o, ops[i]? = some o ∧ ∃ v, YieldsIf P ops S o v a ∧ wpOrd P ops Q S loose r (a.put o.dst v) w
  | (i, _ + 2) :: r, a, w => ∃ o, ops[i]? = some o ∧ wpList P ops (Qn Q fun a' w' => (loose.contains i = false → S w') ∧ wpOrd P ops Q S loose r a' w') [o] a w
def ordrB (md : Region.Mode) (ops : Array Oper) (loose : List Nat) : List (Nat × Nat) → Bool → Array Bool → Bool
  | [], _, listed => (Region.ready md ops listed).isEmpty
  | (i, 0) :: r, s, listed => loose.contains i && (Region.ready md ops listed).contains i && Region.free md ops listed i && ordrB md ops loose r s (listed.setIfInBounds i true)
  | (i, 1) :: r, s, listed => s && (Region.ready md ops listed).contains i && Region.free md ops listed i && waitB md ops i (waitOf md ops i) &&
      ((List.range ops.size).all fun j => listed.getD j true || j == i || !loose.contains j || (waitOf md ops i).contains j) && ordrB md ops loose r s (listed.setIfInBounds i true)
  | (i, _ + 2) :: r, _, listed => decide (Region.ready md ops listed = [i]) && ordrB md ops loose r (!loose.contains i) (listed.setIfInBounds i true)

theorem wpAnyN_of_ord (hsel : Region.noSelect ops = true) (hQ : ∀ (d : Option Tmp) (v : Value) c a w, Q (.panic c) (a.put d v) w → Q (.panic c) a w) :
    ∀ (l : List (Nat × Nat)) (s : Bool) (listed : Array Bool) (a : Act) (w : World), OInv md ops listed → ordrB md ops loose l s listed = true → (s = true → S w) → wpOrd P ops Q S loose l a w → wpAnyN P md ops Q S loose l.length listed a w
  | [], _, listed, a, w, _, hB, _, h => ⟨by simpa [ordrB] using hB, h⟩
  | (i, 0) :: r, s, listed, a, w, inv, hB, hS, h => by
    simp only [ordrB, Bool.and_eq_true] at hB
    obtain ⟨⟨⟨hl, hr⟩, hf⟩, hB'⟩ := hB
    obtain ⟨o, ho, v, hy, hK⟩ := h
    have hr' : i ∈ Region.ready md ops listed := by simpa using hr
    exact wpAnyN_pure ho (Region.noSelect_spec hsel) (fun c a w => hQ _ _ c a w) hl _ listed a w (Region.free_spec ho hf) hr' hy (wpAnyN_of_ord hsel hQ r s _ _ w (inv.set hr') hB' hS hK)
  | (i, 1) :: r, s, listed, a, w, inv, hB, hS, h => by
    simp only [ordrB, Bool.and_eq_true] at hB
    obtain ⟨⟨⟨⟨⟨hs, hr⟩, hf⟩, hD⟩, hn⟩, hB'⟩ := hB
    obtain ⟨o, ho, v, hy, hK⟩ := h
    have hr' : i ∈ Region.ready md ops listed := by simpa using hr
    refine wpAnyN_first ho (Region.noSelect_spec hsel) hD (fun c a w => hQ _ _ c a w) _ listed a w inv (fun j hj hun hji hlo => ?_) (Region.free_spec ho hf) hr' hy (hS hs) (wpAnyN_of_ord hsel hQ r s _ _ w (inv.set hr') hB' hS hK)
    have h1 := List.all_eq_true.1 hn j (List.mem_range.2 hj)
    simp only [Bool.or_eq_true, beq_iff_eq, hun, hji, hlo, Bool.not_true, Bool.false_eq_true, false_or] at h1
    simpa using h1
  | (i, k + 2) :: r, s, listed, a, w, inv, hB, hS, h => by
    simp only [ordrB, Bool.and_eq_true, decide_eq_true_eq] at hB
    obtain ⟨hr, hB'⟩ := hB
    obtain ⟨o, ho, h⟩ := h
    refine ⟨fun h1 => (by rw [hr] at h1; cases h1), fun j hj => ?_⟩
    have hji : j = i := by rw [hr] at hj; simpa using hj
    subst hji
    refine wpOp_mono (fun a' w' h' => ⟨h'.1, wpAnyN_of_ord hsel hQ r _ _ a' w' (inv.set hj) hB' (fun hs => h'.1 (by simpa using hs)) h'.2⟩) (wpOp_of_one ho h)

theorem wp_region_ord {id : Nat} {a : Act} {w : World} {l : List Oper} (loose : List Nat) (order : List (Nat × Nat)) (S : World → Prop) (hm : P.follows .mixedOrders = true)
    (hB : (Region.noSelect l.toArray && decide (order.length = l.toArray.size) && ordrB .any l.toArray loose order true (Array.replicate l.toArray.size false)) = true)
    (hQ : ∀ (d : Option Tmp) (v : Value) c a w, Q (.panic c) (a.put d v) w → Q (.panic c) a w) (hS : S w.drew)
    (h : ∀ X, X = w.drew → S X → wpOrd P l.toArray Q S loose order a X) : (Code.region id l.toArray true).wp P Q a w := by
  simp only [Bool.and_eq_true, decide_eq_true_eq] at hB
  obtain ⟨⟨hsel, hlen⟩, hb⟩ := hB
  refine wp_region_any hm ?_
  have := wpAnyN_of_ord (md := .any) (S := S) hsel hQ order true _ a w.drew OInv.start hb (fun _ => hS) (h _ rfl hS)
  rw [hlen] at this
  exact wpAny_of_N _ _ _ _ this

theorem wpOrd_pure {i : Nat} {r : List (Nat × Nat)} {o : Oper} {a : Act} {w : World} (ho : ops[i]? = some o) (hw : Region.wanted o (yielded ops a.tmps) = true)
    (h : ∀ K : Act → World → Prop, (∀ a w, wpOrd P ops Q S loose r a w → K a w) → ∃ v, (∀ W, (execOp a.eval o).run P W = .ok (.value v) W) ∧ K (a.put o.dst v) w) : wpOrd P ops Q S loose ((i, 0) :: r) a w :=
  let ⟨v, hv, hK⟩ := h _ fun _ _ hh => hh
  ⟨o, ho, v, .inl ⟨hw, fun W _ => hv W⟩, hK⟩
theorem wpOrd_class {i : Nat} {r : List (Nat × Nat)} {o : Oper} {a : Act} {w : World} (ho : ops[i]? = some o) (hw : Region.wanted o (yielded ops a.tmps) = true)
    (h : ∀ K : Act → World → Prop, (∀ a w, wpOrd P ops Q S loose r a w → K a w) → ∃ v, (∀ W, S W → (execOp a.eval o).run P W = .ok (.value v) W) ∧ K (a.put o.dst v) w) : wpOrd P ops Q S loose ((i, 1) :: r) a w :=
  let ⟨v, hv, hK⟩ := h _ fun _ _ hh => hh
  ⟨o, ho, v, .inl ⟨hw, hv⟩, hK⟩
theorem wpOrd_skip {i : Nat} {r : List (Nat × Nat)} {o : Oper} {a : Act} {w : World} (ho : ops[i]? = some o) (hw : Region.wanted o (yielded ops a.tmps) = false)
    (h : ∀ K : Act → World → Prop, (∀ a w, wpOrd P ops Q S loose r a w → K a w) → K (a.put o.dst undef) w) : wpOrd P ops Q S loose ((i, 0) :: r) a w :=
  ⟨o, ho, undef, .inr ⟨hw, rfl⟩, h _ fun _ _ hh => hh⟩
theorem wpOrd_skip1 {i : Nat} {r : List (Nat × Nat)} {o : Oper} {a : Act} {w : World} (ho : ops[i]? = some o) (hw : Region.wanted o (yielded ops a.tmps) = false)
    (h : ∀ K : Act → World → Prop, (∀ a w, wpOrd P ops Q S loose r a w → K a w) → K (a.put o.dst undef) w) : wpOrd P ops Q S loose ((i, 1) :: r) a w :=
  ⟨o, ho, undef, .inr ⟨hw, rfl⟩, h _ fun _ _ hh => hh⟩
theorem wpOrd_comes {i : Nat} {r : List (Nat × Nat)} {o : Oper} {a : Act} {w : World} (ho : ops[i]? = some o)
    (h : ∀ N : Act → World → Prop, (∀ a w, (loose.contains i = false → S w) → wpOrd P ops Q S loose r a w → N a w) → wpList P ops (Qn Q N) [o] a w) : wpOrd P ops Q S loose ((i, 2) :: r) a w :=
  ⟨o, ho, h _ fun _ _ h1 h2 => ⟨h1, h2⟩⟩
theorem wpOrd_done {a : Act} {w : World} (h : Q .normal a w) : wpOrd P ops Q S loose [] a w := h
theorem wpList_then {N : Act → World → Prop} {a : Act} {w : World} (h : N a w) : wpList P ops (Qn Q N) [] a w := h
end
end Go.Cu
