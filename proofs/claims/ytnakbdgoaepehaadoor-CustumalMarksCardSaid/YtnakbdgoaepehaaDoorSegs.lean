/- A region that draws its order, as orders and blocks one behind the other; what may come is checked by the bits of a number. -/
import Derived.Test.YtnakbdgoaepehaaDoorBulk
namespace Go.Cu
open Go Go.RowKit
section
variable {P : Program} {ops : Array Oper} {Q : Exit → Act → World → Prop} {S : World → Prop}
/-- The bits are what is listed. -/
structure MR (n m : Nat) (listed : Array Bool) : Prop where
  size : listed.size = n
  bit : ∀ k, listed.getD k false = m.testBit k
theorem MR.set {n m i : Nat} {listed : Array Bool} (h : MR n m listed) (hi : i < n) : MR n (m ||| 2 ^ i) (listed.setIfInBounds i true) := by
  refine ⟨by simp [h.size], fun k => ?_⟩
  rw [Nat.testBit_or, Nat.testBit_two_pow]
  by_cases hk : i = k
  · subst hk
    simp [Array.getD_eq_getD_getElem?, h.size, hi]
  · rw [getD_set_ne false hk, h.bit]
    simp [hk]
theorem MR.getT {n m k : Nat} {listed : Array Bool} (h : MR n m listed) (hk : k < n) : listed.getD k true = m.testBit k := by
  rw [← h.bit]
  simp [Array.getD_eq_getD_getElem?, h.size, hk]
theorem MR.start {n : Nat} : MR n 0 (Array.replicate n false) := ⟨by simp, fun k => by rw [getD_replicate_false, Nat.zero_testBit]⟩
def readyM (ops : Array Oper) (m i : Nat) : Bool := !m.testBit i && match ops[i]? with
  | none => false
  | some o => o.after.toList.all fun e => !Region.binds .any e || m.testBit e.on
theorem readyM_iff {m i : Nat} {listed : Array Bool} (h : MR ops.size m listed) : readyM ops m i = true ↔ i ∈ Region.ready .any ops listed := by
  rw [mem_ready]
  unfold readyM
  cases ho : ops[i]? with
  | none => simp
  | some o =>
    have hlt : i < ops.size := (Array.getElem?_eq_some_iff.1 ho).1
    rw [h.getT hlt]
    simp only [Bool.and_eq_true, Bool.not_eq_true', List.all_eq_true, Array.mem_toList_iff, Bool.or_eq_true, Option.some.injEq, exists_eq_left']
    constructor
    · rintro ⟨h0, h1⟩
      exact ⟨h0, fun e he hb => by rw [h.bit]; exact (h1 e he).resolve_left (by simp [hb])⟩
    · rintro ⟨h0, h1⟩
      refine ⟨h0, fun e he => ?_⟩
      cases hb : Region.binds .any e with
      | false => exact .inl rfl
      | true => exact .inr (by rw [← h.bit]; exact h1 e he hb)
theorem ready_lt {i : Nat} {listed : Array Bool} (h : i ∈ Region.ready .any ops listed) : i < ops.size := by
  obtain ⟨_, o, ho, _⟩ := mem_ready.1 h
  exact (Array.getElem?_eq_some_iff.1 ho).1
def aloneM (ops : Array Oper) (m i : Nat) : Bool := readyM ops m i && (List.range ops.size).all fun j => j == i || !readyM ops m j
def freeM (ops : Array Oper) (m i : Nat) : Bool :=
  match ops[i]? with
  | none => false
  | some oi => (List.range ops.size).all fun j => j == i || m.testBit j || match ops[j]? with
      | some oj => oj.after.toList.any (fun e => Region.binds .any e && e.on == i) || oi.apart ops oj
      | none => true
theorem freeM_free {m i : Nat} {listed : Array Bool} (h : MR ops.size m listed) (hf : freeM ops m i = true) : Region.free .any ops listed i = true := by
  unfold freeM at hf
  unfold Region.free
  cases ho : ops[i]? with
  | none => rw [ho] at hf; cases hf
  | some oi =>
    rw [ho] at hf
    simp only [List.all_eq_true, List.mem_range] at hf ⊢
    intro j hj
    have := hf j hj
    rw [h.getT hj]
    cases hoj : ops[j]? with
    | none => simp
    | some oj =>
      rw [hoj] at this
      simpa using this
def ordG (ops : Array Oper) (E : Nat → Bool) : List (Nat × Nat) → Nat → Bool
  | [], m => E m
  | (_, 0) :: _, _ => false
  | (i, 1) :: r, m => readyM ops m i && freeM ops m i && ordG ops E r (m ||| 2 ^ i)
  | (i, _ + 2) :: r, m => aloneM ops m i && ordG ops E r (m ||| 2 ^ i)
theorem wpAnyN_of_ordG (hsel : Region.noSelect ops = true) (hQ : ∀ (d : Option Tmp) (v : Value) c a w, Q (.panic c) (a.put d v) w → Q (.panic c) a w)
    {F : Act → World → Prop} {E : Nat → Bool} {n : Nat} (hE : ∀ m listed a w, OInv .any ops listed → MR ops.size m listed → E m = true → S w → F a w → wpAnyN P .any ops Q S [] n listed a w) :
    ∀ (l : List (Nat × Nat)) (m : Nat) (listed : Array Bool) (a : Act) (w : World), OInv .any ops listed → MR ops.size m listed → ordG ops E l m = true → S w → wpOrd P ops (Qn Q F) S [] l a w → wpAnyN P .any ops Q S [] (n + l.length) listed a w
  | [], m, listed, a, w, inv, hM, hB, hS, h => hE m listed a w inv hM hB hS h
  | (i, 0) :: r, m, listed, a, w, inv, hM, hB, hS, h => by cases hB
  | (i, 1) :: r, m, listed, a, w, inv, hM, hB, hS, h => by
    simp only [ordG, Bool.and_eq_true] at hB
    obtain ⟨⟨hr, hf⟩, hB'⟩ := hB
    obtain ⟨o, ho, v, hy, hK⟩ := h
    have hr' := (readyM_iff hM).1 hr
    exact wpAnyN_first (D := []) ho (Region.noSelect_spec hsel) (by rfl) (fun c a w => hQ _ _ c a w) _ listed a w inv (fun j _ _ _ hlo => by cases hlo) (Region.free_spec ho (freeM_free hM hf)) hr' hy hS (wpAnyN_of_ordG hsel hQ hE r _ _ _ w (inv.set hr') (hM.set (ready_lt hr')) hB' hS hK)
  | (i, k + 2) :: r, m, listed, a, w, inv, hM, hB, hS, h => by
    simp only [ordG, aloneM, Bool.and_eq_true, List.all_eq_true, List.mem_range, Bool.or_eq_true, beq_iff_eq, Bool.not_eq_true'] at hB
    obtain ⟨⟨hr, hal⟩, hB'⟩ := hB
    obtain ⟨o, ho, h⟩ := h
    rw [Qn_Qn] at h
    have hr' := (readyM_iff hM).1 hr
    refine ⟨fun h1 => (by rw [h1] at hr'; cases hr'), fun j hj => ?_⟩
    have hji : j = i := by
      rcases hal j (ready_lt hj) with h1 | h1
      · exact h1
      · rw [(readyM_iff hM).2 hj] at h1; cases h1
    subst hji
    refine wpOp_mono (fun a' w' h' => ⟨h'.1, wpAnyN_of_ordG hsel hQ hE r _ _ a' w' (inv.set hj) (hM.set (ready_lt hj)) hB' (h'.1 (by simp)) h'.2⟩) (wpOp_of_one ho h)
/-- So many steps inside the block B: all of it came. -/
def blockM (ops : Array Oper) (B : List (Nat × List Nat)) (e : Nat) : Nat → Nat → Bool
  | 0, m => Nat.beq m e && B.all fun p => m.testBit p.1
  | k + 1, m => (B.any fun p => readyM ops m p.1) && (List.range ops.size).all fun i => !readyM ops m i || match B.find? (fun p => p.1 == i) with
      | some p => (p.2.all fun d => m.testBit d) && blockM ops B e k (m ||| 2 ^ i)
      | none => false
def bulkM (ops : Array Oper) (B : List (Nat × List Nat)) (E : Nat → Bool) (m : Nat) : Bool :=
  (B.all fun p => !m.testBit p.1) && blockM ops B (B.foldl (fun e p => e ||| 2 ^ p.1) m) B.length m && E (B.foldl (fun e p => e ||| 2 ^ p.1) m)
theorem wpAnyN_bulkM {B : List (Nat × List Nat)} {F : Act → World → Prop} {E : Nat → Bool} {n : Nat}
    (hF : ∀ m listed a w, OInv .any ops listed → MR ops.size m listed → E m = true → S w → F a w → wpAnyN P .any ops Q S [] n listed a w)
    (m : Nat) (listed : Array Bool) (a : Act) (w : World) (inv : OInv .any ops listed) (hM : MR ops.size m listed) (hB : bulkM ops B E m = true) (hS : S w) (h : BulkF P ops Q S [] B F a w) : wpAnyN P .any ops Q S [] (n + B.length) listed a w := by
  obtain ⟨J, h0, hop, hend⟩ := h
  unfold bulkM at hB
  generalize B.foldl (fun e p => e ||| 2 ^ p.1) m = e at hB
  simp only [Bool.and_eq_true, List.all_eq_true, Bool.not_eq_true'] at hB
  obtain ⟨⟨hB0, hblk⟩, hBE⟩ := hB
  have hJ0 := h0 (fun k => m.testBit k) hB0
  have key : ∀ (k : Nat) (m : Nat) (listed : Array Bool) (a : Act) (w : World), OInv .any ops listed → MR ops.size m listed → blockM ops B e k m = true → S w → J (fun k => m.testBit k) a w → wpAnyN P .any ops Q S [] (n + k) listed a w := by
    intro k
    induction k with
    | zero =>
      intro m listed a w inv hM hb hS hJ
      simp only [blockM, Bool.and_eq_true, List.all_eq_true] at hb
      obtain rfl := Nat.eq_of_beq_eq_true hb.1
      exact hF m listed a w inv hM hBE hS (hend _ a w hb.2 hJ)
    | succ k ih =>
      intro m listed a w inv hM hb hS hJ
      simp only [blockM, Bool.and_eq_true, List.all_eq_true, List.any_eq_true, List.mem_range, Bool.or_eq_true, Bool.not_eq_true'] at hb
      obtain ⟨⟨p0, hp0, hr0⟩, hall⟩ := hb
      refine ⟨fun h1 => (by have := (readyM_iff hM).1 hr0; rw [h1] at this; cases this), fun i hi => ?_⟩
      have hlt := ready_lt hi
      rcases hall i hlt with h1 | h1
      · rw [(readyM_iff hM).2 hi] at h1; cases h1
      · split at h1
        · rename_i p hp
          have hpi : p.1 = i := by simpa using List.find?_some hp
          have hpm : p ∈ B := List.mem_of_find?_eq_some hp
          simp only [Bool.and_eq_true, List.all_eq_true] at h1
          have hnd : m.testBit i = false := by
            have := (readyM_iff hM).2 hi
            unfold readyM at this
            simp only [Bool.and_eq_true, Bool.not_eq_true'] at this
            exact this.1
          subst hpi
          obtain ⟨o, ho, hw⟩ := hop p hpm (fun k => m.testBit k) a w hnd h1.1 hJ
          refine wpOp_mono (fun a' w' h' => ⟨h'.1, ih _ _ a' w' (inv.set hi) (hM.set hlt) h1.2 (h'.1 (by simp)) ?_⟩) (wpOp_of_one ho hw)
          have e : (fun k => (m ||| 2 ^ p.1).testBit k) = fun k => k == p.1 || m.testBit k := by
            funext k
            rw [Nat.testBit_or, Nat.testBit_two_pow, Bool.or_comm]
            congr 1
            by_cases hk : p.1 = k
            · simp [hk]
            · have : ¬ k = p.1 := fun e => hk e.symm
              simp [hk, this]
          rw [e]
          exact h'.2
        · cases h1
  exact key B.length m listed a w inv hM hblk hS hJ0
/-- A part of a region: an order, or a block. -/
inductive Seg where
  | ord (l : List (Nat × Nat))
  | blk (B : List (Nat × List Nat))
def Seg.len : Seg → Nat
  | .ord l => l.length
  | .blk B => B.length
def segLen : List Seg → Nat
  | [] => 0
  | s :: r => segLen r + s.len
def segCheck (ops : Array Oper) : List Seg → Nat → Bool
  | [], m => (List.range ops.size).all fun i => !readyM ops m i
  | .ord l :: r, m => ordG ops (segCheck ops r) l m
  | .blk B :: r, m => bulkM ops B (segCheck ops r) m
def wpSegs (P : Program) (ops : Array Oper) (Q : Exit → Act → World → Prop) (S : World → Prop) : List Seg → Act → World → Prop
  | [], a, w => Q .normal a w
  | .ord l :: r, a, w => wpOrd P ops (Qn Q (wpSegs P ops Q S r)) S [] l a w
  | .blk B :: r, a, w => BulkF P ops Q S [] B (wpSegs P ops Q S r) a w
theorem wpSegs_nil {a : Act} {w : World} (h : Q .normal a w) : wpSegs P ops Q S [] a w := h
theorem wpSegs_ord {l : List (Nat × Nat)} {r : List Seg} {a : Act} {w : World} (h : ∀ F : Act → World → Prop, (∀ a w, wpSegs P ops Q S r a w → F a w) → wpOrd P ops (Qn Q F) S [] l a w) : wpSegs P ops Q S (.ord l :: r) a w := h _ fun _ _ h => h
theorem wpSegs_blk {B : List (Nat × List Nat)} {r : List Seg} {a : Act} {w : World} (h : ∀ F : Act → World → Prop, (∀ a w, wpSegs P ops Q S r a w → F a w) → BulkF P ops Q S [] B F a w) : wpSegs P ops Q S (.blk B :: r) a w := h _ fun _ _ h => h
theorem wpAnyN_segs (hsel : Region.noSelect ops = true) (hQ : ∀ (d : Option Tmp) (v : Value) c a w, Q (.panic c) (a.put d v) w → Q (.panic c) a w) :
    ∀ (r : List Seg) (m : Nat) (listed : Array Bool) (a : Act) (w : World), OInv .any ops listed → MR ops.size m listed → segCheck ops r m = true → S w → wpSegs P ops Q S r a w → wpAnyN P .any ops Q S [] (segLen r) listed a w
  | [], m, listed, a, w, _, hM, hB, _, h => by
    simp only [segCheck, List.all_eq_true, List.mem_range, Bool.not_eq_true'] at hB
    refine ⟨?_, h⟩
    rw [List.eq_nil_iff_forall_not_mem]
    intro i hi
    have := hB i (ready_lt hi)
    rw [(readyM_iff hM).2 hi] at this
    cases this
  | .ord l :: r, m, listed, a, w, inv, hM, hB, hS, h => wpAnyN_of_ordG hsel hQ (fun m listed a w h1 h2 h3 h4 h5 => wpAnyN_segs hsel hQ r m listed a w h1 h2 h3 h4 h5) l m listed a w inv hM hB hS h
  | .blk B :: r, m, listed, a, w, inv, hM, hB, hS, h => wpAnyN_bulkM (fun m listed a w h1 h2 h3 h4 h5 => wpAnyN_segs hsel hQ r m listed a w h1 h2 h3 h4 h5) m listed a w inv hM hB hS h
/-- A region as orders and blocks. -/
theorem wp_region_segs {id : Nat} {a : Act} {w : World} {l : List Oper} (segs : List Seg) (S : World → Prop) (hm : P.follows .mixedOrders = true)
    (hB : (Region.noSelect l.toArray && Nat.beq (segLen segs) l.length && segCheck l.toArray segs 0) = true)
    (hQ : ∀ (d : Option Tmp) (v : Value) c a w, Q (.panic c) (a.put d v) w → Q (.panic c) a w) (hS : S w.drew)
    (h : ∀ X, X = w.drew → S X → wpSegs P l.toArray Q S segs a X) : (Code.region id l.toArray true).wp P Q a w := by
  simp only [Bool.and_eq_true] at hB
  obtain ⟨⟨hsel, hlen⟩, hb⟩ := hB
  refine wp_region_any hm ?_
  have hlen' := Nat.eq_of_beq_eq_true hlen
  have := wpAnyN_segs (S := S) hsel hQ segs 0 _ a w.drew OInv.start MR.start hb hS (h _ rfl hS)
  rw [hlen', show l.length = l.toArray.size by simp] at this
  exact wpAny_of_N _ _ _ _ this
end
end Go.Cu
