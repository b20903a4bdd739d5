/- Part 4 of the texts below this law, put together: what each holds is said at its head. -/
import Derived.Test.YtnakbdgoaepehaaDoorPb3
/- A region that draws its order, as orders and blocks one behind the other; what may come is checked by the bits of a number. -/
namespace Go.Cu
open Go Go.RowKit
section
variable {P : Program} {ops : Array Oper} {Q : Exit → Act → World → Prop} {S : World → Prop}
/-- The bits are what is listed. -/
structure MR (n m : Nat) (listed : Array Bool) : Prop where
  size : listed.size = n
  bit : ∀ k, listed.getD k false = m.testBit k
theorem MR.set {n m i : Nat} {listed : Array Bool} (h : MR n m listed) (hi : i < n) : MR n (m ||| 2 ^ i) (listed.setIfInBounds i true) := by
  refine ⟨by simp [h.size], fun k => ?_⟩
  rw [Nat.testBit_or, Nat.testBit_two_pow]
  by_cases hk : i = k
  · subst hk
    simp [Array.getD_eq_getD_getElem?, h.size, hi]
  · rw [getD_set_ne false hk, h.bit]
    simp [hk]
theorem MR.getT {n m k : Nat} {listed : Array Bool} (h : MR n m listed) (hk : k < n) : listed.getD k true = m.testBit k := by
  rw [← h.bit]
  simp [Array.getD_eq_getD_getElem?, h.size, hk]
theorem MR.start {n : Nat} : MR n 0 (Array.replicate n false) := ⟨by simp, fun k => by rw [getD_replicate_false, Nat.zero_testBit]⟩
def readyM (ops : Array Oper) (m i : Nat) : Bool := !m.testBit i && match ops[i]? with
  | none => false
  | some o => o.after.toList.all fun e => !Region.binds .any e || m.testBit e.on
theorem readyM_iff {m i : Nat} {listed : Array Bool} (h : MR ops.size m listed) : readyM ops m i = true ↔ i ∈ Region.ready .any ops listed := by
  rw [mem_ready]
  unfold readyM
  cases ho : ops[i]? with
  | none => simp
  | some o =>
    have hlt : i < ops.size := (Array.getElem?_eq_some_iff.1 ho).1
    rw [h.getT hlt]
    simp only [Bool.and_eq_true, Bool.not_eq_true', List.all_eq_true, Array.mem_toList_iff, Bool.or_eq_true, Option.some.injEq, exists_eq_left']
    constructor
    · rintro ⟨h0, h1⟩
      exact ⟨h0, fun e he hb => by rw [h.bit]; exact (h1 e he).resolve_left (by simp [hb])⟩
    · rintro ⟨h0, h1⟩
      refine ⟨h0, fun e he => ?_⟩
      cases hb : Region.binds .any e with
      | false => exact .inl rfl
      | true => exact .inr (by rw [← h.bit]; exact h1 e he hb)
theorem ready_lt {i : Nat} {listed : Array Bool} (h : i ∈ Region.ready .any ops listed) : i < ops.size := by
  obtain ⟨_, o, ho, _⟩ := mem_ready.1 h
  exact (Array.getElem?_eq_some_iff.1 ho).1
def aloneM (ops : Array Oper) (m i : Nat) : Bool := readyM ops m i && (List.range ops.size).all fun j => j == i || !readyM ops m j
def freeM (ops : Array Oper) (m i : Nat) : Bool :=
  match ops[i]? with
  | none => false
  | some oi => (List.range ops.size).all fun j => j == i || m.testBit j || match ops[j]? with
      | some oj => oj.after.toList.any (fun e => Region.binds .any e && e.on == i) || oi.apart ops oj
      | none => true
theorem freeM_free {m i : Nat} {listed : Array Bool} (h : MR ops.size m listed) (hf : freeM ops m i = true) : Region.free .any ops listed i = true := by
  unfold freeM at hf
  unfold Region.free
  cases ho : ops[i]? with
  | none => rw [ho] at hf; cases hf
  | some oi =>
    rw [ho] at hf
    simp only [List.all_eq_true, List.mem_range] at hf ⊢
    intro j hj
    have := hf j hj
    rw [h.getT hj]
    cases hoj : ops[j]? with
    | none => simp
    | some oj =>
      rw [hoj] at this
      simpa using this
def ordG (ops : Array Oper) (E : Nat → Bool) : List (Nat × Nat) → Nat → Bool
  | [], m => E m
  | (_, 0) :: _, _ => false
  | (i, 1) :: r, m => readyM ops m i && freeM ops m i && ordG ops E r (m ||| 2 ^ i)
  | (i, _ + 2) :: r, m => aloneM ops m i && ordG ops E r (m ||| 2 ^ i)
theorem wpAnyN_of_ordG (hsel : Region.noSelect ops = true) (hQ : ∀ (d : Option Tmp) (v : Value) c a w, Q (.panic c) (a.put d v) w → Q (.panic c) a w)
    {F : Act → World → Prop} {E : Nat → Bool} {n : Nat} (hE : ∀ m listed a w, OInv .any ops listed → MR ops.size m listed → E m = true → S w → F a w → wpAnyN P .any ops Q S [] n listed a w) :
    ∀ (l : List (Nat × Nat)) (m : Nat) (listed : Array Bool) (a : Act) (w : World), OInv .any ops listed → MR ops.size m listed → ordG ops E l m = true → S w → wpOrd P ops (Qn Q F) S [] l a w → wpAnyN P .any ops Q S [] (n + l.length) listed a w
  | [], m, listed, a, w, inv, hM, hB, hS, h => hE m listed a w inv hM hB hS h
  | (i, 0) :: r, m, listed, a, w, inv, hM, hB, hS, h => by cases hB
  | (i, 1) :: r, m, listed, a, w, inv, hM, hB, hS, h => by
    simp only [ordG, Bool.and_eq_true] at hB
    obtain ⟨⟨hr, hf⟩, hB'⟩ := hB
    obtain ⟨o, ho, v, hy, hK⟩ := h
    have hr' := (readyM_iff hM).1 hr
    exact wpAnyN_first (D := []) ho (Region.noSelect_spec hsel) (by rfl) (fun c a w => hQ _ _ c a w) _ listed a w inv (fun j _ _ _ hlo => by cases hlo) (Region.free_spec ho (freeM_free hM hf)) hr' hy hS (wpAnyN_of_ordG hsel hQ hE r _ _ _ w (inv.set hr') (hM.set (ready_lt hr')) hB' hS hK)
  | (i, k + 2) :: r, m, listed, a, w, inv, hM, hB, hS, h => by
    simp only [ordG, aloneM, Bool.and_eq_true, List.all_eq_true, List.mem_range, Bool.or_eq_true, beq_iff_eq, Bool.not_eq_true'] at hB
    obtain ⟨⟨hr, hal⟩, hB'⟩ := hB
    obtain ⟨o, ho, h⟩ := h
    rw [Qn_Qn] at h
    have hr' := (readyM_iff hM).1 hr
    refine ⟨fun h1 => (by rw [h1] at hr'; cases hr'), fun j hj => ?_⟩
    have hji : j = i := by
      rcases hal j (ready_lt hj) with h1 | h1
      · exact h1
      · rw [(readyM_iff hM).2 hj] at h1; cases h1
    subst hji
    refine wpOp_mono (fun a' w' h' => ⟨h'.1, wpAnyN_of_ordG hsel hQ hE r _ _ a' w' (inv.set hj) (hM.set (ready_lt hj)) hB' (h'.1 (by simp)) h'.2⟩) (wpOp_of_one ho h)
/-- So many steps inside the block B: all of it came. -/
def blockM (ops : Array Oper) (B : List (Nat × List Nat)) (e : Nat) : Nat → Nat → Bool
  | 0, m => Nat.beq m e && B.all fun p => m.testBit p.1
  | k + 1, m => (B.any fun p => readyM ops m p.1) && (List.range ops.size).all fun i => !readyM ops m i || match B.find? (fun p => p.1 == i) with
      | some p => (p.2.all fun d => m.testBit d) && blockM ops B e k (m ||| 2 ^ i)
      | none => false
def bulkM (ops : Array Oper) (B : List (Nat × List Nat)) (E : Nat → Bool) (m : Nat) : Bool :=
  (B.all fun p => !m.testBit p.1) && blockM ops B (B.foldl (fun e p => e ||| 2 ^ p.1) m) B.length m && E (B.foldl (fun e p => e ||| 2 ^ p.1) m)
theorem wpAnyN_bulkM {B : List (Nat × List Nat)} {F : Act → World → Prop} {E : Nat → Bool} {n : Nat}
    (hF : ∀ m listed a w, OInv .any ops listed → MR ops.size m listed → E m = true → S w → F a w → wpAnyN P .any ops Q S [] n listed a w)
    (m : Nat) (listed : Array Bool) (a : Act) (w : World) (inv : OInv .any ops listed) (hM : MR ops.size m listed) (hB : bulkM ops B E m = true) (hS : S w) (h : BulkF P ops Q S [] B F a w) : wpAnyN P .any ops Q S [] (n + B.length) listed a w := by
  obtain ⟨J, h0, hop, hend⟩ := h
  unfold bulkM at hB
  generalize B.foldl (fun e p => e ||| 2 ^ p.1) m = e at hB
  simp only [Bool.and_eq_true, List.all_eq_true, Bool.not_eq_true'] at hB
  obtain ⟨⟨hB0, hblk⟩, hBE⟩ := hB
  have hJ0 := h0 (fun k => m.testBit k) hB0
  have key : ∀ (k : Nat) (m : Nat) (listed : Array Bool) (a : Act) (w : World), OInv .any ops listed → MR ops.size m listed → blockM ops B e k m = true → S w → J (fun k => m.testBit k) a w → wpAnyN P .any ops Q S [] (n + k) listed a w := by
    intro k
    induction k with
    | zero =>
      intro m listed a w inv hM hb hS hJ
      simp only [blockM, Bool.and_eq_true, List.all_eq_true] at hb
      obtain rfl := Nat.eq_of_beq_eq_true hb.1
      exact hF m listed a w inv hM hBE hS (hend _ a w hb.2 hJ)
    | succ k ih =>
      intro m listed a w inv hM hb hS hJ
      simp only [blockM, Bool.and_eq_true, List.all_eq_true, List.any_eq_true, List.mem_range, Bool.or_eq_true, Bool.not_eq_true'] at hb
      obtain ⟨⟨p0, hp0, hr0⟩, hall⟩ := hb
      refine ⟨fun h1 => (by have := (readyM_iff hM).1 hr0; rw [h1] at this; cases this), fun i hi => ?_⟩
      have hlt := ready_lt hi
      rcases hall i hlt with h1 | h1
      · rw [(readyM_iff hM).2 hi] at h1; cases h1
      · split at h1
        · rename_i p hp
          have hpi : p.1 = i := by simpa using List.find?_some hp
          have hpm : p ∈ B := List.mem_of_find?_eq_some hp
          simp only [Bool.and_eq_true, List.all_eq_true] at h1
          have hnd : m.testBit i = false := by
            have := (readyM_iff hM).2 hi
            unfold readyM at this
            simp only [Bool.and_eq_true, Bool.not_eq_true'] at this
            exact this.1
          subst hpi
          obtain ⟨o, ho, hw⟩ := hop p hpm (fun k => m.testBit k) a w hnd h1.1 hJ
          refine wpOp_mono (fun a' w' h' => ⟨h'.1, ih _ _ a' w' (inv.set hi) (hM.set hlt) h1.2 (h'.1 (by simp)) ?_⟩) (wpOp_of_one ho hw)
          have e : (fun k => (m ||| 2 ^ p.1).testBit k) = fun k => k == p.1 || m.testBit k := by
            funext k
            rw [Nat.testBit_or, Nat.testBit_two_pow, Bool.or_comm]
            congr 1
            by_cases hk : p.1 = k
            · simp [hk]
            · have : ¬ k = p.1 := fun e => hk e.symm
              simp [hk, this]
          rw [e]
          exact h'.2
        · cases h1
  exact key B.length m listed a w inv hM hblk hS hJ0
/-- A part of a region: an order, or a block. -/
inductive Seg where
  | ord (l : List (Nat × Nat))
  | blk (B : List (Nat × List Nat))
def Seg.len : Seg → Nat
  | .ord l => l.length
  | .blk B => B.length
def segLen : List Seg → Nat
  | [] => 0
  | s :: r => segLen r + s.len
def segCheck (ops : Array Oper) : List Seg → Nat → Bool
  | [], m => (List.range ops.size).all fun i => !readyM ops m i
  | .ord l :: r, m => ordG ops (segCheck ops r) l m
  | .blk B :: r, m => bulkM ops B (segCheck ops r) m
def wpSegs (P : Program) (ops : Array Oper) (Q : Exit → Act → World → Prop) (S : World → Prop) : List Seg → Act → World → Prop
  | [], a, w => Q .normal a w
  | .ord l :: r, a, w => wpOrd P ops (Qn Q (wpSegs P ops Q S r)) S [] l a w
  | .blk B :: r, a, w => BulkF P ops Q S [] B (wpSegs P ops Q S r) a w
theorem wpSegs_nil {a : Act} {w : World} (h : Q .normal a w) : wpSegs P ops Q S [] a w := h
theorem wpSegs_ord {l : List (Nat × Nat)} {r : List Seg} {a : Act} {w : World} (h : ∀ F : Act → World → Prop, (∀ a w, wpSegs P ops Q S r a w → F a w) → wpOrd P ops (Qn Q F) S [] l a w) : wpSegs P ops Q S (.ord l :: r) a w := h _ fun _ _ h => h
theorem wpSegs_blk {B : List (Nat × List Nat)} {r : List Seg} {a : Act} {w : World} (h : ∀ F : Act → World → Prop, (∀ a w, wpSegs P ops Q S r a w → F a w) → BulkF P ops Q S [] B F a w) : wpSegs P ops Q S (.blk B :: r) a w := h _ fun _ _ h => h
theorem wpAnyN_segs (hsel : Region.noSelect ops = true) (hQ : ∀ (d : Option Tmp) (v : Value) c a w, Q (.panic c) (a.put d v) w → Q (.panic c) a w) :
    ∀ (r : List Seg) (m : Nat) (listed : Array Bool) (a : Act) (w : World), OInv .any ops listed → MR ops.size m listed → segCheck ops r m = true → S w → wpSegs P ops Q S r a w → wpAnyN P .any ops Q S [] (segLen r) listed a w
  | [], m, listed, a, w, _, hM, hB, _, h => by
    simp only [segCheck, List.all_eq_true, List.mem_range, Bool.not_eq_true'] at hB
    refine ⟨?_, h⟩
    rw [List.eq_nil_iff_forall_not_mem]
    intro i hi
    have := hB i (ready_lt hi)
    rw [(readyM_iff hM).2 hi] at this
    cases this
  | .ord l :: r, m, listed, a, w, inv, hM, hB, hS, h => wpAnyN_of_ordG hsel hQ (fun m listed a w h1 h2 h3 h4 h5 => wpAnyN_segs hsel hQ r m listed a w h1 h2 h3 h4 h5) l m listed a w inv hM hB hS h
  | .blk B :: r, m, listed, a, w, inv, hM, hB, hS, h => wpAnyN_bulkM (fun m listed a w h1 h2 h3 h4 h5 => wpAnyN_segs hsel hQ r m listed a w h1 h2 h3 h4 h5) m listed a w inv hM hB hS h
/-- A region as orders and blocks. -/
theorem wp_region_segs {id : Nat} {a : Act} {w : World} {l : List Oper} (segs : List Seg) (S : World → Prop) (hm : P.follows .mixedOrders = true)
    (hB : (Region.noSelect l.toArray && Nat.beq (segLen segs) l.length && segCheck l.toArray segs 0) = true)
    (hQ : ∀ (d : Option Tmp) (v : Value) c a w, Q (.panic c) (a.put d v) w → Q (.panic c) a w) (hS : S w.drew)
    (h : ∀ X, X = w.drew → S X → wpSegs P l.toArray Q S segs a X) : (Code.region id l.toArray true).wp P Q a w := by
  simp only [Bool.and_eq_true] at hB
  obtain ⟨⟨hsel, hlen⟩, hb⟩ := hB
  refine wp_region_any hm ?_
  have hlen' := Nat.eq_of_beq_eq_true hlen
  have := wpAnyN_segs (S := S) hsel hQ segs 0 _ a w.drew OInv.start MR.start hb hS (h _ rfl hS)
  rw [hlen', show l.length = l.toArray.size by simp] at this
  exact wpAny_of_N _ _ _ _ this
end
end Go.Cu
/- A tree in memory. -/
namespace Go.Cu
open Go Go.RowKit
def zeroK : List UInt8 := List.replicate 32 0
theorem zeroK_len : zeroK.length = 32 := List.length_replicate
/-- A leaf's cells. -/
def leafC (k v : List UInt8) : Array Value := bv k ++ bv v
theorem leafC_size {k v : List UInt8} (hk : k.length = 32) (hv : v.length = 32) : (leafC k v).size = 64 := by unfold leafC; rw [Array.size_append, bv_size, bv_size, hk, hv]
theorem leafC_key {k v : List UInt8} (j : Nat) (hj : j < (bv k).size) : (leafC k v)[0 + j]? = (bv k)[j]? := by
  unfold leafC
  rw [Nat.zero_add, Array.getElem?_append_left hj]
theorem leafC_val {k v : List UInt8} (hk : k.length = 32) (j : Nat) (_hj : j < (bv v).size) : (leafC k v)[32 + j]? = (bv v)[j]? := by
  unfold leafC
  rw [Array.getElem?_append_right (by rw [bv_size]; omega), bv_size, hk, Nat.add_sub_cancel_left]
theorem mid_get (X Y Z : Array Value) {o j : Nat} (hj : j < Y.size) (ho : o = X.size + j) : (X ++ (Y ++ Z))[o]? = Y[j]? := by
  subst ho
  rw [Array.getElem?_append_right (by omega), Nat.add_sub_cancel_left, Array.getElem?_append_left hj]
theorem putAt_mid (X Y Y' Z : Array Value) (h : Y.size = Y'.size) {o : Nat} (ho : o = X.size) : putAt (X ++ (Y ++ Z)) o Y'.toList = X ++ (Y' ++ Z) := by
  subst ho
  unfold putAt
  apply Array.ext'
  have e1 : X.size = X.toList.length := by simp
  have e2 : X.toList.length + Y'.toList.length = (X.toList ++ Y.toList).length := by simp [h]
  simp only [Array.toList_append]
  rw [e1, List.take_append_of_le_length (Nat.le_refl _), List.take_length, e2, ← List.append_assoc, List.drop_append_of_le_length (Nat.le_refl _), List.drop_length, List.nil_append, List.append_assoc]
/-- A node's cells. -/
def treeC (lf : Array Value) (a b : Value) (s : Bool) (sm : List UInt8) (n : Int) : Array Value := lf ++ (#[a, b] ++ (#[.bool s] ++ (bv sm ++ #[.int .i64 n])))
section
variable {lf : Array Value} {a b : Value} {s : Bool} {sm : List UInt8} {n : Int} (hl : lf.size = 64) (hs : sm.length = 32)
include hl hs in
theorem treeC_size : (treeC lf a b s sm n).size = 100 := by
  unfold treeC
  simp only [Array.size_append, bv_size, hl, hs, List.size_toArray, List.length_cons, List.length_nil]
theorem treeC_leaf (j : Nat) (hj : j < lf.size) : (treeC lf a b s sm n)[0 + j]? = lf[j]? := by
  unfold treeC
  rw [Nat.zero_add, Array.getElem?_append_left hj]
include hl in
theorem treeC_two (j : Nat) (hj : j < (#[a, b] : Array Value).size) : (treeC lf a b s sm n)[64 + j]? = (#[a, b] : Array Value)[j]? := by
  exact mid_get lf #[a, b] _ hj (by rw [hl])
include hl in
theorem treeC_split : (treeC lf a b s sm n)[66]? = some (.bool s) := by
  have h := mid_get (lf ++ #[a, b]) #[.bool s] (bv sm ++ #[.int .i64 n]) (o := 66) (j := 0) (by simp) (by rw [Array.size_append, hl]; rfl)
  rw [Array.append_assoc] at h
  exact h.trans rfl
include hl in
theorem treeC_sum (j : Nat) (hj : j < (bv sm).size) : (treeC lf a b s sm n)[67 + j]? = (bv sm)[j]? := by
  have h := mid_get (lf ++ (#[a, b] ++ #[.bool s])) (bv sm) #[.int .i64 n] (o := 67 + j) hj (by rw [Array.size_append, hl]; rfl)
  simp only [Array.append_assoc] at h
  exact h
include hl hs in
theorem treeC_n : (treeC lf a b s sm n)[99]? = some (.int .i64 n) := by
  have h := mid_get (lf ++ (#[a, b] ++ (#[.bool s] ++ bv sm))) #[.int .i64 n] #[] (o := 99) (j := 0) (by simp) (by simp [Array.size_append, hl, bv_size, hs])
  simp only [Array.append_assoc, Array.append_empty] at h
  exact h.trans rfl
theorem treeC_put0 {lf' : Array Value} (h : lf.size = lf'.size) : putAt (treeC lf a b s sm n) 0 lf'.toList = treeC lf' a b s sm n := by
  have h1 := putAt_mid #[] lf lf' (#[a, b] ++ (#[.bool s] ++ (bv sm ++ #[.int .i64 n]))) h (o := 0) rfl
  rw [Array.empty_append, Array.empty_append] at h1
  exact h1
include hl in
theorem treeC_put1 {a' b' : Value} : putAt (treeC lf a b s sm n) 64 (#[a', b'] : Array Value).toList = treeC lf a' b' s sm n := putAt_mid lf #[a, b] #[a', b'] _ rfl hl.symm
include hl in
theorem treeC_put2 {s' : Bool} : putAt (treeC lf a b s sm n) 66 (#[.bool s'] : Array Value).toList = treeC lf a b s' sm n := by
  have h := putAt_mid (lf ++ #[a, b]) #[.bool s] #[.bool s'] (bv sm ++ #[.int .i64 n]) rfl (o := 66) (by rw [Array.size_append, hl]; rfl)
  rw [Array.append_assoc, Array.append_assoc] at h
  exact h
include hl hs in
theorem treeC_put3 {sm' : List UInt8} (hs' : sm'.length = 32) : putAt (treeC lf a b s sm n) 67 (bv sm').toList = treeC lf a b s sm' n := by
  have h := putAt_mid (lf ++ (#[a, b] ++ #[.bool s])) (bv sm) (bv sm') #[.int .i64 n] (by rw [bv_size, bv_size, hs, hs']) (o := 67) (by rw [Array.size_append, hl]; rfl)
  simp only [Array.append_assoc] at h
  exact h
include hl hs in
theorem treeC_put4 {n' : Int} : putAt (treeC lf a b s sm n) 99 (#[.int .i64 n'] : Array Value).toList = treeC lf a b s sm n' := by
  have h := putAt_mid (lf ++ (#[a, b] ++ (#[.bool s] ++ bv sm))) #[.int .i64 n] #[.int .i64 n'] #[] rfl (o := 99) (by simp [Array.size_append, hl, bv_size, hs])
  simp only [Array.append_assoc, Array.append_empty] at h
  exact h
end
section
variable {P : Program}
/-- A struct out of parts. -/
theorem run_buildS {t : TypeId} {fs : Array Field} {z : Value} {pl : Array (Nat × Nat)} {ps : Array (Nat × Value)} {c : Array Value} {w : World} (ht : P.underlying t = some (.struct fs)) (hz : ∀ W, (zeroValue t).run P W = .ok z W)
    (hm : ∀ W, (fs.mapM fun f => (do pure (f.offset, ← sizeOf f.type) : Sem _)).run P W = .ok pl W) (hf : Instr.fill (fun i => pl[i]?) z.cells ps.toList = some c) : (Instr.build t ps).run P w = .ok (.agg c) w := by
  unfold Instr.build
  simp only [Sem.run_bind, hz w, Result.andThen_ok, run_underlying ht, hm, hf, Sem.run_pure]
end
/-- A tree that lies in blocks of F. -/
def TreeIn (F : Nat → Prop) (W : World) : Value → Tr → Prop
  | v, .nil => v = .pointer none
  | v, .leaf k x => k.length = 32 ∧ x.length = 32 ∧ ∃ g n, v = .pointer (some ⟨g, 0, none⟩) ∧ F g ∧ W.heap[g]? = some (.cells (treeC (leafC k x) (.pointer none) (.pointer none) false (sumL (leafB k x)) n) 75 (0, 0))
  | v, .node d a b => ∃ g n va vb, v = .pointer (some ⟨g, 0, none⟩) ∧ F g ∧ W.heap[g]? = some (.cells (treeC (leafC zeroK zeroK) va vb true (sumL (nodeB d (a.sum sumL) (b.sum sumL))) n) 75 (0, 0)) ∧ TreeIn (fun h => F h ∧ h < g) W va a ∧ TreeIn (fun h => F h ∧ h < g) W vb b
section
variable {F G : Nat → Prop} {W W' : World}
theorem TreeIn.keep : ∀ {t : Tr} {F : Nat → Prop} {v : Value}, TreeIn F W v t → (∀ g, g < W.heap.size → F g → W'.heap[g]? = W.heap[g]?) → TreeIn F W' v t
  | .nil, _, _, h, _ => h
  | .leaf _ _, _, _, ⟨h1, h2, g, n, e, hf, hc⟩, hk => ⟨h1, h2, g, n, e, hf, (hk g (heap_lt hc) hf).trans hc⟩
  | .node _ _ _, _, _, ⟨g, n, va, vb, e, hf, hc, ha, hb⟩, hk => ⟨g, n, va, vb, e, hf, (hk g (heap_lt hc) hf).trans hc, ha.keep fun i hi h => hk i hi h.1, hb.keep fun i hi h => hk i hi h.1⟩
theorem TreeIn.mono : ∀ {t : Tr} {F G : Nat → Prop} {v : Value}, TreeIn F W v t → (∀ g, g < W.heap.size → F g → G g) → TreeIn G W v t
  | .nil, _, _, _, h, _ => h
  | .leaf _ _, _, _, _, ⟨h1, h2, g, n, e, hf, hc⟩, hk => ⟨h1, h2, g, n, e, hk g (heap_lt hc) hf, hc⟩
  | .node _ _ _, _, _, _, ⟨g, n, va, vb, e, hf, hc, ha, hb⟩, hk => ⟨g, n, va, vb, e, hk g (heap_lt hc) hf, hc, ha.mono fun i hi h => ⟨hk i hi h.1, h.2⟩, hb.mono fun i hi h => ⟨hk i hi h.1, h.2⟩⟩
theorem TreeIn.below {t : Tr} {v : Value} (h : TreeIn F W v t) (hb : Below W.heap.size W W') : TreeIn F W' v t := h.keep fun g hg _ => hb.block g hg
/-- Where a tree's pointer points. -/
theorem TreeIn.ptr {t : Tr} {v : Value} (h : TreeIn F W v t) : (t = .nil ∧ v = .pointer none) ∨ ∃ g, v = .pointer (some ⟨g, 0, none⟩) ∧ g < W.heap.size ∧ F g := by
  match t, h with
  | .nil, h => exact .inl ⟨rfl, h⟩
  | .leaf _ _, ⟨_, _, g, _, e, hf, hc⟩ => exact .inr ⟨g, e, heap_lt hc, hf⟩
  | .node _ _ _, ⟨g, _, _, _, e, hf, hc, _, _⟩ => exact .inr ⟨g, e, heap_lt hc, hf⟩
end
/-- A tree as a thing in memory. -/
def TreeA (v : Value) (t : Tr) : Atm := ⟨fun F W => TreeIn F W v t, fun h hk => h.keep hk, fun h hm => h.mono hm⟩
section
variable {W0 W W' : World} {L : List Atm} {v : Value} {t : Tr}
theorem St.tree (h : St W0 (TreeA v t :: L) W) : ∃ F, TreeIn F W v t := by
  obtain ⟨F, ha, _, _⟩ := h.first
  exact ⟨F, ha⟩
end
section
variable {P : Program}
/-- A new slice of three elements of one cell. -/
theorem run_buildSlice3 {t e : TypeId} {z : Value} {s : Nat} (ht : P.underlying t = some (.slice e)) (hz : ∀ W, (zeroValue e).run P W = .ok z W) (hi : (P.info? e).map (·.size) = some s) (h0 : 0 < s) (h24 : 3 * s ≤ 2 ^ 24)
    (a b c : Value) (ha : a.cells.size = s) (hb : b.cells.size = s) (hc : c.cells.size = s) (w : World) :
    (Instr.buildSlice t 3 #[(0, a), (1, b), (2, c)]).run P w = .ok (.slice (some ⟨w.heap.size, 0, none⟩) 3 3) (w.alloc (.cells (a.cells ++ b.cells ++ c.cells) e)) := by
  have hfill : ∀ x : Array Value, x.size = 3 * s → Instr.fill (fun i => some (i * s, s)) x [(0, a), (1, b), (2, c)] = some (a.cells ++ b.cells ++ c.cells) := by
    intro x hx
    rw [fill_one _ _ 0 0 s a _ (by simp) ha (by omega), fill_one _ _ 1 s s b _ (by simp) hb (by rw [putAt_size _ _ _ (by simp; omega)]; omega), fill_one _ _ 2 (2 * s) s c _ (by simp) hc (by rw [putAt_size _ _ _ (by rw [putAt_size _ _ _ (by simp; omega)]; simp; omega), putAt_size _ _ _ (by simp; omega)]; omega), Instr.fill]
    congr 1
    apply Array.ext'
    unfold putAt
    simp only [List.take_zero, List.nil_append, Nat.zero_add, Array.length_toList, Array.toList_append]
    have e1 : List.take s (a.cells.toList ++ List.drop a.cells.size x.toList) = a.cells.toList := by rw [List.take_append_of_le_length (by simp; omega), List.take_of_length_le (by simp; omega)]
    rw [e1, show 2 * s = (a.cells.toList ++ b.cells.toList).length by simp; omega, List.take_append_of_le_length (Nat.le_refl _), List.take_length, List.drop_of_length_le (by simp; omega), List.append_nil]
  unfold Instr.buildSlice
  have h1 : ¬ (3 * s > 2 ^ 24) := by omega
  have h2 : ¬ (3 * s = 0) := by omega
  simp only [Sem.run_bind, run_underlying ht, Result.andThen_ok, run_sizeOf hi]
  rw [if_neg h1, if_neg h2]
  simp only [Sem.run_bind, hz, Result.andThen_ok, Sem.run_pure]
  rw [hfill _ (by simp)]
  rfl
theorem wpList_buildSlice3 {t e : TypeId} {ops : Array Oper} {rest : List Oper} {o : Oper} {a : Act} {w : World} {Q : Exit → Act → World → Prop} (ps : Array (Nat × Operand)) (ho : o.op = .buildSlice t 3 ps) (x y u : Value) (hvs : (ps.map fun (i, y) => (i, a.eval y)) = #[(0, x), (1, y), (2, u)])
    (hw : Region.wanted o (yielded ops a.tmps) = true) {z : Value} {s : Nat} (ht : P.underlying t = some (.slice e)) (hz : ∀ W, (zeroValue e).run P W = .ok z W) (hi : (P.info? e).map (·.size) = some s) (h0 : 0 < s) (h24 : 3 * s ≤ 2 ^ 24) (hx : x.cells.size = s) (hy : y.cells.size = s) (hu : u.cells.size = s)
    (h : ∀ (g : Nat) (W : World), W.heap[g]? = some (.cells (x.cells ++ y.cells ++ u.cells) e (0, 0)) → g < W.heap.size → w.heap.size ≤ g → Below w.heap.size w W → wpList P ops Q rest (a.put o.dst (.slice (some ⟨g, 0, none⟩) 3 3)) W) : wpList P ops Q (o :: rest) a w := by
  refine wpList_wanted hw fun K hK => ?_
  have hrun : (execOp a.eval o).run P w = .ok (.value (.slice (some ⟨w.heap.size, 0, none⟩) 3 3)) (w.alloc (.cells (x.cells ++ y.cells ++ u.cells) e)) := by
    unfold execOp
    simp only [ho, hvs, Sem.run_bind, run_buildSlice3 ht hz hi h0 h24 x y u hx hy hu w, Result.andThen_ok, Sem.run_pure]
  unfold Oper.wp
  rw [hrun]
  exact hK _ _ (h w.heap.size _ (heap_alloc_at _ _ rfl) (by simp) (Nat.le_refl _) ((Below.refl _ _).alloc (Nat.le_refl _) _))
end
section
variable {W0 W : World} {L : List Atm}
theorem parts3 {gs : Nat} {t : TypeId} {v v' v'' : Value} {b b' b'' : List UInt8} (h : Part W0 L v b) (h' : Part W0 L v' b') (h'' : Part W0 L v'' b'') : PartsIn W0 (Blk gs (#[v] ++ #[v'] ++ #[v'']) t :: L) (some ⟨gs, 0, none⟩) [b, b', b''] := fun i r hi => by
  match i with
  | i + 3 => cases hi
  | 0 =>
    obtain rfl : b = r := by simpa using hi
    obtain ⟨B, cb, rfl, h2, h3, h4⟩ := h
    exact ⟨gs, 0, B, cb, rfl, h2, h3, fun Y hY => ⟨(cell_of_row Y gs 0 _ _ _ hY.blk).trans rfl, h4 Y hY.drop⟩⟩
  | 1 =>
    obtain rfl : b' = r := by simpa using hi
    obtain ⟨B, cb, rfl, h2, h3, h4⟩ := h'
    exact ⟨gs, 0, B, cb, rfl, h2, h3, fun Y hY => ⟨(cell_of_row Y gs 1 _ _ _ hY.blk).trans rfl, h4 Y hY.drop⟩⟩
  | 2 =>
    obtain rfl : b'' = r := by simpa using hi
    obtain ⟨B, cb, rfl, h2, h3, h4⟩ := h''
    exact ⟨gs, 0, B, cb, rfl, h2, h3, fun Y hY => ⟨(cell_of_row Y gs 2 _ _ _ hY.blk).trans rfl, h4 Y hY.drop⟩⟩
theorem part_at {g o n c : Nat} {cs : Array Value} {r : List UInt8} {t : TypeId} (hn : r.length = n) (hc : n ≤ c) (hm : c ≤ maxLen) (h : ∀ j, j < (bv r).size → cs[o + j]? = (bv r)[j]?) : Part W0 (Blk g cs t :: L) (.slice (some ⟨g, o, none⟩) n c) r := by
  subst hn
  refine ⟨_, _, rfl, hc, hm, fun X hX i b hi => ⟨g, o, rfl, heap_lt hX.blk, ?_⟩⟩
  have hlt : i < r.length := by
    rcases Nat.lt_or_ge i r.length with h1 | h1
    · exact h1
    · rw [List.getElem?_eq_none h1] at hi; cases hi
  rw [cell_of_row X g (o + i) _ _ _ hX.blk, h i (by rw [bv_size]; exact hlt), bv_eq, List.getElem?_toArray]
  unfold bvL
  rw [List.getElem?_map, hi]
  rfl
end
end Go.Cu
namespace Go.Proofs.YtnakbdgoaepehaaDoor
open Go.RowKit Go.Cu
abbrev treeZ : Value := .agg (treeC (leafC zeroK zeroK) (.pointer none) (.pointer none) false zeroK 0)
abbrev treeP : Array (Nat × Nat) := #[(0, 64), (64, 2), (66, 1), (67, 32), (99, 1)]
set_option maxRecDepth 20000 in
theorem zeroTree (W : World) : (zeroValue 75).run Tryd.prog W = .ok treeZ W := by kernel_rfl
theorem zeroLeaf (W : World) : (zeroValue 30).run Tryd.prog W = .ok (.agg (leafC zeroK zeroK)) W := by kernel_rfl
theorem sizeLeaf : (Tryd.prog.info? 30).map (·.size) = some 64 := by kernel_rfl
theorem sizeTwo : (Tryd.prog.info? 73).map (·.size) = some 2 := by kernel_rfl
theorem sizePt : (Tryd.prog.info? 26).map (·.size) = some 1 := by kernel_rfl
theorem zsize : (leafC zeroK zeroK).size = 64 := leafC_size zeroK_len zeroK_len
section
variable {lf : Array Value} {a b : Value} {sm : List UInt8} {n : Int} {w : World} (hs : sm.length = 32)
include hs in
theorem build_leaf (hl : lf.size = 64) : (Instr.build 75 #[(0, .agg lf), (3, .agg (bv sm)), (4, .int .i64 n)]).run Tryd.prog w = .ok (.agg (treeC lf (.pointer none) (.pointer none) false sm n)) w := by
  refine run_buildS (pl := treeP) Tryd.underlying75 zeroTree (fun W => by kernel_rfl) ?_
  have z1 : (leafC zeroK zeroK).size = lf.size := zsize.trans hl.symm
  show Instr.fill (fun i => treeP[i]?) (treeC _ _ _ _ _ _) [(0, .agg lf), (3, .agg (bv sm)), (4, .int .i64 n)] = _
  rw [fill_one _ _ 0 0 64 (.agg lf) _ rfl hl (by rw [treeC_size zsize zeroK_len]; decide)]
  simp only [Value.cells]
  rw [treeC_put0 z1, fill_one _ _ 3 67 32 (.agg (bv sm)) _ rfl (by simp only [Value.cells]; rw [bv_size, hs]) (by rw [treeC_size hl zeroK_len]; decide)]
  simp only [Value.cells]
  rw [treeC_put3 hl zeroK_len hs, fill_one _ _ 4 99 1 (.int .i64 n) _ rfl rfl (by rw [treeC_size hl hs]; decide)]
  rw [show (Value.int .i64 n).cells = #[.int .i64 n] from rfl, treeC_put4 hl hs]
  rfl
include hs in
theorem build_node : (Instr.build 75 #[(1, .agg #[a, b]), (2, .bool true), (3, .agg (bv sm)), (4, .int .i64 n)]).run Tryd.prog w = .ok (.agg (treeC (leafC zeroK zeroK) a b true sm n)) w := by
  refine run_buildS (pl := treeP) Tryd.underlying75 zeroTree (fun W => by kernel_rfl) ?_
  show Instr.fill (fun i => treeP[i]?) (treeC _ _ _ _ _ _) [(1, .agg #[a, b]), (2, .bool true), (3, .agg (bv sm)), (4, .int .i64 n)] = _
  rw [fill_one _ _ 1 64 2 (.agg #[a, b]) _ rfl rfl (by rw [treeC_size zsize zeroK_len]; decide)]
  simp only [Value.cells]
  rw [treeC_put1 zsize, fill_one _ _ 2 66 1 (.bool true) _ rfl rfl (by rw [treeC_size zsize zeroK_len]; decide)]
  rw [show (Value.bool true).cells = #[.bool true] from rfl, treeC_put2 zsize, fill_one _ _ 3 67 32 (.agg (bv sm)) _ rfl (by simp only [Value.cells]; rw [bv_size, hs]) (by rw [treeC_size zsize zeroK_len]; decide)]
  simp only [Value.cells]
  rw [treeC_put3 zsize zeroK_len hs, fill_one _ _ 4 99 1 (.int .i64 n) _ rfl rfl (by rw [treeC_size zsize hs]; decide)]
  rw [show (Value.int .i64 n).cells = #[.int .i64 n] from rfl, treeC_put4 zsize hs]
  rfl
end
end Go.Proofs.YtnakbdgoaepehaaDoor
/- Sums of trees' parts. -/
namespace Go.Proofs.YtnakbdgoaepehaaDoor
open Go.RowKit Go.Cu
theorem zero32_size : (bv (List.replicate 32 0)).size = 32 := by rw [bv_size, List.length_replicate]
section
variable {w : World}
set_option maxRecDepth 20000 in
set_option maxHeartbeats 4000000 in
theorem empty_now (hG : Glob w) : Calls Tryd.prog 30 #[] w fun x w' => x = .returned (.agg (bv (sumL [2]))) ∧ Below w.heap.size w w' := by
  have HSH := hid (fun X gx gn go (hX : St w [Blk gx #[.slice (some ⟨gn, 0, none⟩) 1 1] 42, Blk gn (bv [2]) 5, Blk go (bv (List.replicate 32 0)) 23] X) => show Calls Tryd.prog 16 #[.slice (some ⟨gx, 0, none⟩) 1 1] X fun x w' => x = .returned (.agg (bv (sumL [2]))) ∧ St w [Blk gx #[.slice (some ⟨gn, 0, none⟩) 1 1] 42, Blk gn (bv [2]) 5, Blk go (bv (List.replicate 32 0)) 23] w' from by
    have h1 := sha_st hX hG (c := 1) (parts1 (part_blk (r := [2]) rfl (by decide))) (by decide) (by decide)
    rw [show ([[2]] : List (List UInt8)).flatten = [2] from rfl] at h1
    exact h1)
  have HZ := hid (show (bv (sumL [2])).size = 32 by rw [bv_size]; exact sumL_len _)
  have HZ32 := hid zero32_size
  clear hG
  go_enter Tryd.func30, Tryd.ntmps30
  go_wp2_with (first | (refine wpList_alloc 23 rfl rfl (.agg (bv (List.replicate 32 0))) zero54s ?_; intro go W1 h1 hl1 hg1 hW1; have H1 := hid ((St.start w).newBlk hW1 hg1 h1); clear h1 hl1 hg1 hW1) | (refine wpList_buildSlice1 _ rfl (.int .u8 2) (by simp [Act.eval, Act.put]) rfl Tryd.underlying42 zero5s size5s (by decide) (by decide) rfl ?_; intro gn X4 hS hgs hges hX1b; have H2 := hid (show St w [Blk gn (bv [2]) 5, Blk go (bv (List.replicate 32 0)) 23] X4 from H1.out.newBlk hX1b hges hS); clear hS hgs hges hX1b) | (refine wpList_buildSlice1 _ rfl (.slice (some ⟨gn, 0, none⟩) 1 1) (by simp [Act.eval, Act.put]) rfl Tryd.underlying80 zeroBYs sizeBYs (by decide) (by decide) rfl ?_; intro gx X5 hS hgs hges hX1b; have H3 := hid (show St w [Blk gx #[.slice (some ⟨gn, 0, none⟩) 1 1] 42, Blk gn (bv [2]) 5, Blk go (bv (List.replicate 32 0)) 23] X5 from H2.out.newBlk hX1b hges hS); clear hS hgs hges hX1b) | (go_at_call 16; (with_reducible refine (HSH.out _ _ _ _ H3.out).mono ?_); rintro r w3 ⟨rfl, hs3⟩; have H5 := hid hs3.drop.drop; clear hs3) | (refine wpList_store_box 23 _ _ rfl go rfl rfl (bv (sumL [2])) rfl 32 size54s HZ.out (bv_one _) 23 _ H5.out.blk HZ32.out ?_; intro W6 hB6 hT6 hs6; have H7 := hid (H5.out.put hB6 hT6)))
  exact bodyPost_ret (results_cell rfl _ _ _ go 23 (bv _) (0, 0) rfl hB6 Tryd.underlying23 (by rw [HZ.out]; exact size54s)) rfl ⟨rfl, H7.out.below⟩
set_option maxRecDepth 20000 in
set_option maxHeartbeats 4000000 in
theorem leafSum_now (hG : Glob w) {k v : List UInt8} (hk : k.length = 32) (hv : v.length = 32) : Calls Tryd.prog 65 #[.agg (leafC k v)] w fun x w' => x = .returned (.agg (bv (sumL (leafB k v)))) ∧ Below w.heap.size w w' := by
  have HK := hid hk
  have HV := hid hv
  have HSH := hid (fun X gx gn ga go (hX : St w [Blk gx (#[.slice (some ⟨gn, 0, none⟩) 1 1] ++ #[.slice (some ⟨ga, 0, none⟩) 32 32] ++ #[.slice (some ⟨ga, 32, none⟩) 32 32]) 42, Blk gn (bv [0]) 5, Blk go (bv (List.replicate 32 0)) 23, Blk ga (leafC k v) 30] X) => show Calls Tryd.prog 16 #[.slice (some ⟨gx, 0, none⟩) 3 3] X fun x w' => x = .returned (.agg (bv (sumL (leafB k v)))) ∧ St w [Blk go (bv (List.replicate 32 0)) 23, Blk ga (leafC k v) 30] w' from by
    have h1 := sha_st hX hG (c := 3) (parts3 (part_blk (r := [0]) rfl (by decide)) (Part.cons (Part.cons (part_at (r := k) hk (by decide) (by decide) leafC_key))) (Part.cons (Part.cons (part_at (r := v) hv (by decide) (by decide) (leafC_val hk))))) (by simp) (by simp [hk, hv])
    rw [show [[0], k, v].flatten = leafB k v by simp [leafB]] at h1
    exact h1.mono fun e w' h => ⟨h.1, h.2.drop.drop⟩)
  have HZ := hid (show (bv (sumL (leafB k v))).size = 32 by rw [bv_size]; exact sumL_len _)
  have HZ32 := hid zero32_size
  clear hG hk hv
  go_enter Tryd.func65, Tryd.ntmps65
  go_wp2_with (first | (refine wpList_box rfl 30 _ rfl (.agg (leafC k v)) rfl ?_; intro ga W1 h1 hl1 hg1 hW1; have H1 := hid ((St.start w).newBlk hW1 hg1 h1); clear h1 hl1 hg1 hW1) | (refine wpList_alloc 23 rfl rfl (.agg (bv (List.replicate 32 0))) zero54s ?_; intro go W2 h1 hl1 hg1 hW1; have H2 := hid (H1.out.newBlk hW1 hg1 h1); clear h1 hl1 hg1 hW1))
  refine wp_region_segs [.ord [(1, 1), (2, 1), (3, 1), (4, 1), (0, 2), (5, 2), (6, 2), (7, 2)]] (fun X => St w [Blk ga (leafC k v) 30] X) (by kernel_rfl) (by kernel_rfl) (fun d _ c _ _ h => by cases d <;> exact h) (H2.out.drop.turn (Below.drew (Below.refl _ _))) (fun X hXe hX => ?_)
  have H3 := H2.out.turn (Below.drew (Below.refl _ _))
  rw [← hXe] at H3
  replace H3 := hid H3
  clear hXe
  refine wpSegs_ord fun F1 hF1 => ?_
  clear hX H1 H2
  iterate 4 (apply wpOrd_class; ((· first | (rw [List.getElem?_toArray, List.getElem?_cons_zero]; done) | (simp only [List.getElem?_toArray, List.getElem?_cons_succ, List.getElem?_cons_zero]; exact rfl))); (· exact rfl); intro K hK; apply Exists.intro; refine And.intro (fun X' hX' => ?_) ?_; (· go_simp; (try go_bits); first | done | exact rfl | exact ⟨rfl, rfl⟩); go_simp; refine hK _ _ ?_; clear hK K)
  (apply wpOrd_comes; ((· first | (rw [List.getElem?_toArray, List.getElem?_cons_zero]; done) | (simp only [List.getElem?_toArray, List.getElem?_cons_succ, List.getElem?_cons_zero]; exact rfl))); intro N hN)
  go_wp2_with (refine wpList_buildSlice1 _ rfl (.int .u8 0) (by simp [Act.eval]) rfl Tryd.underlying42 zero5s size5s (by decide) (by decide) rfl ?_; intro gn X4 hS hgs hges hX1b; have H4 := hid (show St w [Blk gn (bv [0]) 5, Blk go (bv (List.replicate 32 0)) 23, Blk ga (leafC k v) 30] X4 from H3.out.newBlk hX1b hges hS); clear hS hgs hges hX1b)
  refine hN _ _ (fun _ => H4.out.drop.drop) ?_
  clear hN N
  (apply wpOrd_comes; ((· first | (rw [List.getElem?_toArray, List.getElem?_cons_zero]; done) | (simp only [List.getElem?_toArray, List.getElem?_cons_succ, List.getElem?_cons_zero]; exact rfl))); intro N hN)
  go_wp2_with (refine wpList_buildSlice3 _ rfl (.slice (some ⟨gn, 0, none⟩) 1 1) (.slice (some ⟨ga, 0, none⟩) 32 32) (.slice (some ⟨ga, 32, none⟩) 32 32) (by simp [Act.eval]) rfl Tryd.underlying80 zeroBYs sizeBYs (by decide) (by decide) rfl rfl rfl ?_; intro gx X5 hS hgs hges hX1b; have H5 := hid (show St w [Blk gx (#[.slice (some ⟨gn, 0, none⟩) 1 1] ++ #[.slice (some ⟨ga, 0, none⟩) 32 32] ++ #[.slice (some ⟨ga, 32, none⟩) 32 32]) 42, Blk gn (bv [0]) 5, Blk go (bv (List.replicate 32 0)) 23, Blk ga (leafC k v) 30] X5 from H4.out.newBlk hX1b hges hS); clear hS hgs hges hX1b)
  refine hN _ _ (fun _ => H5.out.drop.drop.drop) ?_
  clear hN N
  (apply wpOrd_comes; ((· first | (rw [List.getElem?_toArray, List.getElem?_cons_zero]; done) | (simp only [List.getElem?_toArray, List.getElem?_cons_succ, List.getElem?_cons_zero]; exact rfl))); intro N hN)
  go_wp2_with (go_at_call 16; (with_reducible refine (HSH.out _ _ _ _ _ H5.out).mono ?_); rintro r w6 ⟨rfl, hs6⟩; have H6 := hid hs6; clear hs6)
  refine hN _ _ (fun _ => H6.out.drop) ?_
  clear hN N
  (apply wpOrd_comes; ((· first | (rw [List.getElem?_toArray, List.getElem?_cons_zero]; done) | (simp only [List.getElem?_toArray, List.getElem?_cons_succ, List.getElem?_cons_zero]; exact rfl))); intro N hN)
  go_wp2_with (refine wpList_store_box 23 _ _ rfl go rfl rfl (bv (sumL (leafB k v))) rfl 32 size54s HZ.out (bv_one _) 23 _ H6.out.blk HZ32.out ?_; intro W7 hB7 hT7 hs7; have H7 := hid (H6.out.put hB7 hT7))
  refine hN _ _ (fun _ => H7.out.drop) ?_
  clear hN N
  refine wpOrd_to (hF1 _ _ (wpSegs_nil ?_))
  clear hF1 F1
  go_wp2_with fail
  exact bodyPost_ret (results_cell rfl _ _ _ go 23 (bv _) (0, 0) rfl hB7 Tryd.underlying23 (by rw [HZ.out]; exact size54s)) rfl ⟨rfl, H7.out.below⟩
set_option maxRecDepth 20000 in
set_option maxHeartbeats 4000000 in
theorem nodeSum_now (hG : Glob w) {x y : List UInt8} {n : Nat} (hx : x.length = 32) (hy : y.length = 32) (hn : n ≤ 65535) : Calls Tryd.prog 67 #[.int .i64 n, .agg (bv x), .agg (bv y)] w fun r w' => r = .returned (.agg (bv (sumL (nodeB n x y)))) ∧ Below w.heap.size w w' := by
  have HX := hid hx
  have HY := hid hy
  obtain ⟨b0, hb0⟩ : ∃ b, b = UInt8.ofNat (n / 256) := ⟨_, rfl⟩
  obtain ⟨b1, hb1⟩ : ∃ b, b = UInt8.ofNat n := ⟨_, rfl⟩
  have E0 : (n : Int) / 256 = (b0.toNat : Int) := by rw [hb0, u8_cast]; omega
  have E1 : (n : Int) % 256 = (b1.toNat : Int) := by rw [hb1, u8_cast]
  have HNB := hid (show nodeB n x y = [1, b0, b1] ++ x ++ y by rw [hb0, hb1]; rfl)
  have HSH := hid (fun X gx gn ga gb go (hX : St w [Blk gx (#[.slice (some ⟨gn, 0, none⟩) 3 3] ++ #[.slice (some ⟨ga, 0, none⟩) 32 32] ++ #[.slice (some ⟨gb, 0, none⟩) 32 32]) 42, Blk gn (bv [1, b0, b1]) 5, Blk go (bv (List.replicate 32 0)) 23, Blk gb (bv y) 23, Blk ga (bv x) 23] X) => show Calls Tryd.prog 16 #[.slice (some ⟨gx, 0, none⟩) 3 3] X fun r w' => r = .returned (.agg (bv (sumL (nodeB n x y)))) ∧ St w [Blk go (bv (List.replicate 32 0)) 23, Blk gb (bv y) 23, Blk ga (bv x) 23] w' from by
    have h1 := sha_st hX hG (c := 3) (parts3 (part_blk (r := [1, b0, b1]) rfl (by decide)) (Part.cons (Part.cons (Part.cons (part_blk (r := x) hx (by decide))))) (Part.cons (Part.cons (part_blk (r := y) hy (by decide))))) (by simp) (by simp [hx, hy])
    rw [show [[1, b0, b1], x, y].flatten = nodeB n x y by rw [HNB.out]; simp] at h1
    exact h1.mono fun e w' h => ⟨h.1, h.2.drop.drop⟩)
  obtain ⟨sm, hsm⟩ : ∃ s, s = sumL (nodeB n x y) := ⟨_, rfl⟩
  have HZ := hid (show (bv sm).size = 32 by rw [bv_size, hsm]; exact sumL_len _)
  rw [← hsm] at HSH ⊢
  have HZ32 := hid zero32_size
  clear hG hx hy hb0 hb1 hsm HNB
  go_enter Tryd.func67, Tryd.ntmps67
  go_wp2_with (first | (refine wpList_box rfl 23 _ rfl (.agg (bv x)) rfl ?_; intro ga W1 h1 hl1 hg1 hW1; have H1 := hid ((St.start w).newBlk hW1 hg1 h1); clear h1 hl1 hg1 hW1) | (refine wpList_box rfl 23 _ rfl (.agg (bv y)) rfl ?_; intro gb W2 h1 hl1 hg1 hW1; have H2 := hid (H1.out.newBlk hW1 hg1 h1); clear h1 hl1 hg1 hW1) | (refine wpList_alloc 23 rfl rfl (.agg (bv (List.replicate 32 0))) zero54s ?_; intro go W3 h1 hl1 hg1 hW1; have H3 := hid (H2.out.newBlk hW1 hg1 h1); clear h1 hl1 hg1 hW1))
  refine wp_region_segs [.ord [(0, 1), (1, 1), (2, 1), (3, 1), (4, 1), (6, 1), (7, 1), (5, 2), (8, 2), (9, 2), (10, 2)]] (fun X => St w [Blk gb (bv y) 23, Blk ga (bv x) 23] X) (by kernel_rfl) (by kernel_rfl) (fun d _ c _ _ h => by cases d <;> exact h) (H3.out.drop.turn (Below.drew (Below.refl _ _))) (fun X hXe hX => ?_)
  have H4 := H3.out.turn (Below.drew (Below.refl _ _))
  rw [← hXe] at H4
  replace H4 := hid H4
  clear hXe
  refine wpSegs_ord fun F1 hF1 => ?_
  clear hX H1 H2 H3
  iterate 7 (apply wpOrd_class; ((· first | (rw [List.getElem?_toArray, List.getElem?_cons_zero]; done) | (simp only [List.getElem?_toArray, List.getElem?_cons_succ, List.getElem?_cons_zero]; exact rfl))); (· exact rfl); intro K hK; apply Exists.intro; refine And.intro (fun X' hX' => ?_) ?_; (· go_simp; (try go_bits); first | done | exact rfl | exact ⟨rfl, rfl⟩); go_simp; refine hK _ _ ?_; clear hK K)
  (apply wpOrd_comes; ((· first | (rw [List.getElem?_toArray, List.getElem?_cons_zero]; done) | (simp only [List.getElem?_toArray, List.getElem?_cons_succ, List.getElem?_cons_zero]; exact rfl))); intro N hN)
  go_wp2_with (refine wpList_buildSlice3 _ rfl (.int .u8 1) (.int .u8 b0.toNat) (.int .u8 b1.toNat) (by simp [Act.eval]) rfl Tryd.underlying42 zero5s size5s (by decide) (by decide) rfl rfl rfl ?_; intro gn X4 hS hgs hges hX1b; have H5 := hid (show St w [Blk gn (bv [1, b0, b1]) 5, Blk go (bv (List.replicate 32 0)) 23, Blk gb (bv y) 23, Blk ga (bv x) 23] X4 from H4.out.newBlk hX1b hges hS); clear hS hgs hges hX1b)
  refine hN _ _ (fun _ => H5.out.drop.drop) ?_
  clear hN N
  (apply wpOrd_comes; ((· first | (rw [List.getElem?_toArray, List.getElem?_cons_zero]; done) | (simp only [List.getElem?_toArray, List.getElem?_cons_succ, List.getElem?_cons_zero]; exact rfl))); intro N hN)
  go_wp2_with (refine wpList_buildSlice3 _ rfl (.slice (some ⟨gn, 0, none⟩) 3 3) (.slice (some ⟨ga, 0, none⟩) 32 32) (.slice (some ⟨gb, 0, none⟩) 32 32) (by simp [Act.eval]) rfl Tryd.underlying80 zeroBYs sizeBYs (by decide) (by decide) rfl rfl rfl ?_; intro gx X5 hS hgs hges hX1b; have H6 := hid (show St w [Blk gx (#[.slice (some ⟨gn, 0, none⟩) 3 3] ++ #[.slice (some ⟨ga, 0, none⟩) 32 32] ++ #[.slice (some ⟨gb, 0, none⟩) 32 32]) 42, Blk gn (bv [1, b0, b1]) 5, Blk go (bv (List.replicate 32 0)) 23, Blk gb (bv y) 23, Blk ga (bv x) 23] X5 from H5.out.newBlk hX1b hges hS); clear hS hgs hges hX1b)
  refine hN _ _ (fun _ => H6.out.drop.drop.drop) ?_
  clear hN N
  (apply wpOrd_comes; ((· first | (rw [List.getElem?_toArray, List.getElem?_cons_zero]; done) | (simp only [List.getElem?_toArray, List.getElem?_cons_succ, List.getElem?_cons_zero]; exact rfl))); intro N hN)
  go_wp2_with (go_at_call 16; (with_reducible refine (HSH.out _ _ _ _ _ _ H6.out).mono ?_); rintro r w6 ⟨rfl, hs6⟩; have H7 := hid hs6; clear hs6)
  refine hN _ _ (fun _ => H7.out.drop) ?_
  clear hN N
  (apply wpOrd_comes; ((· first | (rw [List.getElem?_toArray, List.getElem?_cons_zero]; done) | (simp only [List.getElem?_toArray, List.getElem?_cons_succ, List.getElem?_cons_zero]; exact rfl))); intro N hN)
  go_wp2_with (refine wpList_store_box 23 _ _ rfl go rfl rfl (bv sm) rfl 32 size54s HZ.out (bv_one _) 23 _ H7.out.blk HZ32.out ?_; intro W7 hB7 hT7 hs7; have H8 := hid (H7.out.put hB7 hT7))
  refine hN _ _ (fun _ => H8.out.drop) ?_
  clear hN N
  refine wpOrd_to (hF1 _ _ (wpSegs_nil ?_))
  clear hF1 F1
  go_wp2_with fail
  exact bodyPost_ret (results_cell rfl _ _ _ go 23 (bv _) (0, 0) rfl hB7 Tryd.underlying23 (by rw [HZ.out]; exact size54s)) rfl ⟨rfl, H8.out.below⟩
end
end Go.Proofs.YtnakbdgoaepehaaDoor
/- New trees, and what is told of one. -/
namespace Go.Cu
open Go Go.RowKit
section
variable {F : Nat → Prop} {W W' : World} {v : Value}
/-- A tree that is not split. -/
theorem TreeIn.leafAt {k x : List UInt8} (h : TreeIn F W v (.leaf k x)) : ∃ g n, v = .pointer (some ⟨g, 0, none⟩) ∧ g < W.heap.size ∧ k.length = 32 ∧ x.length = 32 ∧ ∀ X, Below W.heap.size W X → X.heap[g]? = some (.cells (treeC (leafC k x) (.pointer none) (.pointer none) false (sumL (leafB k x)) n) 75 (0, 0)) := by
  obtain ⟨hk, hx, g, n, e, _, hc⟩ := h
  exact ⟨g, n, e, heap_lt hc, hk, hx, fun X hX => (hX.block g (heap_lt hc)).trans hc⟩
theorem TreeIn.nodeAt {d : Nat} {a b : Tr} (h : TreeIn F W v (.node d a b)) : ∃ g n va vb, v = .pointer (some ⟨g, 0, none⟩) ∧ g < W.heap.size ∧ TreeIn (fun h => F h ∧ h < g) W va a ∧ TreeIn (fun h => F h ∧ h < g) W vb b ∧ ∀ X, Below W.heap.size W X → X.heap[g]? = some (.cells (treeC (leafC zeroK zeroK) va vb true (Tr.sum sumL (.node d a b)) n) 75 (0, 0)) := by
  obtain ⟨g, n, va, vb, e, _, hc, ha, hb⟩ := h
  exact ⟨g, n, va, vb, e, heap_lt hc, ha, hb, fun X hX => (hX.block g (heap_lt hc)).trans hc⟩
theorem sum_len (t : Tr) : (t.sum sumL).length = 32 := by cases t <;> exact sumL_len _
/-- What is not nil: its sum and count stand in its cells. -/
theorem TreeIn.sumAt {t : Tr} (h : TreeIn F W v t) (hn : t ≠ .nil) : ∃ g lf a b s n, v = .pointer (some ⟨g, 0, none⟩) ∧ lf.size = 64 ∧ W.heap[g]? = some (.cells (treeC lf a b s (t.sum sumL) n) 75 (0, 0)) := by
  match t, h with
  | .nil, _ => exact absurd rfl hn
  | .leaf k x, ⟨hk, hx, g, n, e, _, hc⟩ => exact ⟨g, _, _, _, _, n, e, leafC_size hk hx, hc⟩
  | .node d a b, ⟨g, n, va, vb, e, _, hc, _, _⟩ => exact ⟨g, _, _, _, _, n, e, leafC_size zeroK_len zeroK_len, hc⟩
theorem tree_cell {g n t : Nat} {lf : Array Value} {a b : Value} {s : Bool} {sm : List UInt8} {m : Int} {fr : Nat × Nat} {X : World} (hc : X.heap[g]? = some (.cells (treeC lf a b s sm m) t fr)) {i : Nat} {u : Value} (hu : (treeC lf a b s sm m)[i]? = some u) (hi : i = n) : X.cell? ⟨g, n, none⟩ = some u := by
  subst hi
  rw [cell_of_row X g i _ _ _ hc, hu]
end
end Go.Cu
namespace Go.Proofs.YtnakbdgoaepehaaDoor
open Go.RowKit Go.Cu
@[go_sem ↓] theorem ldktLEAF (a : Act) (dst : Option Tmp) (x : Operand) (ty : TypeId) (pos : String) (after : Array Edge) (guard : Option (Nat × Bool)) :
      execOp a.eval { dst, op := .load 30 x, type := ty, pos, after, guard } = loadK 30 (a.eval x) := rfl
@[go_sem ↓] theorem ldktKEY (a : Act) (dst : Option Tmp) (x : Operand) (ty : TypeId) (pos : String) (after : Array Edge) (guard : Option (Nat × Bool)) :
      execOp a.eval { dst, op := .load 24 x, type := ty, pos, after, guard } = loadK 24 (a.eval x) := rfl
@[go_sem ↓] theorem ldk23 (a : Act) (dst : Option Tmp) (x : Operand) (ty : TypeId) (pos : String) (after : Array Edge) (guard : Option (Nat × Bool)) :
      execOp a.eval { dst, op := .load 23 x, type := ty, pos, after, guard } = loadK 23 (a.eval x) := rfl
@[go_sem ↓] theorem ldktTWO (a : Act) (dst : Option Tmp) (x : Operand) (ty : TypeId) (pos : String) (after : Array Edge) (guard : Option (Nat × Bool)) :
      execOp a.eval { dst, op := .load 73 x, type := ty, pos, after, guard } = loadK 73 (a.eval x) := rfl
@[go_sem ↓] theorem bdktTREE (a : Act) (dst : Option Tmp) (ps : Array (Nat × Operand)) (ty : TypeId) (pos : String) (after : Array Edge) (guard : Option (Nat × Bool)) :
    execOp a.eval { dst, op := .build 75 ps, type := ty, pos, after, guard } = buildK 75 (ps.map fun (i, x) => (i, a.eval x)) := rfl
@[go_sem ↓] theorem bdktTWO (a : Act) (dst : Option Tmp) (ps : Array (Nat × Operand)) (ty : TypeId) (pos : String) (after : Array Edge) (guard : Option (Nat × Bool)) :
    execOp a.eval { dst, op := .build 73 ps, type := ty, pos, after, guard } = buildK 73 (ps.map fun (i, x) => (i, a.eval x)) := rfl
section
variable {w : World}
set_option maxRecDepth 20000 in
set_option maxHeartbeats 4000000 in
theorem root_now (hG : Glob w) {F : Nat → Prop} {v : Value} {t : Tr} (ht : TreeIn F w v t) : Calls Tryd.prog 7 #[v] w fun x w' => x = .returned (.agg (bv (t.sum sumL))) ∧ Below w.heap.size w w' := by
  have HZ := hid (show (bv (t.sum sumL)).size = 32 by rw [bv_size]; exact sum_len t)
  have HZ32 := hid zero32_size
  by_cases hn : t = .nil
  · subst hn
    obtain rfl : v = .pointer none := ht
    have HE := hid (fun X go (hX : St w [Blk go (bv (List.replicate 32 0)) 23] X) => empty_now (w := X) (hG.below hX.below hG.two))
    clear hG
    go_enter Tryd.func7, Tryd.ntmps7
    go_wp2_with (first | (refine wpList_alloc 23 rfl rfl (.agg (bv (List.replicate 32 0))) zero54s ?_; intro go W1 h1 hl1 hg1 hW1; have H1 := hid ((St.start w).newBlk hW1 hg1 h1); clear h1 hl1 hg1 hW1) | (go_at_call 30; (with_reducible refine (HE.out _ _ H1.out).mono ?_); rintro r W2 ⟨rfl, hb2⟩; have H2 := hid (H1.out.turn hb2); clear hb2) | (refine wpList_store_box 23 _ _ rfl go rfl rfl (bv (sumL [2])) rfl 32 size54s HZ.out (bv_one _) 23 _ H2.out.blk HZ32.out ?_; intro W7 hB7 hT7 hs7; have H8 := hid (H2.out.put hB7 hT7)))
    exact bodyPost_ret (results_cell rfl _ _ _ go 23 (bv _) (0, 0) rfl hB7 Tryd.underlying23 (by rw [show sumL [2] = Tr.sum sumL .nil from rfl, HZ.out]; exact size54s)) rfl ⟨rfl, H8.out.below⟩
  · obtain ⟨g, lf, a, b, s, n, rfl, hl, hc⟩ := ht.sumAt hn
    have hsm := sum_len t
    obtain ⟨sm, hs⟩ : ∃ sm, sm = t.sum sumL := ⟨_, rfl⟩
    rw [← hs] at hc HZ hsm ⊢
    have LA := hid (fun X (hX : Below w.heap.size w X) => run_loadK (P := Tryd.prog) (off := 67) (vs := bv sm) ((hX.block g (heap_lt hc)).trans hc) Tryd.underlying23 rfl size54s HZ.out (treeC_sum hl))
    clear hG hs hc hl hsm hn
    go_enter Tryd.func7, Tryd.ntmps7
    go_wp2_with (first | (refine wpList_alloc 23 rfl rfl (.agg (bv (List.replicate 32 0))) zero54s ?_; intro go W1 h1 hl1 hg1 hW1; have H1 := hid ((St.start w).newBlk hW1 hg1 h1); have LB := LA.out W1 H1.out.below; clear h1 hl1 hg1 hW1) | (refine wpList_store_box 23 _ _ rfl go rfl rfl (bv sm) rfl 32 size54s HZ.out (bv_one _) 23 _ H1.out.blk HZ32.out ?_; intro W7 hB7 hT7 hs7; have H8 := hid (H1.out.put hB7 hT7)))
    exact bodyPost_ret (results_cell rfl _ _ _ go 23 (bv _) (0, 0) rfl hB7 Tryd.underlying23 (by rw [HZ.out]; exact size54s)) rfl ⟨rfl, H8.out.below⟩
theorem len_now {F : Nat → Prop} {v : Value} {t : Tr} (ht : TreeIn F w v t) : Calls Tryd.prog 68 #[v] w fun x w' => w = w' ∧ ∃ n : Int, x = .returned (.int .i64 n) := by
  by_cases hn : t = .nil
  · subst hn
    obtain rfl : v = .pointer none := ht
    go_enter Tryd.func68, Tryd.ntmps68
    go_wp2_with fail
    go_ret
    exact ⟨rfl, _, rfl⟩
  · obtain ⟨g, lf, a, b, s, n, rfl, hl, hc⟩ := ht.sumAt hn
    have hC := tree_cell hc (treeC_n hl (sum_len t)) rfl
    clear ht hc hl hn
    go_enter Tryd.func68, Tryd.ntmps68
    go_wp2_with fail
    go_ret
    exact ⟨rfl, _, rfl⟩
set_option maxRecDepth 20000 in
set_option maxHeartbeats 4000000 in
theorem one_now (hG : Glob w) {k x : List UInt8} (hk : k.length = 32) (hx : x.length = 32) : Calls Tryd.prog 55 #[.agg (leafC k x)] w fun r w' => ∃ g, r = .returned (.pointer (some ⟨g, 0, none⟩)) ∧ w.heap.size ≤ g ∧ TreeIn (fun h => w.heap.size ≤ h) w' (.pointer (some ⟨g, 0, none⟩)) (.leaf k x) ∧ Below w.heap.size w w' := by
  have HL := hid (leafC_size hk hx)
  obtain ⟨sm, hsm⟩ : ∃ sm, sm = sumL (leafB k x) := ⟨_, rfl⟩
  have HS := hid (show sm.length = 32 by rw [hsm]; exact sumL_len _)
  have HF := hid (fun X g (hX : St w [Blk g (leafC k x) 30] X) => leafSum_now (hG.below hX.below hG.two) hk hx)
  have LA := hid (fun g X (hX : St w [Blk g (leafC k x) 30] X) => run_loadK (P := Tryd.prog) (off := 0) (vs := leafC k x) hX.blk Tryd.underlying30 rfl sizeLeaf HL.out (fun j hj => by rw [Nat.zero_add]))
  have HB := hid (fun X => run_buildK (build_leaf (w := X) (n := 1) HS.out HL.out))
  have HFIN := hid (fun g X (hc : X.heap[g]? = some (.cells (treeC (leafC k x) (.pointer none) (.pointer none) false sm 1) 75 (0, 0))) (hg : w.heap.size ≤ g) => show TreeIn (fun h => w.heap.size ≤ h) X (.pointer (some ⟨g, 0, none⟩)) (.leaf k x) from ⟨hk, hx, g, _, rfl, hg, by rw [← hsm]; exact hc⟩)
  rw [← hsm] at HF
  clear hG hk hx hsm
  go_enter Tryd.func55, Tryd.ntmps55
  go_wp2_with (refine wpList_box rfl 30 _ rfl (.agg (leafC k x)) rfl ?_; intro ga W1 h1 hl1 hg1 hW1; have H1 := hid ((St.start w).newBlk hW1 hg1 h1); clear h1 hl1 hg1 hW1)
  refine wp_region_segs [.ord [(0, 1), (1, 1), (2, 2), (3, 1), (4, 2), (5, 1)]] (fun X => St w [Blk ga (leafC k x) 30] X) (by kernel_rfl) (by kernel_rfl) (fun d _ c _ _ h => by cases d <;> exact h) (H1.out.turn (Below.drew (Below.refl _ _))) (fun X hXe hX => ?_)
  have H2 := H1.out.turn (Below.drew (Below.refl _ _))
  rw [← hXe] at H2
  replace H2 := hid H2
  clear hXe
  refine wpSegs_ord fun F1 hF1 => ?_
  clear hX H1
  (apply wpOrd_class; ((· first | (rw [List.getElem?_toArray, List.getElem?_cons_zero]; done) | (simp only [List.getElem?_toArray, List.getElem?_cons_succ, List.getElem?_cons_zero]; exact rfl))); (· exact rfl); intro K hK; apply Exists.intro; refine And.intro (fun X' hX' => ?_) ?_; (· have hq := LA.out ga _ hX'; clear hX'; go_simp; (try go_bits); first | done | exact rfl | exact ⟨rfl, rfl⟩); go_simp; refine hK _ _ ?_; clear hK K)
  (apply wpOrd_class; ((· first | (rw [List.getElem?_toArray, List.getElem?_cons_zero]; done) | (simp only [List.getElem?_toArray, List.getElem?_cons_succ, List.getElem?_cons_zero]; exact rfl))); (· exact rfl); intro K hK; apply Exists.intro; refine And.intro (fun X' hX' => ?_) ?_; (· have hq := LA.out ga _ hX'; clear hX'; go_simp; (try go_bits); first | done | exact rfl | exact ⟨rfl, rfl⟩); go_simp; refine hK _ _ ?_; clear hK K)
  (apply wpOrd_comes; ((· first | (rw [List.getElem?_toArray, List.getElem?_cons_zero]; done) | (simp only [List.getElem?_toArray, List.getElem?_cons_succ, List.getElem?_cons_zero]; exact rfl))); intro N hN)
  go_wp2_with (go_at_call 65; (with_reducible refine (HF.out _ _ H2.out).mono ?_); rintro r w6 ⟨rfl, hb6⟩; have H3 := hid (H2.out.turn hb6); clear hb6)
  refine hN _ _ (fun _ => H3.out) ?_
  clear hN N
  have HB' := hid (fun X (_ : St w [Blk ga (leafC k x) 30] X) => HB.out X)
  (apply wpOrd_class; ((· first | (rw [List.getElem?_toArray, List.getElem?_cons_zero]; done) | (simp only [List.getElem?_toArray, List.getElem?_cons_succ, List.getElem?_cons_zero]; exact rfl))); (· exact rfl); intro K hK; apply Exists.intro; refine And.intro (fun X' hX' => ?_) ?_; (· have hq := HB'.out _ hX'; clear hX'; go_simp; (try go_bits); first | done | exact rfl | exact ⟨rfl, rfl⟩); go_simp; refine hK _ _ ?_; clear hK K)
  (apply wpOrd_comes; ((· first | (rw [List.getElem?_toArray, List.getElem?_cons_zero]; done) | (simp only [List.getElem?_toArray, List.getElem?_cons_succ, List.getElem?_cons_zero]; exact rfl))); intro N hN)
  go_wp2_with (refine wpList_box rfl 75 _ rfl (.agg (treeC (leafC k x) (.pointer none) (.pointer none) false sm 1)) rfl ?_; intro gt W4 h1 hl1 hg1 hW1; have H4 := hid (H3.out.newBlk hW1 hg1 h1); clear h1 hl1 hg1 hW1)
  refine hN _ _ (fun _ => H4.out.drop) ?_
  clear hN N
  (apply wpOrd_class; ((· first | (rw [List.getElem?_toArray, List.getElem?_cons_zero]; done) | (simp only [List.getElem?_toArray, List.getElem?_cons_succ, List.getElem?_cons_zero]; exact rfl))); (· exact rfl); intro K hK; apply Exists.intro; refine And.intro (fun X' hX' => ?_) ?_; (· go_simp; (try go_bits); first | done | exact rfl | exact ⟨rfl, rfl⟩); go_simp; refine hK _ _ ?_; clear hK K)
  refine wpOrd_to (hF1 _ _ (wpSegs_nil ?_))
  clear hF1 F1
  go_wp2_with fail
  go_ret
  exact ⟨gt, rfl, H4.out.blk_ge, HFIN.out _ _ H4.out.blk H4.out.blk_ge, H4.out.below⟩
theorem _root_.Go.Cu.TreeIn.isPtr {F : Nat → Prop} {v : Value} {t : Tr} (h : TreeIn F w v t) : ∃ p, v = .pointer p := by
  rcases h.ptr with ⟨_, e⟩ | ⟨g, e, _⟩ <;> exact ⟨_, e⟩
theorem build_two (p q : Option Addr) (W : World) : (Instr.build 73 #[(0, .pointer p), (1, .pointer q)]).run Tryd.prog W = .ok (.agg #[.pointer p, .pointer q]) W := by kernel_rfl
set_option maxRecDepth 20000 in
set_option maxHeartbeats 4000000 in
theorem join_now (hG : Glob w) {F : Nat → Prop} {va vb : Value} {a b : Tr} {d : Nat} (ha : TreeIn F w va a) (hb : TreeIn F w vb b) (hd : d ≤ 65535) : Calls Tryd.prog 57 #[.int .i64 d, va, vb] w fun r w' => ∃ g, r = .returned (.pointer (some ⟨g, 0, none⟩)) ∧ w.heap.size ≤ g ∧ TreeIn (fun h => F h ∨ w.heap.size ≤ h) w' (.pointer (some ⟨g, 0, none⟩)) (.node d a b) ∧ Below w.heap.size w w' := by
  obtain ⟨p, rfl⟩ := ha.isPtr
  obtain ⟨q, rfl⟩ := hb.isPtr
  obtain ⟨sa, hsa⟩ : ∃ sm, sm = a.sum sumL := ⟨_, rfl⟩
  obtain ⟨sb, hsb⟩ : ∃ sm, sm = b.sum sumL := ⟨_, rfl⟩
  obtain ⟨sm, hsm⟩ : ∃ sm, sm = sumL (nodeB d sa sb) := ⟨_, rfl⟩
  have HS := hid (show sm.length = 32 by rw [hsm]; exact sumL_len _)
  have HRA := hid (fun X (hX : St w [] X) => root_now (hG.below hX.below hG.two) (ha.below hX.below))
  have HRB := hid (fun X (hX : St w [] X) => root_now (hG.below hX.below hG.two) (hb.below hX.below))
  have HLA := hid (fun X (hX : St w [] X) => len_now (ha.below hX.below))
  have HLB := hid (fun X (hX : St w [] X) => len_now (hb.below hX.below))
  have HN := hid (fun X (hX : St w [] X) => nodeSum_now (n := d) (x := sa) (y := sb) (hG.below hX.below hG.two) (by rw [hsa]; exact sum_len a) (by rw [hsb]; exact sum_len b) hd)
  have HT := hid (fun X (_ : St w [] X) => run_buildK (build_two p q X))
  have HB := hid (fun n X (_ : St w [] X) => run_buildK (build_node (a := .pointer p) (b := .pointer q) (w := X) (n := n) HS.out))
  have HFIN := hid (fun n g X (hX : Below w.heap.size w X) (hc : X.heap[g]? = some (.cells (treeC (leafC zeroK zeroK) (.pointer p) (.pointer q) true sm n) 75 (0, 0))) (hg : w.heap.size ≤ g) => show TreeIn (fun h => F h ∨ w.heap.size ≤ h) X (.pointer (some ⟨g, 0, none⟩)) (.node d a b) from ⟨g, n, _, _, rfl, .inr hg, by rw [← hsa, ← hsb, ← hsm]; exact hc, (ha.mono fun i hi h => ⟨.inl h, by omega⟩).below hX, (hb.mono fun i hi h => ⟨.inl h, by omega⟩).below hX⟩)
  rw [← hsa] at HRA
  rw [← hsb] at HRB
  rw [← hsm] at HN
  clear hG ha hb hsa hsb hsm hd
  have BT := run_buildK (build_two p q w)
  have H1 := hid (St.start w)
  go_enter Tryd.func57, Tryd.ntmps57
  go_wp2_with (first | (go_at_call 7; first | ((with_reducible refine (HRA.out _ H1.out).mono ?_); rintro r w6 ⟨rfl, hb6⟩; have H2 := hid (H1.out.turn hb6); clear hb6 H1 HRA) | ((with_reducible refine (HRB.out _ H2.out).mono ?_); rintro r w7 ⟨rfl, hb6⟩; have H3 := hid (H2.out.turn hb6); clear hb6 H2 HRB)) | (go_at_call 67; (with_reducible refine (HN.out _ H3.out).mono ?_); rintro r w8 ⟨rfl, hb6⟩; have H4 := hid (H3.out.turn hb6); have BB := fun n => HB.out n _ H4.out; clear hb6 H3 HN) | (go_at_call 68; first | ((with_reducible refine (HLA.out _ H4.out).mono ?_); rintro r w9 ⟨rfl, n1, rfl⟩; clear HLA) | ((with_reducible refine (HLB.out _ H4.out).mono ?_); rintro r w9 ⟨rfl, n2, rfl⟩; clear HLB)) | (refine wpList_box rfl 75 _ rfl (.agg (treeC (leafC zeroK zeroK) (.pointer p) (.pointer q) true sm _)) rfl ?_; intro gt W4 h1 hl1 hg1 hW1; have H5 := hid (H4.out.newBlk hW1 hg1 h1); clear h1 hl1 hg1 hW1))
  go_ret
  exact ⟨gt, rfl, H5.out.blk_ge, HFIN.out _ _ _ H5.out.below H5.out.blk H5.out.blk_ge, H5.out.below⟩
end
end Go.Proofs.YtnakbdgoaepehaaDoor
/- The key of one of a tree's leaves, plainly; and a way down. No program. -/
namespace Go.Cu
def Tr.isNil : Tr → Bool
  | .nil => true
  | _ => false
def Tr.any : Tr → List UInt8
  | .nil => []
  | .leaf k _ => k
  | .node _ a b => if a.isNil then b.any else a.any
/-- There is a leaf where one looks for it. -/
def Tr.Full : Tr → Prop
  | .nil => False
  | .leaf _ _ => True
  | .node _ a b => (a.isNil = true → b.Full) ∧ (a.isNil = false → a.Full)
theorem full_not {t : Tr} (h : t.Full) : t.isNil = false := by
  cases t with
  | nil => exact h.elim
  | leaf k v => rfl
  | node d a b => rfl
theorem isNil_nil {t : Tr} : t.isNil = true ↔ t = .nil := by cases t <;> simp [Tr.isNil]
theorem isNil_not {t : Tr} : t.isNil = false ↔ t ≠ .nil := by cases t <;> simp [Tr.isNil]
section
variable {x vx y vy : List UInt8}
theorem partEnd_any : (partEnd x vx y vy).any = partKey x y := by
  unfold partEnd partKey
  split <;> rfl
theorem partEnd_full : (partEnd x vx y vy).Full := by
  unfold partEnd
  split <;> exact show _ ∧ _ from ⟨fun h => (by cases h), fun _ => trivial⟩
theorem side_any {d : Nat} {t : Tr} (h : t.Full) (b : Bool) : (if b then Tr.node d t .nil else .node d .nil t).any = t.any ∧ (if b then Tr.node d t .nil else .node d .nil t).Full := by
  have hn := full_not h
  cases b with
  | true => exact ⟨by simp [Tr.any, hn], show _ ∧ _ from ⟨fun h' => (by rw [hn] at h'; cases h'), fun _ => h⟩⟩
  | false => exact ⟨by simp [Tr.any, Tr.isNil], show _ ∧ _ from ⟨fun _ => h, fun h' => (by cases h')⟩⟩
end
end Go.Cu
/- The key of one of a tree's leaves; a tree of two leaves. -/
namespace Go.Cu
open Go Go.RowKit
/-- The block of a pointer. -/
def blockOf : Value → Nat
  | .pointer (some a) => a.block
  | _ => 0
theorem treeC_key {k x : List UInt8} {a b : Value} {s : Bool} {sm : List UInt8} {n : Int} (hk : k.length = 32) (hx : x.length = 32) (j : Nat) (hj : j < (bv k).size) : (treeC (leafC k x) a b s sm n)[0 + j]? = (bv k)[j]? := by
  have h1 := hj
  rw [bv_size] at h1
  rw [treeC_leaf j (by rw [leafC_size hk hx]; omega)]
  have := leafC_key (v := x) j hj
  rwa [Nat.zero_add] at this
section
variable {F : Nat → Prop} {W : World} {t : Tr}
theorem TreeIn.ptr_lt {g : Nat} {v : Value} (h : TreeIn (fun i => F i ∧ i < g) W v t) (hn : t ≠ .nil) : ∃ i, v = .pointer (some ⟨i, 0, none⟩) ∧ i < g := by
  rcases h.ptr with ⟨e, _⟩ | ⟨i, e, _, _, hi⟩
  · exact absurd e hn
  · exact ⟨i, e, hi⟩
end
end Go.Cu
namespace Go.Proofs.YtnakbdgoaepehaaDoor
open Go.RowKit Go.Cu
theorem zeroKey (W : World) : (zeroValue 24).run Tryd.prog W = .ok (.agg (bv (List.replicate 32 0))) W := by kernel_rfl
section
variable {w : World}
theorem any_len {F : Nat → Prop} {v : Value} {t : Tr} (ht : TreeIn F w v t) (hf : t.Full) : t.any.length = 32 := by
  induction t generalizing F v with
  | nil => exact hf.elim
  | leaf k x => exact ht.1
  | node d a b iha ihb =>
    obtain ⟨g, n, va, vb, _, _, _, ha, hb⟩ := ht
    unfold Tr.any
    split
    · rename_i h; exact ihb hb (hf.1 h)
    · rename_i h; exact iha ha (hf.2 (by simpa using h))
set_option maxRecDepth 20000 in
set_option maxHeartbeats 4000000 in
theorem any_now {F : Nat → Prop} {v : Value} {t : Tr} (ht : TreeIn F w v t) (hf : t.Full) : Calls Tryd.prog 66 #[v] w fun r w' => r = .returned (.agg (bv t.any)) ∧ Below w.heap.size w w' := by
  have HZ := hid (show (bv t.any).size = 32 by rw [bv_size]; exact any_len ht hf)
  obtain ⟨k, hk⟩ : ∃ k, k = t.any := ⟨_, rfl⟩
  rw [← hk] at HZ ⊢
  have HZ32 := hid zero32_size
  have HT := hid (⟨F, t, ht, hf, hk.symm⟩ : ∃ (F : Nat → Prop) (t : Tr), TreeIn F w v t ∧ t.Full ∧ t.any = k)
  clear ht hf hk
  go_enter Tryd.func66, Tryd.ntmps66
  go_wp2_with (refine wpList_alloc 24 rfl rfl (.agg (bv (List.replicate 32 0))) zeroKey ?_; intro go W1 h1 hl1 hg1 hW1; have H1 := hid ((St.start w).newBlk hW1 hg1 h1); clear h1 hl1 hg1 hW1)
  replace HT := hid (show ∃ (F : Nat → Prop) (t : Tr), TreeIn F W1 v t ∧ t.Full ∧ t.any = k from by obtain ⟨F, t, ht, hf, hk⟩ := HT.out; exact ⟨F, t, ht.below H1.out.below, hf, hk⟩)
  go_simp
  go_loopw [0] (fun tv X => W1 = X ∧ Hid (∃ (F : Nat → Prop) (t : Tr), TreeIn F W1 tv t ∧ t.Full ∧ t.any = k)) (fun tv _ => blockOf tv)
  case atStart => exact ⟨rfl, HT⟩
  case round =>
    obtain ⟨rfl, HT⟩ := hrel
    obtain ⟨F, t, ht, hf, hk⟩ := HT.out
    clear HT
    match t, ht, hf, hk with
    | .leaf x y, ht, _, hk =>
      obtain rfl : x = k := hk
      obtain ⟨hx, hy, g, n, rfl, _, hc⟩ := ht
      have C66 := tree_cell hc (treeC_split (leafC_size hx hy)) rfl
      have LA := run_loadK (P := Tryd.prog) (off := 0) (vs := bv x) hc Tryd.underlying24 rfl size24 (by rw [bv_size]; exact hx) (treeC_key hx hy)
      clear hc hx hy
      go_wp2_with (refine wpList_store_box 24 _ _ rfl go rfl rfl (bv x) rfl 32 size24 HZ.out (bv_one _) 24 _ H1.out.blk HZ32.out ?_; intro W7 hB7 hT7 hs7; have H8 := hid (H1.out.put hB7 hT7))
      exact bodyPost_ret (results_cell rfl _ _ _ go 24 (bv _) (0, 0) rfl hB7 Tryd.underlying24 (by rw [HZ.out]; exact size24)) rfl ⟨rfl, H8.out.below⟩
    | .node d a b, ht, hf, hk =>
      obtain ⟨g, n, va, vb, rfl, _, hc, ha, hb⟩ := ht
      have C66 := tree_cell hc (treeC_split zsize) rfl
      have C64 := tree_cell hc (treeC_two zsize 0 Nat.zero_lt_two) rfl
      have C65 := tree_cell hc (treeC_two zsize 1 Nat.one_lt_two) rfl
      replace C64 := C64.trans (show _ = some va from rfl)
      replace C65 := C65.trans (show _ = some vb from rfl)
      clear hc
      by_cases hn : a.isNil = true
      · have e : va = .pointer none := by rw [isNil_nil.1 hn] at ha; exact ha
        subst e
        have hfb := hf.1 hn
        obtain ⟨i, rfl, hi⟩ := hb.ptr_lt (isNil_not.1 (full_not hfb))
        have HR := hid (⟨_, b, hb, hfb, by rw [← hk]; simp [Tr.any, hn]⟩ : ∃ (F : Nat → Prop) (t : Tr), TreeIn F W1 (.pointer (some ⟨i, 0, none⟩)) t ∧ t.Full ∧ t.any = k)
        clear ha hb hf hfb hk hn
        go_wp2_with fail
        go_roundw
        case rel => exact ⟨trivial, HR⟩
        case measure => simp only [blockOf]; omega
      · have hn' : a.isNil = false := by simpa using hn
        have hfa := hf.2 hn'
        obtain ⟨i, rfl, hi⟩ := ha.ptr_lt (isNil_not.1 hn')
        have HR := hid (⟨_, a, ha, hfa, by rw [← hk]; simp [Tr.any, hn']⟩ : ∃ (F : Nat → Prop) (t : Tr), TreeIn F W1 (.pointer (some ⟨i, 0, none⟩)) t ∧ t.Full ∧ t.any = k)
        clear ha hb hf hfa hk hn hn'
        go_wp2_with fail
        go_roundw
        case rel => exact ⟨trivial, HR⟩
        case measure => simp only [blockOf]; omega
end
end Go.Proofs.YtnakbdgoaepehaaDoor
/- A tree of two leaves. -/
theorem Go.Cu.chain_s {k : List UInt8} {d m : Nat} {t : Go.Cu.Tr} : Go.Cu.chain k d (m + 1) t = Go.Cu.chain k d m (if Go.Cu.bitN k (d + m) = 0 then .node (d + m) t .nil else .node (d + m) .nil t) := rfl
namespace Go.Proofs.YtnakbdgoaepehaaDoor
open Go.RowKit Go.Cu
section
variable {w : World}
/-- The cells of a leaf that lies in memory. -/
theorem leaf_key {g : Nat} {n : Int} {k x : List UInt8} {X : World} (hk : k.length = 32) (hx : x.length = 32) (hc : ∀ Y, Below w.heap.size w Y → Y.heap[g]? = some (.cells (treeC (leafC k x) (.pointer none) (.pointer none) false (sumL (leafB k x)) n) 75 (0, 0))) (hX : Below w.heap.size w X) : (loadK 24 (.pointer (some ⟨g, 0, none⟩))).run Tryd.prog X = .ok (.value (.agg (bv k))) X :=
  run_loadK (P := Tryd.prog) (off := 0) (vs := bv k) (hc X hX) Tryd.underlying24 rfl size24 (by rw [bv_size]; exact hk) (treeC_key hk hx)
set_option maxRecDepth 20000 in
set_option maxHeartbeats 2000000 in
theorem part_now (hG : Glob w) {F : Nat → Prop} {va vb : Value} {x vx y vy : List UInt8} {d : Nat} (ha : TreeIn F w va (.leaf x vx)) (hb : TreeIn F w vb (.leaf y vy)) (hne : x ≠ y) (hd : d ≤ cm x y) : Calls Tryd.prog 56 #[va, vb, .int .i64 d] w fun r w' => ∃ g, r = .returned (.pointer (some ⟨g, 0, none⟩)) ∧ TreeIn (fun h => F h ∨ w.heap.size ≤ h) w' (.pointer (some ⟨g, 0, none⟩)) (partT x vx y vy d) ∧ Below w.heap.size w w' := by
  obtain ⟨ga, na, rfl, hga, hx, hvx, hca⟩ := ha.leafAt
  obtain ⟨gb, nb, rfl, hgb, hy, hvy, hcb⟩ := hb.leafAt
  have hcl := cm_lt hx hy hne
  obtain ⟨c, hc⟩ : ∃ c, c = cm x y := ⟨_, rfl⟩
  rw [← hc] at hcl hd
  have HCM := hid (fun X => common_any x y X hx hy)
  rw [← hc] at HCM
  have HBX := hid (fun X => bit_in x c X hx hcl)
  have LX := hid (fun X (hX : Below w.heap.size w X) => leaf_key hx hvx hca hX)
  have LY := hid (fun X (hX : Below w.heap.size w X) => leaf_key hy hvy hcb hX)
  have HE := hid (show bitN x c = 1 ∧ partEnd x vx y vy = .node c (.leaf y vy) (.leaf x vx) ∨ bitN x c ≠ 1 ∧ partEnd x vx y vy = .node c (.leaf x vx) (.leaf y vy) from by
    unfold partEnd
    rw [← hc]
    by_cases h : bitN x c = 1
    · exact .inl ⟨h, if_pos h⟩
    · exact .inr ⟨h, if_neg h⟩)
  have HJ := hid (fun X (hX : Below w.heap.size w X) => join_now (d := c) (hG.below hX hG.two) (ha.below hX) (hb.below hX) (by omega))
  have HJ' := hid (fun X (hX : Below w.heap.size w X) => join_now (d := c) (hG.below hX hG.two) (hb.below hX) (ha.below hX) (by omega))
  have HEA := hid (show (partEnd x vx y vy).any = partKey x y ∧ (partEnd x vx y vy).Full from ⟨partEnd_any, partEnd_full⟩)
  obtain ⟨T, hT⟩ : ∃ T, T = partEnd x vx y vy := ⟨_, rfl⟩
  obtain ⟨k, hk⟩ : ∃ k, k = partKey x y := ⟨_, rfl⟩
  have HKL := hid (show k.length = 32 by rw [hk]; unfold partKey; split <;> assumption)
  have HPT := hid (show chain k d (c - d) T = partT x vx y vy d by rw [hT, hk, hc]; unfold partT; rfl)
  rw [← hT] at HE HEA
  rw [← hk] at HEA
  have HG := hid hG
  obtain ⟨G, hGd⟩ : ∃ G : Nat → Prop, G = fun h => F h ∨ w.heap.size ≤ h := ⟨_, rfl⟩
  rw [← hGd]
  have HC256 := hid hcl
  clear ha hb hca hcb hne hx hy hvx hvy hT hk hc hga hgb
  have H1 := hid (St.start w)
  go_enter Tryd.func56, Tryd.ntmps56
  go_wp2_with fail
  refine wp_region_segs [.ord [(0, 1), (1, 1), (2, 1), (3, 1), (4, 1), (5, 1), (6, 1), (7, 1), (8, 1), (9, 1), (10, 2), (11, 1)]] (fun X => St w [] X) (by kernel_rfl) (by kernel_rfl) (fun d _ c _ _ h => by cases d <;> exact h) (H1.out.turn (Below.drew (Below.refl _ _))) (fun X hXe hX => ?_)
  have H2 := H1.out.turn (Below.drew (Below.refl _ _))
  rw [← hXe] at H2
  replace H2 := hid H2
  clear hXe
  refine wpSegs_ord fun F1 hF1 => ?_
  clear hX H1
  have LX' := hid (fun X (hX : St w [] X) => LX.out X hX.below)
  have LY' := hid (fun X (hX : St w [] X) => LY.out X hX.below)
  iterate 4 (apply wpOrd_class; ((· first | (rw [List.getElem?_toArray, List.getElem?_cons_zero]; done) | (simp only [List.getElem?_toArray, List.getElem?_cons_succ, List.getElem?_cons_zero]; exact rfl))); (· exact rfl); intro K hK; apply Exists.intro; refine And.intro (fun X' hX' => ?_) ?_; (· go_simp; (try go_bits); first | done | exact rfl | exact ⟨rfl, rfl⟩); go_simp; refine hK _ _ ?_; clear hK K)
  (apply wpOrd_class; ((· first | (rw [List.getElem?_toArray, List.getElem?_cons_zero]; done) | (simp only [List.getElem?_toArray, List.getElem?_cons_succ, List.getElem?_cons_zero]; exact rfl))); (· exact rfl); intro K hK; apply Exists.intro; refine And.intro (fun X' hX' => ?_) ?_; (· have hq := LX'.out _ hX'; clear hX'; go_simp; (try go_bits); first | done | exact rfl | exact ⟨rfl, rfl⟩); go_simp; refine hK _ _ ?_; clear hK K)
  iterate 4 (apply wpOrd_class; ((· first | (rw [List.getElem?_toArray, List.getElem?_cons_zero]; done) | (simp only [List.getElem?_toArray, List.getElem?_cons_succ, List.getElem?_cons_zero]; exact rfl))); (· exact rfl); intro K hK; apply Exists.intro; refine And.intro (fun X' hX' => ?_) ?_; (· go_simp; (try go_bits); first | done | exact rfl | exact ⟨rfl, rfl⟩); go_simp; refine hK _ _ ?_; clear hK K)
  (apply wpOrd_class; ((· first | (rw [List.getElem?_toArray, List.getElem?_cons_zero]; done) | (simp only [List.getElem?_toArray, List.getElem?_cons_succ, List.getElem?_cons_zero]; exact rfl))); (· exact rfl); intro K hK; apply Exists.intro; refine And.intro (fun X' hX' => ?_) ?_; (· have hq := LY'.out _ hX'; clear hX'; go_simp; (try go_bits); first | done | exact rfl | exact ⟨rfl, rfl⟩); go_simp; refine hK _ _ ?_; clear hK K)
  (apply wpOrd_comes; ((· first | (rw [List.getElem?_toArray, List.getElem?_cons_zero]; done) | (simp only [List.getElem?_toArray, List.getElem?_cons_succ, List.getElem?_cons_zero]; exact rfl))); intro N hN)
  go_wp2_with (go_at_call 58; (with_reducible refine (HCM.out _).mono ?_); rintro r w6 ⟨rfl, hb6⟩; have H3 := hid (H2.out.turn hb6); clear hb6)
  refine hN _ _ (fun _ => H3.out) ?_
  clear hN N
  (apply wpOrd_class; ((· first | (rw [List.getElem?_toArray, List.getElem?_cons_zero]; done) | (simp only [List.getElem?_toArray, List.getElem?_cons_succ, List.getElem?_cons_zero]; exact rfl))); (· exact rfl); intro K hK; apply Exists.intro; refine And.intro (fun X' hX' => ?_) ?_; (· go_simp; (try go_bits); first | done | exact rfl | exact ⟨rfl, rfl⟩); go_simp; refine hK _ _ ?_; clear hK K)
  refine wpOrd_to (hF1 _ _ (wpSegs_nil ?_))
  clear hF1 F1
  clear H2 LX' LY'
  have LA := LX.out _ H3.out.below
  go_upto_if 28 with (go_at_call 54; (with_reducible refine (HBX.out _).mono ?_); rintro r w7 ⟨rfl, hb6⟩; have H4 := hid (H3.out.turn hb6); clear hb6)
  rcases HE.out with ⟨hb, hT⟩ | ⟨hb, hT⟩
  · have e1 : ((bitN x c : Nat) : Int) = 1 := by omega
    go_wp2_with (go_at_call 57; (with_reducible refine (HJ'.out _ H4.out.below).mono ?_); rintro r w8 ⟨g, rfl, hg, ht, hb8⟩; have H5 := hid (H4.out.turn hb8); have HT := hid (show TreeIn G w8 (.pointer (some ⟨g, 0, none⟩)) T from by rw [hT, hGd]; exact ht.mono fun i _ h => h.imp id (Nat.le_trans H4.out.below.size)); clear hb8 ht hg)
    clear HJ HJ' HE hT hb e1 H4 LA HBX HCM LX LY H3
    have H6 := hid H5.out
    go_loopw [8, 9] (fun tv dv X => ∃ (m g : Nat) (z : Int) (t : Tr), d + m ≤ c ∧ tv = .pointer (some ⟨g, 0, none⟩) ∧ dv = .int .i64 z ∧ z = (d : Int) + m - 1 ∧ Hid (TreeIn G X (.pointer (some ⟨g, 0, none⟩)) t) ∧ Hid (chain k d m t = partT x vx y vy d) ∧ Hid (t.any = k ∧ t.Full) ∧ Hid (St w [] X)) (fun _ dv _ => (intOf dv - d + 1).toNat)
    case atStart => exact ⟨c - d, g, _, T, by omega, rfl, rfl, by omega, HT, HPT, HEA, H5⟩
    case round =>
      clear HT H5 H6 HEA HPT
      obtain ⟨m, g1, z, t, hm, rfl, rfl, hz, HT, HPT, HEA, H5⟩ := hrel
      cases m with
      | zero =>
        have e1 : ¬ (d : Int) ≤ z := by omega
        go_wp2_with fail
        go_ret
        exact ⟨g1, rfl, by have h1 := HT.out; have h2 := HPT.out; rw [hGd] at h1; rw [← h2]; exact h1, H5.out.below⟩
      | succ m =>
        obtain ⟨e, he⟩ : ∃ e, e = d + m := ⟨_, rfl⟩
        obtain rfl : z = (e : Int) := by omega
        have e1 : (d : Int) ≤ (e : Int) := by omega
        have e0 : (0 : Int) ≤ (e : Int) := by omega
        have e2 : (e : Int) < 256 := by have := HC256.out; omega
        have HA := hid (any_now HT.out HEA.out.2)
        rw [HEA.out.1] at HA
        have HBI := hid (fun X => bit_in k e X HKL.out (by omega))
        have HE := hid he
        have HZ := hid hz
        have HM := hid hm
        clear he hz hm
        by_cases hb0 : bitN k e = 0
        · have e3 : ((bitN k e : Nat) : Int) = 0 := by omega
          have HC := hid (show chain k d m (.node e t .nil) = partT x vx y vy d from by rw [← HPT.out, chain_s, ← HE.out, if_pos hb0])
          have HS := hid (show (Tr.node e t .nil).any = k ∧ (Tr.node e t .nil).Full from HEA.out.1 ▸ side_any (d := e) HEA.out.2 true)
          have HJ := hid (fun X (hX : Below w.heap.size w X) (ht : TreeIn G X (.pointer (some ⟨g1, 0, none⟩)) t) => join_now (d := e) (hG.below hX hG.two) ht (show TreeIn G X (.pointer none) .nil from rfl) (by omega))
          clear hb0
          go_wp2_with (first | (go_at_call 66; (with_reducible refine HA.out.mono ?_); rintro r w9 ⟨rfl, hb9⟩; have H6 := hid (H5.out.turn hb9); have HT6 := hid (HT.out.below hb9); clear hb9) | (go_at_call 54; (with_reducible refine (HBI.out _).mono ?_); rintro r w9 ⟨rfl, hb9⟩; have H7 := hid (H6.out.turn hb9); have HT7 := hid (HT6.out.below hb9); clear hb9) | (go_at_call 57; (with_reducible refine (HJ.out _ H7.out.below HT7.out).mono ?_); rintro r w9 ⟨g2, rfl, hg, ht, hb9⟩; have H8 := hid (H7.out.turn hb9); have HT8 := hid (ht.mono (G := G) fun i _ h => h.elim id fun h => by rw [hGd]; exact .inr (Nat.le_trans H7.out.below.size h)); clear hb9 ht hg))
          go_roundw
          case rel => exact ⟨m, g2, _, _, by have := HM.out; omega, rfl, rfl, by have := HE.out; omega, HT8, HC, HS, H8⟩
          case measure => have := HE.out; simp [intOf]; omega
        · have e3 : ¬ ((bitN k e : Nat) : Int) = 0 := by omega
          have HC := hid (show chain k d m (.node e .nil t) = partT x vx y vy d from by rw [← HPT.out, chain_s, ← HE.out, if_neg hb0])
          have HS := hid (show (Tr.node e .nil t).any = k ∧ (Tr.node e .nil t).Full from HEA.out.1 ▸ side_any (d := e) HEA.out.2 false)
          have HJ := hid (fun X (hX : Below w.heap.size w X) (ht : TreeIn G X (.pointer (some ⟨g1, 0, none⟩)) t) => join_now (d := e) (hG.below hX hG.two) (show TreeIn G X (.pointer none) .nil from rfl) ht (by omega))
          clear hb0
          go_wp2_with (first | (go_at_call 66; (with_reducible refine HA.out.mono ?_); rintro r w9 ⟨rfl, hb9⟩; have H6 := hid (H5.out.turn hb9); have HT6 := hid (HT.out.below hb9); clear hb9) | (go_at_call 54; (with_reducible refine (HBI.out _).mono ?_); rintro r w9 ⟨rfl, hb9⟩; have H7 := hid (H6.out.turn hb9); have HT7 := hid (HT6.out.below hb9); clear hb9) | (go_at_call 57; (with_reducible refine (HJ.out _ H7.out.below HT7.out).mono ?_); rintro r w9 ⟨g2, rfl, hg, ht, hb9⟩; have H8 := hid (H7.out.turn hb9); have HT8 := hid (ht.mono (G := G) fun i _ h => h.elim id fun h => by rw [hGd]; exact .inr (Nat.le_trans H7.out.below.size h)); clear hb9 ht hg))
          go_roundw
          case rel => exact ⟨m, g2, _, _, by have := HM.out; omega, rfl, rfl, by have := HE.out; omega, HT8, HC, HS, H8⟩
          case measure => have := HE.out; simp [intOf]; omega
  · have e1 : ¬ ((bitN x c : Nat) : Int) = 1 := by omega
    go_wp2_with (go_at_call 57; (with_reducible refine (HJ.out _ H4.out.below).mono ?_); rintro r w8 ⟨g, rfl, hg, ht, hb8⟩; have H5 := hid (H4.out.turn hb8); have HT := hid (show TreeIn G w8 (.pointer (some ⟨g, 0, none⟩)) T from by rw [hT, hGd]; exact ht.mono fun i _ h => h.imp id (Nat.le_trans H4.out.below.size)); clear hb8 ht hg)
    clear HJ HJ' HE hT hb e1 H4 LA HBX HCM LX LY H3
    have H6 := hid H5.out
    go_loopw [8, 9] (fun tv dv X => ∃ (m g : Nat) (z : Int) (t : Tr), d + m ≤ c ∧ tv = .pointer (some ⟨g, 0, none⟩) ∧ dv = .int .i64 z ∧ z = (d : Int) + m - 1 ∧ Hid (TreeIn G X (.pointer (some ⟨g, 0, none⟩)) t) ∧ Hid (chain k d m t = partT x vx y vy d) ∧ Hid (t.any = k ∧ t.Full) ∧ Hid (St w [] X)) (fun _ dv _ => (intOf dv - d + 1).toNat)
    case atStart => exact ⟨c - d, g, _, T, by omega, rfl, rfl, by omega, HT, HPT, HEA, H5⟩
    case round =>
      clear HT H5 H6 HEA HPT
      obtain ⟨m, g1, z, t, hm, rfl, rfl, hz, HT, HPT, HEA, H5⟩ := hrel
      cases m with
      | zero =>
        have e1 : ¬ (d : Int) ≤ z := by omega
        go_wp2_with fail
        go_ret
        exact ⟨g1, rfl, by have h1 := HT.out; have h2 := HPT.out; rw [hGd] at h1; rw [← h2]; exact h1, H5.out.below⟩
      | succ m =>
        obtain ⟨e, he⟩ : ∃ e, e = d + m := ⟨_, rfl⟩
        obtain rfl : z = (e : Int) := by omega
        have e1 : (d : Int) ≤ (e : Int) := by omega
        have e0 : (0 : Int) ≤ (e : Int) := by omega
        have e2 : (e : Int) < 256 := by have := HC256.out; omega
        have HA := hid (any_now HT.out HEA.out.2)
        rw [HEA.out.1] at HA
        have HBI := hid (fun X => bit_in k e X HKL.out (by omega))
        have HE := hid he
        have HZ := hid hz
        have HM := hid hm
        clear he hz hm
        by_cases hb0 : bitN k e = 0
        · have e3 : ((bitN k e : Nat) : Int) = 0 := by omega
          have HC := hid (show chain k d m (.node e t .nil) = partT x vx y vy d from by rw [← HPT.out, chain_s, ← HE.out, if_pos hb0])
          have HS := hid (show (Tr.node e t .nil).any = k ∧ (Tr.node e t .nil).Full from HEA.out.1 ▸ side_any (d := e) HEA.out.2 true)
          have HJ := hid (fun X (hX : Below w.heap.size w X) (ht : TreeIn G X (.pointer (some ⟨g1, 0, none⟩)) t) => join_now (d := e) (hG.below hX hG.two) ht (show TreeIn G X (.pointer none) .nil from rfl) (by omega))
          clear hb0
          go_wp2_with (first | (go_at_call 66; (with_reducible refine HA.out.mono ?_); rintro r w9 ⟨rfl, hb9⟩; have H6 := hid (H5.out.turn hb9); have HT6 := hid (HT.out.below hb9); clear hb9) | (go_at_call 54; (with_reducible refine (HBI.out _).mono ?_); rintro r w9 ⟨rfl, hb9⟩; have H7 := hid (H6.out.turn hb9); have HT7 := hid (HT6.out.below hb9); clear hb9) | (go_at_call 57; (with_reducible refine (HJ.out _ H7.out.below HT7.out).mono ?_); rintro r w9 ⟨g2, rfl, hg, ht, hb9⟩; have H8 := hid (H7.out.turn hb9); have HT8 := hid (ht.mono (G := G) fun i _ h => h.elim id fun h => by rw [hGd]; exact .inr (Nat.le_trans H7.out.below.size h)); clear hb9 ht hg))
          go_roundw
          case rel => exact ⟨m, g2, _, _, by have := HM.out; omega, rfl, rfl, by have := HE.out; omega, HT8, HC, HS, H8⟩
          case measure => have := HE.out; simp [intOf]; omega
        · have e3 : ¬ ((bitN k e : Nat) : Int) = 0 := by omega
          have HC := hid (show chain k d m (.node e .nil t) = partT x vx y vy d from by rw [← HPT.out, chain_s, ← HE.out, if_neg hb0])
          have HS := hid (show (Tr.node e .nil t).any = k ∧ (Tr.node e .nil t).Full from HEA.out.1 ▸ side_any (d := e) HEA.out.2 false)
          have HJ := hid (fun X (hX : Below w.heap.size w X) (ht : TreeIn G X (.pointer (some ⟨g1, 0, none⟩)) t) => join_now (d := e) (hG.below hX hG.two) (show TreeIn G X (.pointer none) .nil from rfl) ht (by omega))
          clear hb0
          go_wp2_with (first | (go_at_call 66; (with_reducible refine HA.out.mono ?_); rintro r w9 ⟨rfl, hb9⟩; have H6 := hid (H5.out.turn hb9); have HT6 := hid (HT.out.below hb9); clear hb9) | (go_at_call 54; (with_reducible refine (HBI.out _).mono ?_); rintro r w9 ⟨rfl, hb9⟩; have H7 := hid (H6.out.turn hb9); have HT7 := hid (HT6.out.below hb9); clear hb9) | (go_at_call 57; (with_reducible refine (HJ.out _ H7.out.below HT7.out).mono ?_); rintro r w9 ⟨g2, rfl, hg, ht, hb9⟩; have H8 := hid (H7.out.turn hb9); have HT8 := hid (ht.mono (G := G) fun i _ h => h.elim id fun h => by rw [hGd]; exact .inr (Nat.le_trans H7.out.below.size h)); clear hb9 ht hg))
          go_roundw
          case rel => exact ⟨m, g2, _, _, by have := HM.out; omega, rfl, rfl, by have := HE.out; omega, HT8, HC, HS, H8⟩
          case measure => have := HE.out; simp [intOf]; omega
end
end Go.Proofs.YtnakbdgoaepehaaDoor
/- A leaf more in a tree. -/
namespace Go.Proofs.YtnakbdgoaepehaaDoor
open Go.RowKit Go.Cu
theorem guardKey : Tryd.prog.eqGuardType Tryd.prog.depth 24 = false := by kernel_rfl
theorem cellsK : Tryd.prog.cellsOf 5 = 1 := by kernel_rfl
theorem zeroTwo (W : World) : (zeroValue 73).run Tryd.prog W = .ok (.agg #[.pointer none, .pointer none]) W := by kernel_rfl
@[go_sem ↓] theorem eqktKEY (a : Act) (dst : Option Tmp) (x y : Operand) (t' ty : TypeId) (pos : String) (after : Array Edge) (guard : Option (Nat × Bool)) :
      execOp a.eval { dst, op := .binOp .eql 24 x y t', type := ty, pos, after, guard } = cmpK .eql 24 x y (a.eval x) (a.eval y) := rfl
section
variable {w : World} {lk lv : List UInt8}
theorem leafK {g : Nat} {k x : List UInt8} {X : World} (hk : k.length = 32) (hx : x.length = 32) (hc : X.heap[g]? = some (.cells (leafC k x) 30 (0, 0))) : (loadK 30 (.pointer (some ⟨g, 0, none⟩))).run Tryd.prog X = .ok (.value (.agg (leafC k x))) X :=
  run_loadK (P := Tryd.prog) (off := 0) (vs := leafC k x) hc Tryd.underlying30 rfl sizeLeaf (leafC_size hk hx) (fun j hj => by rw [Nat.zero_add])
theorem leafKey {g : Nat} {k x : List UInt8} {X : World} (hk : k.length = 32) (hc : X.heap[g]? = some (.cells (leafC k x) 30 (0, 0))) : (loadK 24 (.pointer (some ⟨g, 0, none⟩))).run Tryd.prog X = .ok (.value (.agg (bv k))) X :=
  run_loadK (P := Tryd.prog) (off := 0) (vs := bv k) hc Tryd.underlying24 rfl size24 (by rw [bv_size]; exact hk) (leafC_key)
/-- What put answers. -/
def PutQ (F : Nat → Prop) (w : World) (t : Tr) (r : Ending) (w' : World) : Prop := ∃ p, r = .returned (.pointer p) ∧ TreeIn (fun h => F h ∨ w.heap.size ≤ h) w' (.pointer p) t ∧ Below w.heap.size w w'
set_option maxRecDepth 20000 in
set_option maxHeartbeats 4000000 in
theorem put_nil (hG : Glob w) {F : Nat → Prop} (hlk : lk.length = 32) (hlv : lv.length = 32) {d : Nat} : Calls Tryd.prog 32 #[.pointer none, .agg (leafC lk lv), .int .i64 d] w (PutQ F w (.leaf lk lv)) := by
  have HO := hid (fun X (hX : Below w.heap.size w X) => one_now (w := X) (hG.below hX hG.two) hlk hlv)
  have LF := hid (fun (g : Nat) (X : World) (hc : X.heap[g]? = some (.cells (leafC lk lv) 30 (0, 0))) => leafK hlk hlv hc)
  clear hG hlk hlv
  go_enter Tryd.func32, Tryd.ntmps32
  go_wp2_with (first | (refine wpList_box rfl 30 _ rfl (.agg (leafC lk lv)) rfl ?_; intro gl W1 h1 hl1 hg1 hW1; have H1 := hid ((St.start w).newBlk hW1 hg1 h1); have LA := LF.out _ _ H1.out.blk; clear h1 hl1 hg1 hW1) | (go_at_call 55; (with_reducible refine (HO.out _ H1.out.below).mono ?_); rintro r w8 ⟨g, rfl, hg, ht, hb8⟩; have H2 := hid (H1.out.turn hb8); have HT := hid (ht.mono (G := fun h => F h ∨ w.heap.size ≤ h) fun i _ h => .inr (Nat.le_trans H1.out.below.size h)); clear ht hg hb8))
  go_ret
  exact ⟨_, rfl, HT.out, H2.out.below⟩
set_option maxRecDepth 20000 in
set_option maxHeartbeats 4000000 in
theorem put_same (hG : Glob w) {F : Nat → Prop} {v : Value} {x : List UInt8} (ht : TreeIn F w v (.leaf lk x)) (hlk : lk.length = 32) (hlv : lv.length = 32) {d : Nat} : Calls Tryd.prog 32 #[v, .agg (leafC lk lv), .int .i64 d] w (PutQ F w (.leaf lk lv)) := by
  obtain ⟨ga, na, rfl, hga, hx, hvx, hca⟩ := ht.leafAt
  have HO := hid (fun X (hX : Below w.heap.size w X) => one_now (w := X) (hG.below hX hG.two) hlk hlv)
  have LF := hid (fun (g : Nat) (X : World) (hc : X.heap[g]? = some (.cells (leafC lk lv) 30 (0, 0))) => leafK hlk hlv hc)
  have LK := hid (fun (g : Nat) (X : World) (hc : X.heap[g]? = some (.cells (leafC lk lv) 30 (0, 0))) => leafKey hlk hc)
  have LX := hid (fun X (hX : Below w.heap.size w X) => leaf_key hx hvx hca hX)
  have C6 := hid (fun X (hX : Below w.heap.size w X) => tree_cell (hca X hX) (treeC_split (leafC_size hx hvx)) rfl)
  have CM := fun (x y : Operand) (W : World) => (run_cmpK_eql (P := Tryd.prog) guardKey Tryd.underlying24 be5 cellsK hlk hlk x y W).trans (show _ = .ok (.value (.bool true)) W by simp)
  clear hG hlk hlv hca ht hvx hx hga
  go_enter Tryd.func32, Tryd.ntmps32
  go_wp2_with (refine wpList_box rfl 30 _ rfl (.agg (leafC lk lv)) rfl ?_; intro gl W1 h1 hl1 hg1 hW1; have H0 := hid (show St w [Blk gl (leafC lk lv) 30] W1 from (St.start w).newBlk hW1 hg1 h1); clear h1 hl1 hg1 hW1)
  have HQ := hid (fun (X : World) (hX : St w [Blk gl (leafC lk lv) 30] X) => And.intro (C6.out X hX.below) (And.intro (LK.out _ _ hX.blk) (LX.out X hX.below)))
  refine wp_region_segs [.ord [(0, 1), (1, 1), (2, 1), (3, 1), (4, 1), (5, 1), (6, 1), (7, 1), (8, 1), (9, 1), (10, 1), (11, 1), (12, 1), (13, 1), (14, 1), (15, 1)]] (fun X => St w [Blk gl (leafC lk lv) 30] X) (by kernel_rfl) (by kernel_rfl) (fun d _ c _ _ h => by cases d <;> exact h) (H0.out.turn (Below.drew (Below.refl _ _))) (fun X hXe hX => ?_)
  have H1 := H0.out.turn (Below.drew (Below.refl _ _))
  rw [← hXe] at H1
  replace H1 := hid H1
  clear hXe
  refine wpSegs_ord fun F1 hF1 => ?_
  clear hX H0
  iterate 16 (apply wpOrd_class; ((· first | (rw [List.getElem?_toArray, List.getElem?_cons_zero]; done) | (simp only [List.getElem?_toArray, List.getElem?_cons_succ, List.getElem?_cons_zero]; exact rfl))); (· exact rfl); intro K hK; apply Exists.intro; refine And.intro (fun X' hX' => ?_) ?_; (· obtain ⟨hq1, hq2, hq3⟩ := HQ.out _ hX'; clear hX'; go_simp; (try go_bits); first | done | exact rfl | exact ⟨rfl, rfl⟩); go_simp; refine hK _ _ ?_; clear hK K)
  refine wpOrd_to (hF1 _ _ (wpSegs_nil ?_))
  clear hF1 F1
  have LA := LF.out _ _ H1.out.blk
  have C66 := C6.out _ H1.out.below
  go_wp2_with (first | (go_at_call 55; (with_reducible refine (HO.out _ H1.out.below).mono ?_); rintro r w8 ⟨g, rfl, hg, ht, hb8⟩; have H2 := hid (H1.out.turn hb8); have HT := hid (ht.mono (G := fun h => F h ∨ w.heap.size ≤ h) fun i _ h => .inr (Nat.le_trans H1.out.below.size h)); clear ht hg hb8))
  go_ret
  exact ⟨_, rfl, HT.out, H2.out.below⟩
set_option maxRecDepth 20000 in
set_option maxHeartbeats 4000000 in
theorem put_part (hG : Glob w) {F : Nat → Prop} {v : Value} {k x : List UInt8} (ht : TreeIn F w v (.leaf k x)) (hlk : lk.length = 32) (hlv : lv.length = 32) {d : Nat} (hne : k ≠ lk) (hd : d ≤ cm k lk) : Calls Tryd.prog 32 #[v, .agg (leafC lk lv), .int .i64 d] w (PutQ F w (partT k x lk lv d)) := by
  obtain ⟨ga, na, rfl, hga, hx, hvx, hca⟩ := ht.leafAt
  have HO := hid (fun X (hX : Below w.heap.size w X) => one_now (w := X) (hG.below hX hG.two) hlk hlv)
  have HP := hid (fun (X : World) (g : Nat) (hX : Below w.heap.size w X) (hb : TreeIn (fun h => F h ∨ w.heap.size ≤ h) X (.pointer (some ⟨g, 0, none⟩)) (.leaf lk lv)) => part_now (w := X) (F := fun h => F h ∨ w.heap.size ≤ h) (hG.below hX hG.two) ((ht.below hX).mono fun i _ h => .inl h) hb hne hd)
  have LF := hid (fun (g : Nat) (X : World) (hc : X.heap[g]? = some (.cells (leafC lk lv) 30 (0, 0))) => leafK hlk hlv hc)
  have LK := hid (fun (g : Nat) (X : World) (hc : X.heap[g]? = some (.cells (leafC lk lv) 30 (0, 0))) => leafKey hlk hc)
  have LX := hid (fun X (hX : Below w.heap.size w X) => leaf_key hx hvx hca hX)
  have C6 := hid (fun X (hX : Below w.heap.size w X) => tree_cell (hca X hX) (treeC_split (leafC_size hx hvx)) rfl)
  have CM := fun (x y : Operand) (W : World) => (run_cmpK_eql (P := Tryd.prog) guardKey Tryd.underlying24 be5 cellsK hx hlk x y W).trans (show _ = .ok (.value (.bool false)) W by simp [hne])
  clear hG hlk hlv hca ht hvx hx hga hne hd
  go_enter Tryd.func32, Tryd.ntmps32
  go_wp2_with (refine wpList_box rfl 30 _ rfl (.agg (leafC lk lv)) rfl ?_; intro gl W1 h1 hl1 hg1 hW1; have H0 := hid (show St w [Blk gl (leafC lk lv) 30] W1 from (St.start w).newBlk hW1 hg1 h1); clear h1 hl1 hg1 hW1)
  have HQ := hid (fun (X : World) (hX : St w [Blk gl (leafC lk lv) 30] X) => And.intro (C6.out X hX.below) (And.intro (LK.out _ _ hX.blk) (LX.out X hX.below)))
  refine wp_region_segs [.ord [(0, 1), (1, 1), (2, 1), (3, 1), (4, 1), (5, 1), (6, 1), (7, 1), (8, 1), (9, 1), (10, 1), (11, 1), (12, 1), (13, 1), (14, 1), (15, 1)]] (fun X => St w [Blk gl (leafC lk lv) 30] X) (by kernel_rfl) (by kernel_rfl) (fun d _ c _ _ h => by cases d <;> exact h) (H0.out.turn (Below.drew (Below.refl _ _))) (fun X hXe hX => ?_)
  have H1 := H0.out.turn (Below.drew (Below.refl _ _))
  rw [← hXe] at H1
  replace H1 := hid H1
  clear hXe
  refine wpSegs_ord fun F1 hF1 => ?_
  clear hX H0
  iterate 16 (apply wpOrd_class; ((· first | (rw [List.getElem?_toArray, List.getElem?_cons_zero]; done) | (simp only [List.getElem?_toArray, List.getElem?_cons_succ, List.getElem?_cons_zero]; exact rfl))); (· exact rfl); intro K hK; apply Exists.intro; refine And.intro (fun X' hX' => ?_) ?_; (· obtain ⟨hq1, hq2, hq3⟩ := HQ.out _ hX'; clear hX'; go_simp; (try go_bits); first | done | exact rfl | exact ⟨rfl, rfl⟩); go_simp; refine hK _ _ ?_; clear hK K)
  refine wpOrd_to (hF1 _ _ (wpSegs_nil ?_))
  clear hF1 F1
  have LA := LF.out _ _ H1.out.blk
  have C66 := C6.out _ H1.out.below
  go_wp2_with (first | (go_at_call 55; (with_reducible refine (HO.out _ H1.out.below).mono ?_); rintro r w8 ⟨g, rfl, hg, ht, hb8⟩; have H2 := hid (H1.out.turn hb8); have HT := hid (ht.mono (G := fun h => F h ∨ w.heap.size ≤ h) fun i _ h => .inr (Nat.le_trans H1.out.below.size h)); clear ht hg hb8) | (go_at_call 56; (with_reducible refine (HP.out _ _ H2.out.below HT.out).mono ?_); rintro r w9 ⟨g, rfl, ht, hb9⟩; have H3 := hid (H2.out.turn hb9); have HT3 := hid (ht.mono (G := fun h => F h ∨ w.heap.size ≤ h) fun i _ h => h.elim id fun h => .inr (Nat.le_trans H2.out.below.size h)); clear ht hb9))
  go_ret
  exact ⟨_, rfl, HT3.out, H3.out.below⟩
end
end Go.Proofs.YtnakbdgoaepehaaDoor
