/- Part 8 of the texts below this law, put together: what each holds is said at its head. -/
import Derived.Test.YtnakbdgoaepehaaDoorLb7
import Derived.Deep.CutBlock
import Derived.Deep.DeepCutAuto
/- Sums of a log's parts. -/
namespace Go.Cu
open Go Go.RowKit
def nodeL (a b : List UInt8) : List UInt8 := sumL ([1] ++ a ++ b)
def entL (r : List UInt8) : List UInt8 := sumL ([0] ++ r)
def nilL : List UInt8 := sumL []
theorem nodeL_len (a b : List UInt8) : (nodeL a b).length = 32 := sumL_len _
theorem entL_len (r : List UInt8) : (entL r).length = 32 := sumL_len _
abbrev totalL (ss : List (List UInt8)) : List UInt8 := totalP nodeL nilL ss
/-- Sums that lie in memory, read from an address on. -/
def SumsAt (X : World) (A : Option Addr) (ss : List (List UInt8)) : Prop := ss = [] ∨ ∃ g o cs t, A = some ⟨g, o, none⟩ ∧ X.heap[g]? = some (.cells cs t (0, 0)) ∧ ∀ i s, ss[i]? = some s → ∀ j, j < 32 → cs[o + i * 32 + j]? = (bv s)[j]?
section
variable {X Y : World} {A : Option Addr} {ss : List (List UInt8)}
theorem SumsAt.below (h : SumsAt X A ss) (hb : Below X.heap.size X Y) : SumsAt Y A ss := by
  rcases h with h | ⟨g, o, cs, t, hA, hg, h⟩
  · exact .inl h
  · exact .inr ⟨g, o, cs, t, hA, (hb.block g (heap_lt hg)).trans hg, h⟩
theorem SumsAt.take (h : SumsAt X A ss) (k : Nat) : SumsAt X A (ss.take k) := by
  rcases h with h | ⟨g, o, cs, t, hA, hg, h⟩
  · exact .inl (by rw [h]; simp)
  · refine .inr ⟨g, o, cs, t, hA, hg, fun i s hi => h i s ?_⟩
    rw [List.getElem?_take] at hi
    split at hi
    · exact hi
    · cases hi
theorem SumsAt.some (h : SumsAt X A ss) (h0 : ss ≠ []) : ∃ g o cs t, A = .some ⟨g, o, none⟩ ∧ X.heap[g]? = .some (.cells cs t (0, 0)) ∧ ∀ i s, ss[i]? = .some s → ∀ j, j < 32 → cs[o + i * 32 + j]? = (bv s)[j]? := by
  rcases h with h | h
  · exact absurd h h0
  · exact h
theorem SumsAt.drop {g o : Nat} (h : SumsAt X (.some ⟨g, o, none⟩) ss) (k o' : Nat) (ho : o' = o + k * 32) : SumsAt X (.some ⟨g, o', none⟩) (ss.drop k) := by
  subst ho
  rcases h with h | ⟨g', o', cs, t, hA, hg, h⟩
  · exact .inl (by rw [h]; simp)
  · cases hA
    refine .inr ⟨g, _, cs, t, rfl, hg, fun i s hi j hj => ?_⟩
    rw [List.getElem?_drop] at hi
    rw [← h (k + i) s hi j hj]
    congr 1
    rw [Nat.add_mul]
    omega
theorem SumsAt.load {P : Program} {t : TypeId} {d : TypeDesc} (h : SumsAt X A ss) (ha : All32 ss) {i : Nat} {s : List UInt8} (hi : ss[i]? = .some s) (hu : P.underlying t = .some d) (hd : (match d with | .struct _ | .array _ _ => true | _ => false) = true) (hs : (P.info? t).map (·.size) = .some 32) :
    ∃ g o, A = .some ⟨g, o, none⟩ ∧ ∀ p, p = o + i * 32 → (loadK t (.pointer (.some ⟨g, p, none⟩))).run P X = .ok (.value (.agg (bv s))) X := by
  obtain ⟨g, o, cs, t', hA, hg, h⟩ := h.some (fun e => by rw [e] at hi; cases hi)
  have hk := ha s (List.mem_of_getElem? hi)
  refine ⟨g, o, hA, fun p hp => ?_⟩
  subst hp
  exact run_loadK hg hu hd hs ((bv_size s).trans hk) fun j hj => h i s hi j (by rw [bv_size, hk] at hj; exact hj)
theorem sums_row {W0 : World} {L : List Atm} {e n c : Nat} (h : St W0 (Row (.slice A n c) e 32 n (sumsV ss) :: L) X) (ha : All32 ss) : SumsAt X A ss := by
  by_cases h0 : ss = []
  · exact .inl h0
  have hl : ss.length * 32 = n * 32 := (sumsV_len ha).symm.trans h.row.1
  have hp : 0 < ss.length := List.length_pos_iff.2 h0
  rcases h.row.2 with ⟨_, h1⟩ | ⟨g, cap, cur, hv, _, hb, h1, h2, h3, h4⟩
  · omega
  · cases hv
    refine .inr ⟨g, 0, cur, e, rfl, hb, fun i s hi j hj => ?_⟩
    have hin := (List.getElem?_eq_some_iff.1 hi).1
    have h5 := fm_get ss i j s ha.len hi hj
    have h6 : (cur.toList.take (n * 32))[i * 32 + j]? = (bvL s)[j]? := by rw [h4]; exact h5
    rw [List.getElem?_take_of_lt (by omega)] at h6
    rw [Nat.zero_add, ← Array.getElem?_toList, h6, bv_eq, List.getElem?_toArray]
theorem sums_cut {W0 : World} {L : List Atm} {e n c : Nat} (h : St W0 (Row (.slice A n c) e 32 n (sumsV ss) :: L) X) : n ≤ c ∧ c ≤ maxLen := by
  rcases h.row.2 with ⟨hv, h1⟩ | ⟨g, cap, cur, hv, _, hb, h1, h2, h3, h4⟩
  · cases hv; exact ⟨by omega, by unfold maxLen; omega⟩
  · cases hv; exact ⟨h1, h2⟩
end
end Go.Cu
namespace Go.Proofs.YtnakbdgoaepehaaDoor
open Go.RowKit Go.Cu
section
variable {w : World}
set_option maxRecDepth 20000 in
set_option maxHeartbeats 4000000 in
theorem lnode_now (hG : Glob w) {x y : List UInt8} (hx : x.length = 32) (hy : y.length = 32) : Calls Tryd.prog 50 #[.agg (bv x), .agg (bv y)] w fun r w' => r = .returned (.agg (bv (nodeL x y))) ∧ Below w.heap.size w w' := by
  have HX := hid hx
  have HY := hid hy
  have HSH := hid (fun X gx gn ga gb go (hX : St w [Blk gx (#[.slice (some ⟨gn, 0, none⟩) 1 1] ++ #[.slice (some ⟨ga, 0, none⟩) 32 32] ++ #[.slice (some ⟨gb, 0, none⟩) 32 32]) 42, Blk gn (bv [1]) 5, Blk go (bv (List.replicate 32 0)) 23, Blk gb (bv y) 23, Blk ga (bv x) 23] X) => show Calls Tryd.prog 16 #[.slice (some ⟨gx, 0, none⟩) 3 3] X fun r w' => r = .returned (.agg (bv (nodeL x y))) ∧ St w [Blk go (bv (List.replicate 32 0)) 23, Blk gb (bv y) 23, Blk ga (bv x) 23] w' from by
    have h1 := sha_st hX hG (c := 3) (parts3 (part_blk (r := [1]) rfl (by decide)) (Part.cons (Part.cons (Part.cons (part_blk (r := x) hx (by decide))))) (Part.cons (Part.cons (part_blk (r := y) hy (by decide))))) (by simp) (by simp [hx, hy])
    rw [show [[1], x, y].flatten = [1] ++ x ++ y by simp] at h1
    exact h1.mono fun e w' h => ⟨h.1, h.2.drop.drop⟩)
  obtain ⟨sm, hsm⟩ : ∃ s, s = nodeL x y := ⟨_, rfl⟩
  have HZ := hid (show (bv sm).size = 32 by rw [bv_size, hsm]; exact nodeL_len _ _)
  rw [← hsm] at HSH ⊢
  have HZ32 := hid zero32_size
  clear hG hx hy hsm
  go_enter Tryd.func50, Tryd.ntmps50
  go_wp2_with (first | (refine wpList_box rfl 23 _ rfl (.agg (bv x)) rfl ?_; intro ga W1 h1 hl1 hg1 hW1; have H1 := hid ((St.start w).newBlk hW1 hg1 h1); clear h1 hl1 hg1 hW1) | (refine wpList_box rfl 23 _ rfl (.agg (bv y)) rfl ?_; intro gb W2 h1 hl1 hg1 hW1; have H2 := hid (H1.out.newBlk hW1 hg1 h1); clear h1 hl1 hg1 hW1) | (refine wpList_alloc 23 rfl rfl (.agg (bv (List.replicate 32 0))) zero54s ?_; intro go W3 h1 hl1 hg1 hW1; have H3 := hid (H2.out.newBlk hW1 hg1 h1); clear h1 hl1 hg1 hW1))
  refine wp_region_segs [.ord [(1, 1), (2, 1), (0, 2), (3, 2), (4, 2), (5, 2)]] (fun X => St w [Blk gb (bv y) 23, Blk ga (bv x) 23] X) (by kernel_rfl) (by kernel_rfl) (fun d _ c _ _ h => by cases d <;> exact h) (H3.out.drop.turn (Below.drew (Below.refl _ _))) (fun X hXe hX => ?_)
  have H4 := H3.out.turn (Below.drew (Below.refl _ _))
  rw [← hXe] at H4
  replace H4 := hid H4
  clear hXe
  refine wpSegs_ord fun F1 hF1 => ?_
  clear hX H1 H2 H3
  iterate 2 (apply wpOrd_class; ((· first | (rw [List.getElem?_toArray, List.getElem?_cons_zero]; done) | (simp only [List.getElem?_toArray, List.getElem?_cons_succ, List.getElem?_cons_zero]; exact rfl))); (· exact rfl); intro K hK; apply Exists.intro; refine And.intro (fun X' hX' => ?_) ?_; (· go_simp; (try go_bits); first | done | exact rfl | exact ⟨rfl, rfl⟩); go_simp; refine hK _ _ ?_; clear hK K)
  (apply wpOrd_comes; ((· first | (rw [List.getElem?_toArray, List.getElem?_cons_zero]; done) | (simp only [List.getElem?_toArray, List.getElem?_cons_succ, List.getElem?_cons_zero]; exact rfl))); intro N hN)
  go_wp2_with (refine wpList_buildSlice1 _ rfl (.int .u8 1) (by simp [Act.eval]) rfl Tryd.underlying42 zero5s size5s (by decide) (by decide) rfl ?_; intro gn X4 hS hgs hges hX1b; have H5 := hid (show St w [Blk gn (bv [1]) 5, Blk go (bv (List.replicate 32 0)) 23, Blk gb (bv y) 23, Blk ga (bv x) 23] X4 from H4.out.newBlk hX1b hges hS); clear hS hgs hges hX1b)
  refine hN _ _ (fun _ => H5.out.drop.drop) ?_
  clear hN N
  (apply wpOrd_comes; ((· first | (rw [List.getElem?_toArray, List.getElem?_cons_zero]; done) | (simp only [List.getElem?_toArray, List.getElem?_cons_succ, List.getElem?_cons_zero]; exact rfl))); intro N hN)
  go_wp2_with (refine wpList_buildSlice3 _ rfl (.slice (some ⟨gn, 0, none⟩) 1 1) (.slice (some ⟨ga, 0, none⟩) 32 32) (.slice (some ⟨gb, 0, none⟩) 32 32) (by simp [Act.eval]) rfl Tryd.underlying80 zeroBYs sizeBYs (by decide) (by decide) rfl rfl rfl ?_; intro gx X5 hS hgs hges hX1b; have H6 := hid (show St w [Blk gx (#[.slice (some ⟨gn, 0, none⟩) 1 1] ++ #[.slice (some ⟨ga, 0, none⟩) 32 32] ++ #[.slice (some ⟨gb, 0, none⟩) 32 32]) 42, Blk gn (bv [1]) 5, Blk go (bv (List.replicate 32 0)) 23, Blk gb (bv y) 23, Blk ga (bv x) 23] X5 from H5.out.newBlk hX1b hges hS); clear hS hgs hges hX1b)
  refine hN _ _ (fun _ => H6.out.drop.drop.drop) ?_
  clear hN N
  (apply wpOrd_comes; ((· first | (rw [List.getElem?_toArray, List.getElem?_cons_zero]; done) | (simp only [List.getElem?_toArray, List.getElem?_cons_succ, List.getElem?_cons_zero]; exact rfl))); intro N hN)
  go_wp2_with (go_at_call 16; (with_reducible refine (HSH.out _ _ _ _ _ _ H6.out).mono ?_); rintro r w6 ⟨rfl, hs6⟩; have H7 := hid hs6; clear hs6)
  refine hN _ _ (fun _ => H7.out.drop) ?_
  clear hN N
  (apply wpOrd_comes; ((· first | (rw [List.getElem?_toArray, List.getElem?_cons_zero]; done) | (simp only [List.getElem?_toArray, List.getElem?_cons_succ, List.getElem?_cons_zero]; exact rfl))); intro N hN)
  go_wp2_with (refine wpList_store_box 23 _ _ rfl go rfl rfl (bv sm) rfl 32 size54s HZ.out (bv_one _) 23 _ H7.out.blk HZ32.out ?_; intro W7 hB7 hT7 hs7; have H8 := hid (H7.out.put hB7 hT7))
  refine hN _ _ (fun _ => H8.out.drop) ?_
  clear hN N
  refine wpOrd_to (hF1 _ _ (wpSegs_nil ?_))
  clear hF1 F1
  go_wp2_with fail
  exact bodyPost_ret (results_cell rfl _ _ _ go 23 (bv _) (0, 0) rfl hB7 Tryd.underlying23 (by rw [HZ.out]; exact size54s)) rfl ⟨rfl, H8.out.below⟩
set_option maxRecDepth 20000 in
set_option maxHeartbeats 4000000 in
theorem entry_now (hG : Glob w) {B : Option Addr} {n c : Nat} {r : List UInt8} (hn : n = r.length) (hc : n ≤ c) (hm : c ≤ maxLen) (hb : BytesIn w B r) (hl : r.length ≤ 1000) : Calls Tryd.prog 44 #[.slice B n c] w fun x w' => x = .returned (.agg (bv (entL r))) ∧ Below w.heap.size w w' := by
  have HSH := hid (fun X gx gn go (hX : St w [Blk gx (#[.slice (some ⟨gn, 0, none⟩) 1 1] ++ #[.slice B n c]) 42, Blk gn (bv [0]) 5, Blk go (bv (List.replicate 32 0)) 23] X) => show Calls Tryd.prog 16 #[.slice (some ⟨gx, 0, none⟩) 2 2] X fun x w' => x = .returned (.agg (bv (entL r))) ∧ Below X.heap.size X w' from by
    have h1 := sha_now (c := 2) (m := 2) (hG.below hX.below hG.two) (ps := [[0], r]) rfl (parts2_now hX.blk (Go.Cu.part_now (b := [0]) rfl (by decide) (by decide) (blk_bytes hX.at2)) (Go.Cu.part_now hn hc hm (hb.below hX.below))) (by simp) (by simp; omega)
    rw [show [[0], r].flatten = [0] ++ r by simp] at h1
    exact h1)
  obtain ⟨sm, hsm⟩ : ∃ s, s = entL r := ⟨_, rfl⟩
  have HZ := hid (show (bv sm).size = 32 by rw [bv_size, hsm]; exact entL_len _)
  rw [← hsm] at HSH ⊢
  have HZ32 := hid zero32_size
  clear hG hn hc hm hb hl hsm
  go_enter Tryd.func44, Tryd.ntmps44
  go_wp2_with (first | (refine wpList_alloc 23 rfl rfl (.agg (bv (List.replicate 32 0))) zero54s ?_; intro go W1 h1 hl1 hg1 hW1; have H1 := hid ((St.start w).newBlk hW1 hg1 h1); clear h1 hl1 hg1 hW1) | (refine wpList_buildSlice1 _ rfl (.int .u8 0) (by simp [Act.eval]) rfl Tryd.underlying42 zero5s size5s (by decide) (by decide) rfl ?_; intro gn X4 hS hgs hges hX1b; have H2 := hid (show St w [Blk gn (bv [0]) 5, Blk go (bv (List.replicate 32 0)) 23] X4 from H1.out.newBlk hX1b hges hS); clear hS hgs hges hX1b) | (refine wpList_buildSlice2 _ rfl (.slice (some ⟨gn, 0, none⟩) 1 1) (.slice B n c) (by simp [Act.eval, Act.put]) rfl Tryd.underlying80 zeroBYs sizeBYs (by decide) (by decide) rfl rfl ?_; intro gx X4 hS hgs hges hX1b; have H3 := hid (show St w [Blk gx (#[.slice (some ⟨gn, 0, none⟩) 1 1] ++ #[.slice B n c]) 42, Blk gn (bv [0]) 5, Blk go (bv (List.replicate 32 0)) 23] X4 from H2.out.newBlk hX1b hges hS); clear hS hgs hges hX1b) | (go_at_call 16; (with_reducible refine (HSH.out _ _ _ _ H3.out).mono ?_); rintro r w3 ⟨rfl, hs3⟩; have H5 := hid ((H3.out.turn hs3).drop.drop); clear hs3) | (refine wpList_store_box 23 _ _ rfl go rfl rfl (bv sm) rfl 32 size54s HZ.out (bv_one _) 23 _ H5.out.blk HZ32.out ?_; intro W6 hB6 hT6 hs6; have H7 := hid (H5.out.put hB6 hT6)))
  exact bodyPost_ret (results_cell rfl _ _ _ go 23 (bv _) (0, 0) rfl hB6 Tryd.underlying23 (by rw [HZ.out]; exact size54s)) rfl ⟨rfl, H7.out.below⟩
theorem half_now {n : Nat} (h1 : 1 ≤ n) (h8 : n ≤ 8) : Calls Tryd.prog 47 #[.int .i64 n] w fun x w' => w = w' ∧ x = .returned (.int .i64 (halfP n)) := by
  have HI := hid (show halfF n n 1 = halfP n from rfl)
  have HB := hid (And.intro h1 h8)
  have n8 : (n : Int) ≤ 8 := by omega
  have n1 : (1 : Int) ≤ (n : Int) := by omega
  clear h1 h8
  go_enter Tryd.func47, Tryd.ntmps47
  go_wp2_with fail
  go_loopw [3] (fun kv X => w = X ∧ ∃ (f k : Nat), kv = .int .i64 k ∧ 1 ≤ k ∧ k ≤ n ∧ n ≤ k + f ∧ Hid (halfF n f k = halfP n)) (fun kv _ => n - (intOf kv).toNat)
  case atStart => exact ⟨rfl, n, 1, rfl, by omega, HB.out.1, by omega, HI⟩
  case round =>
    clear HI
    obtain ⟨rfl, f, k, rfl, hk1, hkn, hf, HI⟩ := hrel
    have k1 : (1 : Int) ≤ (k : Int) := by omega
    have k8 : (k : Int) ≤ 8 := by omega
    have HM := hid (And.intro hk1 (And.intro hkn hf))
    by_cases hlt : k + k < n
    · have e1 : (k : Int) < (n : Int) - (k : Int) := by omega
      have HLT := hid hlt
      clear hk1 hkn hf hlt
      go_wp2_with fail
      go_roundw
      case rel => exact ⟨trivial, f - 1, 2 * k, by go_num, by have := HM.out; omega, by have := HLT.out; omega, by have := HM.out; have := HLT.out; omega, hid (by
        have h := HI.out
        have hf : f = (f - 1) + 1 := by have := HM.out; have := HLT.out; omega
        rw [hf] at h
        unfold halfF at h
        rw [if_pos HLT.out] at h
        exact h)⟩
      case measure => have := HM.out; have := HLT.out; simp only [intOf]; omega
    · have e1 : ¬ (k : Int) < (n : Int) - (k : Int) := by omega
      have HR := hid (show k = halfP n from by
        rw [← HI.out]
        match f with
        | 0 => rfl
        | f + 1 => unfold halfF; rw [if_neg hlt])
      clear hk1 hkn hf hlt
      go_wp2_with fail
      go_ret
      exact ⟨rfl, by rw [← HR.out]; rfl⟩
end
end Go.Proofs.YtnakbdgoaepehaaDoor
/- Rows whose elements are lists of cells: loads, single cells, stores, cuts. -/
namespace Go.Cu
open Go Go.RowKit
theorem All32.set {ss : List (List UInt8)} {s : List UInt8} {i : Nat} (h : All32 ss) (hk : s.length = 32) : All32 (ss.set i s) := fun x hx => by
  rcases List.mem_or_eq_of_mem_set hx with h1 | h1
  · exact h x h1
  · rw [h1]; exact hk
theorem fm_take {α : Type} {f : α → List Value} {s : Nat} {xs : List α} (h : ∀ x ∈ xs, (f x).length = s) (n : Nat) : (xs.flatMap f).take (n * s) = (xs.take n).flatMap f := by
  rcases Nat.lt_or_ge n xs.length with hn | hn
  · have e : xs.flatMap f = (xs.take n).flatMap f ++ (xs.drop n).flatMap f := by rw [← List.flatMap_append, List.take_append_drop]
    have hl : ((xs.take n).flatMap f).length = n * s := by rw [fm_len _ (fun x hx => h x (List.mem_of_mem_take hx)), List.length_take, Nat.min_eq_left (by omega)]
    rw [e, ← hl, List.take_left]
  · rw [List.take_of_length_le hn, List.take_of_length_le (by rw [fm_len _ h]; exact Nat.mul_le_mul_right _ hn)]
theorem St.rowCut {W0 W : World} {L : List Atm} {A : Option Addr} {c n m e s : Nat} {xs : List Value} (h : St W0 (Row (.slice A n c) e s n xs :: L) W) (hm : m ≤ n) (h0 : n ≠ 0) : St W0 (Row (.slice A m c) e s m (xs.take (m * s)) :: L) W := by
  obtain ⟨F, ha, hF, hr⟩ := h.first
  refine hr _ _ ⟨fun g hg => .inl (ha.1 g (by cases A with | none => cases hg | some a => exact hg)), ?_⟩ (Tch.refl _ _)
  rcases ha.2 with ⟨hl, ⟨_, h1⟩ | ⟨g, cap, cur, e1, hbase, hb, h1, h2, h3, h4⟩⟩
  · exact absurd h1 h0
  · cases e1
    refine ⟨by rw [List.length_take, hl]; exact Nat.min_eq_left (Nat.mul_le_mul_right _ hm), .inr ⟨g, c, cur, rfl, hbase, hb, by omega, h2, h3, ?_⟩⟩
    rw [← h4, List.take_take]
    congr 1
    exact (Nat.min_eq_left (Nat.mul_le_mul_right _ hm)).symm
section
variable {P : Program} {W0 W : World} {L : List Atm} {A : Option Addr} {e n c t s : Nat} {α : Type} {f : α → List Value} {xs : List α}
/-- A cell of an element. -/
theorem erow_cell (h : St W0 (Row (.slice A n c) e s n (xs.flatMap f) :: L) W) (ha : ∀ x ∈ xs, (f x).length = s) (hs0 : 0 < s) {i : Nat} {p : α} (hi : xs[i]? = some p) : ∃ g, A = some ⟨g, 0, none⟩ ∧ ∀ j, j < s → ∀ o, o = i * s + j → W.cell? ⟨g, o, none⟩ = (f p)[j]? := by
  have hin : i < xs.length := (List.getElem?_eq_some_iff.1 hi).1
  have hl : xs.length * s = n * s := (fm_len xs ha).symm.trans h.row.1
  have hn : n = xs.length := (Nat.eq_of_mul_eq_mul_right hs0 hl).symm
  rcases h.row.2 with ⟨_, h1⟩ | ⟨g, cap, cur, hv', _, hb, h1, h2, h3, h4⟩
  · omega
  · cases hv'
    refine ⟨g, rfl, fun j hj o ho => (cell_of_row W g o _ _ _ hb).trans ?_⟩
    subst ho
    have h5 := fm_get xs i j p ha hi hj
    have h7 : i * s + j < n * s := by
      have := Nat.mul_le_mul_right s (show i + 1 ≤ n by omega)
      rw [Nat.add_mul] at this
      omega
    rw [← h5, ← h4, List.getElem?_take_of_lt h7, Array.getElem?_toList]
/-- A part of an element loaded. -/
theorem erow_load (h : St W0 (Row (.slice A n c) e s n (xs.flatMap f) :: L) W) (ha : ∀ x ∈ xs, (f x).length = s) (hs0 : 0 < s) {i : Nat} {p : α} (hi : xs[i]? = some p) {d : TypeDesc} {vs : Array Value} {o' sz : Nat}
    (hu : P.underlying t = some d) (hd : (match d with | .struct _ | .array _ _ => true | _ => false) = true) (hs : (P.info? t).map (·.size) = some sz) (hv : vs.size = sz) (ho : o' + sz ≤ s) (hp : ∀ j, j < vs.size → (f p)[o' + j]? = vs[j]?) :
    ∃ g, A = some ⟨g, 0, none⟩ ∧ ∀ o, o = i * s + o' → (loadK t (.pointer (some ⟨g, o, none⟩))).run P W = .ok (.value (.agg vs)) W := by
  have hin : i < xs.length := (List.getElem?_eq_some_iff.1 hi).1
  have hl : xs.length * s = n * s := (fm_len xs ha).symm.trans h.row.1
  have hn : n = xs.length := (Nat.eq_of_mul_eq_mul_right hs0 hl).symm
  rcases h.row.2 with ⟨_, h1⟩ | ⟨g, cap, cur, hv', _, hb, h1, h2, h3, h4⟩
  · omega
  · cases hv'
    refine ⟨g, rfl, fun o ho' => ?_⟩
    subst ho'
    refine run_loadK hb hu hd hs hv fun j hj => ?_
    have h5 := fm_get xs i (o' + j) p ha hi (by omega)
    have h7 : i * s + (o' + j) < n * s := by
      have := Nat.mul_le_mul_right s (show i + 1 ≤ n by omega)
      rw [Nat.add_mul] at this
      omega
    rw [Nat.add_assoc, ← hp j hj, ← h5, ← h4, List.getElem?_take_of_lt h7, Array.getElem?_toList]
theorem stake_put {A B : List Value} {N o l : Nat} (hl : B.length = l) (hN : o + l ≤ N) (hA : N ≤ A.length) : (A.take o ++ B ++ A.drop (o + l)).take N = (A.take N).take o ++ B ++ (A.take N).drop (o + l) := by
  have e1 : (A.take N).take o = A.take o := by rw [List.take_take, Nat.min_eq_left (by omega)]
  have e2 : (A.take o ++ B).length = o + l := by rw [List.length_append, List.length_take, hl]; omega
  rw [e1, List.take_append, List.take_of_length_le (by omega : (A.take o ++ B).length ≤ N), e2, List.drop_take]
/-- A sum stored into a row. -/
theorem wpList_sstore {ops : Array Oper} {rest : List Oper} {op : Oper} {a : Act} {Q : Exit → Act → World → Prop} {ss : List (List UInt8)} (x y : Operand) (ho : op.op = .store t x y) {g : Nat} (h : St W0 (Row (.slice (some ⟨g, 0, none⟩) n c) e 32 n (sumsV ss) :: L) W) (ha : All32 ss) (hl : ss.length = n)
    {i : Nat} (hin : i < n) {o : Nat} (hoi : o = i * 32) (hx : a.eval x = .pointer (some ⟨g, o, none⟩)) (hw : Region.wanted op (yielded ops a.tmps) = true) {k : List UInt8} (hk : k.length = 32) (hy : a.eval y = .agg (bv k)) (hs : (P.info? t).map (·.size) = some 32)
    (hK : ∀ W', St W0 (Row (.slice (some ⟨g, 0, none⟩) n c) e 32 n (sumsV (ss.set i k)) :: L) W' → wpList P ops Q rest (a.put op.dst undef) W') : wpList P ops Q (op :: rest) a W := by
  subst hoi
  rcases h.row.2 with ⟨_, hx0⟩ | ⟨g', c', cur, hv', _, hb, h1, h2, h3, h4⟩
  · omega
  cases hv'
  have hcl : (bvL k).length = 32 := (bvL_len k).trans hk
  refine wpList_store_part t x y ho g (i * 32) hx hw (.agg (bv k)) hy 32 hs ((bv_size k).trans hk) (bv_one k) e cur hb (by omega) fun W' hW hT _ => hK W' ?_
  have hsz : (putAt cur (i * 32) (bvL k)).size = cur.size := putAt_size _ _ _ (by rw [hcl]; omega)
  refine h.grow ⟨by rw [sumsV_len (ha.set hk), List.length_set, hl], .inr ⟨g, c, putAt cur (i * 32) (bvL k), rfl, Nat.zero_le _, hW, h1, h2, by rw [hsz, h3], ?_⟩⟩ (hT.mono fun _ _ e => by subst e; rfl) (.inl rfl)
  have h5 := fm_put ss i k ha.len (by omega)
  unfold putAt
  rw [hcl, List.toList_toArray, stake_put hcl (by omega) (by rw [Array.length_toList]; omega), h4]
  exact h5
end
/-- A peak as cells. -/
abbrev Pk := List UInt8 × Nat
def pkC (p : Pk) : Array Value := bv p.1 ++ #[.int .i64 p.2]
def pkL (p : Pk) : List Value := (pkC p).toList
def PkOk (ps : List Pk) : Prop := ∀ p ∈ ps, p.1.length = 32
theorem pkC_size {p : Pk} (h : p.1.length = 32) : (pkC p).size = 33 := by simp [pkC, bv_size, h]
theorem pkL_len {p : Pk} (h : p.1.length = 32) : (pkL p).length = 33 := by unfold pkL; rw [Array.length_toList, pkC_size h]
theorem pkC_sum {p : Pk} : ∀ j, j < (bv p.1).size → (pkC p)[0 + j]? = (bv p.1)[j]? := by
  intro j hj
  unfold pkC
  rw [Nat.zero_add, Array.getElem?_append_left hj]
theorem pkC_n {p : Pk} (h : p.1.length = 32) : (pkC p)[32]? = some (.int .i64 p.2) := by
  have hs : (bv p.1).size = 32 := (bv_size _).trans h
  unfold pkC
  rw [Array.getElem?_append_right (by omega), hs]
  rfl
theorem pkL_one (p : Pk) : ∀ u ∈ pkL p, u.oneCell' = true := by
  intro u hu
  unfold pkL pkC at hu
  rw [Array.toList_append] at hu
  rcases List.mem_append.1 hu with h | h
  · exact bv_one _ u h
  · rw [List.mem_singleton.1 h]; rfl
/-- Peaks as they lie: the first one first. -/
abbrev peaksV (ps : List Pk) : List Value := ps.reverse.flatMap pkL
theorem PkOk.len {ps : List Pk} (h : PkOk ps) : ∀ x ∈ ps.reverse, (pkL x).length = 33 := fun x hx => pkL_len (h x (List.mem_reverse.1 hx))
theorem peaksV_cons (p : Pk) (ps : List Pk) : peaksV (p :: ps) = peaksV ps ++ pkL p := by unfold peaksV; simp
theorem peaksV_len {ps : List Pk} (h : PkOk ps) : (peaksV ps).length = ps.length * 33 := by unfold peaksV; rw [fm_len _ h.len, List.length_reverse]
theorem peaks_tail {p : Pk} {ps : List Pk} (h : PkOk (p :: ps)) : (peaksV (p :: ps)).take (ps.length * 33) = peaksV ps := by
  rw [peaksV_cons, ← peaksV_len (fun x hx => h x (List.mem_cons_of_mem _ hx)), List.take_left]
theorem peaks_get {p : Pk} {ps qs : List Pk} : (qs ++ p :: ps).reverse[ps.length]? = some p := by
  rw [List.reverse_append, List.reverse_cons, List.append_assoc, List.getElem?_append_right (by simp)]
  simp
def szP (ps : List Pk) : Nat := (ps.map (·.2)).sum
section
variable {N : List UInt8 → List UInt8 → List UInt8}
theorem pushP_ok (hN : ∀ a b, (N a b).length = 32) : ∀ {ps : List Pk} {p : Pk}, p.1.length = 32 → PkOk ps → PkOk (pushP N p ps)
  | [], p, hp, _ => fun x hx => by
    unfold pushP at hx
    rw [List.mem_singleton.1 hx]
    exact hp
  | q :: qs, p, hp, h => by
    unfold pushP
    split
    · exact pushP_ok hN (hN _ _) fun x hx => h x (List.mem_cons_of_mem _ hx)
    · intro x hx
      rcases List.mem_cons.1 hx with rfl | hx
      · exact hp
      · exact h x hx
theorem pushP_sz : ∀ {ps : List Pk} {p : Pk}, szP (pushP N p ps) = p.2 + szP ps
  | [], p => by simp [pushP, szP]
  | q :: qs, p => by
    unfold pushP
    split
    · rename_i e
      rw [pushP_sz]
      simp only [szP, List.map_cons, List.sum_cons, e]
      omega
    · simp [szP]
/-- All sizes are no noughts. -/
def PkPos (ps : List Pk) : Prop := ∀ p ∈ ps, 1 ≤ p.2
theorem pushP_pos : ∀ {ps : List Pk} {p : Pk}, 1 ≤ p.2 → PkPos ps → PkPos (pushP N p ps)
  | [], p, hp, _ => fun x hx => by
    unfold pushP at hx
    rw [List.mem_singleton.1 hx]
    exact hp
  | q :: qs, p, hp, h => by
    unfold pushP
    split
    · exact pushP_pos (by show 1 ≤ 2 * p.2; omega) fun x hx => h x (List.mem_cons_of_mem _ hx)
    · intro x hx
      rcases List.mem_cons.1 hx with rfl | hx
      · exact hp
      · exact h x hx
end
theorem szP_len {ps : List Pk} (h : PkPos ps) : ps.length ≤ szP ps := by
  induction ps with
  | nil => exact Nat.zero_le _
  | cons p ps ih =>
    have h1 := ih fun x hx => h x (List.mem_cons_of_mem _ hx)
    have h2 := h p (by simp)
    simp only [szP, List.map_cons, List.sum_cons, List.length_cons] at h1 ⊢
    omega
def lnV : Value → Nat
  | .slice _ n _ => n
  | _ => 0
theorem row_len {W0 W : World} {L : List Atm} {v : Value} {e s n : Nat} {xs : List Value} (h : St W0 (Row v e s n xs :: L) W) : lnV v = n := by
  obtain ⟨A, c, rfl, _⟩ := row_slice h
  rfl
theorem row_room {W0 W : World} {L : List Atm} {A : Option Addr} {e s n c : Nat} {xs : List Value} (h : St W0 (Row (.slice A n c) e s n xs :: L) W) : n ≤ c ∧ c ≤ maxLen := by
  rcases h.row.2 with ⟨hv, h1⟩ | ⟨g, cap, cur, hv, _, hb, h1, h2, h3, h4⟩
  · cases hv; exact ⟨by omega, by unfold maxLen; omega⟩
  · cases hv; exact ⟨h1, h2⟩
end Go.Cu
/- The sum of many. -/
namespace Go.Cu
open Go Go.RowKit
section
variable {N : List UInt8 → List UInt8 → List UInt8}
theorem peaks_step {ss : List (List UInt8)} {i : Nat} {s : List UInt8} {ps qs : List Pk} {T : List Pk} (hi : ss[i]? = some s) (h : peaksP N ps (ss.drop i) = T) (hq : pushP N (s, 1) ps = qs) : peaksP N qs (ss.drop (i + 1)) = T := by
  obtain ⟨hl, he⟩ := List.getElem?_eq_some_iff.1 hi
  rw [List.drop_eq_getElem_cons hl, he] at h
  unfold peaksP at h
  rw [hq] at h
  exact h
theorem foldP_cons (out : List UInt8) (p : Pk) (ps : List Pk) : foldP N out (p :: ps) = foldP N (N p.1 out) ps := rfl
theorem push_stop {p q : Pk} {qs : List Pk} (h : q.2 ≠ p.2) : pushP N p (q :: qs) = p :: q :: qs := by
  unfold pushP
  rw [if_neg h]
theorem push_go {p q : Pk} {qs : List Pk} (h : q.2 = p.2) : pushP N p (q :: qs) = pushP N (N q.1 p.1, 2 * p.2) qs := by
  show (if q.2 = p.2 then _ else _) = _
  rw [if_pos h]
end
theorem PkOk.tail {p : Pk} {ps : List Pk} (h : PkOk (p :: ps)) : PkOk ps := fun x hx => h x (List.mem_cons_of_mem _ hx)
theorem PkPos.tail {p : Pk} {ps : List Pk} (h : PkPos (p :: ps)) : PkPos ps := fun x hx => h x (List.mem_cons_of_mem _ hx)
theorem PkOk.cons {p : Pk} {ps : List Pk} (hp : p.1.length = 32) (h : PkOk ps) : PkOk (p :: ps) := fun x hx => by
  rcases List.mem_cons.1 hx with rfl | hx
  · exact hp
  · exact h x hx
theorem PkPos.cons {p : Pk} {ps : List Pk} (hp : 1 ≤ p.2) (h : PkPos ps) : PkPos (p :: ps) := fun x hx => by
  rcases List.mem_cons.1 hx with rfl | hx
  · exact hp
  · exact h x hx
theorem szP_cons (p : Pk) (ps : List Pk) : szP (p :: ps) = p.2 + szP ps := by simp [szP]
end Go.Cu
namespace Go.Proofs.YtnakbdgoaepehaaDoor
open Go.RowKit Go.Cu
@[go_sem ↓] theorem bdktPEAK (a : Act) (dst : Option Tmp) (ps : Array (Nat × Operand)) (ty : TypeId) (pos : String) (after : Array Edge) (guard : Option (Nat × Bool)) :
    execOp a.eval { dst, op := .build 118 ps, type := ty, pos, after, guard } = buildK 118 (ps.map fun (i, x) => (i, a.eval x)) := rfl
@[go_sem ↓] theorem ldktPEAK (a : Act) (dst : Option Tmp) (x : Operand) (ty : TypeId) (pos : String) (after : Array Edge) (guard : Option (Nat × Bool)) :
      execOp a.eval { dst, op := .load 118 x, type := ty, pos, after, guard } = loadK 118 (a.eval x) := rfl
theorem infoPeak : (Tryd.prog.info? 118).map (fun i => (i.zero, i.size, i.bytes)) = some (some (.agg (pkC (zeroK, 0))), 33, 40) := by kernel_rfl
theorem sizePeak : (Tryd.prog.info? 118).map (·.size) = some 33 := by kernel_rfl
theorem zeroPeak (W : World) : (zeroValue 118).run Tryd.prog W = .ok (.agg (pkC (zeroK, 0))) W := by kernel_rfl
theorem build_peak {s : List UInt8} {z : Int} {m : Nat} (hs : s.length = 32) (hz : z = m) (W : World) : (Instr.build 118 #[(0, .agg (bv s)), (1, .int .i64 z)]).run Tryd.prog W = .ok (.agg (pkC (s, m))) W := by
  subst hz
  have hb : (bv s).size = 32 := (bv_size s).trans hs
  have hk : (bv zeroK).size = 32 := (bv_size _).trans zeroK_len
  refine run_buildS (pl := #[(0, 32), (32, 1)]) Tryd.underlying118 zeroPeak (fun W => by kernel_rfl) ?_
  show Instr.fill (fun i => (#[(0, 32), (32, 1)] : Array (Nat × Nat))[i]?) (pkC (zeroK, 0)) [(0, .agg (bv s)), (1, .int .i64 m)] = _
  have e0 : putAt (pkC (zeroK, 0)) 0 (bv s).toList = pkC (s, 0) := by
    have h1 := putAt_mid #[] (bv zeroK) (bv s) #[.int .i64 (0 : Nat)] (hk.trans hb.symm) (o := 0) rfl
    rw [Array.empty_append, Array.empty_append] at h1
    exact h1
  have e1 : putAt (pkC (s, 0)) 32 (#[.int .i64 m] : Array Value).toList = pkC (s, m) := by
    have h1 := putAt_mid (bv s) #[.int .i64 (0 : Nat)] #[.int .i64 m] #[] rfl (o := 32) hb.symm
    rw [Array.append_empty, Array.append_empty] at h1
    exact h1
  rw [fill_one _ _ 0 0 32 (.agg (bv s)) _ rfl hb (by rw [pkC_size zeroK_len]; decide)]
  rw [show (Value.agg (bv s)).cells = bv s from rfl, e0, fill_one _ _ 1 32 1 (.int .i64 m) _ rfl rfl (by rw [pkC_size hs]; decide)]
  rw [show (Value.int .i64 m).cells = #[.int .i64 m] from rfl, e1]
  rfl
section
variable {w : World}
set_option maxRecDepth 20000 in
set_option maxHeartbeats 8000000 in
theorem total_now (hG : Glob w) {A : Option Addr} {n c : Nat} {ss : List (List UInt8)} (hin : SumsAt w A ss) (ha : All32 ss) (hn : n = ss.length) (h8 : n ≤ 8) : Calls Tryd.prog 46 #[.slice A n c] w fun r w' => r = .returned (.agg (bv (totalL ss))) ∧ Below w.heap.size w w' := by
  have HIN := hid hin
  have HA := hid ha
  have HN := hid hn
  have HN8 := hid h8
  have HZ32 := hid zero32_size
  have HGL := hid hG
  have h8i : (n : Int) ≤ 8 := by omega
  obtain ⟨i118, hi, hiz, his, hib⟩ := info_parts infoPeak
  have HI := hid (And.intro hi (And.intro hiz (And.intro his hib)))
  have HPZ := hid (pkC_size (p := (zeroK, 0)) zeroK_len)
  clear hG hin ha hn h8 hi hiz his hib
  go_enter Tryd.func46, Tryd.ntmps46
  go_upto_region 3 with (refine wpList_alloc 23 rfl rfl (.agg (bv (List.replicate 32 0))) zero54s ?_; intro g2 W1 h1 hl1 hg1 hW1; have H1 := hid ((St.start w).newBlk hW1 hg1 h1); clear h1 hl1 hg1 hW1)
  go_loopw [3, 12] (fun tv iv X => ∃ (i : Nat) (ps : List Pk), i ≤ n ∧ iv = .int .i64 i ∧ Hid (peaksP nodeL ps (ss.drop i) = peaksP nodeL [] ss) ∧ Hid (PkOk ps ∧ PkPos ps ∧ szP ps = i) ∧ Hid (St w [Row tv 118 33 ps.length (peaksV ps), Blk g2 (bv (List.replicate 32 0)) 23] X)) (fun _ iv _ => n - (intOf iv).toNat)
  case atStart => exact ⟨0, [], by omega, rfl, hid (by rw [List.drop_zero]), hid ⟨(fun x hx => (by cases hx)), (fun x hx => (by cases hx)), rfl⟩, hid (H1.out.nilRow 118 33)⟩
  case round =>
    clear H1
    obtain ⟨i, ps, hi, rfl, HP, HO, H2⟩ := hrel
    have i0 : (0 : Int) ≤ (i : Int) := by omega
    by_cases hlt : i < n
    · have i1 : (i : Int) < (n : Int) := by omega
      have HLT := hid hlt
      obtain ⟨s, hs⟩ : ∃ s, ss[i]? = some s := ⟨_, List.getElem?_eq_getElem (by have := HN.out; omega)⟩
      have HS := hid hs
      have HS32 := hid (HA.out s (List.mem_of_getElem? hs))
      obtain ⟨g, o, rfl, hld⟩ := (HIN.out.below H2.out.below).load (P := Tryd.prog) HA.out hs Tryd.underlying23 rfl size54s
      have LS := hld _ rfl
      have BB := fun W => run_buildK (build_peak (z := 1) (m := 1) HS32.out rfl W)
      have HSZ := hid (show (bv s).size = 32 from (bv_size s).trans HS32.out)
      have HPS1 := hid (pkC_size (p := (s, 1)) HS32.out)
      clear hs hld
      go_wp2_with (first | (refine wpList_alloc 23 rfl rfl (.agg (bv (List.replicate 32 0))) zero54s ?_; intro g5 W1 h1 hl1 hg1 hW1; have H3 := hid (H2.out.newBlk hW1 hg1 h1); clear h1 hl1 hg1 hW1) | (refine wpList_store_box 23 _ _ rfl g5 rfl rfl (bv s) rfl 32 size54s HSZ.out (bv_one _) 23 _ H3.out.blk HZ32.out ?_; intro W7 hB7 hT7 hs7; have H4 := hid (H3.out.put hB7 hT7); have L5 := run_loadK_box (P := Tryd.prog) hB7 Tryd.underlying23 rfl size54s HSZ.out; clear hB7 hT7 hs7 LS) | (refine wpList_alloc 118 rfl rfl (.agg (pkC (zeroK, 0))) zeroPeak ?_; intro g6 W1 h1 hl1 hg1 hW1; have H5 := hid (H4.out.drop.newBlk hW1 hg1 h1); clear h1 hl1 hg1 hW1 L5) | (refine wpList_store_box 118 _ _ rfl g6 rfl rfl (pkC (s, 1)) rfl 33 sizePeak HPS1.out (pkL_one _) 118 _ H5.out.blk HPZ.out ?_; intro W7 hB7 hT7 hs7; have H6 := hid (H5.out.put hB7 hT7); clear hB7 hT7 hs7))


      clear H2 H3 H4 H5 BB
      go_simp
      go_loopw [3] (fun v X => ∃ (qs : List Pk) (p : Pk), lnV v = qs.length ∧ Hid (pushP nodeL p qs = pushP nodeL (s, 1) ps) ∧ Hid (PkOk (p :: qs) ∧ PkPos (p :: qs) ∧ szP (p :: qs) = i + 1) ∧ Hid (St w [Row v 118 33 qs.length (peaksV qs), Blk g6 (pkC p) 118, Blk g2 (bv (List.replicate 32 0)) 23] X)) (fun v _ => lnV v)
      case atStart => exact ⟨ps, (s, 1), row_len H6.out.at2, hid rfl, hid ⟨PkOk.cons HS32.out HO.out.1, PkPos.cons (Nat.le_refl _) HO.out.2.1, by rw [szP_cons, HO.out.2.2]; exact Nat.add_comm _ _⟩, hid H6.out.at2⟩
      case round =>
        clear H6
        obtain ⟨qs, ⟨ps1, pm⟩, hln, HT, HO2, H7⟩ := hrel
        obtain ⟨B, d, rfl, _⟩ := row_slice H7.out
        have HPS := hid (pkC_size (p := (ps1, pm)) (HO2.out.1 _ (by simp)))
        have HPL := hid (pkL_len (p := (ps1, pm)) (HO2.out.1 _ (by simp)))
        have hsz := HO2.out.2.2
        rw [szP_cons] at hsz
        have pm8 : pm ≤ 8 := by have := HN8.out; have := HLT.out; show ((ps1, pm) : Pk).2 ≤ 8; omega
        have pm1 : (0 : Int) ≤ (pm : Int) := by omega
        have pm2 : (pm : Int) ≤ 8 := by omega
        clear hsz pm8
        cases qs with
        | nil =>
          have H8 := hid (show St w [Row (.slice B 0 d) 118 33 0 (peaksV []), Blk g6 (pkC (ps1, pm)) 118, Blk g2 (bv (List.replicate 32 0)) 23] _ from H7.out)
          have HST := hid (show pushP nodeL (s, 1) ps = [(ps1, pm)] from HT.out.symm)
          simp only [List.length_nil] at hln ⊢
          clear H7 HT hln
          go_upto_region 6 with fail
          refine wp_region_ord [] [(0, 1), (1, 1), (2, 1), (3, 1), (4, 1), (5, 1), (6, 1), (7, 1), (8, 1), (9, 1), (10, 1), (11, 1), (12, 1), (13, 1), (14, 1)] (fun X => St w [Row (.slice B 0 d) 118 33 0 (peaksV []), Blk g6 (pkC (ps1, pm)) 118, Blk g2 (bv (List.replicate 32 0)) 23] X) (by kernel_rfl) (by kernel_rfl) (fun d _ c _ _ h => by cases d <;> exact h) (H8.out.turn (Below.drew (Below.refl _ _))) (fun X hXe hXi => ?_)
          have H8b := H8.out.turn (Below.drew (Below.refl _ _))
          rw [← hXe] at H8b
          replace H8b := hid H8b
          clear hXe hXi
          clear H8
          iterate 4 (apply wpOrd_class; ((· first | (rw [List.getElem?_toArray, List.getElem?_cons_zero]; done) | (simp only [List.getElem?_toArray, List.getElem?_cons_succ, List.getElem?_cons_zero]; exact rfl))); (· exact rfl); intro K hK; apply Exists.intro; refine And.intro (fun X' hX' => ?_) ?_; (· go_simp; (try go_bits); first | done | exact rfl | exact ⟨rfl, rfl⟩); go_simp; refine hK _ _ ?_; clear hK K)
          iterate 10 (apply wpOrd_skip1; ((· first | (rw [List.getElem?_toArray, List.getElem?_cons_zero]; done) | (simp only [List.getElem?_toArray, List.getElem?_cons_succ, List.getElem?_cons_zero]; exact rfl))); (· exact rfl); intro K hK; go_simp; refine hK _ _ ?_; clear hK K)
          (apply wpOrd_class; ((· first | (rw [List.getElem?_toArray, List.getElem?_cons_zero]; done) | (simp only [List.getElem?_toArray, List.getElem?_cons_succ, List.getElem?_cons_zero]; exact rfl))); (· exact rfl); intro K hK; apply Exists.intro; refine And.intro (fun X' hX' => ?_) ?_; (· go_simp; (try go_bits); first | done | exact rfl | exact ⟨rfl, rfl⟩); go_simp; refine hK _ _ ?_; clear hK K)
          refine wpOrd_done ?_
          have H8 := hid H8b.out
          clear H8b
          have L6 := run_loadK_box (P := Tryd.prog) H8.out.at2.blk Tryd.underlying118 rfl sizePeak HPS.out
          go_wp2_with (first | (refine wpList_buildSlice1 _ rfl (.agg (pkC (ps1, pm))) (by simp [Act.eval, Act.put]) rfl Tryd.underlying116 zeroPeak sizePeak (by decide) (by decide) HPS.out ?_; intro gn X4 hS hgs hges hX1b; have H9 := hid (H8.out.turn hX1b); have HNW := hid (news_box hS (pkL (ps1, pm)) rfl); clear hS hgs hges hX1b) | (refine wpList_append_at _ _ _ rfl (.slice B 0 d) rfl ⟨gn, 0, none⟩ 1 1 rfl rfl 118 i118 (.agg (pkC (zeroK, 0))) 33 40 Tryd.underlying116 HI.out.1 HI.out.2.1 HI.out.2.2.1 HI.out.2.2.2 HPZ.out (by decide) 0 (peaksV []) H9.out.row (pkL (ps1, pm)) (by rw [Nat.one_mul]; exact HPL.out) HNW.out (pkL_one _) (by unfold maxLen; omega) (by omega) ?_; intro v' X5 hO2 hT2 hfr; have H10 := hid (H9.out.grow hO2 hT2 hfr); clear hO2 hT2 hfr))
          have H11 := H10.out.drop2
          rw [← peaksV_cons] at H11
          go_roundw
          case rel => exact ⟨i + 1, (ps1, pm) :: [], by have := HLT.out; omega, by go_num, hid (peaks_step HS.out HP.out HST.out), hid HO2.out, hid (H11)⟩
          case measure => have := HLT.out; simp only [intOf]; omega
        | cons q qs =>
          obtain ⟨k, hk⟩ : ∃ k, k = qs.length := ⟨_, rfl⟩
          have HK := hid hk
          have hql : (q :: qs).length = k + 1 := by rw [hk]; rfl
          rw [hql] at H7 hln ⊢
          have k7 : k ≤ 7 := by
            have h1 := szP_len HO2.out.2.1
            have h2 := HO2.out.2.2
            have h3 := HN8.out
            have h4 := HLT.out
            simp only [List.length_cons] at h1
            omega
          obtain ⟨gB, rfl⟩ := row_some H7.out (by omega)
          have hqo := HO2.out.1 q (by simp)
          have HQS := hid (pkC_size (p := q) hqo)
          have hget : (q :: qs).reverse[k]? = some q := by rw [hk]; exact peaks_get (qs := [])
          have HFA := hid (fun (X : World) (M : List Atm) (hX : St w (Row (.slice (some ⟨gB, 0, none⟩) (k + 1) d) 118 33 (k + 1) (peaksV (q :: qs)) :: M) X) => show X.cell? ⟨gB, k * 33 + 32, none⟩ = some (.int .i64 q.2) ∧ (loadK 118 (.pointer (some ⟨gB, k * 33, none⟩))).run Tryd.prog X = .ok (.value (.agg (pkC q))) X from by
            obtain ⟨g1, e1, h1⟩ := erow_cell hX (HO2.out.1.tail |> PkOk.len) (by decide) hget
            obtain ⟨g2, e2, h2⟩ := erow_load (P := Tryd.prog) (t := 118) (vs := pkC q) (o' := 0) hX (HO2.out.1.tail |> PkOk.len) (by decide) hget Tryd.underlying118 rfl sizePeak HQS.out (by decide) (fun j _ => by rw [Nat.zero_add]; unfold pkL; rw [Array.getElem?_toList])
            cases e1; cases e2
            exact ⟨(h1 32 (by decide) _ rfl).trans (by unfold pkL; rw [Array.getElem?_toList]; exact pkC_n hqo), h2 _ rfl⟩)
          have HFB := hid (fun (X : World) (g : Nat) (p : Pk) (M : List Atm) (hp : p.1.length = 32) (hX : St w (Blk g (pkC p) 118 :: M) X) => show X.cell? ⟨g, 32, none⟩ = some (.int .i64 p.2) ∧ (loadK 23 (.pointer (some ⟨g, 0, none⟩))).run Tryd.prog X = .ok (.value (.agg (bv p.1))) X from ⟨(blk_cell hX 32).trans (pkC_n hp), run_loadK (P := Tryd.prog) (off := 0) (vs := bv p.1) hX.blk Tryd.underlying23 rfl size54s ((bv_size p.1).trans hp) pkC_sum⟩)
          have HF := hid (fun (X : World) (hX : St w [Row (.slice (some ⟨gB, 0, none⟩) (k + 1) d) 118 33 (k + 1) (peaksV (q :: qs)), Blk g6 (pkC (ps1, pm)) 118, Blk g2 (bv (List.replicate 32 0)) 23] X) => And.intro (HFA.out X _ hX).1 (HFB.out X g6 _ _ (HO2.out.1 (ps1, pm) (by simp)) hX.at2).1)
          have k0 : (0 : Int) ≤ (k : Int) := by omega
          have k1 : (k : Int) < ((k + 1 : Nat) : Int) := by omega
          have k2 : (k : Int) < (k : Int) + 1 := by omega
          have k3 : (k : Int) ≤ 7 := by omega
          have q0 : (0 : Int) ≤ (q.2 : Int) := by omega
          have HQO := hid hqo
          obtain ⟨qn, hqn⟩ : ∃ qn, qn = q.2 := ⟨_, rfl⟩
          rw [← hqn] at HF HFA q0
          have HQN := hid hqn
          clear hql hget hqo hqn hk hln
          by_cases hqe : qn = pm
          · have e1 : (qn : Int) = (pm : Int) := by omega
            have HQE := hid hqe
            have kd := (row_room H7.out).1
            have kd1 : k ≤ d := by omega
            have kd2 : (k : Int) ≤ (d : Int) := by omega
            subst hqe
            obtain ⟨sm, hsm⟩ : ∃ sm, sm = nodeL q.1 ps1 := ⟨_, rfl⟩
            have HSM := hid hsm
            have HSM32 := hid (show sm.length = 32 by rw [hsm]; exact nodeL_len _ _)
            have HLN := hid (fun (X : World) (hX : Below w.heap.size w X) => lnode_now (HGL.out.below hX HGL.out.two) HQO.out (HO2.out.1 (ps1, qn) (by simp)))
            rw [show nodeL q.1 (ps1, qn).1 = sm from hsm.symm] at HLN
            have BB := fun W => run_buildK (build_peak (z := 2 * (qn : Int)) (m := 2 * qn) HSM32.out (by omega) W)
            have HPS2 := hid (pkC_size (p := (sm, 2 * qn)) HSM32.out)
            clear hsm
            go_upto_region 6 with fail
            refine wp_region_ord [] [(0, 1), (1, 1), (2, 1), (3, 1), (4, 1), (5, 1), (6, 1), (7, 1), (8, 1), (9, 1), (10, 1), (11, 1), (12, 1), (13, 1), (14, 1)] (fun X => St w [Row (.slice (some ⟨gB, 0, none⟩) (k + 1) d) 118 33 (k + 1) (peaksV (q :: qs)), Blk g6 (pkC (ps1, qn)) 118, Blk g2 (bv (List.replicate 32 0)) 23] X) (by kernel_rfl) (by kernel_rfl) (fun d _ c _ _ h => by cases d <;> exact h) (H7.out.turn (Below.drew (Below.refl _ _))) (fun X hXe hXi => ?_)
            have H8 := H7.out.turn (Below.drew (Below.refl _ _))
            rw [← hXe] at H8
            replace H8 := hid H8
            clear hXe hXi
            clear H7
            iterate 15 (apply wpOrd_class; ((· first | (rw [List.getElem?_toArray, List.getElem?_cons_zero]; done) | (simp only [List.getElem?_toArray, List.getElem?_cons_succ, List.getElem?_cons_zero]; exact rfl))); (· exact rfl); intro K hK; apply Exists.intro; refine And.intro (fun X' hX' => ?_) ?_; (· obtain ⟨hq1, hq2⟩ := HF.out _ hX'; clear hX'; go_simp; (try go_bits); first | done | exact rfl | exact ⟨rfl, rfl⟩); go_simp; refine hK _ _ ?_; clear hK K)
            refine wpOrd_done ?_
            have LQ := (HFA.out _ _ H8.out).2
            go_upto_region 9 with (first | (refine wpList_alloc 118 rfl rfl (.agg (pkC (zeroK, 0))) zeroPeak ?_; intro g7 W1 h1 hl1 hg1 hW1; have H9 := hid (H8.out.newBlk hW1 hg1 h1); clear h1 hl1 hg1 hW1 LQ) | (refine wpList_store_box 118 _ _ rfl g7 rfl rfl (pkC q) rfl 33 sizePeak HQS.out (pkL_one _) 118 _ H9.out.blk HPZ.out ?_; intro W7 hB7 hT7 hs7; have H10 := hid (H9.out.put hB7 hT7); clear hB7 hT7 hs7))
            have H11 := H10.out.at2.rowCut (m := k) (by omega) (by omega)
            rw [HK.out, peaks_tail HO2.out.1.tail, ← HK.out] at H11
            have H12 := hid H11
            have HF9 := hid (fun (X : World) (hX : St w [Row (.slice (some ⟨gB, 0, none⟩) k d) 118 33 k (peaksV qs), Blk g7 (pkC q) 118, Blk g6 (pkC (ps1, qn)) 118, Blk g2 (bv (List.replicate 32 0)) 23] X) => show X.cell? ⟨g6, 32, none⟩ = some (.int .i64 qn) ∧ (loadK 23 (.pointer (some ⟨g6, 0, none⟩))).run Tryd.prog X = .ok (.value (.agg (bv ps1))) X ∧ (loadK 23 (.pointer (some ⟨g7, 0, none⟩))).run Tryd.prog X = .ok (.value (.agg (bv q.1))) X from ⟨(HFB.out X g6 _ _ (HO2.out.1 (ps1, qn) (by simp)) hX.at3).1, (HFB.out X g6 _ _ (HO2.out.1 (ps1, qn) (by simp)) hX.at3).2, (HFB.out X g7 _ _ HQO.out hX.at2).2⟩)
            clear H8 H9 H10 H11
            refine wp_region_ord [9] [(0, 1), (1, 1), (2, 1), (3, 1), (5, 1), (6, 1), (7, 1), (4, 2), (8, 1), (9, 2)] (fun X => St w [Row (.slice (some ⟨gB, 0, none⟩) k d) 118 33 k (peaksV qs), Blk g7 (pkC q) 118, Blk g6 (pkC (ps1, qn)) 118, Blk g2 (bv (List.replicate 32 0)) 23] X) (by kernel_rfl) (by kernel_rfl) (fun d _ c _ _ h => by cases d <;> exact h) (H12.out.turn (Below.drew (Below.refl _ _))) (fun X hXe hXi => ?_)
            have H13 := H12.out.turn (Below.drew (Below.refl _ _))
            rw [← hXe] at H13
            replace H13 := hid H13
            clear hXe hXi
            clear H12
            iterate 7 (apply wpOrd_class; ((· first | (rw [List.getElem?_toArray, List.getElem?_cons_zero]; done) | (simp only [List.getElem?_toArray, List.getElem?_cons_succ, List.getElem?_cons_zero]; exact rfl))); (· exact rfl); intro K hK; apply Exists.intro; refine And.intro (fun X' hX' => ?_) ?_; (· obtain ⟨hq1, hq2, hq3⟩ := HF9.out _ hX'; clear hX'; go_simp; (try go_bits); first | done | exact rfl | exact ⟨rfl, rfl⟩); go_simp; refine hK _ _ ?_; clear hK K)
            (apply wpOrd_comes; ((· first | (rw [List.getElem?_toArray, List.getElem?_cons_zero]; done) | (simp only [List.getElem?_toArray, List.getElem?_cons_succ, List.getElem?_cons_zero]; exact rfl))); intro N hN)
            go_wp2_with (go_at_call 50; (with_reducible refine (HLN.out _ H13.out.below).mono ?_); rintro r w3 ⟨rfl, hb⟩; have H14 := hid (H13.out.turn hb); clear hb)
            refine hN _ _ (fun _ => H14.out) ?_
            clear hN N
            (apply wpOrd_class; ((· first | (rw [List.getElem?_toArray, List.getElem?_cons_zero]; done) | (simp only [List.getElem?_toArray, List.getElem?_cons_succ, List.getElem?_cons_zero]; exact rfl))); (· exact rfl); intro K hK; apply Exists.intro; refine And.intro (fun X' hX' => ?_) ?_; (· obtain ⟨hq1, hq2, hq3⟩ := HF9.out _ hX'; clear hX'; go_simp; (try go_bits); first | done | exact rfl | exact ⟨rfl, rfl⟩); go_simp; refine hK _ _ ?_; clear hK K)
            (apply wpOrd_comes; ((· first | (rw [List.getElem?_toArray, List.getElem?_cons_zero]; done) | (simp only [List.getElem?_toArray, List.getElem?_cons_succ, List.getElem?_cons_zero]; exact rfl))); intro N hN)
            go_wp2_with (refine wpList_store_box 118 _ _ rfl g6 rfl rfl (pkC (sm, 2 * qn)) rfl 33 sizePeak HPS2.out (pkL_one _) 118 _ H14.out.at3.blk HPS.out ?_; intro W8 hB8 hT8 hs8; have H15 := hid (H14.out.at3.put hB8 hT8); clear hB8 hT8 hs8)
            refine hN _ _ (fun h => by cases h) ?_
            clear hN N
            refine wpOrd_done ?_
            go_wp2_with fail
            go_roundw
            case rel => exact ⟨qs, (sm, 2 * qn), HK.out, hid (by rw [← HT.out, push_go (q := q) (p := (ps1, qn)) HQN.out.symm, HSM.out]), hid ⟨PkOk.cons HSM32.out HO2.out.1.tail.tail, PkPos.cons (by have h1 := HO2.out.2.1 (ps1, qn) (by simp); show 1 ≤ 2 * qn; have h2 : 1 ≤ qn := h1; omega) HO2.out.2.1.tail.tail, by
              have h1 := HO2.out.2.2
              have h2 := HQN.out
              rw [szP_cons, szP_cons] at h1
              rw [szP_cons]
              show 2 * qn + szP qs = i + 1
              have h3 : qn + (q.2 + szP qs) = i + 1 := h1
              omega⟩, hid (by rw [← HK.out]; exact H15.out.at2.drop3)⟩
            case measure => show k < k + 1; omega
          · have e1 : ¬ (qn : Int) = (pm : Int) := by omega
            go_upto_region 6 with fail
            refine wp_region_ord [] [(0, 1), (1, 1), (2, 1), (3, 1), (4, 1), (5, 1), (6, 1), (7, 1), (8, 1), (9, 1), (10, 1), (11, 1), (12, 1), (13, 1), (14, 1)] (fun X => St w [Row (.slice (some ⟨gB, 0, none⟩) (k + 1) d) 118 33 (k + 1) (peaksV (q :: qs)), Blk g6 (pkC (ps1, pm)) 118, Blk g2 (bv (List.replicate 32 0)) 23] X) (by kernel_rfl) (by kernel_rfl) (fun d _ c _ _ h => by cases d <;> exact h) (H7.out.turn (Below.drew (Below.refl _ _))) (fun X hXe hXi => ?_)
            have H8 := H7.out.turn (Below.drew (Below.refl _ _))
            rw [← hXe] at H8
            replace H8 := hid H8
            clear hXe hXi
            clear H7
            iterate 15 (apply wpOrd_class; ((· first | (rw [List.getElem?_toArray, List.getElem?_cons_zero]; done) | (simp only [List.getElem?_toArray, List.getElem?_cons_succ, List.getElem?_cons_zero]; exact rfl))); (· exact rfl); intro K hK; apply Exists.intro; refine And.intro (fun X' hX' => ?_) ?_; (· obtain ⟨hq1, hq2⟩ := HF.out _ hX'; clear hX'; go_simp; (try go_bits); first | done | exact rfl | exact ⟨rfl, rfl⟩); go_simp; refine hK _ _ ?_; clear hK K)
            refine wpOrd_done ?_
            have HST := hid (show pushP nodeL (s, 1) ps = (ps1, pm) :: q :: qs from HT.out.symm.trans (push_stop (fun h => hqe (HQN.out.trans h))))
            clear HT
            have L6 := run_loadK_box (P := Tryd.prog) H8.out.at2.blk Tryd.underlying118 rfl sizePeak HPS.out
            go_wp2_with (first | (refine wpList_buildSlice1 _ rfl (.agg (pkC (ps1, pm))) (by simp [Act.eval, Act.put]) rfl Tryd.underlying116 zeroPeak sizePeak (by decide) (by decide) HPS.out ?_; intro gn X4 hS hgs hges hX1b; have H9 := hid (H8.out.turn hX1b); have HNW := hid (news_box hS (pkL (ps1, pm)) rfl); clear hS hgs hges hX1b) | (refine wpList_append_at _ _ _ rfl (.slice (some ⟨gB, 0, none⟩) (k + 1) d) rfl ⟨gn, 0, none⟩ 1 1 rfl rfl 118 i118 (.agg (pkC (zeroK, 0))) 33 40 Tryd.underlying116 HI.out.1 HI.out.2.1 HI.out.2.2.1 HI.out.2.2.2 HPZ.out (by decide) (k + 1) (peaksV (q :: qs)) H9.out.row (pkL (ps1, pm)) (by rw [Nat.one_mul]; exact HPL.out) HNW.out (pkL_one _) (by unfold maxLen; omega) (by omega) ?_; intro v' X5 hO2 hT2 hfr; have H10 := hid (H9.out.grow hO2 hT2 hfr); clear hO2 hT2 hfr))
            have H11 := H10.out.drop2
            rw [← peaksV_cons] at H11
            have H11X : St w [Row v' 118 33 ((ps1, pm) :: q :: qs).length (peaksV ((ps1, pm) :: q :: qs)), Blk g2 (bv (List.replicate 32 0)) 23] X5 := by
              rw [show ((ps1, pm) :: q :: qs).length = k + 1 + 1 by rw [HK.out]; rfl]
              exact H11
            go_roundw
            case rel => exact ⟨i + 1, (ps1, pm) :: (q :: qs), by have := HLT.out; omega, by go_num, hid (peaks_step HS.out HP.out HST.out), hid HO2.out, hid (H11X)⟩
            case measure => have := HLT.out; simp only [intOf]; omega
    · have e1 : ¬ (i : Int) < (n : Int) := by omega
      have HTP := hid (show ps = peaksP nodeL [] ss from by
        have h := HP.out
        rw [List.drop_of_length_le (by have := HN.out; omega)] at h
        exact h)
      have HTL := hid (show totalL ss = outP nodeL nilL ps from by unfold totalL totalP; rw [← HTP.out])
      obtain ⟨B, d, rfl, _⟩ := row_slice H2.out
      have psl := szP_len HO.out.2.1
      rw [HO.out.2.2] at psl
      have ps8 : ps.length ≤ 8 := by have := HN8.out; omega
      clear psl HP HTP
      cases ps with
      | nil =>
        have H3 := hid H2.out.drop
        have HSH := hid (fun (X : World) (hX : Below w.heap.size w X) => show Calls Tryd.prog 16 #[.slice none 0 0] X fun r w' => r = .returned (.agg (bv nilL)) ∧ Below X.heap.size X w' from sha_now (c := 0) (m := 0) (HGL.out.below hX HGL.out.two) (ps := []) rfl (fun i r hi => by cases hi) (by simp) (by simp))
        obtain ⟨sm, hsm⟩ : ∃ sm, sm = nilL := ⟨_, rfl⟩
        have HZ := hid (show (bv sm).size = 32 by rw [bv_size, hsm]; exact sumL_len _)
        have HTS := hid (show totalL ss = sm by rw [HTL.out, hsm]; rfl)
        rw [← hsm] at HSH
        simp only [List.length_nil]
        clear H2 HTL hsm ps8
        go_wp2_with (first | (go_at_call 16; (with_reducible refine (HSH.out _ H3.out.below).mono ?_); rintro r w3 ⟨rfl, hb⟩; have H4 := hid (H3.out.turn hb); clear hb) | (refine wpList_store_box 23 _ _ rfl g2 rfl rfl (bv sm) rfl 32 size54s HZ.out (bv_one _) 23 _ H4.out.blk HZ32.out ?_; intro W6 hB6 hT6 hs6; have H7 := hid (H4.out.put hB6 hT6)))
        rw [HTS.out]
        exact bodyPost_ret (results_cell rfl _ _ _ g2 23 (bv _) (0, 0) rfl hB6 Tryd.underlying23 (by rw [HZ.out]; exact size54s)) rfl ⟨rfl, H7.out.below⟩
      | cons q qs =>
        obtain ⟨k, hk⟩ : ∃ k, k = qs.length := ⟨_, rfl⟩
        have HK := hid hk
        have hql : (q :: qs).length = k + 1 := by rw [hk]; rfl
        rw [hql] at H2 ps8
        simp only [hql]
        obtain ⟨gB, rfl⟩ := row_some H2.out (by omega)
        have hqo := HO.out.1 q (by simp)
        have HFA := hid (fun (X : World) (M : List Atm) (p : Pk) (rs pre : List Pk) (hs : q :: qs = pre ++ p :: rs) (hX : St w (Row (.slice (some ⟨gB, 0, none⟩) (k + 1) d) 118 33 (k + 1) (peaksV (q :: qs)) :: M) X) => show (loadK 23 (.pointer (some ⟨gB, rs.length * 33, none⟩))).run Tryd.prog X = .ok (.value (.agg (bv p.1))) X from by
          have hget : (q :: qs).reverse[rs.length]? = some p := by rw [hs]; exact peaks_get
          obtain ⟨g2, e2, h2⟩ := erow_load (P := Tryd.prog) (t := 23) (vs := bv p.1) (o' := 0) hX (PkOk.len HO.out.1) (by decide) hget Tryd.underlying23 rfl size54s ((bv_size p.1).trans (HO.out.1 p (by rw [hs]; simp))) (by decide) (fun j hj => by unfold pkL; rw [Array.getElem?_toList]; exact pkC_sum j hj)
          cases e2
          exact h2 _ rfl)
        have LQ := HFA.out _ _ q qs [] rfl H2.out
        rw [← hk] at LQ
        have k0 : (0 : Int) ≤ (k : Int) := by omega
        have k1 : (k : Int) < ((k + 1 : Nat) : Int) := by omega
        have k2 : (k : Int) < (k : Int) + 1 := by omega
        have k3 : (k : Int) ≤ 7 := by omega
        have HQO := hid hqo
        have HQZ := hid (show (bv q.1).size = 32 from (bv_size q.1).trans hqo)
        clear hql hqo hk ps8
        go_wp2_with (first | (refine wpList_alloc 23 rfl rfl (.agg (bv (List.replicate 32 0))) zero54s ?_; intro g8 W1 h1 hl1 hg1 hW1; have H3 := hid (H2.out.newBlk hW1 hg1 h1); clear h1 hl1 hg1 hW1 LQ) | (refine wpList_store_box 23 _ _ rfl g8 rfl rfl (bv q.1) rfl 32 size54s HQZ.out (bv_one _) 23 _ H3.out.blk HZ32.out ?_; intro W7 hB7 hT7 hs7; have H4 := hid (H3.out.put hB7 hT7); clear hB7 hT7 hs7))
        clear H2 H3
        go_loopw [9] (fun v X => ∃ (z : Int) (rs pre : List Pk) (out : List UInt8), v = .int .i64 z ∧ z = (rs.length : Int) - 1 ∧ Hid (q :: qs = pre ++ rs) ∧ rs.length ≤ k ∧ Hid (out.length = 32) ∧ Hid (foldP nodeL out rs = foldP nodeL q.1 qs) ∧ Hid (St w [Blk g8 (bv out) 23, Row (.slice (some ⟨gB, 0, none⟩) (k + 1) d) 118 33 (k + 1) (peaksV (q :: qs)), Blk g2 (bv (List.replicate 32 0)) 23] X)) (fun v _ => (intOf v + 1).toNat)
        case atStart => exact ⟨_, qs, [q], q.1, rfl, by rw [← HK.out]; omega, hid rfl, by rw [← HK.out]; omega, HQO, hid rfl, H4⟩
        case round =>
          clear H4
          obtain ⟨z, rs, pre, out, rfl, hz, HPR, hrk, HOL, HFO, H5⟩ := hrel
          have HOZ := hid (show (bv out).size = 32 from (bv_size out).trans HOL.out)
          have L8 := run_loadK_box (P := Tryd.prog) H5.out.blk Tryd.underlying23 rfl size54s HOZ.out
          cases rs with
          | nil =>
            have e2 : ¬ (0 : Int) ≤ z := by simp only [List.length_nil] at hz; omega
            have HTS := hid (show totalL ss = out by rw [HTL.out]; exact HFO.out.symm)
            clear HFO HTL hz hrk HPR
            go_wp2_with (refine wpList_store_box 23 _ _ rfl g2 rfl rfl (bv out) rfl 32 size54s HOZ.out (bv_one _) 23 _ H5.out.at3.blk HZ32.out ?_; intro W6 hB6 hT6 hs6; have H7 := hid (H5.out.at3.put hB6 hT6))
            rw [HTS.out]
            exact bodyPost_ret (results_cell rfl _ _ _ g2 23 (bv _) (0, 0) rfl hB6 Tryd.underlying23 (by rw [HOZ.out]; exact size54s)) rfl ⟨rfl, H7.out.below⟩
          | cons p rs =>
            obtain ⟨j, hj⟩ : ∃ j, j = rs.length := ⟨_, rfl⟩
            have hzj : z = (j : Int) := by rw [List.length_cons] at hz; omega
            subst hzj
            have HJ := hid hj
            have hpo := HO.out.1 p (by rw [HPR.out]; simp)
            have HF := hid (fun (X : World) (hX : St w [Blk g8 (bv out) 23, Row (.slice (some ⟨gB, 0, none⟩) (k + 1) d) 118 33 (k + 1) (peaksV (q :: qs)), Blk g2 (bv (List.replicate 32 0)) 23] X) => show (loadK 23 (.pointer (some ⟨gB, j * 33, none⟩))).run Tryd.prog X = .ok (.value (.agg (bv p.1))) X ∧ (loadK 23 (.pointer (some ⟨g8, 0, none⟩))).run Tryd.prog X = .ok (.value (.agg (bv out))) X from ⟨by rw [HJ.out]; exact HFA.out X _ p rs pre HPR.out hX.at2, run_loadK_box (P := Tryd.prog) hX.blk Tryd.underlying23 rfl size54s HOZ.out⟩)
            obtain ⟨sm, hsm⟩ : ∃ sm, sm = nodeL p.1 out := ⟨_, rfl⟩
            have HSM := hid hsm
            have HSM32 := hid (show sm.length = 32 by rw [hsm]; exact nodeL_len _ _)
            have HSMZ := hid (show (bv sm).size = 32 from (bv_size sm).trans HSM32.out)
            have HLN := hid (fun (X : World) (hX : Below w.heap.size w X) => lnode_now (HGL.out.below hX HGL.out.two) hpo HOL.out)
            rw [← hsm] at HLN
            have jk : j < k := by rw [List.length_cons] at hrk; omega
            have j0 : (0 : Int) ≤ (j : Int) := by omega
            have j1 : (j : Int) < ((k + 1 : Nat) : Int) := by omega
            have j2 : (j : Int) < (k : Int) + 1 := by omega
            clear hsm hpo hj hz hrk L8 jk
            go_upto_region 18 with fail
            refine wp_region_ord [7] [(0, 1), (1, 1), (2, 1), (3, 1), (4, 1), (5, 1), (6, 2), (7, 2)] (fun X => St w [Blk g8 (bv out) 23, Row (.slice (some ⟨gB, 0, none⟩) (k + 1) d) 118 33 (k + 1) (peaksV (q :: qs)), Blk g2 (bv (List.replicate 32 0)) 23] X) (by kernel_rfl) (by kernel_rfl) (fun d _ c _ _ h => by cases d <;> exact h) (H5.out.turn (Below.drew (Below.refl _ _))) (fun X hXe hXi => ?_)
            have H6 := H5.out.turn (Below.drew (Below.refl _ _))
            rw [← hXe] at H6
            replace H6 := hid H6
            clear hXe hXi
            clear H5
            iterate 6 (apply wpOrd_class; ((· first | (rw [List.getElem?_toArray, List.getElem?_cons_zero]; done) | (simp only [List.getElem?_toArray, List.getElem?_cons_succ, List.getElem?_cons_zero]; exact rfl))); (· exact rfl); intro K hK; apply Exists.intro; refine And.intro (fun X' hX' => ?_) ?_; (· obtain ⟨hq1, hq2⟩ := HF.out _ hX'; clear hX'; go_simp; (try go_bits); first | done | exact rfl | exact ⟨rfl, rfl⟩); go_simp; refine hK _ _ ?_; clear hK K)
            (apply wpOrd_comes; ((· first | (rw [List.getElem?_toArray, List.getElem?_cons_zero]; done) | (simp only [List.getElem?_toArray, List.getElem?_cons_succ, List.getElem?_cons_zero]; exact rfl))); intro N hN)
            go_wp2_with (go_at_call 50; (with_reducible refine (HLN.out _ H6.out.below).mono ?_); rintro r w3 ⟨rfl, hb⟩; have H7 := hid (H6.out.turn hb); clear hb)
            refine hN _ _ (fun _ => H7.out) ?_
            clear hN N
            (apply wpOrd_comes; ((· first | (rw [List.getElem?_toArray, List.getElem?_cons_zero]; done) | (simp only [List.getElem?_toArray, List.getElem?_cons_succ, List.getElem?_cons_zero]; exact rfl))); intro N hN)
            go_wp2_with (refine wpList_store_box 23 _ _ rfl g8 rfl rfl (bv sm) rfl 32 size54s HSMZ.out (bv_one _) 23 _ H7.out.blk HOZ.out ?_; intro W8 hB8 hT8 hs8; have H8 := hid (H7.out.put hB8 hT8); clear hB8 hT8 hs8)
            refine hN _ _ (fun h => by cases h) ?_
            clear hN N
            refine wpOrd_done ?_
            go_wp2_with fail
            go_roundw
            case rel => exact ⟨_, rs, pre ++ [p], sm, rfl, by rw [← HJ.out], hid (by rw [HPR.out]; simp), by rw [← HJ.out]; omega, HSM32, hid (by rw [← HFO.out, foldP_cons, ← HSM.out]), H8⟩
            case measure => simp only [intOf]; omega
        end
end Go.Proofs.YtnakbdgoaepehaaDoor
/- A climber: at a leaf, up to the top. -/
namespace Go.Cu
open Go Go.RowKit
def clC (c : Nat × Nat) : Array Value := #[.int .i64 c.1, .int .i64 c.2]
theorem upF_le : ∀ (f : Nat) (c : Nat × Nat), (upF f c).1 ≤ c.1 ∧ (upF f c).2 ≤ c.2
  | 0, c => ⟨Nat.le_refl _, Nat.le_refl _⟩
  | f + 1, c => by
    unfold upF
    split
    · have h := upF_le f (c.1 / 2, c.2 / 2)
      exact ⟨by omega, by omega⟩
    · exact ⟨Nat.le_refl _, Nat.le_refl _⟩
theorem upP_le (c : Nat × Nat) : (upP c).1 ≤ c.1 ∧ (upP c).2 ≤ c.2 := by
  unfold upP
  have h := upF_le c.1 c
  show (if c.1 % 2 = 0 then upF c.1 c else c).1 / 2 ≤ c.1 ∧ (if c.1 % 2 = 0 then upF c.1 c else c).2 / 2 ≤ c.2
  split <;> omega
end Go.Cu
namespace Go.Proofs.YtnakbdgoaepehaaDoor
open Go.RowKit Go.Cu
theorem sizeClimb : (Tryd.prog.info? 99).map (·.size) = some 2 := by kernel_rfl
section
variable {w : World}
set_option maxRecDepth 20000 in
set_option maxHeartbeats 4000000 in
theorem right_now {a l : Nat} (ha : a ≤ 8) : Calls Tryd.prog 49 #[.agg (clC (a, l))] w fun r w' => r = .returned (.bool (rightP (a, l))) ∧ Below w.heap.size w w' := by
  have hb : bits .and .i64 (a : Int) 1 = ((a % 2 : Nat) : Int) := by rw [Go.Proofs.and_one _ (by omega)]
  obtain ⟨b, hbb⟩ : ∃ b, b = a % 2 := ⟨_, rfl⟩
  rw [← hbb] at hb
  have HR := hid (show rightP (a, l) = (b == 1 || a == l) by rw [hbb]; rfl)
  have HRI := hid (show rightP (a, l) = ((b : Int) == 1 || (a : Int) == (l : Int)) by
    rw [HR.out]
    rw [Bool.eq_iff_iff]
    simp
    omega)
  have HB := hid (show b < 2 by omega)
  clear ha hbb
  go_enter Tryd.func49, Tryd.ntmps49
  go_upto_region 1 with (refine wpList_box rfl 99 _ rfl (.agg (clC (a, l))) rfl ?_; intro g W1 h1 hl1 hg1 hW1; have H1 := hid ((St.start w).newBlk hW1 hg1 h1); clear h1 hl1 hg1 hW1)
  have x0 := (blk_cell H1.out 0).trans (show _ = some (.int .i64 (a : Int)) from rfl)
  have x1 := (blk_cell H1.out 1).trans (show _ = some (.int .i64 (l : Int)) from rfl)
  go_wp2_with fail
  all_goals go_ret
  all_goals first | exact ⟨by rw [HRI.out]; rfl, H1.out.below⟩ | (rename_i e; exact ⟨by rw [HRI.out, e]; rfl, H1.out.below⟩)
theorem power_now {m : Nat} (h1 : 1 ≤ m) (h8 : m ≤ 8) : Calls Tryd.prog 53 #[.int .i64 m] w fun r w' => r = .returned (.bool (powerP m)) ∧ w = w' := by
  have hb : (bits .and .i64 (m : Int) ((m : Int) - 1) == 0) = powerP m := by
    have : m = 1 ∨ m = 2 ∨ m = 3 ∨ m = 4 ∨ m = 5 ∨ m = 6 ∨ m = 7 ∨ m = 8 := by omega
    rcases this with rfl | rfl | rfl | rfl | rfl | rfl | rfl | rfl <;> decide +kernel
  have m8 : (m : Int) ≤ 8 := by omega
  have m1 : (1 : Int) ≤ (m : Int) := by omega
  have HB := hid hb
  clear hb h1 h8
  go_enter Tryd.func53, Tryd.ntmps53
  go_wp2_with fail
  go_ret
  exact ⟨by rw [← HB.out]; rfl, rfl⟩
theorem zeroClimb (W : World) : (zeroValue 99).run Tryd.prog W = .ok (.agg (clC (0, 0))) W := by kernel_rfl
theorem build_climb {x y : Int} (W : World) : (Instr.build 99 #[(0, .int .i64 x), (1, .int .i64 y)]).run Tryd.prog W = .ok (.agg #[.int .i64 x, .int .i64 y]) W := by
  refine run_buildS (pl := #[(0, 1), (1, 1)]) Tryd.underlying99 zeroClimb (fun W => by kernel_rfl) ?_
  rfl
set_option maxRecDepth 20000 in
set_option maxHeartbeats 4000000 in
theorem up_now {a l : Nat} (ha : a ≤ 8) (hl : l ≤ 8) : Calls Tryd.prog 51 #[.agg (clC (a, l))] w fun r w' => r = .returned (.agg (clC (upP (a, l)))) ∧ Below w.heap.size w w' := by
  have HAL := hid (And.intro ha hl)
  have HB := hid (fun (c : Nat) (hc : c ≤ 8) => show bits .and .i64 (c : Int) 1 = ((c % 2 : Nat) : Int) by rw [Go.Proofs.and_one _ (by omega)])
  have HEND := hid (fun (c : Nat × Nat) (h : upP (a, l) = (c.1 / 2, c.2 / 2)) => show #[Value.int .i64 ((c.1 : Int) / 2), .int .i64 ((c.2 : Int) / 2)] = clC (upP (a, l)) by rw [h]; rfl)
  have a8 : (a : Int) ≤ 8 := by omega
  have a0 : (0 : Int) ≤ (a : Int) := by omega
  have l8 : (l : Int) ≤ 8 := by omega
  have l0 : (0 : Int) ≤ (l : Int) := by omega
  have BB := fun (x y : Int) W => run_buildK (build_climb (x := x) (y := y) W)
  clear ha hl
  go_enter Tryd.func51, Tryd.ntmps51
  go_upto_region 1 with (first | (refine wpList_box rfl 99 _ rfl (.agg (clC (a, l))) rfl ?_; intro g W1 h1 hl1 hg1 hW1; have H1 := hid ((St.start w).newBlk hW1 hg1 h1); clear h1 hl1 hg1 hW1) | (refine wpList_alloc 99 rfl rfl (.agg (clC (0, 0))) zeroClimb ?_; intro g2 W1 h1 hl1 hg1 hW1; have H2 := hid (show St w [Blk g (clC (a, l)) 99, Blk g2 (clC (0, 0)) 99] W1 from (H1.out.newBlk hW1 hg1 h1).at2); clear h1 hl1 hg1 hW1))
  have x0 := (blk_cell H2.out 0).trans (show _ = some (.int .i64 (a : Int)) from rfl)
  have x1 := (blk_cell H2.out 1).trans (show _ = some (.int .i64 (l : Int)) from rfl)
  clear H1
  by_cases he : a % 2 = 0
  · have e0 : bits .and .i64 (a : Int) 1 = 0 := (HB.out a HAL.out.1).trans (by rw [he]; rfl)
    have HE := hid (show upP (a, l) = ((upF a (a, l)).1 / 2, (upF a (a, l)).2 / 2) by unfold upP; rw [if_pos he])
    clear he
    go_wp2_with fail
    clear x0 x1 e0
    go_loopw [7] (fun _ X => ∃ (x y f : Nat), Hid (upF f (x, y) = upF a (a, l)) ∧ x ≤ f ∧ x ≤ 8 ∧ y ≤ 8 ∧ Hid (St w [Blk g (clC (x, y)) 99, Blk g2 (clC (0, 0)) 99] X)) (fun _ X => (intOf ((X.cell? ⟨g, 0, none⟩).getD undef)).toNat)
    case atStart => exact ⟨a, l, a, hid rfl, Nat.le_refl _, HAL.out.1, HAL.out.2, H2⟩
    case round =>
      clear H2
      obtain ⟨x, y, f, HU, hf, hx8, hy8, H3⟩ := hrel
      have x0 := (blk_cell H3.out 0).trans (show _ = some (.int .i64 (x : Int)) from rfl)
      have x1 := (blk_cell H3.out 1).trans (show _ = some (.int .i64 (y : Int)) from rfl)
      have p8 : (x : Int) ≤ 8 := by omega
      have p0 : (0 : Int) ≤ (x : Int) := by omega
      have q8 : (y : Int) ≤ 8 := by omega
      have q0 : (0 : Int) ≤ (y : Int) := by omega
      by_cases hgo : x ≠ 0 ∧ x % 2 = 0
      · have e1 : ¬ (x : Int) = 0 := by omega
        have e2 : bits .and .i64 (x : Int) 1 = 0 := (HB.out x hx8).trans (by rw [hgo.2]; rfl)
        have e3 : ((x : Int) == 0) = false := by simp; omega
        have fz0 := frozen_of_row wr g 0 _ _ H3.out.blk
        have fz1 := frozen_of_row wr g 1 _ _ H3.out.blk
        have HGO := hid hgo
        have HB3 := hid (And.intro hf (And.intro hx8 hy8))
        clear hgo hf hx8 hy8
        go_wp2_with fail
        have h4 := (H3.out.setCell 0 (.int .i64 ((x : Int) / 2))).setCell 1 (.int .i64 ((y : Int) / 2))
        rw [show ((clC (x, y)).setIfInBounds 0 (.int .i64 ((x : Int) / 2))).setIfInBounds 1 (.int .i64 ((y : Int) / 2)) = clC (x / 2, y / 2) from rfl] at h4
        have H4 := hid h4
        have x4 := (blk_cell H4.out 0).trans (show _ = some (.int .i64 ((x / 2 : Nat) : Int)) from rfl)
        have HX0 := hid x0
        have HX4 := hid x4
        clear x0 x1 x4 h4
        go_roundw
        case rel => exact ⟨x / 2, y / 2, f - 1, hid (by
          rw [← HU.out]
          obtain ⟨f', rfl⟩ : ∃ f', f = f' + 1 := ⟨f - 1, by have := HB3.out; have := HGO.out; omega⟩
          show upF f' (x / 2, y / 2) = upF (f' + 1) (x, y)
          conv => rhs; unfold upF
          rw [if_pos HGO.out]), by have := HB3.out; have := HGO.out; omega, by have := HB3.out; omega, by have := HB3.out; omega, H4⟩
        case measure =>
          rw [HX4.out, HX0.out]
          have := HGO.out
          show (((x / 2 : Nat) : Int)).toNat < ((x : Int)).toNat
          omega
      · have HUP := hid (show upP (a, l) = (x / 2, y / 2) from by
          rw [HE.out, ← HU.out]
          cases f with
          | zero => rfl
          | succ f =>
            unfold upF
            rw [if_neg hgo])
        clear HE HU hf
        by_cases hx0 : x = 0
        · have e3 : ((x : Int) != 0) = false := by simp; omega
          clear hgo hx0 hx8 hy8
          go_wp2_with (refine wpList_store_box 99 _ _ rfl g2 rfl rfl #[.int .i64 ((x : Int) / 2), .int .i64 ((y : Int) / 2)] rfl 2 sizeClimb rfl (fun u hu => by simp only [List.mem_cons, List.not_mem_nil, or_false] at hu; rcases hu with rfl | rfl <;> rfl) 99 _ H3.out.at2.blk rfl ?_; intro W6 hB6 hT6 hs6; have H7 := hid (H3.out.at2.put hB6 hT6))
          rw [HEND.out (x, y) HUP.out] at hB6
          exact bodyPost_ret (results_celld _ rfl hB6 Tryd.underlying99 rfl sizeClimb rfl) rfl ⟨rfl, H7.out.below⟩
        · have e1 : ¬ (x : Int) = 0 := by omega
          have e3 : ((x : Int) != 0) = true := by simp; omega
          have e2 : bits .and .i64 (x : Int) 1 = 1 := (HB.out x hx8).trans (by rw [show x % 2 = 1 by omega]; rfl)
          clear hgo hx0 hx8 hy8
          go_wp2_with (refine wpList_store_box 99 _ _ rfl g2 rfl rfl #[.int .i64 ((x : Int) / 2), .int .i64 ((y : Int) / 2)] rfl 2 sizeClimb rfl (fun u hu => by simp only [List.mem_cons, List.not_mem_nil, or_false] at hu; rcases hu with rfl | rfl <;> rfl) 99 _ H3.out.at2.blk rfl ?_; intro W6 hB6 hT6 hs6; have H7 := hid (H3.out.at2.put hB6 hT6))
          rw [HEND.out (x, y) HUP.out] at hB6
          exact bodyPost_ret (results_celld _ rfl hB6 Tryd.underlying99 rfl sizeClimb rfl) rfl ⟨rfl, H7.out.below⟩
  · have e0 : bits .and .i64 (a : Int) 1 = 1 := (HB.out a HAL.out.1).trans (by rw [show a % 2 = 1 by omega]; rfl)
    have HUP := hid (show upP (a, l) = (a / 2, l / 2) by unfold upP; rw [if_neg he])
    clear he
    go_wp2_with (refine wpList_store_box 99 _ _ rfl g2 rfl rfl #[.int .i64 ((a : Int) / 2), .int .i64 ((l : Int) / 2)] rfl 2 sizeClimb rfl (fun u hu => by simp only [List.mem_cons, List.not_mem_nil, or_false] at hu; rcases hu with rfl | rfl <;> rfl) 99 _ H2.out.at2.blk rfl ?_; intro W6 hB6 hT6 hs6; have H7 := hid (H2.out.at2.put hB6 hT6))
    rw [HEND.out (a, l) HUP.out] at hB6
    exact bodyPost_ret (results_celld _ rfl hB6 Tryd.underlying99 rfl sizeClimb rfl) rfl ⟨rfl, H7.out.below⟩
end
end Go.Proofs.YtnakbdgoaepehaaDoor
/- That one is there, checked. -/
namespace Go.Cu
open Go Go.RowKit
theorem clC_one (c : Nat × Nat) : ∀ u ∈ (clC c).toList, u.oneCell' = true := by
  intro u hu
  simp only [clC, List.mem_cons, List.not_mem_nil, or_false] at hu
  rcases hu with rfl | rfl <;> rfl
section
variable {X : Type} {N : X → X → X} {c : Nat × Nat} {x s : X} {ss : List X} {r : Option ((Nat × Nat) × X)}
theorem ckI_cons {v : (Nat × Nat) × X} (h : ckI N c x (s :: ss) = some v) : c.2 ≠ 0 ∧ (if rightP c = true then ckI N (upP c) (N s x) ss else ckI N (c.1 / 2, c.2 / 2) (N x s) ss) = some v := by
  unfold ckI at h
  by_cases h0 : c.2 = 0
  · rw [if_pos h0] at h
    cases h
  · rw [if_neg h0] at h
    exact ⟨h0, h⟩
end
end Go.Cu
namespace Go.Proofs.YtnakbdgoaepehaaDoor
open Go.RowKit Go.Cu
@[go_sem ↓] theorem ldktCLIMB (a : Act) (dst : Option Tmp) (x : Operand) (ty : TypeId) (pos : String) (after : Array Edge) (guard : Option (Nat × Bool)) :
      execOp a.eval { dst, op := .load 99 x, type := ty, pos, after, guard } = loadK 99 (a.eval x) := rfl
section
variable {w : World}
set_option maxRecDepth 20000 in
set_option maxHeartbeats 8000000 in
theorem ckI_now (hG : Glob w) {B A : Option Addr} {m d q c i n a : Nat} {r root : List UInt8} {ps : List (List UInt8)} (hm : m = r.length) (hd : m ≤ d) (hdm : d ≤ maxLen) (hb : BytesIn w B r) (hl : r.length ≤ 1000) (hin : SumsAt w A ps) (ha : All32 ps) (hq : q = ps.length) (h10 : q ≤ 10) (hr : root.length = 32) (hi : i < n) (h8 : n ≤ 8) (hck : ckI nodeL (i, n - 1) (entL r) ps = some ((a, 0), root)) :
    Calls Tryd.prog 28 #[.slice B m d, .int .i64 i, .int .i64 n, .slice A q c, .agg (bv root)] w fun r w' => r = .returned (.int .i64 0) ∧ Below w.heap.size w w' := by
  have HGL := hid hG
  have HA := hid ha
  have HIN := hid hin
  have HQ := hid hq
  have HRL := hid hr
  have HRZ := hid (show (bv root).size = 32 from (bv_size root).trans hr)
  have HZ32 := hid zero32_size
  have HE := hid (fun (X : World) (hX : Below w.heap.size w X) => entry_now (hG.below hX hG.two) hm hd hdm (hb.below hX) hl)
  obtain ⟨e0, he0⟩ : ∃ e0, e0 = entL r := ⟨_, rfl⟩
  have HE32 := hid (show e0.length = 32 by rw [he0]; exact entL_len _)
  have HEZ := hid (show (bv e0).size = 32 from (bv_size e0).trans HE32.out)
  rw [← he0] at HE hck
  have HCK := hid hck
  have HB := hid (And.intro hi h8)
  have n1 : ¬ (n : Int) < 1 := by omega
  have n2 : (1 : Int) ≤ (n : Int) := by omega
  have n3 : (n : Int) ≤ 8 := by omega
  have i0 : ¬ (i : Int) < 0 := by omega
  have i1 : ¬ (n : Int) ≤ (i : Int) := by omega
  have bn2 : decide (n ≤ i) = false := decide_eq_false (by omega)
  have hnn : #[Value.int .i64 (i : Int), .int .i64 ((n : Int) - 1)] = clC (i, n - 1) := by
    unfold clC
    rw [show ((n : Int) - 1) = (((n - 1 : Nat)) : Int) by omega]
  have HNN := hid hnn
  have q10 : (q : Int) ≤ 10 := by omega
  have q0 : (0 : Int) ≤ (q : Int) := by omega
  clear hG hm hd hdm hb hl hin ha hq h10 hr hi h8 hck he0 hnn
  go_enter Tryd.func28, Tryd.ntmps28
  go_wp2_with (first | (refine wpList_box rfl 23 _ rfl (.agg (bv root)) rfl ?_; intro g9 W1 h1 hl1 hg1 hW1; have H1 := hid ((St.start w).newBlk hW1 hg1 h1); clear h1 hl1 hg1 hW1) | (refine wpList_alloc 99 rfl rfl (.agg (clC (0, 0))) zeroClimb ?_; intro g11 W1 h1 hl1 hg1 hW1; have H2 := hid (H1.out.newBlk hW1 hg1 h1); clear h1 hl1 hg1 hW1) | (refine wpList_store_box 99 _ _ rfl g11 rfl rfl #[.int .i64 i, .int .i64 ((n : Int) - 1)] rfl 2 sizeClimb rfl (by rw [HNN.out]; exact clC_one _) 99 _ H2.out.blk rfl ?_; intro W7 hB7 hT7 hs7; rw [HNN.out] at hB7; have H3 := hid (H2.out.put hB7 hT7); clear hB7 hT7 hs7) | (go_at_call 44; (with_reducible refine (HE.out _ H3.out.below).mono ?_); rintro r w3 ⟨rfl, hb⟩; have H4 := hid (H3.out.turn hb); clear hb) | (refine wpList_alloc 23 rfl rfl (.agg (bv (List.replicate 32 0))) zero54s ?_; intro g12 W1 h1 hl1 hg1 hW1; have H5 := hid (H4.out.newBlk hW1 hg1 h1); clear h1 hl1 hg1 hW1) | (refine wpList_store_box 23 _ _ rfl g12 rfl rfl (bv e0) rfl 32 size54s HEZ.out (bv_one _) 23 _ H5.out.blk HZ32.out ?_; intro W8 hB8 hT8 hs8; have H6 := hid (H5.out.put hB8 hT8); clear hB8 hT8 hs8))
  clear H1 H2 H3 H4 H5
  go_loopw [34] (fun iv X => ∃ (t ca cl : Nat) (x : List UInt8), t ≤ q ∧ iv = .int .i64 t ∧ Hid (ckI nodeL (ca, cl) x (ps.drop t) = some ((a, 0), root)) ∧ ca ≤ 8 ∧ cl ≤ 8 ∧ Hid (x.length = 32) ∧ Hid (St w [Blk g11 (clC (ca, cl)) 99, Blk g12 (bv x) 23, Blk g9 (bv root) 23] X)) (fun iv _ => q - (intOf iv).toNat)
  case atStart => exact ⟨0, i, n - 1, e0, by omega, rfl, hid (by rw [List.drop_zero]; exact HCK.out), by have := HB.out; omega, by have := HB.out; omega, HE32, hid H6.out.at2⟩
  case round =>
    clear H6
    obtain ⟨t, ca, cl, x, ht, rfl, HP, hca, hcl, HX32, H2⟩ := hrel
    have t0 : (0 : Int) ≤ (t : Int) := by omega
    have HXZ := hid (show (bv x).size = 32 from (bv_size x).trans HX32.out)
    have HFC := hid (fun (X : World) (M : List Atm) (hX : St w (Blk g11 (clC (ca, cl)) 99 :: M) X) => show X.cell? ⟨g11, 0, none⟩ = some (.int .i64 (ca : Int)) ∧ X.cell? ⟨g11, 1, none⟩ = some (.int .i64 (cl : Int)) ∧ (loadK 99 (.pointer (some ⟨g11, 0, none⟩))).run Tryd.prog X = .ok (.value (.agg (clC (ca, cl)))) X from ⟨(blk_cell hX 0).trans rfl, (blk_cell hX 1).trans rfl, run_loadK_box (P := Tryd.prog) hX.blk Tryd.underlying99 rfl sizeClimb rfl⟩)
    by_cases hlt : t < q
    · have t1 : (t : Int) < (q : Int) := by omega
      obtain ⟨s, hs⟩ : ∃ s, ps[t]? = some s := ⟨_, List.getElem?_eq_getElem (by have := HQ.out; omega)⟩
      have HS32 := hid (HA.out s (List.mem_of_getElem? hs))
      have HSZ := hid (show (bv s).size = 32 from (bv_size s).trans HS32.out)
      obtain ⟨g, o, rfl, hld⟩ := (HIN.out.below H2.out.below).load (P := Tryd.prog) HA.out hs Tryd.underlying23 rfl size54s
      have LS := hld _ rfl
      have hp := HP.out
      obtain ⟨hsl, hse⟩ := List.getElem?_eq_some_iff.1 hs
      rw [List.drop_eq_getElem_cons hsl, hse] at hp
      obtain ⟨hcz, hp⟩ := ckI_cons hp
      have c0 : (0 : Int) ≤ (ca : Int) := by omega
      have c1 : (ca : Int) ≤ 8 := by omega
      have l1 : (1 : Int) ≤ (cl : Int) := by have h : cl ≠ 0 := hcz; omega
      have l2 : (cl : Int) ≤ 8 := by omega
      have l3 : ¬ (cl : Int) = 0 := by omega
      have l4 : ((cl : Int) == 0) = false := by simp; omega
      have l5 : (cl == 0) = false := by simp; omega
      have HCB := hid (And.intro hca hcl)
      have HF := hid (fun (X : World) (g14 : Nat) (hX : St w [Blk g14 (bv s) 23, Blk g11 (clC (ca, cl)) 99, Blk g12 (bv x) 23, Blk g9 (bv root) 23] X) => show X.cell? ⟨g11, 0, none⟩ = some (.int .i64 (ca : Int)) ∧ X.cell? ⟨g11, 1, none⟩ = some (.int .i64 (cl : Int)) ∧ (loadK 99 (.pointer (some ⟨g11, 0, none⟩))).run Tryd.prog X = .ok (.value (.agg (clC (ca, cl)))) X ∧ (loadK 23 (.pointer (some ⟨g14, 0, none⟩))).run Tryd.prog X = .ok (.value (.agg (bv s))) X ∧ (loadK 23 (.pointer (some ⟨g12, 0, none⟩))).run Tryd.prog X = .ok (.value (.agg (bv x))) X from by
        obtain ⟨y0, y1, y2⟩ := HFC.out X _ hX.at2
        exact ⟨y0, y1, y2, run_loadK_box (P := Tryd.prog) hX.blk Tryd.underlying23 rfl size54s HSZ.out, run_loadK_box (P := Tryd.prog) hX.at3.blk Tryd.underlying23 rfl size54s HXZ.out⟩)
      clear hs hld hsl hse hcz HP
      by_cases hrb : rightP (ca, cl) = true
      · obtain ⟨sm, hsm⟩ : ∃ sm, sm = nodeL s x := ⟨_, rfl⟩
        obtain ⟨⟨ua, ul⟩, hup⟩ : ∃ u, u = upP (ca, cl) := ⟨_, rfl⟩
        have hul := upP_le (ca, cl)
        rw [← hup] at hul
        have HUL := hid hul
        have HUPC := hid (fun X => up_now (w := X) hca hcl)
        rw [← hup] at HUPC
        have HP2 := hid (show ckI nodeL (ua, ul) sm (ps.drop (t + 1)) = some ((a, 0), root) from by
          rw [hsm, hup]
          rw [if_pos hrb] at hp
          exact hp)
        have HSMZ := hid (show (bv sm).size = 32 by rw [bv_size, hsm]; exact nodeL_len _ _)
        have HSM32 := hid (show sm.length = 32 by rw [hsm]; exact nodeL_len _ _)
        have HLN := hid (fun (X : World) (hX : Below w.heap.size w X) => lnode_now (HGL.out.below hX HGL.out.two) HS32.out HX32.out)
        rw [← hsm] at HLN
        have HRT := hid (fun X => right_now (w := X) (a := ca) (l := cl) hca)
        rw [show rightP (ca, cl) = true from by simpa using hrb] at HRT
        clear hsm hup hul hp hrb hca hcl
        go_wp2_with (first | (refine wpList_alloc 23 rfl rfl (.agg (bv (List.replicate 32 0))) zero54s ?_; intro g14 W1 h1 hl1 hg1 hW1; have H3 := hid (H2.out.newBlk hW1 hg1 h1); clear h1 hl1 hg1 hW1 LS) | (refine wpList_store_box 23 _ _ rfl g14 rfl rfl (bv s) rfl 32 size54s HSZ.out (bv_one _) 23 _ H3.out.blk HZ32.out ?_; intro W7 hB7 hT7 hs7; have H4 := hid (H3.out.put hB7 hT7); clear hB7 hT7 hs7; obtain ⟨x0, x1, LC, L14, L12⟩ := HF.out _ _ H4.out) | (go_at_call 49; (with_reducible refine (HRT.out _).mono ?_); rintro r w3 ⟨rfl, hb⟩; have H5 := hid (H4.out.turn hb); clear hb x0 x1 LC L14 L12; obtain ⟨x0, x1, LC, L14, L12⟩ := HF.out _ _ H5.out) | (go_at_call 50; (with_reducible refine (HLN.out _ H5.out.below).mono ?_); rintro r w4 ⟨rfl, hb⟩; have H6 := hid (H5.out.turn hb); clear hb x0 x1 LC L14 L12) | (refine wpList_store_box 23 _ _ rfl g12 rfl rfl (bv sm) rfl 32 size54s HSMZ.out (bv_one _) 23 _ H6.out.at3.blk HXZ.out ?_; intro W8 hB8 hT8 hs8; have H7 := hid (H6.out.at3.put hB8 hT8); clear hB8 hT8 hs8; obtain ⟨x0, x1, LC⟩ := HFC.out _ _ H7.out.at3) | (go_at_call 51; (with_reducible refine (HUPC.out _).mono ?_); rintro r w5 ⟨rfl, hb⟩; have H8 := hid (H7.out.turn hb); clear hb x0 x1 LC) | (refine wpList_store_box 99 _ _ rfl g11 rfl rfl (clC (ua, ul)) rfl 2 sizeClimb rfl (clC_one _) 99 _ H8.out.at3.blk rfl ?_; intro W9 hB9 hT9 hs9; have H9 := hid (H8.out.at3.put hB9 hT9); clear hB9 hT9 hs9))
        go_roundw
        case rel => exact ⟨t + 1, ua, ul, sm, by omega, by go_num, HP2, by have := HUL.out; have := HCB.out; omega, by have := HUL.out; have := HCB.out; omega, HSM32, hid H9.out.drop3⟩
        case measure => simp only [intOf]; omega
      · obtain ⟨sm, hsm⟩ : ∃ sm, sm = nodeL x s := ⟨_, rfl⟩
        have HP2 := hid (show ckI nodeL (ca / 2, cl / 2) sm (ps.drop (t + 1)) = some ((a, 0), root) from by
          rw [hsm]
          rw [if_neg hrb] at hp
          exact hp)
        have HSMZ := hid (show (bv sm).size = 32 by rw [bv_size, hsm]; exact nodeL_len _ _)
        have HSM32 := hid (show sm.length = 32 by rw [hsm]; exact nodeL_len _ _)
        have HLN := hid (fun (X : World) (hX : Below w.heap.size w X) => lnode_now (HGL.out.below hX HGL.out.two) HX32.out HS32.out)
        rw [← hsm] at HLN
        have HRT := hid (fun X => right_now (w := X) (a := ca) (l := cl) hca)
        rw [show rightP (ca, cl) = false from by simpa using hrb] at HRT
        clear hsm hp hrb hca hcl
        go_wp2_with (first | (refine wpList_alloc 23 rfl rfl (.agg (bv (List.replicate 32 0))) zero54s ?_; intro g14 W1 h1 hl1 hg1 hW1; have H3 := hid (H2.out.newBlk hW1 hg1 h1); clear h1 hl1 hg1 hW1 LS) | (refine wpList_store_box 23 _ _ rfl g14 rfl rfl (bv s) rfl 32 size54s HSZ.out (bv_one _) 23 _ H3.out.blk HZ32.out ?_; intro W7 hB7 hT7 hs7; have H4 := hid (H3.out.put hB7 hT7); clear hB7 hT7 hs7; obtain ⟨x0, x1, LC, L14, L12⟩ := HF.out _ _ H4.out) | (go_at_call 49; (with_reducible refine (HRT.out _).mono ?_); rintro r w3 ⟨rfl, hb⟩; have H5 := hid (H4.out.turn hb); clear hb x0 x1 LC L14 L12; obtain ⟨x0, x1, LC, L14, L12⟩ := HF.out _ _ H5.out) | (go_at_call 50; (with_reducible refine (HLN.out _ H5.out.below).mono ?_); rintro r w4 ⟨rfl, hb⟩; have H6 := hid (H5.out.turn hb); clear hb x0 x1 LC L14 L12) | (refine wpList_store_box 23 _ _ rfl g12 rfl rfl (bv sm) rfl 32 size54s HSMZ.out (bv_one _) 23 _ H6.out.at3.blk HXZ.out ?_; intro W8 hB8 hT8 hs8; have H7 := hid (H6.out.at3.put hB8 hT8); clear hB8 hT8 hs8; obtain ⟨x0, x1, LC⟩ := HFC.out _ _ H7.out.at3) | (refine wpList_store_box 99 _ _ rfl g11 rfl rfl (clC (ca / 2, cl / 2)) rfl 2 sizeClimb rfl (clC_one _) 99 _ H7.out.at3.blk rfl ?_; intro W9 hB9 hT9 hs9; have H9 := hid (H7.out.at3.put hB9 hT9); clear hB9 hT9 hs9))
        go_roundw
        case rel => exact ⟨t + 1, ca / 2, cl / 2, sm, by omega, by go_num, HP2, by have := HCB.out; omega, by have := HCB.out; omega, HSM32, hid H9.out.drop3⟩
        case measure => simp only [intOf]; omega
    · have t1 : ¬ (t : Int) < (q : Int) := by omega
      have hp := HP.out
      rw [List.drop_of_length_le (by have := HQ.out; omega)] at hp
      cases hp
      obtain ⟨x0, x1, LC⟩ := HFC.out _ _ H2.out
      have L12 := run_loadK_box (P := Tryd.prog) H2.out.at2.blk Tryd.underlying23 rfl size54s HRZ.out
      have L9 := run_loadK_box (P := Tryd.prog) H2.out.at3.blk Tryd.underlying23 rfl size54s HRZ.out
      have CN := fun (p q : Operand) (W : World) => (run_cmpK_neq (P := Tryd.prog) guardSum Tryd.underlying23 be5 cellsK HRL.out HRL.out p q W).trans (show _ = .ok (.value (.bool false)) W by simp)
      clear HP
      go_wp2_with fail
      go_ret
      exact ⟨rfl, H2.out.below⟩
  
end
end Go.Proofs.YtnakbdgoaepehaaDoor
/- The root of a beginning; a log's length. -/
namespace Go.Cu
open Go Go.RowKit
section
variable {P : Program} {fn : Func} {p u : Tmp} {ty : TypeId} {g : Nat} {t' : TypeId} {cs : Array Value} {fr : Nat × Nat} {d : TypeDesc} {w : World} (tmps : Array Value)
    (hp : tmps.getD p undef = .pointer (some ⟨g, 0, none⟩)) (hg : w.heap[g]? = some (.cells cs t' fr)) (hu : P.underlying ty = some d) (hd : (match d with | .struct _ | .array _ _ => true | _ => false) = true) (hi : (P.info? ty).map (·.size) = some cs.size)
include hp hg hu hd hi
theorem results_ct (h : fn.results = #[.cell p ty, .tmp u]) : (results fn tmps).run P w = .ok (.tuple #[.agg cs, tmps.getD u undef]) w := by
  have hp' : tmps[p]?.getD undef = .pointer (some ⟨g, 0, none⟩) := by simpa using hp
  have hl := run_loadVar_row (P := P) w g t' ty cs fr _ hg hu hd hi
  simp [results, h, hp', asAddr, hl]
end
theorem peaksP_ok {N : List UInt8 → List UInt8 → List UInt8} (hN : ∀ a b, (N a b).length = 32) : ∀ {ss : List (List UInt8)} {ps : List Pk}, PkOk ps → All32 ss → PkOk (peaksP N ps ss)
  | [], _, h, _ => h
  | s :: ss, _, h, ha => peaksP_ok hN (ss := ss) (pushP_ok hN (ha s (by simp)) h) fun x hx => ha x (List.mem_cons_of_mem _ hx)
theorem foldP_len {N : List UInt8 → List UInt8 → List UInt8} (hN : ∀ a b, (N a b).length = 32) : ∀ {ps : List Pk} {out : List UInt8}, out.length = 32 → (foldP N out ps).length = 32
  | [], _, h => h
  | _ :: ps, _, _ => foldP_len hN (ps := ps) (hN _ _)
theorem totalP_len {N : List UInt8 → List UInt8 → List UInt8} {Z : List UInt8} (hN : ∀ a b, (N a b).length = 32) (hZ : Z.length = 32) {ss : List (List UInt8)} (ha : All32 ss) : (totalP N Z ss).length = 32 := by
  have h := peaksP_ok hN (ss := ss) (ps := []) (fun x hx => by cases hx) ha
  unfold totalP
  cases hp : peaksP N [] ss with
  | nil => exact hZ
  | cons p ps =>
    rw [hp] at h
    exact foldP_len hN (h p (by simp))
theorem nilL_len : nilL.length = 32 := sumL_len _
theorem total_len {ss : List (List UInt8)} (ha : All32 ss) : (totalL ss).length = 32 := totalP_len nodeL_len nilL_len ha
/-- A log's one cell. -/
theorem log_cell {w X : World} {gl : Nat} {v : Value} {t : TypeId} (hl : w.heap[gl]? = some (.cells #[v] t (0, 0))) (hb : Below w.heap.size w X) : X.cell? ⟨gl, 0, none⟩ = some v :=
  cell_of_row X gl 0 _ _ _ ((hb.block gl (heap_lt hl)).trans hl)
end Go.Cu
namespace Go.Proofs.YtnakbdgoaepehaaDoor
open Go.RowKit Go.Cu
section
variable {w : World}
theorem lgLen_now {gl n c : Nat} {A : Option Addr} (hl : w.heap[gl]? = some (.cells #[.slice A n c] 63 (0, 0))) : Calls Tryd.prog 45 #[.pointer (some ⟨gl, 0, none⟩)] w fun r w' => w = w' ∧ r = .returned (.int .i64 n) := by
  have x0 := log_cell hl (Below.refl _ _)
  clear hl
  go_enter Tryd.func45, Tryd.ntmps45
  go_wp2_with fail
  go_ret
  exact ⟨rfl, rfl⟩
set_option maxRecDepth 20000 in
set_option maxHeartbeats 8000000 in
theorem lroot_now (hG : Glob w) {gl n c : Nat} {A : Option Addr} {ss : List (List UInt8)} (hl : w.heap[gl]? = some (.cells #[.slice A n c] 63 (0, 0))) (hin : SumsAt w A ss) (ha : All32 ss) (hn : n = ss.length) (h8 : n ≤ 8) (hc : n ≤ c) {m : Nat} (h1 : 1 ≤ m) (hm : m ≤ n) : Calls Tryd.prog 25 #[.pointer (some ⟨gl, 0, none⟩), .int .i64 m] w fun r w' => r = .returned (.tuple #[.agg (bv (totalL (ss.take m))), .int .i64 0]) ∧ Below w.heap.size w w' := by
  have HL := hid hl
  have HX := hid (fun (X : World) (hX : Below w.heap.size w X) => log_cell hl hX)
  have HLEN := hid (fun (X : World) (hX : Below w.heap.size w X) => lgLen_now (w := X) ((hX.block gl (heap_lt hl)).trans hl))
  have HTOT := hid (fun (X : World) (hX : Below w.heap.size w X) => total_now (A := A) (n := m) (c := c) (hG.below hX hG.two) ((hin.take m).below hX) (ha.take m) (by rw [List.length_take]; omega) (by omega))
  obtain ⟨sm, hsm⟩ : ∃ sm, sm = totalL (ss.take m) := ⟨_, rfl⟩
  have HZ32 := hid zero32_size
  have HZ := hid (show (bv sm).size = 32 by
    rw [bv_size, hsm]
    exact total_len (ha.take m))
  rw [← hsm] at HTOT ⊢
  have m0 : (0 : Int) ≤ (m : Int) := by omega
  have m1 : (1 : Int) ≤ (m : Int) := by omega
  have m2 : (m : Int) ≤ (n : Int) := by omega
  have m3 : (m : Int) ≤ (c : Int) := by omega
  have m4 : m ≤ c := by omega
  have m5 : ¬ (m : Int) = 0 := by omega
  have m6 : ((m : Int) == 0) = false := by simp; omega
  clear hG hl hin ha hn h8 hc h1 hm hsm
  go_enter Tryd.func25, Tryd.ntmps25
  go_wp2_with (first | (refine wpList_alloc 23 rfl rfl (.agg (bv (List.replicate 32 0))) zero54s ?_; intro go W1 h1 hl1 hg1 hW1; have H1 := hid ((St.start w).newBlk hW1 hg1 h1); have x0 := HX.out _ H1.out.below; clear h1 hl1 hg1 hW1) | (go_at_call 45; (with_reducible refine (HLEN.out _ H1.out.below).mono ?_); rintro r w3 ⟨rfl, rfl⟩) | (go_at_call 46; (with_reducible refine (HTOT.out _ H1.out.below).mono ?_); rintro r w3 ⟨rfl, hb⟩; have H2 := hid (H1.out.turn hb); clear hb) | (refine wpList_store_box 23 _ _ rfl go rfl rfl (bv sm) rfl 32 size54s HZ.out (bv_one _) 23 _ H2.out.blk HZ32.out ?_; intro W6 hB6 hT6 hs6; have H7 := hid (H2.out.put hB6 hT6)))
  exact bodyPost_ret (results_ct _ rfl hB6 Tryd.underlying23 rfl (by rw [HZ.out]; exact size54s) rfl) rfl ⟨rfl, H7.out.below⟩
end
end Go.Proofs.YtnakbdgoaepehaaDoor
/- That a beginning is one, checked. -/
namespace Go.Cu
open Go Go.RowKit
def optA (b : Bool) (a : Atm) : List Atm := match b with
  | true => [a]
  | false => []
section
variable {P : Program}
theorem wpList_append_sums {ops : Array Oper} {rest : List Oper} {o : Oper} {a : Act} {w : World} {Q : Exit → Act → World → Prop} (s x : Operand) (t : TypeId)
    (ho : o.op = .call { callee := .builtin .append, args := #[s, x], argTypes := #[t, t] }) (v : Value) (hs : a.eval s = v) (B : Option Addr) (m c : Nat) (hx : a.eval x = .slice B m c) (hw : Region.wanted o (yielded ops a.tmps) = true)
    (e : TypeId) (i : TypeInfo) (z : Value) (ht : P.underlying t = some (.slice e)) (hi : P.info? e = some i) (hz : i.zero = some z)
    (hsize : i.size = 32) (hby : i.bytes = 32) (hzs : z.cells.size = 32)
    (n : Nat) (xs : List Value) (hown : w.ownsRow 0 e 32 v n xs) (ls : List (List UInt8)) (hS : SumsAt w B ls) (ha : All32 ls) (hm : ls.length = m)
    (h63 : n + m ≤ 1000000)
    (h : ∀ v' w', w'.ownsRow 0 e 32 v' (n + m) (xs ++ sumsV ls) → Tch (fun g => v.ownBlock = some g) w w' → (v'.ownBlock = v.ownBlock ∨ v'.ownBlock = some w.heap.size) → wpList P ops Q rest (a.put o.dst v') w') : wpList P ops Q (o :: rest) a w := by
  by_cases h0 : m = 0
  · subst h0
    obtain rfl : ls = [] := List.eq_nil_of_length_eq_zero hm
    refine wpList_wanted hw fun K hK => ?_
    have hrun := run_append_zero 0 t o.type e i 32 ht hi v n xs hown B c
    unfold Oper.wp execOp
    simp only [ho, resolve, invoke, builtin, Sem.run_bind, Sem.run_pure, Result.andThen_ok, List.map_toArray, List.map_cons, List.map_nil, hs, hx, hrun]
    exact hK _ _ (h v w (by simpa using hown) (Tch.refl _ _) (.inl rfl))
  · obtain ⟨g, o', cs, t', rfl, hg, hS⟩ := hS.some (fun e => h0 (by rw [← hm, e]; rfl))
    have hkl : (sumsV ls).length = m * 32 := by rw [sumsV_len ha, hm]
    refine wpList_append_at s x t ho v hs ⟨g, o', none⟩ m c hx hw e i z 32 32 ht hi hz hsize hby hzs (by decide) n xs hown (sumsV ls) hkl (fun j u hj => ?_) (fun u hu => by
      obtain ⟨x, _, hx⟩ := List.mem_flatMap.1 hu
      exact bvL_one x u hx) (by unfold maxLen; omega) (by omega) h
    have hjl : j < (sumsV ls).length := (List.getElem?_eq_some_iff.1 hj).1
    have hi32 : j / 32 < ls.length := by omega
    have hc := hS (j / 32) (ls[j / 32]) (List.getElem?_eq_getElem hi32) (j % 32) (Nat.mod_lt _ (by decide))
    have h5 := fm_get ls (j / 32) (j % 32) (ls[j / 32]) ha.len (List.getElem?_eq_getElem hi32) (Nat.mod_lt _ (by decide))
    have hdm : j / 32 * 32 + j % 32 = j := Nat.div_add_mod' j 32
    rw [hdm] at h5
    rw [Nat.add_assoc, hdm] at hc
    have e3 : (⟨g, o', none⟩ : Addr).add j = ⟨g, o' + j, none⟩ := by unfold Addr.add; split <;> simp_all
    rw [e3]
    refine (cell_of_row w g (o' + j) _ _ _ hg).trans (hc.trans ?_)
    rw [bv_eq, List.getElem?_toArray, ← h5]
    exact hj
end
section
variable {X : Type} {N : X → X → X} {c : Nat × Nat} {x y s : X} {ss : List X}
theorem ckC_cons {v : (Nat × Nat) × X × X} (h : ckC N c x y (s :: ss) = some v) : c.2 ≠ 0 ∧ (if rightP c = true then ckC N (upP c) (N s x) (N s y) ss else ckC N (c.1 / 2, c.2 / 2) x (N y s) ss) = some v := by
  unfold ckC at h
  by_cases h0 : c.2 = 0
  · rw [if_pos h0] at h
    cases h
  · rw [if_neg h0] at h
    exact ⟨h0, h⟩
theorem dropF_odd {f : Nat} (h : c.1 % 2 = 1) : dropF (f + 1) c = dropF f (c.1 / 2, c.2 / 2) := by
  conv => lhs; unfold dropF
  rw [if_pos h]
theorem dropF_even {f : Nat} (h : ¬ c.1 % 2 = 1) : dropF f c = c := by
  cases f with
  | zero => rfl
  | succ f => unfold dropF; rw [if_neg h]
end
theorem St.unmidA {W0 W : World} {L M : List Atm} {a : Atm} (h : St W0 (a :: (M ++ L)) W) : St W0 (M ++ (a :: L)) W := h.perm List.perm_middle.symm
theorem St.newRow1 {W0 W W' : World} {L : List Atm} {g e s : Nat} {cs : Array Value} (h : St W0 L W) (hb : Below W.heap.size W W') (hg : W.heap.size ≤ g) (hc : W'.heap[g]? = some (.cells cs e (0, 0))) (xs : List Value) (hcs : cs.toList = xs) (hs : xs.length = s) : St W0 (Row (.slice (some ⟨g, 0, none⟩) 1 1) e s 1 xs :: L) W' :=
  h.push hb ⟨fun g' hg' => by
    have : g = g' := by simpa [Value.ownBlock] using hg'
    subst this
    exact hg, by omega, .inr ⟨g, 1, cs, rfl, Nat.zero_le _, hc, Nat.le_refl _, by decide, by rw [Nat.one_mul, ← hs, ← hcs]; simp, by rw [Nat.one_mul, hcs, ← hs, List.take_length]⟩⟩
theorem sumsV_cons (s : List UInt8) (ss : List (List UInt8)) : sumsV (s :: ss) = bvL s ++ sumsV ss := rfl
theorem All32.cons {s : List UInt8} {ss : List (List UInt8)} (hs : s.length = 32) (h : All32 ss) : All32 (s :: ss) := fun x hx => by
  rcases List.mem_cons.1 hx with rfl | hx
  · exact hs
  · exact h x hx
end Go.Cu
namespace Go.Proofs.YtnakbdgoaepehaaDoor
open Go.RowKit Go.Cu
@[go_sem ↓] theorem eqktSUM (a : Act) (dst : Option Tmp) (x y : Operand) (t' ty : TypeId) (pos : String) (after : Array Edge) (guard : Option (Nat × Bool)) :
      execOp a.eval { dst, op := .binOp .eql 23 x y t', type := ty, pos, after, guard } = cmpK .eql 23 x y (a.eval x) (a.eval y) := rfl
section
variable {w : World}
set_option maxRecDepth 20000 in
set_option maxHeartbeats 8000000 in
theorem short_now {m n c : Nat} {A : Option Addr} {old : List UInt8} (h1 : 1 ≤ m) (ho : old.length = 32) : Calls Tryd.prog 52 #[.int .i64 m, .int .i64 n, .slice A 0 c, .agg (bv old), .agg (bv old)] w fun r w' => r = .returned (.int .i64 0) ∧ Below w.heap.size w w' := by
  have HOZ := hid (show (bv old).size = 32 from (bv_size old).trans ho)
  have CM := fun (p q : Operand) (W : World) => (run_cmpK_eql (P := Tryd.prog) guardSum Tryd.underlying23 be5 cellsK ho ho p q W).trans (show _ = .ok (.value (.bool true)) W by simp)
  have m0 : ¬ (m : Int) = 0 := by omega
  have m1 : ((m : Int) == 0) = false := by simp; omega
  have m2 : (m == 0) = false := by simp; omega
  clear h1 ho
  go_enter Tryd.func52, Tryd.ntmps52
  go_wp2_with (first | (refine wpList_box rfl 23 (.tmp 3) rfl (.agg (bv old)) rfl ?_; intro g8 W1 h1 hl1 hg1 hW1; have H1 := hid ((St.start w).newBlk hW1 hg1 h1); clear h1 hl1 hg1 hW1) | (refine wpList_box rfl 23 (.tmp 4) rfl (.agg (bv old)) rfl ?_; intro g9 W1 h1 hl1 hg1 hW1; have H2 := hid (H1.out.newBlk hW1 hg1 h1); have L9 := run_loadK_box (P := Tryd.prog) H2.out.blk Tryd.underlying23 rfl size54s HOZ.out; have L8 := run_loadK_box (P := Tryd.prog) H2.out.at2.blk Tryd.underlying23 rfl size54s HOZ.out; clear h1 hl1 hg1 hW1))
  go_ret
  exact ⟨rfl, H2.out.below⟩
set_option maxRecDepth 20000 in
set_option maxHeartbeats 8000000 in
theorem ckC_all {m c : Nat} {A : Option Addr} {old : List UInt8} (h1 : 1 ≤ m) (ho : old.length = 32) : Calls Tryd.prog 29 #[.int .i64 m, .int .i64 m, .slice A 0 c, .agg (bv old), .agg (bv old)] w fun r w' => r = .returned (.int .i64 0) ∧ Below w.heap.size w w' := by
  have HOZ := hid (show (bv old).size = 32 from (bv_size old).trans ho)
  have HSH := hid (fun X => short_now (w := X) (m := m) (n := m) (c := c) (A := A) h1 ho)
  have m0 : ¬ (m : Int) = 0 := by omega
  have m1 : ((m : Int) == 0) = false := by simp; omega
  have m2 : (m == 0) = false := by simp; omega
  have m3 : ¬ (m : Int) < 0 := by omega
  have m4 : ¬ (m : Int) < (m : Int) := by omega
  clear h1 ho
  go_enter Tryd.func29, Tryd.ntmps29
  go_wp2_with (first | (refine wpList_box rfl 23 (.tmp 3) rfl (.agg (bv old)) rfl ?_; intro g8 W1 h1 hl1 hg1 hW1; have H1 := hid ((St.start w).newBlk hW1 hg1 h1); clear h1 hl1 hg1 hW1) | (refine wpList_box rfl 23 (.tmp 4) rfl (.agg (bv old)) rfl ?_; intro g9 W1 h1 hl1 hg1 hW1; have H2 := hid (H1.out.newBlk hW1 hg1 h1); have L9 := run_loadK_box (P := Tryd.prog) H2.out.blk Tryd.underlying23 rfl size54s HOZ.out; have L8 := run_loadK_box (P := Tryd.prog) H2.out.at2.blk Tryd.underlying23 rfl size54s HOZ.out; clear h1 hl1 hg1 hW1) | (go_at_call 52; (with_reducible refine (HSH.out _).mono ?_); rintro r w3 ⟨rfl, hb⟩; have H3 := hid (H2.out.turn hb); clear hb))
  go_ret
  exact ⟨rfl, H3.out.below⟩

end
end Go.Proofs.YtnakbdgoaepehaaDoor
