/- Part 5 of the texts below this law, put together: what each holds is said at its head. -/
import Derived.Test.YtnakbdgoaepehaaDoorPb4
/- A leaf more below a node. -/
namespace Go.Proofs.YtnakbdgoaepehaaDoor
open Go.RowKit Go.Cu
section
variable {w : World} {lk lv : List UInt8}
set_option maxRecDepth 20000 in
set_option maxHeartbeats 4000000 in
theorem put_left (hG : Glob w) {F : Nat → Prop} {v : Value} {a b : Tr} {d : Nat} (ht : TreeIn F w v (.node d a b)) (hlk : lk.length = 32) (hlv : lv.length = 32) (hd : d < 256) (hz : bitN lk d = 0) (ih : ∀ (F : Nat → Prop) (u : Value) (X : World), Glob X → TreeIn F X u a → Calls Tryd.prog 32 #[u, .agg (leafC lk lv), .int .i64 (d + 1 : Nat)] X (PutQ F X (a.put lk lv (d + 1)))) : Calls Tryd.prog 32 #[v, .agg (leafC lk lv), .int .i64 d] w (PutQ F w (.node d (a.put lk lv (d + 1)) b)) := by
  obtain ⟨g, n, va, vb, rfl, hg, ha, hb, hc⟩ := ht.nodeAt
  obtain ⟨p, rfl⟩ := ha.isPtr
  obtain ⟨q, rfl⟩ := hb.isPtr
  have LT := hid (fun (X : World) (hX : Below w.heap.size w X) => run_loadK (P := Tryd.prog) (off := 64) (vs := #[.pointer p, .pointer q]) (hc X hX) Tryd.underlying73 rfl sizeTwo rfl (treeC_two zsize))
  have C6 := hid (fun X (hX : Below w.heap.size w X) => tree_cell (hc X hX) (treeC_split zsize) rfl)
  have LF := hid (fun (g : Nat) (X : World) (hc : X.heap[g]? = some (.cells (leafC lk lv) 30 (0, 0))) => leafK hlk hlv hc)
  have LK := hid (fun (g : Nat) (X : World) (hc : X.heap[g]? = some (.cells (leafC lk lv) 30 (0, 0))) => leafKey hlk hc)
  have HBI := hid (fun X => bit_in lk d X hlk hd)
  have HIH := hid (fun (X : World) (hX : Below w.heap.size w X) => ih (fun h => F h ∧ h < w.heap.size) (.pointer p) X (hG.below hX hG.two) ((ha.mono fun i hi h => ⟨h.1, hi⟩).below hX))
  rw [show ((d + 1 : Nat) : Int) = (d : Int) + 1 from rfl] at HIH
  have HJ := hid (fun (X : World) (u : Option Addr) (hX : Below w.heap.size w X) (hu : TreeIn (fun h => F h ∨ w.heap.size ≤ h) X (.pointer u) (a.put lk lv (d + 1))) => join_now (w := X) (d := d) (F := fun h => F h ∨ w.heap.size ≤ h) (hG.below hX hG.two) hu ((hb.below hX).mono fun i _ h => .inl h.1) (by omega))
  have e1 : ((bitN lk d : Nat) : Int) = 0 := by omega
  have d0 : (0 : Int) ≤ (d : Int) := by omega
  have d1 : (d : Int) < 256 := by omega
  clear hG ht hlk hlv hd hz ih ha hb hc
  go_enter Tryd.func32, Tryd.ntmps32
  go_wp2_with (refine wpList_box rfl 30 _ rfl (.agg (leafC lk lv)) rfl ?_; intro gl W1 h1 hl1 hg1 hW1; have H0 := hid (show St w [Blk gl (leafC lk lv) 30] W1 from (St.start w).newBlk hW1 hg1 h1); clear h1 hl1 hg1 hW1)
  have HQ := hid (fun (X : World) (hX : St w [Blk gl (leafC lk lv) 30] X) => C6.out X hX.below)
  refine wp_region_segs [.ord [(0, 1), (1, 1), (2, 1), (3, 1), (4, 1), (5, 1), (6, 1), (7, 1), (8, 1), (9, 1), (10, 1), (11, 1), (12, 1), (13, 1), (14, 1), (15, 1)]] (fun X => St w [Blk gl (leafC lk lv) 30] X) (by kernel_rfl) (by kernel_rfl) (fun d _ c _ _ h => by cases d <;> exact h) (H0.out.turn (Below.drew (Below.refl _ _))) (fun X hXe hX => ?_)
  have H1 := H0.out.turn (Below.drew (Below.refl _ _))
  rw [← hXe] at H1
  replace H1 := hid H1
  clear hXe
  refine wpSegs_ord fun F1 hF1 => ?_
  clear hX H0
  iterate 6 (apply wpOrd_class; ((· first | (rw [List.getElem?_toArray, List.getElem?_cons_zero]; done) | (simp only [List.getElem?_toArray, List.getElem?_cons_succ, List.getElem?_cons_zero]; exact rfl))); (· exact rfl); intro K hK; apply Exists.intro; refine And.intro (fun X' hX' => ?_) ?_; (· have hq := HQ.out _ hX'; clear hX'; go_simp; (try go_bits); first | done | exact rfl | exact ⟨rfl, rfl⟩); go_simp; refine hK _ _ ?_; clear hK K)
  iterate 8 (apply wpOrd_skip1; ((· first | (rw [List.getElem?_toArray, List.getElem?_cons_zero]; done) | (simp only [List.getElem?_toArray, List.getElem?_cons_succ, List.getElem?_cons_zero]; exact rfl))); (· exact rfl); intro K hK; go_simp; refine hK _ _ ?_; clear hK K)
  iterate 2 (apply wpOrd_class; ((· first | (rw [List.getElem?_toArray, List.getElem?_cons_zero]; done) | (simp only [List.getElem?_toArray, List.getElem?_cons_succ, List.getElem?_cons_zero]; exact rfl))); (· exact rfl); intro K hK; apply Exists.intro; refine And.intro (fun X' hX' => ?_) ?_; (· have hq := HQ.out _ hX'; clear hX'; go_simp; (try go_bits); first | done | exact rfl | exact ⟨rfl, rfl⟩); go_simp; refine hK _ _ ?_; clear hK K)
  refine wpOrd_to (hF1 _ _ (wpSegs_nil ?_))
  clear hF1 F1
  have C66 := C6.out _ H1.out.below
  have LA := LT.out _ H1.out.below
  go_upto_region 8 with (first | (refine wpList_alloc 73 rfl rfl (.agg #[.pointer none, .pointer none]) zeroTwo ?_; intro gs W1 h1 hl1 hg1 hW1; have H2 := hid (show St w [Blk gs #[.pointer none, .pointer none] 73, Blk gl (leafC lk lv) 30] W1 from H1.out.newBlk hW1 hg1 h1); clear h1 hl1 hg1 hW1) | (refine wpList_store_box 73 _ _ rfl gs rfl rfl #[.pointer p, .pointer q] rfl 2 sizeTwo rfl (by simp [Value.oneCell']) 73 _ H2.out.blk rfl ?_; intro W7 hB7 hT7 hs7; have H3 := hid (H2.out.put hB7 hT7); have LB := LK.out _ _ H3.out.at2.blk; clear hB7 hT7 hs7) | (go_at_call 54; (with_reducible refine (HBI.out _).mono ?_); rintro r w9 ⟨rfl, hb9⟩; have H4 := hid (H3.out.turn hb9); clear hb9))
  refine wp_region_segs [.ord [(0, 1), (1, 1), (2, 1), (4, 1), (5, 1), (6, 1), (3, 2), (7, 2), (8, 1), (9, 2)]] (fun X => St w [Blk gl (leafC lk lv) 30] X) (by kernel_rfl) (by kernel_rfl) (fun d _ c _ _ h => by cases d <;> exact h) (H4.out.drop.turn (Below.drew (Below.refl _ _))) (fun X hXe hX => ?_)
  have H5 := H4.out.turn (Below.drew (Below.refl _ _))
  rw [← hXe] at H5
  replace H5 := hid H5
  clear hXe
  refine wpSegs_ord fun F1 hF1 => ?_
  clear hX H4
  have HR := hid (fun (X : World) (hX : St w [Blk gl (leafC lk lv) 30] X) => LF.out _ _ hX.blk)
  iterate 6 (apply wpOrd_class; ((· first | (rw [List.getElem?_toArray, List.getElem?_cons_zero]; done) | (simp only [List.getElem?_toArray, List.getElem?_cons_succ, List.getElem?_cons_zero]; exact rfl))); (· exact rfl); intro K hK; apply Exists.intro; refine And.intro (fun X' hX' => ?_) ?_; (· have hq := HR.out _ hX'; clear hX'; go_simp; (try go_bits); first | done | exact rfl | exact ⟨rfl, rfl⟩); go_simp; refine hK _ _ ?_; clear hK K)
  (apply wpOrd_comes; ((· first | (rw [List.getElem?_toArray, List.getElem?_cons_zero]; done) | (simp only [List.getElem?_toArray, List.getElem?_cons_succ, List.getElem?_cons_zero]; exact rfl))); intro N hN)
  have x0 := (cell_of_row _ gs 0 _ _ _ H5.out.blk).trans (show _ = some (.pointer p) from rfl)
  have x1 := (cell_of_row _ gs 1 _ _ _ H5.out.blk).trans (show _ = some (.pointer q) from rfl)
  go_wp2_with fail
  refine hN _ _ (fun _ => H5.out.drop) ?_
  clear hN N
  clear x0 x1
  (apply wpOrd_comes; ((· first | (rw [List.getElem?_toArray, List.getElem?_cons_zero]; done) | (simp only [List.getElem?_toArray, List.getElem?_cons_succ, List.getElem?_cons_zero]; exact rfl))); intro N hN)
  go_wp2_with (go_at_call 32; (with_reducible refine (HIH.out _ H5.out.below).mono ?_); rintro r w9 ⟨u, rfl, ht, hb9⟩; have H6 := hid (H5.out.turn hb9); have HT6 := hid (And.intro (heap_lt H5.out.blk) ht); clear ht hb9)
  refine hN _ _ (fun _ => H6.out.drop) ?_
  clear hN N
  (apply wpOrd_class; ((· first | (rw [List.getElem?_toArray, List.getElem?_cons_zero]; done) | (simp only [List.getElem?_toArray, List.getElem?_cons_succ, List.getElem?_cons_zero]; exact rfl))); (· exact rfl); intro K hK; apply Exists.intro; refine And.intro (fun X' hX' => ?_) ?_; (· go_simp; (try go_bits); first | done | exact rfl | exact ⟨rfl, rfl⟩); go_simp; refine hK _ _ ?_; clear hK K)
  (apply wpOrd_comes; ((· first | (rw [List.getElem?_toArray, List.getElem?_cons_zero]; done) | (simp only [List.getElem?_toArray, List.getElem?_cons_succ, List.getElem?_cons_zero]; exact rfl))); intro N hN)
  have x0 := (cell_of_row _ gs 0 _ _ _ H6.out.blk).trans (show _ = some (.pointer p) from rfl)
  have x1 := (cell_of_row _ gs 1 _ _ _ H6.out.blk).trans (show _ = some (.pointer q) from rfl)
  have f0 := frozen_of_row _ gs 0 _ _ H6.out.blk
  have f1 := frozen_of_row _ gs 1 _ _ H6.out.blk
  go_wp2_with fail
  clear x0 x1 f0 f1
  have H7 := hid (show St w [Blk gs #[.pointer u, .pointer q] 73, Blk gl (leafC lk lv) 30] _ from H6.out.setCell 0 (.pointer u))
  have HT7 := hid ((HT6.out.2.keep fun i _ hi => Below.heap_setCell w9 ⟨gs, 0, none⟩ (.pointer u) i (fun e => by have h1 := H5.out.blk_ge; have h2 := HT6.out.1; subst e; rcases hi with ⟨_, hi⟩ | hi <;> omega)).mono (G := fun h => F h ∨ w.heap.size ≤ h) fun i _ h => h.imp (And.left) (Nat.le_trans H5.out.below.size))
  refine hN _ _ (fun _ => H7.out.drop) ?_
  clear hN N
  refine wpOrd_to (hF1 _ _ (wpSegs_nil ?_))
  clear hF1 F1
  obtain ⟨W9, hW9⟩ : ∃ W9, W9 = w9.setCell ⟨gs, 0, none⟩ (.pointer u) := ⟨_, rfl⟩
  rw [← hW9] at H7 HT7 ⊢
  clear hW9
  have x0 := (cell_of_row _ gs 0 _ _ _ H7.out.blk).trans (show _ = some (.pointer u) from rfl)
  have x1 := (cell_of_row _ gs 1 _ _ _ H7.out.blk).trans (show _ = some (.pointer q) from rfl)
  go_wp2_with (go_at_call 57; (with_reducible refine (HJ.out _ _ H7.out.below HT7.out).mono ?_); rintro r w10 ⟨g2, rfl, hg, ht, hb9⟩; have H8 := hid (H7.out.turn hb9); have HT8 := hid (ht.mono (G := fun h => F h ∨ w.heap.size ≤ h) fun i _ h => h.elim id fun h => .inr (Nat.le_trans H7.out.below.size h)); clear ht hb9 hg)
  go_ret
  exact ⟨_, rfl, HT8.out, H8.out.below⟩
set_option maxRecDepth 20000 in
set_option maxHeartbeats 4000000 in
theorem put_right (hG : Glob w) {F : Nat → Prop} {v : Value} {a b : Tr} {d : Nat} (ht : TreeIn F w v (.node d a b)) (hlk : lk.length = 32) (hlv : lv.length = 32) (hd : d < 256) (hz : bitN lk d = 1) (ih : ∀ (F : Nat → Prop) (u : Value) (X : World), Glob X → TreeIn F X u b → Calls Tryd.prog 32 #[u, .agg (leafC lk lv), .int .i64 (d + 1 : Nat)] X (PutQ F X (b.put lk lv (d + 1)))) : Calls Tryd.prog 32 #[v, .agg (leafC lk lv), .int .i64 d] w (PutQ F w (.node d a (b.put lk lv (d + 1)))) := by
  obtain ⟨g, n, va, vb, rfl, hg, ha, hb, hc⟩ := ht.nodeAt
  obtain ⟨p, rfl⟩ := ha.isPtr
  obtain ⟨q, rfl⟩ := hb.isPtr
  have LT := hid (fun (X : World) (hX : Below w.heap.size w X) => run_loadK (P := Tryd.prog) (off := 64) (vs := #[.pointer p, .pointer q]) (hc X hX) Tryd.underlying73 rfl sizeTwo rfl (treeC_two zsize))
  have C6 := hid (fun X (hX : Below w.heap.size w X) => tree_cell (hc X hX) (treeC_split zsize) rfl)
  have LF := hid (fun (g : Nat) (X : World) (hc : X.heap[g]? = some (.cells (leafC lk lv) 30 (0, 0))) => leafK hlk hlv hc)
  have LK := hid (fun (g : Nat) (X : World) (hc : X.heap[g]? = some (.cells (leafC lk lv) 30 (0, 0))) => leafKey hlk hc)
  have HBI := hid (fun X => bit_in lk d X hlk hd)
  have HIH := hid (fun (X : World) (hX : Below w.heap.size w X) => ih (fun h => F h ∧ h < w.heap.size) (.pointer q) X (hG.below hX hG.two) ((hb.mono fun i hi h => ⟨h.1, hi⟩).below hX))
  rw [show ((d + 1 : Nat) : Int) = (d : Int) + 1 from rfl] at HIH
  have HJ := hid (fun (X : World) (u : Option Addr) (hX : Below w.heap.size w X) (hu : TreeIn (fun h => F h ∨ w.heap.size ≤ h) X (.pointer u) (b.put lk lv (d + 1))) => join_now (w := X) (d := d) (F := fun h => F h ∨ w.heap.size ≤ h) (hG.below hX hG.two) ((ha.below hX).mono fun i _ h => .inl h.1) hu (by omega))
  have e1 : ((bitN lk d : Nat) : Int) = 1 := by omega
  have d0 : (0 : Int) ≤ (d : Int) := by omega
  have d1 : (d : Int) < 256 := by omega
  clear hG ht hlk hlv hd hz ih ha hb hc
  go_enter Tryd.func32, Tryd.ntmps32
  go_wp2_with (refine wpList_box rfl 30 _ rfl (.agg (leafC lk lv)) rfl ?_; intro gl W1 h1 hl1 hg1 hW1; have H0 := hid (show St w [Blk gl (leafC lk lv) 30] W1 from (St.start w).newBlk hW1 hg1 h1); clear h1 hl1 hg1 hW1)
  have HQ := hid (fun (X : World) (hX : St w [Blk gl (leafC lk lv) 30] X) => C6.out X hX.below)
  refine wp_region_segs [.ord [(0, 1), (1, 1), (2, 1), (3, 1), (4, 1), (5, 1), (6, 1), (7, 1), (8, 1), (9, 1), (10, 1), (11, 1), (12, 1), (13, 1), (14, 1), (15, 1)]] (fun X => St w [Blk gl (leafC lk lv) 30] X) (by kernel_rfl) (by kernel_rfl) (fun d _ c _ _ h => by cases d <;> exact h) (H0.out.turn (Below.drew (Below.refl _ _))) (fun X hXe hX => ?_)
  have H1 := H0.out.turn (Below.drew (Below.refl _ _))
  rw [← hXe] at H1
  replace H1 := hid H1
  clear hXe
  refine wpSegs_ord fun F1 hF1 => ?_
  clear hX H0
  iterate 6 (apply wpOrd_class; ((· first | (rw [List.getElem?_toArray, List.getElem?_cons_zero]; done) | (simp only [List.getElem?_toArray, List.getElem?_cons_succ, List.getElem?_cons_zero]; exact rfl))); (· exact rfl); intro K hK; apply Exists.intro; refine And.intro (fun X' hX' => ?_) ?_; (· have hq := HQ.out _ hX'; clear hX'; go_simp; (try go_bits); first | done | exact rfl | exact ⟨rfl, rfl⟩); go_simp; refine hK _ _ ?_; clear hK K)
  iterate 8 (apply wpOrd_skip1; ((· first | (rw [List.getElem?_toArray, List.getElem?_cons_zero]; done) | (simp only [List.getElem?_toArray, List.getElem?_cons_succ, List.getElem?_cons_zero]; exact rfl))); (· exact rfl); intro K hK; go_simp; refine hK _ _ ?_; clear hK K)
  iterate 2 (apply wpOrd_class; ((· first | (rw [List.getElem?_toArray, List.getElem?_cons_zero]; done) | (simp only [List.getElem?_toArray, List.getElem?_cons_succ, List.getElem?_cons_zero]; exact rfl))); (· exact rfl); intro K hK; apply Exists.intro; refine And.intro (fun X' hX' => ?_) ?_; (· have hq := HQ.out _ hX'; clear hX'; go_simp; (try go_bits); first | done | exact rfl | exact ⟨rfl, rfl⟩); go_simp; refine hK _ _ ?_; clear hK K)
  refine wpOrd_to (hF1 _ _ (wpSegs_nil ?_))
  clear hF1 F1
  have C66 := C6.out _ H1.out.below
  have LA := LT.out _ H1.out.below
  go_upto_region 8 with (first | (refine wpList_alloc 73 rfl rfl (.agg #[.pointer none, .pointer none]) zeroTwo ?_; intro gs W1 h1 hl1 hg1 hW1; have H2 := hid (show St w [Blk gs #[.pointer none, .pointer none] 73, Blk gl (leafC lk lv) 30] W1 from H1.out.newBlk hW1 hg1 h1); clear h1 hl1 hg1 hW1) | (refine wpList_store_box 73 _ _ rfl gs rfl rfl #[.pointer p, .pointer q] rfl 2 sizeTwo rfl (by simp [Value.oneCell']) 73 _ H2.out.blk rfl ?_; intro W7 hB7 hT7 hs7; have H3 := hid (H2.out.put hB7 hT7); have LB := LK.out _ _ H3.out.at2.blk; clear hB7 hT7 hs7) | (go_at_call 54; (with_reducible refine (HBI.out _).mono ?_); rintro r w9 ⟨rfl, hb9⟩; have H4 := hid (H3.out.turn hb9); clear hb9))
  refine wp_region_segs [.ord [(0, 1), (1, 1), (2, 1), (4, 1), (5, 1), (6, 1), (3, 2), (7, 2), (8, 1), (9, 2)]] (fun X => St w [Blk gl (leafC lk lv) 30] X) (by kernel_rfl) (by kernel_rfl) (fun d _ c _ _ h => by cases d <;> exact h) (H4.out.drop.turn (Below.drew (Below.refl _ _))) (fun X hXe hX => ?_)
  have H5 := H4.out.turn (Below.drew (Below.refl _ _))
  rw [← hXe] at H5
  replace H5 := hid H5
  clear hXe
  refine wpSegs_ord fun F1 hF1 => ?_
  clear hX H4
  have HR := hid (fun (X : World) (hX : St w [Blk gl (leafC lk lv) 30] X) => LF.out _ _ hX.blk)
  iterate 6 (apply wpOrd_class; ((· first | (rw [List.getElem?_toArray, List.getElem?_cons_zero]; done) | (simp only [List.getElem?_toArray, List.getElem?_cons_succ, List.getElem?_cons_zero]; exact rfl))); (· exact rfl); intro K hK; apply Exists.intro; refine And.intro (fun X' hX' => ?_) ?_; (· have hq := HR.out _ hX'; clear hX'; go_simp; (try go_bits); first | done | exact rfl | exact ⟨rfl, rfl⟩); go_simp; refine hK _ _ ?_; clear hK K)
  (apply wpOrd_comes; ((· first | (rw [List.getElem?_toArray, List.getElem?_cons_zero]; done) | (simp only [List.getElem?_toArray, List.getElem?_cons_succ, List.getElem?_cons_zero]; exact rfl))); intro N hN)
  have x0 := (cell_of_row _ gs 0 _ _ _ H5.out.blk).trans (show _ = some (.pointer p) from rfl)
  have x1 := (cell_of_row _ gs 1 _ _ _ H5.out.blk).trans (show _ = some (.pointer q) from rfl)
  go_wp2_with fail
  refine hN _ _ (fun _ => H5.out.drop) ?_
  clear hN N
  clear x0 x1
  (apply wpOrd_comes; ((· first | (rw [List.getElem?_toArray, List.getElem?_cons_zero]; done) | (simp only [List.getElem?_toArray, List.getElem?_cons_succ, List.getElem?_cons_zero]; exact rfl))); intro N hN)
  go_wp2_with (go_at_call 32; (with_reducible refine (HIH.out _ H5.out.below).mono ?_); rintro r w9 ⟨u, rfl, ht, hb9⟩; have H6 := hid (H5.out.turn hb9); have HT6 := hid (And.intro (heap_lt H5.out.blk) ht); clear ht hb9)
  refine hN _ _ (fun _ => H6.out.drop) ?_
  clear hN N
  (apply wpOrd_class; ((· first | (rw [List.getElem?_toArray, List.getElem?_cons_zero]; done) | (simp only [List.getElem?_toArray, List.getElem?_cons_succ, List.getElem?_cons_zero]; exact rfl))); (· exact rfl); intro K hK; apply Exists.intro; refine And.intro (fun X' hX' => ?_) ?_; (· go_simp; (try go_bits); first | done | exact rfl | exact ⟨rfl, rfl⟩); go_simp; refine hK _ _ ?_; clear hK K)
  (apply wpOrd_comes; ((· first | (rw [List.getElem?_toArray, List.getElem?_cons_zero]; done) | (simp only [List.getElem?_toArray, List.getElem?_cons_succ, List.getElem?_cons_zero]; exact rfl))); intro N hN)
  have x0 := (cell_of_row _ gs 0 _ _ _ H6.out.blk).trans (show _ = some (.pointer p) from rfl)
  have x1 := (cell_of_row _ gs 1 _ _ _ H6.out.blk).trans (show _ = some (.pointer q) from rfl)
  have f0 := frozen_of_row _ gs 0 _ _ H6.out.blk
  have f1 := frozen_of_row _ gs 1 _ _ H6.out.blk
  go_wp2_with fail
  clear x0 x1 f0 f1
  have H7 := hid (show St w [Blk gs #[.pointer p, .pointer u] 73, Blk gl (leafC lk lv) 30] _ from H6.out.setCell 1 (.pointer u))
  have HT7 := hid ((HT6.out.2.keep fun i _ hi => Below.heap_setCell w9 ⟨gs, 1, none⟩ (.pointer u) i (fun e => by have h1 := H5.out.blk_ge; have h2 := HT6.out.1; subst e; rcases hi with ⟨_, hi⟩ | hi <;> omega)).mono (G := fun h => F h ∨ w.heap.size ≤ h) fun i _ h => h.imp (And.left) (Nat.le_trans H5.out.below.size))
  refine hN _ _ (fun _ => H7.out.drop) ?_
  clear hN N
  refine wpOrd_to (hF1 _ _ (wpSegs_nil ?_))
  clear hF1 F1
  obtain ⟨W9, hW9⟩ : ∃ W9, W9 = w9.setCell ⟨gs, 1, none⟩ (.pointer u) := ⟨_, rfl⟩
  rw [← hW9] at H7 HT7 ⊢
  clear hW9
  have x0 := (cell_of_row _ gs 0 _ _ _ H7.out.blk).trans (show _ = some (.pointer p) from rfl)
  have x1 := (cell_of_row _ gs 1 _ _ _ H7.out.blk).trans (show _ = some (.pointer u) from rfl)
  go_wp2_with (go_at_call 57; (with_reducible refine (HJ.out _ _ H7.out.below HT7.out).mono ?_); rintro r w10 ⟨g2, rfl, hg, ht, hb9⟩; have H8 := hid (H7.out.turn hb9); have HT8 := hid (ht.mono (G := fun h => F h ∨ w.heap.size ≤ h) fun i _ h => h.elim id fun h => .inr (Nat.le_trans H7.out.below.size h)); clear ht hb9 hg)
  go_ret
  exact ⟨_, rfl, HT8.out, H8.out.below⟩
end
end Go.Proofs.YtnakbdgoaepehaaDoor
/- Put, whole. -/
namespace Go.Proofs.YtnakbdgoaepehaaDoor
open Go.RowKit Go.Cu
section
variable {w : World} {lk lv : List UInt8}
theorem tput_now (hlk : lk.length = 32) (hlv : lv.length = 32) (t : Tr) : ∀ (d : Nat) (F : Nat → Prop) (v : Value) (w : World), Glob w → TreeIn F w v t → t.WF d → t.Agree lk d → d ≤ 256 → Calls Tryd.prog 32 #[v, .agg (leafC lk lv), .int .i64 d] w (PutQ F w (t.put lk lv d)) := by
  induction t with
  | nil =>
    intro d F v w hG ht _ _ _
    obtain rfl : v = .pointer none := ht
    exact put_nil hG hlk hlv
  | leaf k x =>
    intro d F v w hG ht hw ha hd
    unfold Tr.put
    by_cases hk : k = lk
    · subst hk
      rw [if_pos rfl]
      exact put_same hG ht hlk hlv
    · rw [if_neg hk]
      exact put_part hG ht hlk hlv hk (cm_ge hd (ha k (by simp [Tr.keys])))
  | node e a b iha ihb =>
    intro d F v w hG ht hw ha hd
    obtain ⟨rfl, hd2, wa, wb, ka, kb⟩ := hw
    unfold Tr.put
    by_cases hz : bitN lk e = 0
    · rw [if_pos hz]
      exact put_left hG ht hlk hlv hd2 hz fun F' u X hX hu => iha (e + 1) F' u X hX hu wa (ha.left.succ ka hz) (by omega)
    · rw [if_neg hz]
      exact put_right hG ht hlk hlv hd2 (bitN_one hz) fun F' u X hX hu => ihb (e + 1) F' u X hX hu wb (ha.right.succ kb (bitN_one hz)) (by omega)
set_option maxRecDepth 20000 in
set_option maxHeartbeats 4000000 in
theorem tPut_now (hG : Glob w) {F : Nat → Prop} {v : Value} {t : Tr} (ht : TreeIn F w v t) (hw : t.WF 0) (hlk : lk.length = 32) (hlv : lv.length = 32) : Calls Tryd.prog 9 #[v, .agg (leafC lk lv)] w (PutQ F w (t.put lk lv 0)) := by
  have HP := hid (fun (X : World) (hX : Below w.heap.size w X) => tput_now hlk hlv t 0 F v X (hG.below hX hG.two) (ht.below hX) hw (agree0 t) (by decide))
  have LF := hid (fun (g : Nat) (X : World) (hc : X.heap[g]? = some (.cells (leafC lk lv) 30 (0, 0))) => leafK hlk hlv hc)
  rw [show ((0 : Nat) : Int) = 0 from rfl] at HP
  clear hG ht hw hlk hlv
  go_enter Tryd.func9, Tryd.ntmps9
  go_wp2_with (first | (refine wpList_box rfl 30 _ rfl (.agg (leafC lk lv)) rfl ?_; intro gl W1 h1 hl1 hg1 hW1; have H1 := hid (show St w [Blk gl (leafC lk lv) 30] W1 from (St.start w).newBlk hW1 hg1 h1); have LA := LF.out _ _ H1.out.blk; clear h1 hl1 hg1 hW1) | (go_at_call 32; (with_reducible refine (HP.out _ H1.out.below).mono ?_); rintro r w9 ⟨u, rfl, ht, hb9⟩; have H2 := hid (H1.out.turn hb9); have HT := hid (ht.mono (G := fun h => F h ∨ w.heap.size ≤ h) fun i _ h => h.imp id (Nat.le_trans H1.out.below.size)); clear ht hb9))
  go_ret
  exact ⟨_, rfl, HT.out, H2.out.below⟩
end
end Go.Proofs.YtnakbdgoaepehaaDoor
/- The nodes on a key's way. -/
namespace Go.Cu
open Go Go.RowKit
/-- The length of a slice. -/
def lenOf : Value → Nat
  | .slice _ n _ => n
  | _ => 0
/-- A node on the way, and the sum beside. -/
def NodeAt (w : World) (k : List UInt8) (i : Nat) (v : Value) (s : List UInt8) : Prop := ∃ F a b, TreeIn F w v (.node i a b) ∧ s = if bitN k i = 0 then b.sum sumL else a.sum sumL
def Nodes (w : World) (k : List UInt8) (vs : List Value) (ss : List (List UInt8)) : Prop := vs.length = ss.length ∧ ∀ i v s, vs[i]? = some v → ss[i]? = some s → NodeAt w k i v s
theorem Nodes.nil {w : World} {k : List UInt8} : Nodes w k [] [] := ⟨rfl, fun i v s h => by cases h⟩
theorem Nodes.snoc {w : World} {k : List UInt8} {vs : List Value} {ss : List (List UInt8)} {n : Nat} {v : Value} {s : List UInt8} (h : Nodes w k vs ss) (hn : vs.length = n) (hv : NodeAt w k n v s) : Nodes w k (vs ++ [v]) (ss ++ [s]) := by
  subst hn
  refine ⟨by simp [h.1], fun i u r hu hr => ?_⟩
  rcases Nat.lt_trichotomy i vs.length with hi | hi | hi
  · rw [List.getElem?_append_left hi] at hu
    rw [List.getElem?_append_left (h.1 ▸ hi)] at hr
    exact h.2 i u r hu hr
  · subst hi
    rw [List.getElem?_append_right (Nat.le_refl _), Nat.sub_self] at hu
    rw [h.1, List.getElem?_append_right (Nat.le_refl _), Nat.sub_self] at hr
    cases hu; cases hr
    exact hv
  · rw [List.getElem?_eq_none (by simp; omega)] at hu; cases hu
section
variable {k : List UInt8} {a b : Tr} {d e : Nat} {H : List UInt8 → List UInt8}
theorem way0 (h : bitN k d = 0) : (Tr.node e a b).last k d = a.last k (d + 1) ∧ (Tr.node e a b).beside H k d = b.sum H :: a.beside H k (d + 1) := ⟨if_pos h, if_pos h⟩
theorem way1 (h : ¬ bitN k d = 0) : (Tr.node e a b).last k d = b.last k (d + 1) ∧ (Tr.node e a b).beside H k d = a.sum H :: b.beside H k (d + 1) := ⟨if_neg h, if_neg h⟩
/-- How far the way is. -/
def WayR (k : List UInt8) (t : Tr) (n : Nat) (t' : Tr) (ss : List (List UInt8)) : Prop := t'.WF n ∧ t'.last k n = t.last k 0 ∧ ss ++ t'.beside sumL k n = t.beside sumL k 0
theorem WayR.left {t : Tr} {ss : List (List UInt8)} (h : WayR k t d (.node e a b) ss) (hz : bitN k d = 0) : WayR k t (d + 1) a (ss ++ [b.sum sumL]) := by
  obtain ⟨⟨rfl, _, hw, _⟩, h2, h3⟩ := h
  obtain ⟨e1, e2⟩ := way0 (e := e) (a := a) (b := b) (H := sumL) hz
  exact ⟨hw, e1 ▸ h2, by rw [← h3, e2]; simp⟩
theorem WayR.right {t : Tr} {ss : List (List UInt8)} (h : WayR k t d (.node e a b) ss) (hz : ¬ bitN k d = 0) : WayR k t (d + 1) b (ss ++ [a.sum sumL]) := by
  obtain ⟨⟨rfl, _, _, hw, _⟩, h2, h3⟩ := h
  obtain ⟨e1, e2⟩ := way1 (e := e) (a := a) (b := b) (H := sumL) hz
  exact ⟨hw, e1 ▸ h2, by rw [← h3, e2]; simp⟩
theorem WayR.lt {t : Tr} {ss : List (List UInt8)} (h : WayR k t d (.node e a b) ss) : e = d ∧ d < 256 := by
  obtain ⟨⟨rfl, h1, _⟩, _⟩ := h
  exact ⟨rfl, h1⟩
theorem WayR.done {t t' : Tr} {ss : List (List UInt8)} (h : WayR k t d t' ss) (hn : ∀ e a b, t' ≠ .node e a b) : t' = t.last k 0 ∧ ss = t.beside sumL k 0 := by
  obtain ⟨_, h2, h3⟩ := h
  cases t' with
  | nil => exact ⟨h2, by rw [← h3]; simp [Tr.beside]⟩
  | leaf x v => exact ⟨h2, by rw [← h3]; simp [Tr.beside]⟩
  | node e a b => exact absurd rfl (hn e a b)
end
section
variable {W0 W W' : World} {L : List Atm} {a : Atm}
theorem St.link (h : St W0 L W) (h' : St W [a] W') : St W0 (a :: L) W' := by
  obtain ⟨F, ha, hf, _⟩ := h'.first
  exact h.push h'.below (a.mono ha fun g _ hg => (hf g hg).1)
end
end Go.Cu
namespace Go.Proofs.YtnakbdgoaepehaaDoor
open Go.RowKit Go.Cu
theorem zeroPt (W : World) : (zeroValue 26).run Tryd.prog W = .ok (.pointer none) W := by kernel_rfl
theorem infoPt : (Tryd.prog.info? 26).map (fun i => (i.zero, i.size, i.bytes)) = some (some (.pointer none), 1, 8) := by kernel_rfl
section
variable {w : World} {k : List UInt8} {t : Tr}
set_option maxRecDepth 20000 in
set_option maxHeartbeats 4000000 in
theorem way_st {W : World} {L : List Atm} (h : St w L W) {F : Nat → Prop} {v : Value} (ht : TreeIn F w v t) (hw : t.WF 0) (hk : k.length = 32) : Calls Tryd.prog 35 #[v, .agg (bv k)] W fun r w' => ∃ sv e vs F', r = .returned (.tuple #[sv, e]) ∧ TreeIn F' w e (t.last k 0) ∧ Nodes w k vs (t.beside sumL k 0) ∧ St w (Row sv 26 1 vs.length vs :: L) w' := by
  have HH := hid h
  have HBI := hid (fun (n : Nat) (X : World) (hn : n < 256) => bit_in k n X hk hn)
  have HK := hid (fun (g : Nat) (X : World) (hc : X.heap[g]? = some (.cells (bv k) 24 (0, 0))) => run_loadK_box (P := Tryd.prog) hc Tryd.underlying24 rfl size24 ((bv_size k).trans hk))
  obtain ⟨i26, hi, hiz, his, hib⟩ := info_parts infoPt
  have HI := hid (And.intro hi (And.intro hiz (And.intro his hib)))
  have HT := hid ht
  have HR := hid (show WayR k t 0 t [] from ⟨hw, rfl, rfl⟩)
  clear h ht hw hk hi hiz his hib
  go_enter Tryd.func35, Tryd.ntmps35
  go_wp2_with (refine wpList_box rfl 24 _ rfl (.agg (bv k)) rfl ?_; intro gk W1 h1 hl1 hg1 hW1; have H1 := hid (show St w (Row (.slice none 0 0) 26 1 0 [] :: Blk gk (bv k) 24 :: L) W1 from (HH.out.newBlk hW1 hg1 h1).nilRow _ _); clear h1 hl1 hg1 hW1)
  go_simp
  go_loopw [0, 4] (fun tv sv X => ∃ (A : Option Addr) (n c : Nat) (vs : List Value) (ss : List (List UInt8)) (F : Nat → Prop) (t' : Tr), sv = .slice A n c ∧ n ≤ 256 ∧ vs.length = n ∧ Hid (TreeIn F w tv t') ∧ Hid (WayR k t n t' ss) ∧ Hid (Nodes w k vs ss) ∧ Hid (St w (Row (.slice A n c) 26 1 n vs :: Blk gk (bv k) 24 :: L) X)) (fun _ sv _ => 256 - lenOf sv)
  case atStart => exact ⟨none, 0, 0, [], [], F, t, rfl, by omega, rfl, HT, HR, hid Nodes.nil, H1⟩
  case round =>
    clear HT HR H1
    obtain ⟨A, n, c, vs, ss, F, t', rfl, hn, hvs, HT, HR, HN, H1⟩ := hrel
    have ht := HT.out
    cases t' with
    | nil =>
      obtain rfl : _ = Value.pointer none := ht
      have HD := hid (HR.out.done (fun e a b h => by cases h))
      clear hn
      go_wp2_with fail
      go_ret2
      exact ⟨_, _, vs, _, rfl, HD.out.1 ▸ HT.out, HD.out.2 ▸ HN.out, by rw [hvs]; exact H1.out.drop2⟩
    | leaf x y =>
      obtain ⟨hx, hy, g, m, rfl, _, hc⟩ := ht
      have HD := hid (HR.out.done (fun e a b h => by cases h))
      have C66 := tree_cell ((H1.out.below.block g (heap_lt hc)).trans hc) (treeC_split (leafC_size hx hy)) rfl
      clear hc hx hy hn
      go_wp2_with fail
      go_ret2
      exact ⟨_, _, vs, _, rfl, HD.out.1 ▸ HT.out, HD.out.2 ▸ HN.out, by rw [hvs]; exact H1.out.drop2⟩
    | node e a b =>
      obtain ⟨rfl, hn2⟩ := HR.out.lt
      have HNA := hid (fun s (hs : s = if bitN k e = 0 then b.sum sumL else a.sum sumL) => HN.out.snoc hvs ⟨F, a, b, ht, hs⟩)
      obtain ⟨g, m, va, vb, rfl, _, hc, ha, hb⟩ := ht
      obtain ⟨p, rfl⟩ := ha.isPtr
      obtain ⟨q, rfl⟩ := hb.isPtr
      have C66 := tree_cell ((H1.out.below.block g (heap_lt hc)).trans hc) (treeC_split zsize) rfl
      have HC := hid (fun (X : World) (hX : St w (Blk gk (bv k) 24 :: L) X) => And.intro (HK.out gk X hX.blk) (And.intro ((tree_cell ((hX.below.block g (heap_lt hc)).trans hc) (treeC_two zsize 0 Nat.zero_lt_two) rfl).trans (show _ = some (.pointer p) from rfl)) ((tree_cell ((hX.below.block g (heap_lt hc)).trans hc) (treeC_two zsize 1 Nat.one_lt_two) rfl).trans (show _ = some (.pointer q) from rfl))))
      have HA := hid ha
      have HB := hid hb
      have n0 : (0 : Int) ≤ (e : Int) := by omega
      have n1 : (e : Int) < 256 := by omega
      have HN2 := hid hn2
      clear hc ha hb hn hn2 HT
      rcases Nat.eq_zero_or_pos (bitN k e) with hz | hz
      · have e1 : ((bitN k e : Nat) : Int) = 0 := by have := bitN_lt k e; omega
        have HW := hid (HR.out.left hz)
        have HNB := hid (HNA.out _ (if_pos hz).symm)
        have HBJ := hid (fun X => HBI.out e X HN2.out)
        clear hz HNA HR
        go_upto_region 3 with (first | (refine wpList_buildSlice1 _ rfl (.pointer (some ⟨g, 0, none⟩)) (by simp [Act.eval]) rfl Tryd.underlying82 zeroPt sizePt (by decide) (by decide) rfl ?_; intro gn X4 hS hgs hges hX1b; have H2 := hid (H1.out.turn hX1b); have HNW := hid (news_box hS [.pointer (some ⟨g, 0, none⟩)] rfl); clear hS hgs hges hX1b) | (refine wpList_append_at _ _ _ rfl (.slice A e c) rfl ⟨gn, 0, none⟩ 1 1 rfl rfl 26 i26 (.pointer none) 1 8 Tryd.underlying82 HI.out.1 HI.out.2.1 HI.out.2.2.1 HI.out.2.2.2 rfl (by decide) e vs H2.out.row [.pointer (some ⟨g, 0, none⟩)] rfl HNW.out (by simp [Value.oneCell']) (by unfold maxLen; omega) (by omega) ?_; intro v' X5 hO2 hT2 hfr; have H3 := hid (H2.out.grow hO2 hT2 hfr); clear hO2 hT2 hfr; obtain ⟨B1, d1, hv', _⟩ := row_slice H3.out; subst hv'))
        refine wp_region_segs [.ord [(0, 1), (1, 1), (2, 1), (3, 1), (4, 1), (6, 1), (7, 1), (5, 2), (8, 1), (9, 1), (10, 1)]] (fun X => St w (Blk gk (bv k) 24 :: L) X) (by kernel_rfl) (by kernel_rfl) (fun d _ c _ _ h => by cases d <;> exact h) (H3.out.drop.turn (Below.drew (Below.refl _ _))) (fun X hXe hX => ?_)
        have H4 := H3.out.turn (Below.drew (Below.refl _ _))
        rw [← hXe] at H4
        replace H4 := hid H4
        clear hXe
        refine wpSegs_ord fun F1 hF1 => ?_
        clear hX H1 H2 H3
        iterate 7 (apply wpOrd_class; ((· first | (rw [List.getElem?_toArray, List.getElem?_cons_zero]; done) | (simp only [List.getElem?_toArray, List.getElem?_cons_succ, List.getElem?_cons_zero]; exact rfl))); (· exact rfl); intro K hK; apply Exists.intro; refine And.intro (fun X' hX' => ?_) ?_; (· obtain ⟨hq1, hq2, hq3⟩ := HC.out _ hX'; clear hX'; go_simp; (try go_bits); first | done | exact rfl | exact ⟨rfl, rfl⟩); go_simp; refine hK _ _ ?_; clear hK K)
        (apply wpOrd_comes; ((· first | (rw [List.getElem?_toArray, List.getElem?_cons_zero]; done) | (simp only [List.getElem?_toArray, List.getElem?_cons_succ, List.getElem?_cons_zero]; exact rfl))); intro N hN)
        go_wp2_with (go_at_call 54; (with_reducible refine (HBJ.out _).mono ?_); rintro r w9 ⟨rfl, hb9⟩; have H5 := hid (H4.out.turn hb9); clear hb9)
        refine hN _ _ (fun _ => H5.out.drop) ?_
        clear hN N
        iterate 3 (apply wpOrd_class; ((· first | (rw [List.getElem?_toArray, List.getElem?_cons_zero]; done) | (simp only [List.getElem?_toArray, List.getElem?_cons_succ, List.getElem?_cons_zero]; exact rfl))); (· exact rfl); intro K hK; apply Exists.intro; refine And.intro (fun X' hX' => ?_) ?_; (· obtain ⟨hq1, hq2, hq3⟩ := HC.out _ hX'; clear hX'; go_simp; (try go_bits); first | done | exact rfl | exact ⟨rfl, rfl⟩); go_simp; refine hK _ _ ?_; clear hK K)
        refine wpOrd_to (hF1 _ _ (wpSegs_nil ?_))
        clear hF1 F1
        go_wp2_with fail
        go_roundw
        case rel => exact ⟨B1, e + 1, d1, _, _, _, a, by go_num, by have := HN2.out; omega, by simp [hvs], HA, HW, HNB, H5⟩
        case measure => have := HN2.out; simp only [lenOf]; omega
      · have e1 : ((bitN k e : Nat) : Int) = 1 := by have := bitN_lt k e; omega
        have HW := hid (HR.out.right (by omega))
        have HNB := hid (HNA.out _ (if_neg (by omega)).symm)
        have HBJ := hid (fun X => HBI.out e X HN2.out)
        clear hz HNA HR
        go_upto_region 3 with (first | (refine wpList_buildSlice1 _ rfl (.pointer (some ⟨g, 0, none⟩)) (by simp [Act.eval]) rfl Tryd.underlying82 zeroPt sizePt (by decide) (by decide) rfl ?_; intro gn X4 hS hgs hges hX1b; have H2 := hid (H1.out.turn hX1b); have HNW := hid (news_box hS [.pointer (some ⟨g, 0, none⟩)] rfl); clear hS hgs hges hX1b) | (refine wpList_append_at _ _ _ rfl (.slice A e c) rfl ⟨gn, 0, none⟩ 1 1 rfl rfl 26 i26 (.pointer none) 1 8 Tryd.underlying82 HI.out.1 HI.out.2.1 HI.out.2.2.1 HI.out.2.2.2 rfl (by decide) e vs H2.out.row [.pointer (some ⟨g, 0, none⟩)] rfl HNW.out (by simp [Value.oneCell']) (by unfold maxLen; omega) (by omega) ?_; intro v' X5 hO2 hT2 hfr; have H3 := hid (H2.out.grow hO2 hT2 hfr); clear hO2 hT2 hfr; obtain ⟨B1, d1, hv', _⟩ := row_slice H3.out; subst hv'))
        refine wp_region_segs [.ord [(0, 1), (1, 1), (2, 1), (3, 1), (4, 1), (6, 1), (7, 1), (5, 2), (8, 1), (9, 1), (10, 1)]] (fun X => St w (Blk gk (bv k) 24 :: L) X) (by kernel_rfl) (by kernel_rfl) (fun d _ c _ _ h => by cases d <;> exact h) (H3.out.drop.turn (Below.drew (Below.refl _ _))) (fun X hXe hX => ?_)
        have H4 := H3.out.turn (Below.drew (Below.refl _ _))
        rw [← hXe] at H4
        replace H4 := hid H4
        clear hXe
        refine wpSegs_ord fun F1 hF1 => ?_
        clear hX H1 H2 H3
        iterate 7 (apply wpOrd_class; ((· first | (rw [List.getElem?_toArray, List.getElem?_cons_zero]; done) | (simp only [List.getElem?_toArray, List.getElem?_cons_succ, List.getElem?_cons_zero]; exact rfl))); (· exact rfl); intro K hK; apply Exists.intro; refine And.intro (fun X' hX' => ?_) ?_; (· obtain ⟨hq1, hq2, hq3⟩ := HC.out _ hX'; clear hX'; go_simp; (try go_bits); first | done | exact rfl | exact ⟨rfl, rfl⟩); go_simp; refine hK _ _ ?_; clear hK K)
        (apply wpOrd_comes; ((· first | (rw [List.getElem?_toArray, List.getElem?_cons_zero]; done) | (simp only [List.getElem?_toArray, List.getElem?_cons_succ, List.getElem?_cons_zero]; exact rfl))); intro N hN)
        go_wp2_with (go_at_call 54; (with_reducible refine (HBJ.out _).mono ?_); rintro r w9 ⟨rfl, hb9⟩; have H5 := hid (H4.out.turn hb9); clear hb9)
        refine hN _ _ (fun _ => H5.out.drop) ?_
        clear hN N
        iterate 3 (apply wpOrd_class; ((· first | (rw [List.getElem?_toArray, List.getElem?_cons_zero]; done) | (simp only [List.getElem?_toArray, List.getElem?_cons_succ, List.getElem?_cons_zero]; exact rfl))); (· exact rfl); intro K hK; apply Exists.intro; refine And.intro (fun X' hX' => ?_) ?_; (· obtain ⟨hq1, hq2, hq3⟩ := HC.out _ hX'; clear hX'; go_simp; (try go_bits); first | done | exact rfl | exact ⟨rfl, rfl⟩); go_simp; refine hK _ _ ?_; clear hK K)
        refine wpOrd_to (hF1 _ _ (wpSegs_nil ?_))
        clear hF1 F1
        go_wp2_with fail
        go_roundw
        case rel => exact ⟨B1, e + 1, d1, _, _, _, b, by go_num, by have := HN2.out; omega, by simp [hvs], HB, HW, HNB, H5⟩
        case measure => have := HN2.out; simp only [lenOf]; omega
end
end Go.Proofs.YtnakbdgoaepehaaDoor
/- Rows of sums; results that lie in a cell beside others. -/
namespace Go.Cu
open Go Go.RowKit
def All32 (ss : List (List UInt8)) : Prop := ∀ x ∈ ss, x.length = 32
/-- Sums as cells. -/
abbrev sumsV (ss : List (List UInt8)) : List Value := ss.flatMap bvL
theorem All32.len {ss : List (List UInt8)} (h : All32 ss) : ∀ x ∈ ss, (bvL x).length = 32 := fun x hx => (bvL_len x).trans (h x hx)
theorem sumsV_len {ss : List (List UInt8)} (h : All32 ss) : (sumsV ss).length = ss.length * 32 := fm_len ss h.len
theorem sumsV_snoc (ss : List (List UInt8)) (s : List UInt8) : sumsV (ss ++ [s]) = sumsV ss ++ bvL s := by unfold sumsV; rw [List.flatMap_append]; simp
theorem All32.snoc {ss : List (List UInt8)} {s : List UInt8} (h : All32 ss) (hk : s.length = 32) : All32 (ss ++ [s]) := fun x hx => by
  rcases List.mem_append.1 hx with h1 | h1
  · exact h x h1
  · rw [List.mem_singleton.1 h1]; exact hk
theorem All32.take {ss : List (List UInt8)} (h : All32 ss) (n : Nat) : All32 (ss.take n) := fun x hx => h x (List.mem_of_mem_take hx)
theorem All32.drop {ss : List (List UInt8)} (h : All32 ss) (n : Nat) : All32 (ss.drop n) := fun x hx => h x (List.mem_of_mem_drop hx)
theorem take_snoc {α : Type} {l : List α} {i : Nat} {x : α} (h : l[i]? = some x) : l.take (i + 1) = l.take i ++ [x] := by
  rw [List.take_add_one, h]; rfl
theorem beside_all {k : List UInt8} (t : Tr) : ∀ d, All32 (t.beside sumL k d) := by
  induction t with
  | nil => intro d x hx; cases hx
  | leaf y v => intro d x hx; cases hx
  | node e a b iha ihb =>
    intro d x hx
    unfold Tr.beside at hx
    split at hx
    · rcases List.mem_cons.1 hx with rfl | h
      · exact sum_len b
      · exact iha _ x h
    · rcases List.mem_cons.1 hx with rfl | h
      · exact sum_len a
      · exact ihb _ x h
section
variable {P : Program} {W0 W : World} {L : List Atm} {A : Option Addr} {e n c t : Nat} {ss : List (List UInt8)}
/-- A sum loaded out of a row. -/
theorem srow_load (h : St W0 (Row (.slice A n c) e 32 n (sumsV ss) :: L) W) (ha : All32 ss) {i : Nat} {s : List UInt8} (hi : ss[i]? = some s) {d : TypeDesc}
    (hu : P.underlying t = some d) (hd : (match d with | .struct _ | .array _ _ => true | _ => false) = true) (hs : (P.info? t).map (·.size) = some 32) :
    ∃ g, A = some ⟨g, 0, none⟩ ∧ ∀ o, o = i * 32 → (loadK t (.pointer (some ⟨g, o, none⟩))).run P W = .ok (.value (.agg (bv s))) W := by
  have hin : i < ss.length := (List.getElem?_eq_some_iff.1 hi).1
  have hl : ss.length * 32 = n * 32 := (sumsV_len ha).symm.trans h.row.1
  rcases h.row.2 with ⟨_, h1⟩ | ⟨g, cap, cur, hv, _, hb, h1, h2, h3, h4⟩
  · omega
  · cases hv
    have hk : s.length = 32 := ha s (List.mem_of_getElem? hi)
    refine ⟨g, rfl, fun o ho => ?_⟩
    subst ho
    refine run_loadK hb hu hd hs ((bv_size s).trans hk) fun j hj => ?_
    rw [bv_size, hk] at hj
    have h5 := fm_get ss i j s ha.len hi hj
    have h6 : (cur.toList.take (n * 32))[i * 32 + j]? = (bvL s)[j]? := by rw [h4]; exact h5
    rw [List.getElem?_take_of_lt (by omega)] at h6
    rw [← Array.getElem?_toList, h6, bv_eq, List.getElem?_toArray]
theorem row_elem {v : Value} {xs : List Value} (h : St W0 (Row v e 1 n xs :: L) W) {A : Option Addr} {c : Nat} (hv : v = .slice A n c) {i : Nat} {x : Value} (hx : xs[i]? = some x) : ∃ g, A = some ⟨g, 0, none⟩ ∧ W.cell? ⟨g, i, none⟩ = some x := by
  have hxl := h.row.1
  have hi : i < n := by
    rcases Nat.lt_or_ge i n with h | h
    · exact h
    · rw [List.getElem?_eq_none (by omega)] at hx; cases hx
  rcases h.row.2 with ⟨_, h0⟩ | ⟨g, c', cur, e1, _, hh, _, _, hs, ht⟩
  · omega
  · rw [hv] at e1
    injection e1 with e2 _ _
    refine ⟨g, e2, (cell_of_row W g i _ _ _ hh).trans ?_⟩
    rw [← Array.getElem?_toList]
    rw [← ht, List.getElem?_take_of_lt (by omega)] at hx
    exact hx
section
variable {fn : Func} {p u v : Tmp} {ty : TypeId} {g : Nat} {t' : TypeId} {cs : Array Value} {fr : Nat × Nat} {d : TypeDesc} {w : World} (tmps : Array Value)
    (hp : tmps.getD p undef = .pointer (some ⟨g, 0, none⟩)) (hg : w.heap[g]? = some (.cells cs t' fr)) (hu : P.underlying ty = some d) (hd : (match d with | .struct _ | .array _ _ => true | _ => false) = true) (hi : (P.info? ty).map (·.size) = some cs.size)
include hp hg hu hd hi
theorem results_celld (h : fn.results = #[.cell p ty]) : (results fn tmps).run P w = .ok (.agg cs) w := by
  have hp' : tmps[p]?.getD undef = .pointer (some ⟨g, 0, none⟩) := by simpa using hp
  have hl := run_loadVar_row (P := P) w g t' ty cs fr _ hg hu hd hi
  simp [results, h, hp', asAddr, hl]
theorem results_tct (h : fn.results = #[.tmp u, .cell p ty, .tmp v]) : (results fn tmps).run P w = .ok (.tuple #[tmps.getD u undef, .agg cs, tmps.getD v undef]) w := by
  have hp' : tmps[p]?.getD undef = .pointer (some ⟨g, 0, none⟩) := by simpa using hp
  have hl := run_loadVar_row (P := P) w g t' ty cs fr _ hg hu hd hi
  simp [results, h, hp', asAddr, hl]
theorem results_ctt (h : fn.results = #[.cell p ty, .tmp u, .tmp v]) : (results fn tmps).run P w = .ok (.tuple #[.agg cs, tmps.getD u undef, tmps.getD v undef]) w := by
  have hp' : tmps[p]?.getD undef = .pointer (some ⟨g, 0, none⟩) := by simpa using hp
  have hl := run_loadVar_row (P := P) w g t' ty cs fr _ hg hu hd hi
  simp [results, h, hp', asAddr, hl]
end
end
end Go.Cu
/- The sums beside a key's way. -/
namespace Go.Cu
open Go Go.RowKit
def endT : Tr → Bool
  | .leaf _ _ => true
  | _ => false
def endL : Tr → Array Value
  | .leaf k x => leafC k x
  | _ => leafC zeroK zeroK
theorem Nodes.at {w : World} {k : List UInt8} {vs : List Value} {ss : List (List UInt8)} (h : Nodes w k vs ss) {i : Nat} (hi : i < vs.length) : ∃ v s, vs[i]? = some v ∧ ss[i]? = some s ∧ NodeAt w k i v s :=
  ⟨vs[i], ss[i]'(h.1 ▸ hi), List.getElem?_eq_getElem hi, List.getElem?_eq_getElem (h.1 ▸ hi), h.2 i _ _ (List.getElem?_eq_getElem hi) (List.getElem?_eq_getElem (h.1 ▸ hi))⟩
end Go.Cu
namespace Go.Proofs.YtnakbdgoaepehaaDoor
open Go.RowKit Go.Cu
@[go_sem ↓] theorem bdktLEAF (a : Act) (dst : Option Tmp) (ps : Array (Nat × Operand)) (ty : TypeId) (pos : String) (after : Array Edge) (guard : Option (Nat × Bool)) :
    execOp a.eval { dst, op := .build 30 ps, type := ty, pos, after, guard } = buildK 30 (ps.map fun (i, x) => (i, a.eval x)) := rfl
theorem infoSum : (Tryd.prog.info? 23).map (fun i => (i.zero, i.size, i.bytes)) = some (some (.agg (bv (List.replicate 32 0))), 32, 32) := by kernel_rfl
theorem build_leaf0 (W : World) : (Instr.build 30 #[]).run Tryd.prog W = .ok (.agg (leafC zeroK zeroK)) W :=
  run_buildS (pl := #[(0, 32), (32, 32)]) Tryd.underlying30 zeroLeaf (fun W => by kernel_rfl) rfl
theorem leafC_one (k x : List UInt8) : ∀ u ∈ (leafC k x).toList, u.oneCell' = true := by
  intro u hu
  unfold leafC at hu
  rw [Array.toList_append] at hu
  rcases List.mem_append.1 hu with h | h
  · exact bv_one k u h
  · exact bv_one x u h
section
variable {w : World} {k : List UInt8} {t : Tr}
set_option maxRecDepth 20000 in
set_option maxHeartbeats 8000000 in
theorem beside_st {W : World} {L : List Atm} (h : St w L W) (hG : Glob w) {F : Nat → Prop} {v : Value} (ht : TreeIn F w v t) (hw : t.WF 0) (hk : k.length = 32) : Calls Tryd.prog 31 #[v, .agg (bv k)] W fun r w' => ∃ sv, r = .returned (.tuple #[sv, .agg (endL (t.last k 0)), .bool (endT (t.last k 0))]) ∧ St w (Row sv 23 32 (t.beside sumL k 0).length (sumsV (t.beside sumL k 0)) :: L) w' := by
  have HH := hid h
  have HBI := hid (fun (n : Nat) (X : World) (hn : n < 256) => bit_in k n X hk hn)
  have HK := hid (fun (g : Nat) (X : World) (hc : X.heap[g]? = some (.cells (bv k) 24 (0, 0))) => run_loadK_box (P := Tryd.prog) hc Tryd.underlying24 rfl size24 ((bv_size k).trans hk))
  have HWAY := hid (fun (X : World) (M : List Atm) (hX : St w M X) => way_st hX ht hw hk)
  have HRT := hid (fun (X : World) (F : Nat → Prop) (v : Value) (t : Tr) (hX : Below w.heap.size w X) (ht : TreeIn F w v t) => root_now (hG.below hX hG.two) (ht.below hX))
  obtain ⟨ss, hss⟩ : ∃ ss, ss = t.beside sumL k 0 := ⟨_, rfl⟩
  obtain ⟨tl, htl⟩ : ∃ tl, tl = t.last k 0 := ⟨_, rfl⟩
  have HA := hid (show All32 ss from hss ▸ beside_all t 0)
  have HLN := hid (show ss.length ≤ 256 by have := beside_len (H := sumL) (k := k) t 0 hw (by decide); rw [hss]; omega)
  have HNN := hid (show ∀ e a b, tl ≠ .node e a b from htl ▸ t.last_ne 0)
  rw [← hss, ← htl] at HWAY ⊢
  obtain ⟨i23, hi, hiz, his, hib⟩ := info_parts infoSum
  have HI := hid (And.intro hi (And.intro hiz (And.intro his hib)))
  have HZ32 := hid zero32_size
  clear h hG ht hw hk hss htl hi hiz his hib
  go_enter Tryd.func31, Tryd.ntmps31
  go_wp2_with (first | (refine wpList_box rfl 24 _ rfl (.agg (bv k)) rfl ?_; intro gk W1 h1 hl1 hg1 hW1; have H1 := hid (show St w (Blk gk (bv k) 24 :: L) W1 from HH.out.newBlk hW1 hg1 h1); clear h1 hl1 hg1 hW1) | (refine wpList_alloc 30 rfl rfl (.agg (leafC zeroK zeroK)) zeroLeaf ?_; intro ge W2 h1 hl1 hg1 hW1; have H2 := hid (show St w (Blk ge (leafC zeroK zeroK) 30 :: Blk gk (bv k) 24 :: L) W2 from H1.out.newBlk hW1 hg1 h1); have LA := HK.out _ _ H2.out.at2.blk; clear h1 hl1 hg1 hW1) | (go_at_call 35; (with_reducible refine (HWAY.out _ _ H2.out).mono ?_); rintro r w3 ⟨sv, ev, vs, F', rfl, he, hn, hst⟩; have H3 := hid hst; have HE := hid he; have HN := hid hn; obtain ⟨B, c0, hsv, _⟩ := row_slice hst; subst hsv; clear he hn hst))
  obtain ⟨n, hn⟩ : ∃ n, n = vs.length := ⟨_, rfl⟩
  have HNL := hid (show vs.length = n ∧ ss.length = n from ⟨hn.symm, HN.out.1.symm.trans hn.symm⟩)
  rw [← hn] at H3 ⊢
  clear hn H1 H2 HWAY HH
  go_loopw [4, 9, 10, 19] (fun av _ _ kv X => ∃ (A : Option Addr) (i c : Nat), i ≤ n ∧ av = .slice A i c ∧ kv = .int .i64 i ∧ Hid (St w (Row (.slice A i c) 23 32 i (sumsV (ss.take i)) :: Row (.slice B n c0) 26 1 n vs :: Blk ge (leafC zeroK zeroK) 30 :: Blk gk (bv k) 24 :: L) X)) (fun _ _ _ kv _ => n - (intOf kv).toNat)
  case atStart => exact ⟨none, 0, 0, by omega, rfl, rfl, hid (H3.out.nilRow _ _)⟩
  case round =>
    clear H3
    obtain ⟨A, i, c, hi, rfl, rfl, H3⟩ := hrel
    by_cases hlt : i < n
    · have i1 : (i : Int) < (n : Int) := by omega
      have i0 : (0 : Int) ≤ (i : Int) := by omega
      have HM := hid (And.intro hlt hi)
      have i3 : i < 256 := by have := HLN.out; have := HNL.out; omega
      have i2 : (i : Int) < 256 := by omega
      obtain ⟨u, s, hu, hs, F2, a, b, hn2, hsq⟩ := HN.out.at (show i < vs.length by rw [HNL.out.1]; exact hlt)
      obtain ⟨gb, rfl, hxb⟩ := row_elem H3.out.at2 rfl hu
      have x0 := hxb
      have HS := hid (And.intro hs hsq)
      have HBJ := hid (fun X => HBI.out i X i3)
      obtain ⟨g, m, va, vb, rfl, _, hc, ha, hb⟩ := hn2
      obtain ⟨p, rfl⟩ := ha.isPtr
      obtain ⟨q, rfl⟩ := hb.isPtr
      have HC := hid (fun (X : World) (hX : St w (Blk gk (bv k) 24 :: L) X) => And.intro (HK.out gk X hX.blk) (And.intro ((tree_cell ((hX.below.block g (heap_lt hc)).trans hc) (treeC_two zsize 0 Nat.zero_lt_two) rfl).trans (show _ = some (.pointer p) from rfl)) ((tree_cell ((hX.below.block g (heap_lt hc)).trans hc) (treeC_two zsize 1 Nat.one_lt_two) rfl).trans (show _ = some (.pointer q) from rfl))))
      have HRA := hid (fun X hX => HRT.out X _ _ a hX ha)
      have HRB := hid (fun X hX => HRT.out X _ _ b hX hb)
      have HS32 := hid (show (bv s).size = 32 by rw [bv_size]; exact HA.out s (List.mem_of_getElem? hs))
      have HTK := hid (show sumsV (ss.take (i + 1)) = sumsV (ss.take i) ++ bvL s by rw [take_snoc hs, sumsV_snoc])
      clear hc ha hb hxb hu hs hsq hi i3 hlt
      rcases Nat.eq_zero_or_pos (bitN k i) with hz | hz
      · have e1 : ((bitN k i : Nat) : Int) = 0 := by have := bitN_lt k i; omega
        obtain rfl : s = b.sum sumL := HS.out.2.trans (if_pos hz)
        obtain ⟨sm, hsm⟩ : ∃ sm, sm = b.sum sumL := ⟨_, rfl⟩
        rw [← hsm] at HS32 HTK HRB
        clear hz HS hsm
        go_upto_region 5 with fail
        refine wp_region_segs [.ord [(0, 1), (1, 1), (2, 1), (3, 1), (6, 1), (7, 1), (4, 2), (5, 1), (8, 1), (9, 1), (10, 2), (11, 2), (12, 2), (13, 1)]] (fun X => St w (Blk gk (bv k) 24 :: L) X) (by kernel_rfl) (by kernel_rfl) (fun d _ c _ _ h => by cases d <;> exact h) (H3.out.drop.drop.drop.turn (Below.drew (Below.refl _ _))) (fun X hXe hX => ?_)
        have H4 := H3.out.turn (Below.drew (Below.refl _ _))
        rw [← hXe] at H4
        replace H4 := hid H4
        clear hXe
        refine wpSegs_ord fun F1 hF1 => ?_
        clear hX H3
        iterate 6 (apply wpOrd_class; ((· first | (rw [List.getElem?_toArray, List.getElem?_cons_zero]; done) | (simp only [List.getElem?_toArray, List.getElem?_cons_succ, List.getElem?_cons_zero]; exact rfl))); (· exact rfl); intro K hK; apply Exists.intro; refine And.intro (fun X' hX' => ?_) ?_; (· obtain ⟨hq1, hq2, hq3⟩ := HC.out _ hX'; clear hX'; go_simp; (try go_bits); first | done | exact rfl | exact ⟨rfl, rfl⟩); go_simp; refine hK _ _ ?_; clear hK K)
        (apply wpOrd_comes; ((· first | (rw [List.getElem?_toArray, List.getElem?_cons_zero]; done) | (simp only [List.getElem?_toArray, List.getElem?_cons_succ, List.getElem?_cons_zero]; exact rfl))); intro N hN)
        go_wp2_with (go_at_call 54; (with_reducible refine (HBJ.out _).mono ?_); rintro r w9 ⟨rfl, hb9⟩; have H5 := hid (H4.out.turn hb9); clear hb9)
        refine hN _ _ (fun _ => H5.out.drop.drop.drop) ?_
        clear hN N
        iterate 3 (apply wpOrd_class; ((· first | (rw [List.getElem?_toArray, List.getElem?_cons_zero]; done) | (simp only [List.getElem?_toArray, List.getElem?_cons_succ, List.getElem?_cons_zero]; exact rfl))); (· exact rfl); intro K hK; apply Exists.intro; refine And.intro (fun X' hX' => ?_) ?_; (· obtain ⟨hq1, hq2, hq3⟩ := HC.out _ hX'; clear hX'; go_simp; (try go_bits); first | done | exact rfl | exact ⟨rfl, rfl⟩); go_simp; refine hK _ _ ?_; clear hK K)
        (apply wpOrd_comes; ((· first | (rw [List.getElem?_toArray, List.getElem?_cons_zero]; done) | (simp only [List.getElem?_toArray, List.getElem?_cons_succ, List.getElem?_cons_zero]; exact rfl))); intro N hN)
        go_wp2_with (go_at_call 7; (with_reducible refine (HRB.out _ H5.out.below).mono ?_); rintro r w9 ⟨rfl, hb9⟩; have H6 := hid (H5.out.turn hb9); clear hb9)
        refine hN _ _ (fun _ => H6.out.drop.drop.drop) ?_
        clear hN N
        (apply wpOrd_comes; ((· first | (rw [List.getElem?_toArray, List.getElem?_cons_zero]; done) | (simp only [List.getElem?_toArray, List.getElem?_cons_succ, List.getElem?_cons_zero]; exact rfl))); intro N hN)
        go_wp2_with (refine wpList_buildSlice1 _ rfl (.agg (bv sm)) (by simp [Act.eval]) rfl Tryd.underlying28 zero54s size54s (by decide) (by decide) HS32.out ?_; intro gn X4 hS hgs hges hX1b; have H7 := hid (H6.out.turn hX1b); have HNW := hid (news_box hS (bvL sm) (show (bv sm).toList = bvL sm by rw [bv_eq])); clear hS hgs hges hX1b)
        refine hN _ _ (fun _ => H7.out.drop.drop.drop) ?_
        clear hN N
        (apply wpOrd_comes; ((· first | (rw [List.getElem?_toArray, List.getElem?_cons_zero]; done) | (simp only [List.getElem?_toArray, List.getElem?_cons_succ, List.getElem?_cons_zero]; exact rfl))); intro N hN)
        go_wp2_with (refine wpList_append_at _ _ _ rfl (.slice A i c) rfl ⟨gn, 0, none⟩ 1 1 rfl rfl 23 i23 (.agg (bv (List.replicate 32 0))) 32 32 Tryd.underlying28 HI.out.1 HI.out.2.1 HI.out.2.2.1 HI.out.2.2.2 HZ32.out (by decide) i (sumsV (ss.take i)) H7.out.row (bvL sm) (by have := HS32.out; rw [bv_size] at this; rw [bvL_len, this]) HNW.out (bvL_one _) (by have := HM.out; have := HLN.out; have := HNL.out; unfold maxLen; omega) (by omega) ?_; intro v' X5 hO2 hT2 hfr; have H8 := hid (H7.out.grow hO2 hT2 hfr); clear hO2 hT2 hfr; obtain ⟨B1, d1, hv', _⟩ := row_slice H8.out; subst hv')
        refine hN _ _ (fun _ => H8.out.drop.drop.drop) ?_
        clear hN N
        iterate 1 (apply wpOrd_class; ((· first | (rw [List.getElem?_toArray, List.getElem?_cons_zero]; done) | (simp only [List.getElem?_toArray, List.getElem?_cons_succ, List.getElem?_cons_zero]; exact rfl))); (· exact rfl); intro K hK; apply Exists.intro; refine And.intro (fun X' hX' => ?_) ?_; (· obtain ⟨hq1, hq2, hq3⟩ := HC.out _ hX'; clear hX'; go_simp; (try go_bits); first | done | exact rfl | exact ⟨rfl, rfl⟩); go_simp; refine hK _ _ ?_; clear hK K)
        refine wpOrd_to (hF1 _ _ (wpSegs_nil ?_))
        clear hF1 F1
        rw [← HTK.out] at H8
        go_wp2_with fail
        go_roundw
        case rel => exact ⟨B1, i + 1, d1, by have := HM.out; omega, rfl, by go_num, H8⟩
        case measure => have := HM.out; simp [intOf]; omega
      · have e1 : ((bitN k i : Nat) : Int) = 1 := by have := bitN_lt k i; omega
        obtain rfl : s = a.sum sumL := HS.out.2.trans (if_neg (by omega))
        obtain ⟨sm, hsm⟩ : ∃ sm, sm = a.sum sumL := ⟨_, rfl⟩
        rw [← hsm] at HS32 HTK HRA
        clear hz HS hsm
        go_upto_region 5 with fail
        refine wp_region_segs [.ord [(0, 1), (1, 1), (2, 1), (3, 1), (6, 1), (7, 1), (4, 2), (5, 1), (8, 1), (9, 1), (10, 2), (11, 2), (12, 2), (13, 1)]] (fun X => St w (Blk gk (bv k) 24 :: L) X) (by kernel_rfl) (by kernel_rfl) (fun d _ c _ _ h => by cases d <;> exact h) (H3.out.drop.drop.drop.turn (Below.drew (Below.refl _ _))) (fun X hXe hX => ?_)
        have H4 := H3.out.turn (Below.drew (Below.refl _ _))
        rw [← hXe] at H4
        replace H4 := hid H4
        clear hXe
        refine wpSegs_ord fun F1 hF1 => ?_
        clear hX H3
        iterate 6 (apply wpOrd_class; ((· first | (rw [List.getElem?_toArray, List.getElem?_cons_zero]; done) | (simp only [List.getElem?_toArray, List.getElem?_cons_succ, List.getElem?_cons_zero]; exact rfl))); (· exact rfl); intro K hK; apply Exists.intro; refine And.intro (fun X' hX' => ?_) ?_; (· obtain ⟨hq1, hq2, hq3⟩ := HC.out _ hX'; clear hX'; go_simp; (try go_bits); first | done | exact rfl | exact ⟨rfl, rfl⟩); go_simp; refine hK _ _ ?_; clear hK K)
        (apply wpOrd_comes; ((· first | (rw [List.getElem?_toArray, List.getElem?_cons_zero]; done) | (simp only [List.getElem?_toArray, List.getElem?_cons_succ, List.getElem?_cons_zero]; exact rfl))); intro N hN)
        go_wp2_with (go_at_call 54; (with_reducible refine (HBJ.out _).mono ?_); rintro r w9 ⟨rfl, hb9⟩; have H5 := hid (H4.out.turn hb9); clear hb9)
        refine hN _ _ (fun _ => H5.out.drop.drop.drop) ?_
        clear hN N
        iterate 3 (apply wpOrd_class; ((· first | (rw [List.getElem?_toArray, List.getElem?_cons_zero]; done) | (simp only [List.getElem?_toArray, List.getElem?_cons_succ, List.getElem?_cons_zero]; exact rfl))); (· exact rfl); intro K hK; apply Exists.intro; refine And.intro (fun X' hX' => ?_) ?_; (· obtain ⟨hq1, hq2, hq3⟩ := HC.out _ hX'; clear hX'; go_simp; (try go_bits); first | done | exact rfl | exact ⟨rfl, rfl⟩); go_simp; refine hK _ _ ?_; clear hK K)
        (apply wpOrd_comes; ((· first | (rw [List.getElem?_toArray, List.getElem?_cons_zero]; done) | (simp only [List.getElem?_toArray, List.getElem?_cons_succ, List.getElem?_cons_zero]; exact rfl))); intro N hN)
        go_wp2_with (go_at_call 7; (with_reducible refine (HRA.out _ H5.out.below).mono ?_); rintro r w9 ⟨rfl, hb9⟩; have H6 := hid (H5.out.turn hb9); clear hb9)
        refine hN _ _ (fun _ => H6.out.drop.drop.drop) ?_
        clear hN N
        (apply wpOrd_comes; ((· first | (rw [List.getElem?_toArray, List.getElem?_cons_zero]; done) | (simp only [List.getElem?_toArray, List.getElem?_cons_succ, List.getElem?_cons_zero]; exact rfl))); intro N hN)
        go_wp2_with (refine wpList_buildSlice1 _ rfl (.agg (bv sm)) (by simp [Act.eval]) rfl Tryd.underlying28 zero54s size54s (by decide) (by decide) HS32.out ?_; intro gn X4 hS hgs hges hX1b; have H7 := hid (H6.out.turn hX1b); have HNW := hid (news_box hS (bvL sm) (show (bv sm).toList = bvL sm by rw [bv_eq])); clear hS hgs hges hX1b)
        refine hN _ _ (fun _ => H7.out.drop.drop.drop) ?_
        clear hN N
        (apply wpOrd_comes; ((· first | (rw [List.getElem?_toArray, List.getElem?_cons_zero]; done) | (simp only [List.getElem?_toArray, List.getElem?_cons_succ, List.getElem?_cons_zero]; exact rfl))); intro N hN)
        go_wp2_with (refine wpList_append_at _ _ _ rfl (.slice A i c) rfl ⟨gn, 0, none⟩ 1 1 rfl rfl 23 i23 (.agg (bv (List.replicate 32 0))) 32 32 Tryd.underlying28 HI.out.1 HI.out.2.1 HI.out.2.2.1 HI.out.2.2.2 HZ32.out (by decide) i (sumsV (ss.take i)) H7.out.row (bvL sm) (by have := HS32.out; rw [bv_size] at this; rw [bvL_len, this]) HNW.out (bvL_one _) (by have := HM.out; have := HLN.out; have := HNL.out; unfold maxLen; omega) (by omega) ?_; intro v' X5 hO2 hT2 hfr; have H8 := hid (H7.out.grow hO2 hT2 hfr); clear hO2 hT2 hfr; obtain ⟨B1, d1, hv', _⟩ := row_slice H8.out; subst hv')
        refine hN _ _ (fun _ => H8.out.drop.drop.drop) ?_
        clear hN N
        iterate 1 (apply wpOrd_class; ((· first | (rw [List.getElem?_toArray, List.getElem?_cons_zero]; done) | (simp only [List.getElem?_toArray, List.getElem?_cons_succ, List.getElem?_cons_zero]; exact rfl))); (· exact rfl); intro K hK; apply Exists.intro; refine And.intro (fun X' hX' => ?_) ?_; (· obtain ⟨hq1, hq2, hq3⟩ := HC.out _ hX'; clear hX'; go_simp; (try go_bits); first | done | exact rfl | exact ⟨rfl, rfl⟩); go_simp; refine hK _ _ ?_; clear hK K)
        refine wpOrd_to (hF1 _ _ (wpSegs_nil ?_))
        clear hF1 F1
        rw [← HTK.out] at H8
        go_wp2_with fail
        go_roundw
        case rel => exact ⟨B1, i + 1, d1, by have := HM.out; omega, rfl, by go_num, H8⟩
        case measure => have := HM.out; simp [intOf]; omega
    · have i1 : ¬ (i : Int) < (n : Int) := by omega
      obtain rfl : i = n := by omega
      have H4 := hid (show St w (Blk ge (leafC zeroK zeroK) 30 :: Blk gk (bv k) 24 :: Row (.slice A i c) 23 32 ss.length (sumsV ss) :: L) wr from by
        have h1 := H3.out.drop2
        rw [List.take_of_length_le (by rw [HNL.out.2]; exact Nat.le_refl _)] at h1
        have h2 := h1.at3.at3
        rw [show ss.length = i from HNL.out.2]
        exact h2)
      have HFIN := hid (fun X (hX : St w (Row (.slice A i c) 23 32 ss.length (sumsV ss) :: L) X) => hX)
      clear H3 hi
      have he := HE.out
      cases tl with
      | nil =>
        obtain rfl : ev = .pointer none := he
        have BL := fun W => run_buildK (build_leaf0 W)
        go_wp2_with (refine wpList_store_box 30 _ _ rfl ge rfl rfl (leafC zeroK zeroK) rfl 64 sizeLeaf zsize (leafC_one _ _) 30 _ H4.out.blk zsize ?_; intro W7 hB7 hT7 hs7; have H5 := hid (H4.out.put hB7 hT7))
        exact bodyPost_ret (results_tct _ rfl hB7 Tryd.underlying30 rfl (by rw [zsize]; exact sizeLeaf) rfl) rfl ⟨_, rfl, H5.out.drop.drop⟩
      | leaf x y =>
        obtain ⟨hx, hy, g, m, rfl, _, hc⟩ := he
        have HLZ := hid (leafC_size hx hy)
        have HC := hid (fun (X : World) (hX : St w (Blk gk (bv k) 24 :: L) X) => run_loadK (P := Tryd.prog) (off := 0) (vs := leafC x y) ((hX.below.block g (heap_lt hc)).trans hc) Tryd.underlying30 rfl sizeLeaf (leafC_size hx hy) (treeC_leaf))
        clear hx hy hc
        go_wp2_with fail
        refine wp_region_segs [.ord [(0, 1), (1, 1), (2, 1), (3, 1), (4, 1), (5, 1), (6, 2), (7, 1)]] (fun X => St w (Blk gk (bv k) 24 :: L) X) (by kernel_rfl) (by kernel_rfl) (fun d _ c _ _ h => by cases d <;> exact h) (H4.out.drop.at2.drop.turn (Below.drew (Below.refl _ _))) (fun X hXe hX => ?_)
        have H5 := H4.out.turn (Below.drew (Below.refl _ _))
        rw [← hXe] at H5
        replace H5 := hid H5
        clear hXe
        refine wpSegs_ord fun F1 hF1 => ?_
        clear hX
        iterate 6 (apply wpOrd_class; ((· first | (rw [List.getElem?_toArray, List.getElem?_cons_zero]; done) | (simp only [List.getElem?_toArray, List.getElem?_cons_succ, List.getElem?_cons_zero]; exact rfl))); (· exact rfl); intro K hK; apply Exists.intro; refine And.intro (fun X' hX' => ?_) ?_; (· have hq := HC.out _ hX'; clear hX'; go_simp; (try go_bits); first | done | exact rfl | exact ⟨rfl, rfl⟩); go_simp; refine hK _ _ ?_; clear hK K)
        (apply wpOrd_comes; ((· first | (rw [List.getElem?_toArray, List.getElem?_cons_zero]; done) | (simp only [List.getElem?_toArray, List.getElem?_cons_succ, List.getElem?_cons_zero]; exact rfl))); intro N hN)
        go_wp2_with (refine wpList_store_box 30 _ _ rfl ge rfl rfl (leafC x y) rfl 64 sizeLeaf HLZ.out (leafC_one _ _) 30 _ H5.out.blk zsize ?_; intro W7 hB7 hT7 hs7; have H6 := hid (H5.out.put hB7 hT7))
        refine hN _ _ (fun _ => H6.out.drop.at2.drop) ?_
        clear hN N
        (apply wpOrd_class; ((· first | (rw [List.getElem?_toArray, List.getElem?_cons_zero]; done) | (simp only [List.getElem?_toArray, List.getElem?_cons_succ, List.getElem?_cons_zero]; exact rfl))); (· exact rfl); intro K hK; apply Exists.intro; refine And.intro (fun X' hX' => ?_) ?_; (· have hq := HC.out _ hX'; clear hX'; go_simp; (try go_bits); first | done | exact rfl | exact ⟨rfl, rfl⟩); go_simp; refine hK _ _ ?_; clear hK K)
        refine wpOrd_to (hF1 _ _ (wpSegs_nil ?_))
        clear hF1 F1
        go_wp2_with fail
        exact bodyPost_ret (results_tct _ rfl hB7 Tryd.underlying30 rfl (by rw [HLZ.out]; exact sizeLeaf) rfl) rfl ⟨_, rfl, H6.out.drop.drop⟩
      | node e a b => exact absurd rfl (HNN.out e a b)
end
end Go.Proofs.YtnakbdgoaepehaaDoor
/- What is proved of a key. -/
namespace Go.Cu
open Go Go.RowKit
/-- A proof's cells. -/
def proofC (sv : Value) (th : Bool) (lf : Array Value) : Array Value := #[sv] ++ (#[.bool th] ++ lf)
section
variable {sv sv' : Value} {th th' : Bool} {lf lf' : Array Value}
theorem proofC_size (hl : lf.size = 64) : (proofC sv th lf).size = 66 := by
  unfold proofC
  simp only [Array.size_append, hl, List.size_toArray, List.length_cons, List.length_nil]
theorem proofC_put0 : putAt (proofC sv th lf) 0 (#[sv'] : Array Value).toList = proofC sv' th lf := by
  have h := putAt_mid #[] #[sv] #[sv'] (#[.bool th] ++ lf) rfl (o := 0) rfl
  simp only [Array.empty_append] at h
  exact h
theorem proofC_put1 : putAt (proofC sv th lf) 1 (#[.bool th'] : Array Value).toList = proofC sv th' lf := putAt_mid #[sv] #[.bool th] #[.bool th'] lf rfl (o := 1) rfl
theorem proofC_put2 (h : lf.size = lf'.size) : putAt (proofC sv th lf) 2 lf'.toList = proofC sv th lf' := by
  have h1 := putAt_mid (#[sv] ++ #[.bool th]) lf lf' #[] h (o := 2) rfl
  simp only [Array.append_empty] at h1
  unfold proofC
  rw [← Array.append_assoc, ← Array.append_assoc]
  exact h1
theorem proofC_0 : (proofC sv th lf)[0]? = some sv := by
  have h := mid_get #[] #[sv] (#[.bool th] ++ lf) (o := 0) (j := 0) (by simp) rfl
  rw [Array.empty_append] at h
  exact h
theorem proofC_1 : (proofC sv th lf)[1]? = some (.bool th) := mid_get #[sv] #[.bool th] lf (o := 1) (j := 0) (by simp) rfl
theorem proofC_leaf (j : Nat) (hj : j < lf.size) : (proofC sv th lf)[2 + j]? = lf[j]? := by
  have h := mid_get (#[sv] ++ #[.bool th]) lf #[] (o := 2 + j) hj rfl
  simp only [Array.append_empty, Array.append_assoc] at h
  exact h
end
theorem endL_size {w : World} {F : Nat → Prop} {v : Value} {t : Tr} (h : TreeIn F w v t) : (endL t).size = 64 := by
  match t, h with
  | .nil, _ => exact leafC_size zeroK_len zeroK_len
  | .leaf x y, ⟨hx, hy, _⟩ => exact leafC_size hx hy
  | .node _ _ _, _ => exact leafC_size zeroK_len zeroK_len
end Go.Cu
namespace Go.Proofs.YtnakbdgoaepehaaDoor
open Go.RowKit Go.Cu
@[go_sem ↓] theorem bdktPROOF (a : Act) (dst : Option Tmp) (ps : Array (Nat × Operand)) (ty : TypeId) (pos : String) (after : Array Edge) (guard : Option (Nat × Bool)) :
    execOp a.eval { dst, op := .build 32 ps, type := ty, pos, after, guard } = buildK 32 (ps.map fun (i, x) => (i, a.eval x)) := rfl
theorem zeroProof (W : World) : (zeroValue 32).run Tryd.prog W = .ok (.agg (proofC (.slice none 0 0) false (leafC zeroK zeroK))) W := by kernel_rfl
theorem sizeProof : (Tryd.prog.info? 32).map (·.size) = some 66 := by kernel_rfl
theorem build_proof {A : Option Addr} {n c : Nat} {th : Bool} {lf : Array Value} (hl : lf.size = 64) (W : World) : (Instr.build 32 #[(0, .slice A n c), (1, .bool th), (2, .agg lf)]).run Tryd.prog W = .ok (.agg (proofC (.slice A n c) th lf)) W := by
  refine run_buildS (pl := #[(0, 1), (1, 1), (2, 64)]) Tryd.underlying32 zeroProof (fun W => by kernel_rfl) ?_
  show Instr.fill (fun i => (#[(0, 1), (1, 1), (2, 64)] : Array (Nat × Nat))[i]?) (proofC (.slice none 0 0) false (leafC zeroK zeroK)) [(0, .slice A n c), (1, .bool th), (2, .agg lf)] = _
  rw [fill_one _ _ 0 0 1 (.slice A n c) _ rfl rfl (by rw [proofC_size zsize]; decide)]
  rw [show (Value.slice A n c).cells = #[.slice A n c] from rfl, proofC_put0, fill_one _ _ 1 1 1 (.bool th) _ rfl rfl (by rw [proofC_size zsize]; decide)]
  rw [show (Value.bool th).cells = #[.bool th] from rfl, proofC_put1, fill_one _ _ 2 2 64 (.agg lf) _ rfl hl (by rw [proofC_size zsize]; decide)]
  simp only [Value.cells]
  rw [proofC_put2 (zsize.trans hl.symm)]
  rfl
theorem proofC_one {A : Option Addr} {n c : Nat} {th : Bool} {lf : Array Value} (h : ∀ u ∈ lf.toList, u.oneCell' = true) : ∀ u ∈ (proofC (.slice A n c) th lf).toList, u.oneCell' = true := by
  intro u hu
  unfold proofC at hu
  simp only [Array.toList_append, List.mem_append, List.mem_cons, List.not_mem_nil, or_false] at hu
  rcases hu with rfl | rfl | h1
  · rfl
  · rfl
  · exact h u h1
theorem endL_one (t : Tr) : ∀ u ∈ (endL t).toList, u.oneCell' = true := by cases t <;> exact leafC_one _ _
section
variable {w : World} {k : List UInt8} {t : Tr}
set_option maxRecDepth 20000 in
set_option maxHeartbeats 8000000 in
theorem prove_st {W : World} {L : List Atm} (h : St w L W) (hG : Glob w) {F : Nat → Prop} {v : Value} (ht : TreeIn F w v t) (hw : t.WF 0) (hk : k.length = 32) (hes : (endL (t.last k 0)).size = 64) : Calls Tryd.prog 8 #[v, .agg (bv k)] W fun r w' => ∃ A c, r = .returned (.agg (proofC (.slice A (t.beside sumL k 0).length c) (endT (t.last k 0)) (endL (t.last k 0)))) ∧ St w (Row (.slice A (t.beside sumL k 0).length c) 23 32 (t.beside sumL k 0).length (sumsV (t.beside sumL k 0)) :: L) w' := by
  have HH := hid h
  have HK := hid (fun (g : Nat) (X : World) (hc : X.heap[g]? = some (.cells (bv k) 24 (0, 0))) => run_loadK_box (P := Tryd.prog) hc Tryd.underlying24 rfl size24 ((bv_size k).trans hk))
  have HB := hid (fun (X : World) (M : List Atm) (hX : St w M X) => beside_st hX hG ht hw hk)
  have HES := hid hes
  obtain ⟨ss, hss⟩ : ∃ ss, ss = t.beside sumL k 0 := ⟨_, rfl⟩
  obtain ⟨tl, htl⟩ : ∃ tl, tl = t.last k 0 := ⟨_, rfl⟩
  rw [← hss, ← htl] at HB ⊢
  rw [← htl] at HES
  have HOL := hid (endL_one tl)
  obtain ⟨lf, hlf⟩ : ∃ lf, lf = endL tl := ⟨_, rfl⟩
  obtain ⟨th, hth⟩ : ∃ th, th = endT tl := ⟨_, rfl⟩
  rw [← hlf, ← hth] at HB ⊢
  rw [← hlf] at HES HOL
  have HBP := hid (fun A n c X => run_buildK (build_proof (A := A) (n := n) (c := c) (th := th) HES.out X))
  have HLL := hid (fun (g : Nat) (X : World) (hc : X.heap[g]? = some (.cells lf 30 (0, 0))) => run_loadK_box (P := Tryd.prog) hc Tryd.underlying30 rfl sizeLeaf HES.out)
  clear h hG ht hw hk hes hss htl hlf hth
  go_enter Tryd.func8, Tryd.ntmps8
  go_wp2_with (first | (refine wpList_box rfl 24 _ rfl (.agg (bv k)) rfl ?_; intro gk W1 h1 hl1 hg1 hW1; have H1 := hid (show St w (Blk gk (bv k) 24 :: L) W1 from HH.out.newBlk hW1 hg1 h1); clear h1 hl1 hg1 hW1) | (refine wpList_alloc 32 rfl rfl (.agg (proofC (.slice none 0 0) false (leafC zeroK zeroK))) zeroProof ?_; intro gp W2 h1 hl1 hg1 hW1; have H2 := hid (show St w (Blk gp (proofC (.slice none 0 0) false (leafC zeroK zeroK)) 32 :: Blk gk (bv k) 24 :: L) W2 from H1.out.newBlk hW1 hg1 h1); have LA := HK.out _ _ H2.out.at2.blk; clear h1 hl1 hg1 hW1) | (go_at_call 31; (with_reducible refine (HB.out _ _ H2.out).mono ?_); rintro r w3 ⟨sv, rfl, hst⟩; have H3 := hid hst; obtain ⟨A, c, hsv, _⟩ := row_slice hst; subst hsv; clear hst) | (refine wpList_alloc 30 rfl rfl (.agg (leafC zeroK zeroK)) zeroLeaf ?_; intro ge W2 h1 hl1 hg1 hW1; have H4 := hid (H3.out.newBlk hW1 hg1 h1); clear h1 hl1 hg1 hW1) | (refine wpList_store_box 30 _ _ rfl ge rfl rfl lf rfl 64 sizeLeaf HES.out HOL.out 30 _ H4.out.blk zsize ?_; intro W7 hB7 hT7 hs7; have H5 := hid (H4.out.put hB7 hT7); have LB := HLL.out _ _ hB7; have LC := HBP.out A ss.length c W7; clear hB7 hT7 hs7) | (refine wpList_store_box 32 _ _ rfl gp rfl rfl (proofC (.slice A ss.length c) th lf) rfl 66 sizeProof (proofC_size HES.out) (proofC_one HOL.out) 32 _ H5.out.at3.blk (proofC_size zsize) ?_; intro W8 hB8 hT8 hs8; have H6 := hid (H5.out.at3.put hB8 hT8)))
  exact bodyPost_ret (results_celld _ rfl hB8 Tryd.underlying32 rfl (by rw [proofC_size HES.out]; exact sizeProof) rfl) rfl ⟨A, c, rfl, H6.out.drop.drop.drop2⟩
end
end Go.Proofs.YtnakbdgoaepehaaDoor
/- The texts that are summed up on the way. -/
namespace Go.Cu
open Go Go.RowKit
section
variable {W0 W W' : World} {L : List Atm}
/-- A new block as a row. -/
theorem St.newRow {g e s n : Nat} {cs : Array Value} (h : St W0 L W) (hb : Below W.heap.size W W') (hg : W.heap.size ≤ g) (hc : W'.heap[g]? = some (.cells cs e (0, 0))) (hn : cs.size = n * s) (hm : n ≤ maxLen) (_h0 : 0 < n) : St W0 (Row (.slice (some ⟨g, 0, none⟩) n n) e s n cs.toList :: L) W' :=
  h.push hb ⟨fun i hi => by
    have : g = i := by simpa [Value.ownBlock] using hi
    exact this ▸ hg, by simp [hn], .inr ⟨g, n, cs, rfl, Nat.zero_le _, hc, Nat.le_refl _, hm, hn, by rw [List.take_of_length_le (by simp [hn])]⟩⟩
theorem bytes_part {X : World} {g o : Nat} {cs : Array Value} {r : List UInt8} {t : TypeId} {fr : Nat × Nat} (hc : X.heap[g]? = some (.cells cs t fr)) (h : ∀ j, j < (bv r).size → cs[o + j]? = (bv r)[j]?) : BytesIn X (some ⟨g, o, none⟩) r := fun i b hi => by
  refine ⟨g, o, rfl, heap_lt hc, ?_⟩
  have hlt : i < r.length := by
    rcases Nat.lt_or_ge i r.length with h1 | h1
    · exact h1
    · rw [List.getElem?_eq_none h1] at hi; cases hi
  rw [cell_of_row X g (o + i) _ _ _ hc, h i (by rw [bv_size]; exact hlt), bv_eq, List.getElem?_toArray]
  unfold bvL
  rw [List.getElem?_map, hi]
  rfl
theorem proofC_key {sv : Value} {th : Bool} {x y : List UInt8} (hx : x.length = 32) (hy : y.length = 32) (j : Nat) (hj : j < (bv x).size) : (proofC sv th (leafC x y))[2 + j]? = (bv x)[j]? := by
  have h1 := hj
  rw [bv_size] at h1
  rw [proofC_leaf j (by rw [leafC_size hx hy]; omega)]
  have h := leafC_key (v := y) j hj
  rwa [Nat.zero_add] at h
theorem proofC_val {sv : Value} {th : Bool} {x y : List UInt8} (hx : x.length = 32) (hy : y.length = 32) (j : Nat) (hj : j < (bv y).size) : (proofC sv th (leafC x y))[34 + j]? = (bv y)[j]? := by
  have h1 := hj
  rw [bv_size] at h1
  have h2 := proofC_leaf (sv := sv) (th := th) (lf := leafC x y) (32 + j) (by rw [leafC_size hx hy]; omega)
  rw [← Nat.add_assoc] at h2
  rw [h2]
  exact leafC_val hx j hj
/-- What a way ends at, as a text. -/
def endTx (th : Bool) (x y : List UInt8) : List UInt8 := if th then leafB x y else [2]
end
end Go.Cu
namespace Go.Proofs.YtnakbdgoaepehaaDoor
open Go.RowKit Go.Cu
section
variable {w : World} {L : List Atm} {W : World}
set_option maxRecDepth 20000 in
set_option maxHeartbeats 8000000 in
theorem pend_st (h : St w L W) {A : Option Addr} {n c : Nat} {th : Bool} {x y : List UInt8} (hx : x.length = 32) (hy : y.length = 32) : Calls Tryd.prog 59 #[.agg (proofC (.slice A n c) th (leafC x y))] W fun r w' => ∃ D d, r = .returned (.slice D (endTx th x y).length d) ∧ St w (Row (.slice D (endTx th x y).length d) 5 1 (endTx th x y).length (bvL (endTx th x y)) :: L) w' := by
  have HH := hid h
  obtain ⟨i5, hi, hiz, his, hib⟩ := info_parts info5
  have HI := hid (And.intro hi (And.intro hiz (And.intro his hib)))
  have HX := hid hx
  have HY := hid hy
  have HBX := hid (fun (g : Nat) (X : World) (t : TypeId) (hc : X.heap[g]? = some (.cells (proofC (.slice A n c) th (leafC x y)) t (0, 0))) => bytes_part (o := 2) hc (proofC_key hx hy))
  have HBY := hid (fun (g : Nat) (X : World) (t : TypeId) (hc : X.heap[g]? = some (.cells (proofC (.slice A n c) th (leafC x y)) t (0, 0))) => bytes_part (o := 34) hc (proofC_val hx hy))
  clear h hi hiz his hib hx hy
  cases th with
  | false =>
    go_enter Tryd.func59, Tryd.ntmps59
    go_wp2_with (first | (refine wpList_box rfl 32 _ rfl (.agg (proofC (.slice A n c) false (leafC x y))) rfl ?_; intro gp W1 h1 hl1 hg1 hW1; have H1 := hid (show St w (Blk gp (proofC (.slice A n c) false (leafC x y)) 32 :: L) W1 from HH.out.newBlk hW1 hg1 h1); have x1 := (cell_of_row _ gp 1 _ _ _ H1.out.blk).trans proofC_1; clear h1 hl1 hg1 hW1) | (refine wpList_buildSlice1 _ rfl (.int .u8 2) (by simp [Act.eval]) rfl Tryd.underlying42 zero5s size5s (by decide) (by decide) rfl ?_; intro gn X4 hS hgs hges hX1b; have H2 := hid (show St w (Row (.slice (some ⟨gn, 0, none⟩) 1 1) 5 1 1 (bvL [2]) :: Blk gp (proofC (.slice A n c) false (leafC x y)) 32 :: L) X4 from H1.out.newRow hX1b hges hS rfl (by decide) (by decide)); clear hS hgs hges hX1b))
    go_ret
    exact ⟨some ⟨gn, 0, none⟩, 1, rfl, H2.out.drop2⟩
  | true =>
    have HEB := hid (show endTx true x y = [0] ++ x ++ y from rfl)
    go_enter Tryd.func59, Tryd.ntmps59
    go_wp2_with (refine wpList_box rfl 32 _ rfl (.agg (proofC (.slice A n c) true (leafC x y))) rfl ?_; intro gp W1 h1 hl1 hg1 hW1; have H1 := hid (show St w (Blk gp (proofC (.slice A n c) true (leafC x y)) 32 :: L) W1 from HH.out.newBlk hW1 hg1 h1); have x1 := (cell_of_row _ gp 1 _ _ _ H1.out.blk).trans proofC_1; clear h1 hl1 hg1 hW1)
    refine wp_region_segs [.ord [(1, 1), (2, 1), (3, 1), (5, 1), (6, 1), (7, 1), (0, 2), (4, 2), (8, 2), (9, 1)]] (fun X => St w (Blk gp (proofC (.slice A n c) true (leafC x y)) 32 :: L) X) (by kernel_rfl) (by kernel_rfl) (fun d _ c _ _ h => by cases d <;> exact h) (H1.out.turn (Below.drew (Below.refl _ _))) (fun X hXe hX => ?_)
    have H2 := H1.out.turn (Below.drew (Below.refl _ _))
    rw [← hXe] at H2
    replace H2 := hid H2
    clear hXe
    refine wpSegs_ord fun F1 hF1 => ?_
    clear hX H1 x1
    iterate 6 (apply wpOrd_class; ((· first | (rw [List.getElem?_toArray, List.getElem?_cons_zero]; done) | (simp only [List.getElem?_toArray, List.getElem?_cons_succ, List.getElem?_cons_zero]; exact rfl))); (· exact rfl); intro K hK; apply Exists.intro; refine And.intro (fun X' hX' => ?_) ?_; (· go_simp; (try go_bits); first | done | exact rfl | exact ⟨rfl, rfl⟩); go_simp; refine hK _ _ ?_; clear hK K)
    (apply wpOrd_comes; ((· first | (rw [List.getElem?_toArray, List.getElem?_cons_zero]; done) | (simp only [List.getElem?_toArray, List.getElem?_cons_succ, List.getElem?_cons_zero]; exact rfl))); intro N hN)
    go_wp2_with (refine wpList_buildSlice1 _ rfl (.int .u8 0) (by simp [Act.eval]) rfl Tryd.underlying42 zero5s size5s (by decide) (by decide) rfl ?_; intro gn X4 hS hgs hges hX1b; have H3 := hid (show St w (Row (.slice (some ⟨gn, 0, none⟩) 1 1) 5 1 1 (bvL [0]) :: Blk gp (proofC (.slice A n c) true (leafC x y)) 32 :: L) X4 from H2.out.newRow hX1b hges hS rfl (by decide) (by decide)); clear hS hgs hges hX1b)
    refine hN _ _ (fun _ => H3.out.drop) ?_
    clear hN N
    (apply wpOrd_comes; ((· first | (rw [List.getElem?_toArray, List.getElem?_cons_zero]; done) | (simp only [List.getElem?_toArray, List.getElem?_cons_succ, List.getElem?_cons_zero]; exact rfl))); intro N hN)
    go_wp2_with (refine wpList_append_bytes _ _ _ rfl (.slice (some ⟨gn, 0, none⟩) 1 1) rfl (some ⟨gp, 2, none⟩) 32 x (by rw [HX.out]; rfl) rfl 5 i5 Tryd.underlying42 HI.out.1 HI.out.2.1 HI.out.2.2.1 HI.out.2.2.2 1 (bvL [0]) H3.out.row (HBX.out _ _ _ H3.out.at2.blk) (by rw [HX.out]; decide) ?_; intro v' X6 hO2 hT2 hfr; have H4 := hid (H3.out.grow hO2 hT2 hfr); clear hO2 hT2 hfr; obtain ⟨B2, d2, hv', _⟩ := row_slice H4.out; subst hv')
    refine hN _ _ (fun _ => H4.out.drop) ?_
    clear hN N
    (apply wpOrd_comes; ((· first | (rw [List.getElem?_toArray, List.getElem?_cons_zero]; done) | (simp only [List.getElem?_toArray, List.getElem?_cons_succ, List.getElem?_cons_zero]; exact rfl))); intro N hN)
    go_wp2_with (refine wpList_append_bytes _ _ _ rfl (.slice B2 (1 + x.length) d2) rfl (some ⟨gp, 34, none⟩) 32 y (by rw [HY.out]; rfl) rfl 5 i5 Tryd.underlying42 HI.out.1 HI.out.2.1 HI.out.2.2.1 HI.out.2.2.2 (1 + x.length) _ H4.out.row (HBY.out _ _ _ H4.out.at2.blk) (by rw [HX.out, HY.out]; decide) ?_; intro v' X6 hO2 hT2 hfr; have H5 := hid (H4.out.grow hO2 hT2 hfr); clear hO2 hT2 hfr; obtain ⟨B3, d3, hv', _⟩ := row_slice H5.out; subst hv')
    refine hN _ _ (fun _ => H5.out.drop) ?_
    clear hN N
    (apply wpOrd_class; ((· first | (rw [List.getElem?_toArray, List.getElem?_cons_zero]; done) | (simp only [List.getElem?_toArray, List.getElem?_cons_succ, List.getElem?_cons_zero]; exact rfl))); (· exact rfl); intro K hK; apply Exists.intro; refine And.intro (fun X' hX' => ?_) ?_; (· go_simp; (try go_bits); first | done | exact rfl | exact ⟨rfl, rfl⟩); go_simp; refine hK _ _ ?_; clear hK K)
    refine wpOrd_to (hF1 _ _ (wpSegs_nil ?_))
    clear hF1 F1
    go_wp2_with fail
    have e1 : (endTx true x y).length = 1 + x.length + y.length := by rw [HEB.out]; simp; omega
    have e2 : bvL (endTx true x y) = bvL [0] ++ bvL x ++ bvL y := by rw [HEB.out]; simp [bvL]
    go_ret
    exact ⟨B3, d3, by rw [e1]; rfl, by rw [e1, e2]; exact H5.out.drop2⟩
theorem nodeB_len {d : Nat} {x y : List UInt8} (hx : x.length = 32) (hy : y.length = 32) : (nodeB d x y).length = 67 := by unfold nodeB; simp [hx, hy]
set_option maxRecDepth 20000 in
set_option maxHeartbeats 8000000 in
theorem pnode0_st (h : St w L W) {s u : List UInt8} {n : Nat} (hs : s.length = 32) (hu : u.length = 32) (hn : n ≤ 65535) : Calls Tryd.prog 60 #[.int .i64 n, .int .i64 0, .agg (bv s), .agg (bv u)] W fun r w' => ∃ D d, r = .returned (.slice D 67 d) ∧ St w (Row (.slice D 67 d) 5 1 67 (bvL (nodeB n s u)) :: L) w' := by
  have HH := hid h
  obtain ⟨i5, hi, hiz, his, hib⟩ := info_parts info5
  have HI := hid (And.intro hi (And.intro hiz (And.intro his hib)))
  have HS := hid hs
  have HU := hid hu
  have HZS := hid ((bv_size s).trans hs)
  have HZU := hid ((bv_size u).trans hu)
  have HL := hid (fun (g : Nat) (X : World) (r : List UInt8) (hr : (bv r).size = 32) (hc : X.heap[g]? = some (.cells (bv r) 23 (0, 0))) => run_loadK_box (P := Tryd.prog) hc Tryd.underlying23 rfl size54s hr)
  obtain ⟨b0, hb0⟩ : ∃ b, b = UInt8.ofNat (n / 256) := ⟨_, rfl⟩
  obtain ⟨b1, hb1⟩ : ∃ b, b = UInt8.ofNat n := ⟨_, rfl⟩
  have E0 : (n : Int) / 256 = (b0.toNat : Int) := by rw [hb0, u8_cast]; omega
  have E1 : (n : Int) % 256 = (b1.toNat : Int) := by rw [hb1, u8_cast]
  have E2 : (b0.toNat : Int) % 256 = (b0.toNat : Int) := by have := UInt8.toNat_lt b0; omega
  have HNB := hid (show nodeB n s u = [1, b0, b1] ++ s ++ u by rw [hb0, hb1]; rfl)
  clear h hi hiz his hib hs hu hn hb0 hb1
  go_enter Tryd.func60, Tryd.ntmps60
  go_upto_region 4 with (first | (refine wpList_box rfl 23 _ rfl (.agg (bv s)) rfl ?_; intro ga W1 h1 hl1 hg1 hW1; have H1 := hid (HH.out.newBlk hW1 hg1 h1); clear h1 hl1 hg1 hW1) | (refine wpList_box rfl 23 _ rfl (.agg (bv u)) rfl ?_; intro gb W1 h1 hl1 hg1 hW1; have H2 := hid (show St w (Blk gb (bv u) 23 :: Blk ga (bv s) 23 :: L) W1 from H1.out.newBlk hW1 hg1 h1); clear h1 hl1 hg1 hW1) | (refine wpList_buildSlice3 _ rfl (.int .u8 1) (.int .u8 b0.toNat) (.int .u8 b1.toNat) (by simp [Act.eval, E1]) rfl Tryd.underlying42 zero5s size5s (by decide) (by decide) rfl rfl rfl ?_; intro gn X4 hS hgs hges hX1b; have H5 := hid (show St w (Row (.slice (some ⟨gn, 0, none⟩) 3 3) 5 1 3 (bvL [1, b0, b1]) :: Blk gb (bv u) 23 :: Blk ga (bv s) 23 :: L) X4 from H2.out.newRow hX1b hges hS rfl (by decide) (by decide)); clear hS hgs hges hX1b))
  refine wp_region_segs [.ord [(0, 1), (1, 1), (3, 1), (2, 2), (4, 2), (5, 1)]] (fun X => St w (Blk gb (bv u) 23 :: Blk ga (bv s) 23 :: L) X) (by kernel_rfl) (by kernel_rfl) (fun d _ c _ _ h => by cases d <;> exact h) (H5.out.drop.turn (Below.drew (Below.refl _ _))) (fun X hXe hX => ?_)
  have H6 := H5.out.turn (Below.drew (Below.refl _ _))
  rw [← hXe] at H6
  replace H6 := hid H6
  clear hXe
  refine wpSegs_ord fun F1 hF1 => ?_
  clear hX H5
  iterate 3 (apply wpOrd_class; ((· first | (rw [List.getElem?_toArray, List.getElem?_cons_zero]; done) | (simp only [List.getElem?_toArray, List.getElem?_cons_succ, List.getElem?_cons_zero]; exact rfl))); (· exact rfl); intro K hK; apply Exists.intro; refine And.intro (fun X' hX' => ?_) ?_; (· go_simp; (try go_bits); first | done | exact rfl | exact ⟨rfl, rfl⟩); go_simp; refine hK _ _ ?_; clear hK K)
  (apply wpOrd_comes; ((· first | (rw [List.getElem?_toArray, List.getElem?_cons_zero]; done) | (simp only [List.getElem?_toArray, List.getElem?_cons_succ, List.getElem?_cons_zero]; exact rfl))); intro N hN)
  go_wp2_with (refine wpList_append_bytes _ _ _ rfl (.slice (some ⟨gn, 0, none⟩) 3 3) rfl (some ⟨ga, 0, none⟩) 32 s (by rw [HS.out]; rfl) rfl 5 i5 Tryd.underlying42 HI.out.1 HI.out.2.1 HI.out.2.2.1 HI.out.2.2.2 3 (bvL [1, b0, b1]) H6.out.row (blk_bytes H6.out.at3) (by rw [HS.out]; decide) ?_; intro v' X6 hO2 hT2 hfr; have H7 := hid (H6.out.grow hO2 hT2 hfr); clear hO2 hT2 hfr; obtain ⟨B2, d2, hv', _⟩ := row_slice H7.out; subst hv')
  refine hN _ _ (fun _ => H7.out.drop) ?_
  clear hN N
  (apply wpOrd_comes; ((· first | (rw [List.getElem?_toArray, List.getElem?_cons_zero]; done) | (simp only [List.getElem?_toArray, List.getElem?_cons_succ, List.getElem?_cons_zero]; exact rfl))); intro N hN)
  go_wp2_with (refine wpList_append_bytes _ _ _ rfl (.slice B2 (3 + s.length) d2) rfl (some ⟨gb, 0, none⟩) 32 u (by rw [HU.out]; rfl) rfl 5 i5 Tryd.underlying42 HI.out.1 HI.out.2.1 HI.out.2.2.1 HI.out.2.2.2 (3 + s.length) _ H7.out.row (blk_bytes H7.out.at2) (by rw [HS.out, HU.out]; decide) ?_; intro v' X6 hO2 hT2 hfr; have H8 := hid (H7.out.grow hO2 hT2 hfr); clear hO2 hT2 hfr; obtain ⟨B3, d3, hv', _⟩ := row_slice H8.out; subst hv')
  refine hN _ _ (fun _ => H8.out.drop) ?_
  clear hN N
  (apply wpOrd_class; ((· first | (rw [List.getElem?_toArray, List.getElem?_cons_zero]; done) | (simp only [List.getElem?_toArray, List.getElem?_cons_succ, List.getElem?_cons_zero]; exact rfl))); (· exact rfl); intro K hK; apply Exists.intro; refine And.intro (fun X' hX' => ?_) ?_; (· go_simp; (try go_bits); first | done | exact rfl | exact ⟨rfl, rfl⟩); go_simp; refine hK _ _ ?_; clear hK K)
  refine wpOrd_to (hF1 _ _ (wpSegs_nil ?_))
  clear hF1 F1
  go_wp2_with fail
  have e1 : 3 + s.length + u.length = 67 := by rw [HS.out, HU.out]
  have e2 : bvL (nodeB n s u) = bvL [1, b0, b1] ++ bvL s ++ bvL u := by rw [HNB.out]; simp [bvL]
  rw [e1] at H8 ⊢
  go_ret
  exact ⟨B3, d3, rfl, by rw [e2]; exact H8.out.drop2.drop2⟩
set_option maxRecDepth 20000 in
set_option maxHeartbeats 8000000 in
theorem pnode1_st (h : St w L W) {s u : List UInt8} {n : Nat} (hs : s.length = 32) (hu : u.length = 32) (hn : n ≤ 65535) : Calls Tryd.prog 60 #[.int .i64 n, .int .i64 1, .agg (bv s), .agg (bv u)] W fun r w' => ∃ D d, r = .returned (.slice D 67 d) ∧ St w (Row (.slice D 67 d) 5 1 67 (bvL (nodeB n u s)) :: L) w' := by
  have HH := hid h
  obtain ⟨i5, hi, hiz, his, hib⟩ := info_parts info5
  have HI := hid (And.intro hi (And.intro hiz (And.intro his hib)))
  have HS := hid hs
  have HU := hid hu
  have HZS := hid ((bv_size s).trans hs)
  have HZU := hid ((bv_size u).trans hu)
  have HL := hid (fun (g : Nat) (X : World) (r : List UInt8) (hr : (bv r).size = 32) (hc : X.heap[g]? = some (.cells (bv r) 23 (0, 0))) => run_loadK_box (P := Tryd.prog) hc Tryd.underlying23 rfl size54s hr)
  obtain ⟨b0, hb0⟩ : ∃ b, b = UInt8.ofNat (n / 256) := ⟨_, rfl⟩
  obtain ⟨b1, hb1⟩ : ∃ b, b = UInt8.ofNat n := ⟨_, rfl⟩
  have E0 : (n : Int) / 256 = (b0.toNat : Int) := by rw [hb0, u8_cast]; omega
  have E1 : (n : Int) % 256 = (b1.toNat : Int) := by rw [hb1, u8_cast]
  have E2 : (b0.toNat : Int) % 256 = (b0.toNat : Int) := by have := UInt8.toNat_lt b0; omega
  have HNB := hid (show nodeB n u s = [1, b0, b1] ++ u ++ s by rw [hb0, hb1]; rfl)
  clear h hi hiz his hib hs hu hn hb0 hb1
  go_enter Tryd.func60, Tryd.ntmps60
  go_upto_region 4 with (first | (refine wpList_box rfl 23 _ rfl (.agg (bv s)) rfl ?_; intro ga W1 h1 hl1 hg1 hW1; have H1 := hid (HH.out.newBlk hW1 hg1 h1); clear h1 hl1 hg1 hW1) | (refine wpList_box rfl 23 _ rfl (.agg (bv u)) rfl ?_; intro gb W1 h1 hl1 hg1 hW1; have H2 := hid (show St w (Blk gb (bv u) 23 :: Blk ga (bv s) 23 :: L) W1 from H1.out.newBlk hW1 hg1 h1); clear h1 hl1 hg1 hW1; have LA := HL.out _ _ _ HZU.out H2.out.blk; have LB := HL.out _ _ _ HZS.out H2.out.at2.blk) | (refine wpList_store_box 23 _ _ rfl ga rfl rfl (bv u) rfl 32 size54s HZU.out (bv_one _) 23 _ H2.out.at2.blk HZS.out ?_; intro W7 hB7 hT7 hs7; have H3 := hid (H2.out.at2.put hB7 hT7); clear hB7 hT7 hs7) | (refine wpList_store_box 23 _ _ rfl gb rfl rfl (bv s) rfl 32 size54s HZS.out (bv_one _) 23 _ H3.out.at2.blk HZU.out ?_; intro W7 hB7 hT7 hs7; have H4 := hid (H3.out.at2.put hB7 hT7); clear hB7 hT7 hs7) | (refine wpList_buildSlice3 _ rfl (.int .u8 1) (.int .u8 b0.toNat) (.int .u8 b1.toNat) (by simp [Act.eval, E1]) rfl Tryd.underlying42 zero5s size5s (by decide) (by decide) rfl rfl rfl ?_; intro gn X4 hS hgs hges hX1b; have H5 := hid (show St w (Row (.slice (some ⟨gn, 0, none⟩) 3 3) 5 1 3 (bvL [1, b0, b1]) :: Blk gb (bv s) 23 :: Blk ga (bv u) 23 :: L) X4 from H4.out.newRow hX1b hges hS rfl (by decide) (by decide)); clear hS hgs hges hX1b))
  refine wp_region_segs [.ord [(0, 1), (1, 1), (3, 1), (2, 2), (4, 2), (5, 1)]] (fun X => St w (Blk gb (bv s) 23 :: Blk ga (bv u) 23 :: L) X) (by kernel_rfl) (by kernel_rfl) (fun d _ c _ _ h => by cases d <;> exact h) (H5.out.drop.turn (Below.drew (Below.refl _ _))) (fun X hXe hX => ?_)
  have H6 := H5.out.turn (Below.drew (Below.refl _ _))
  rw [← hXe] at H6
  replace H6 := hid H6
  clear hXe
  refine wpSegs_ord fun F1 hF1 => ?_
  clear hX H5
  iterate 3 (apply wpOrd_class; ((· first | (rw [List.getElem?_toArray, List.getElem?_cons_zero]; done) | (simp only [List.getElem?_toArray, List.getElem?_cons_succ, List.getElem?_cons_zero]; exact rfl))); (· exact rfl); intro K hK; apply Exists.intro; refine And.intro (fun X' hX' => ?_) ?_; (· go_simp; (try go_bits); first | done | exact rfl | exact ⟨rfl, rfl⟩); go_simp; refine hK _ _ ?_; clear hK K)
  (apply wpOrd_comes; ((· first | (rw [List.getElem?_toArray, List.getElem?_cons_zero]; done) | (simp only [List.getElem?_toArray, List.getElem?_cons_succ, List.getElem?_cons_zero]; exact rfl))); intro N hN)
  go_wp2_with (refine wpList_append_bytes _ _ _ rfl (.slice (some ⟨gn, 0, none⟩) 3 3) rfl (some ⟨ga, 0, none⟩) 32 u (by rw [HU.out]; rfl) rfl 5 i5 Tryd.underlying42 HI.out.1 HI.out.2.1 HI.out.2.2.1 HI.out.2.2.2 3 (bvL [1, b0, b1]) H6.out.row (blk_bytes H6.out.at3) (by rw [HU.out]; decide) ?_; intro v' X6 hO2 hT2 hfr; have H7 := hid (H6.out.grow hO2 hT2 hfr); clear hO2 hT2 hfr; obtain ⟨B2, d2, hv', _⟩ := row_slice H7.out; subst hv')
  refine hN _ _ (fun _ => H7.out.drop) ?_
  clear hN N
  (apply wpOrd_comes; ((· first | (rw [List.getElem?_toArray, List.getElem?_cons_zero]; done) | (simp only [List.getElem?_toArray, List.getElem?_cons_succ, List.getElem?_cons_zero]; exact rfl))); intro N hN)
  go_wp2_with (refine wpList_append_bytes _ _ _ rfl (.slice B2 (3 + u.length) d2) rfl (some ⟨gb, 0, none⟩) 32 s (by rw [HS.out]; rfl) rfl 5 i5 Tryd.underlying42 HI.out.1 HI.out.2.1 HI.out.2.2.1 HI.out.2.2.2 (3 + u.length) _ H7.out.row (blk_bytes H7.out.at2) (by rw [HS.out, HU.out]; decide) ?_; intro v' X6 hO2 hT2 hfr; have H8 := hid (H7.out.grow hO2 hT2 hfr); clear hO2 hT2 hfr; obtain ⟨B3, d3, hv', _⟩ := row_slice H8.out; subst hv')
  refine hN _ _ (fun _ => H8.out.drop) ?_
  clear hN N
  (apply wpOrd_class; ((· first | (rw [List.getElem?_toArray, List.getElem?_cons_zero]; done) | (simp only [List.getElem?_toArray, List.getElem?_cons_succ, List.getElem?_cons_zero]; exact rfl))); (· exact rfl); intro K hK; apply Exists.intro; refine And.intro (fun X' hX' => ?_) ?_; (· go_simp; (try go_bits); first | done | exact rfl | exact ⟨rfl, rfl⟩); go_simp; refine hK _ _ ?_; clear hK K)
  refine wpOrd_to (hF1 _ _ (wpSegs_nil ?_))
  clear hF1 F1
  go_wp2_with fail
  have e1 : 3 + u.length + s.length = 67 := by rw [HS.out, HU.out]
  have e2 : bvL (nodeB n u s) = bvL [1, b0, b1] ++ bvL u ++ bvL s := by rw [HNB.out]; simp [bvL]
  rw [e1] at H8 ⊢
  go_ret
  exact ⟨B3, d3, rfl, by rw [e2]; exact H8.out.drop2.drop2⟩
theorem pnode_st (h : St w L W) {s u : List UInt8} {n b : Nat} (hs : s.length = 32) (hu : u.length = 32) (hn : n ≤ 65535) (hb : b ≤ 1) : Calls Tryd.prog 60 #[.int .i64 n, .int .i64 b, .agg (bv s), .agg (bv u)] W fun r w' => ∃ D d, r = .returned (.slice D 67 d) ∧ St w (Row (.slice D 67 d) 5 1 67 (bvL (nodeS n b s u)) :: L) w' := by
  match b, hb with
  | 0, _ => exact pnode0_st h hs hu hn
  | 1, _ => exact pnode1_st h hs hu hn

end
end Go.Proofs.YtnakbdgoaepehaaDoor
/- The codec's writer. -/
namespace Go.Cu
open Go Go.RowKit
section
variable {W0 W : World} {L : List Atm}
/-- A writer that holds m. -/
abbrev Wrt (tw g : Nat) (A : Option Addr) (c : Nat) (m : List UInt8) (L : List Atm) : List Atm := Blk g #[.slice A m.length c, .bool false] tw :: Row (.slice A m.length c) 5 1 m.length (bvL m) :: L
theorem wrt_cells {tw g : Nat} {A : Option Addr} {c : Nat} {m : List UInt8} (h : St W0 (Wrt tw g A c m L) W) : W.cell? ⟨g, 0, none⟩ = some (.slice A m.length c) ∧ W.cell? ⟨g, 1, none⟩ = some (.bool false) ∧ W.frozen? ⟨g, 0, none⟩ = false :=
  ⟨(cell_of_row W g 0 _ _ _ h.blk).trans rfl, (cell_of_row W g 1 _ _ _ h.blk).trans rfl, frozen_of_row W g 0 _ _ h.blk⟩
theorem wrt_cells' {tw g : Nat} {v : Value} {M : List Atm} (h : St W0 (Blk g #[v, .bool false] tw :: M) W) : W.cell? ⟨g, 0, none⟩ = some v ∧ W.cell? ⟨g, 1, none⟩ = some (.bool false) ∧ W.frozen? ⟨g, 0, none⟩ = false :=
  ⟨(cell_of_row W g 0 _ _ _ h.blk).trans rfl, (cell_of_row W g 1 _ _ _ h.blk).trans rfl, frozen_of_row W g 0 _ _ h.blk⟩
theorem bvL_app (l m : List UInt8) : bvL (l ++ m) = bvL l ++ bvL m := by unfold bvL; rw [List.map_append]
end
end Go.Cu
namespace Go.Proofs.YtnakbdgoaepehaaDoor
open Go.RowKit Go.Cu
section
variable {W0 W : World} {L : List Atm} {g : Nat} {A : Option Addr} {c : Nat} {m : List UInt8}
set_option maxRecDepth 20000 in
set_option maxHeartbeats 4000000 in
theorem wbyte_st (h : St W0 (Wrt 45 g A c m L) W) (hm : m.length ≤ 1000000) (b : UInt8) :
    Calls Tryd.prog 36 #[.pointer (some ⟨g, 0, none⟩), .int .i64 b.toNat] W fun x w' => x = .returned (.tuple #[]) ∧ ∃ A' c', St W0 (Wrt 45 g A' c' (m ++ [b]) L) w' := by
  have HH := hid h
  obtain ⟨x0, x1, f0⟩ := wrt_cells h
  obtain ⟨i5, hi, hiz, his, hib⟩ := info_parts info5
  have HI := hid (And.intro hi (And.intro hiz (And.intro his hib)))
  have hb := UInt8.toNat_lt b
  have n0 : ¬ (b.toNat : Int) < 0 := by omega
  have n1 : ¬ (255 : Int) < (b.toNat : Int) := by omega
  have d0 : decide ((b.toNat : Int) < 0) = false := decide_eq_false n0
  have d1 : decide ((255 : Int) < (b.toNat : Int)) = false := decide_eq_false n1
  have hmod : (b.toNat : Int) % 256 = (b.toNat : Int) := by omega
  clear h hi hiz his hib
  go_enter Tryd.func36, Tryd.ntmps36
  go_wp2_with (first | (refine wpList_buildSlice1 _ rfl (.int .u8 b.toNat) (by simp [Act.eval]) rfl Tryd.underlying42 zero5s size5s (by decide) (by decide) rfl ?_; intro gn X4 hS hgs hges hX1b; have H4 := hid (HH.out.turn hX1b); have HNW := hid (news_box hS [.int .u8 b.toNat] rfl); clear hS hgs hges hX1b x0 x1 f0) | (refine wpList_append_at _ _ _ rfl (.slice A m.length c) rfl ⟨gn, 0, none⟩ 1 1 rfl rfl 5 i5 (.int .u8 0) 1 1 Tryd.underlying42 HI.out.1 HI.out.2.1 HI.out.2.2.1 HI.out.2.2.2 rfl (by decide) m.length (bvL m) H4.out.at2.row [.int .u8 b.toNat] rfl HNW.out (by simp [Value.oneCell']) (by unfold maxLen; omega) (by omega) ?_; intro v' X5 hO2 hT2 hfr; have H5 := hid (H4.out.at2.grow hO2 hT2 hfr); clear hO2 hT2 hfr; obtain ⟨B1, d1, hv', _⟩ := row_slice H5.out; subst hv'; obtain ⟨x0, x1, f0⟩ := wrt_cells' H5.out.at2))
  go_end0
  refine ⟨rfl, B1, d1, ?_⟩
  have h6 := H5.out.at2.setCell 0 (.slice B1 (m.length + 1) d1)
  have e1 : (m ++ [b]).length = m.length + 1 := by simp
  have e2 : bvL (m ++ [b]) = bvL m ++ [.int .u8 b.toNat] := by simp [bvL]
  rw [← e2] at h6
  unfold Wrt
  rw [e1]
  exact h6
set_option maxRecDepth 20000 in
set_option maxHeartbeats 4000000 in
theorem wtext_st (h : St W0 (Wrt 45 g A c m L) W) (hm : m.length ≤ 1000000) {B : Option Addr} {cb : Nat} {a : List UInt8} (ha : ∀ X, St W0 L X → BytesIn X B a) (hal : a.length ≤ 65535) :
    Calls Tryd.prog 13 #[.pointer (some ⟨g, 0, none⟩), .slice B a.length cb] W fun x w' => x = .returned (.tuple #[]) ∧ ∃ A' c', St W0 (Wrt 45 g A' c' (m ++ (UInt8.ofNat (a.length / 256) :: UInt8.ofNat a.length :: a)) L) w' := by
  have HH := hid h
  have HB := hid ha
  obtain ⟨x0, x1, f0⟩ := wrt_cells h
  obtain ⟨i5, hi, hiz, his, hib⟩ := info_parts info5
  have HI := hid (And.intro hi (And.intro hiz (And.intro his hib)))
  have n1 : ¬ (65535 : Int) < (a.length : Int) := by omega
  obtain ⟨b0, hb0⟩ : ∃ b, b = UInt8.ofNat (a.length / 256) := ⟨_, rfl⟩
  obtain ⟨b1, hb1⟩ : ∃ b, b = UInt8.ofNat a.length := ⟨_, rfl⟩
  have E0 : (a.length : Int) / 256 = (b0.toNat : Int) := by rw [hb0, u8_cast]; omega
  have E1 : (a.length : Int) % 256 = (b1.toNat : Int) := by rw [hb1, u8_cast]
  rw [← hb0, ← hb1]
  clear h hi hiz his hib hb0 hb1 ha
  go_enter Tryd.func13, Tryd.ntmps13
  go_wp2_with (first | (refine wpList_buildSlice2 _ rfl (.int .u8 b0.toNat) (.int .u8 b1.toNat) (by simp [Act.eval, E1]) rfl Tryd.underlying42 zero5s size5s (by decide) (by decide) rfl rfl ?_; intro gn X4 hS hgs hges hX1b; have H4 := hid (HH.out.turn hX1b); have HNW := hid (news_box hS [.int .u8 b0.toNat, .int .u8 b1.toNat] rfl); clear hS hgs hges hX1b x0 x1 f0) | (refine wpList_append_at _ _ _ rfl (.slice A m.length c) rfl ⟨gn, 0, none⟩ 2 2 rfl rfl 5 i5 (.int .u8 0) 1 1 Tryd.underlying42 HI.out.1 HI.out.2.1 HI.out.2.2.1 HI.out.2.2.2 rfl (by decide) m.length (bvL m) H4.out.at2.row [.int .u8 b0.toNat, .int .u8 b1.toNat] rfl HNW.out (by simp [Value.oneCell']) (by unfold maxLen; omega) (by omega) ?_; intro v' X5 hO2 hT2 hfr; have H5 := hid (H4.out.at2.grow hO2 hT2 hfr); clear hO2 hT2 hfr; obtain ⟨B1, d1, hv', _⟩ := row_slice H5.out; subst hv') | (refine wpList_append_bytes _ _ _ rfl (.slice B1 (m.length + 2) d1) rfl B cb a rfl rfl 5 i5 Tryd.underlying42 HI.out.1 HI.out.2.1 HI.out.2.2.1 HI.out.2.2.2 (m.length + 2) _ H5.out.row (HB.out _ H5.out.drop.drop) (by omega) ?_; intro v' X6 hO2 hT2 hfr; have H6 := hid (H5.out.grow hO2 hT2 hfr); clear hO2 hT2 hfr; obtain ⟨B2, d2, hv', _⟩ := row_slice H6.out; subst hv'; obtain ⟨x0, x1, f0⟩ := wrt_cells' H6.out.at2))
  go_end0
  refine ⟨rfl, B2, d2, ?_⟩
  have h7 := H6.out.at2.setCell 0 (.slice B2 (m.length + 2 + a.length) d2)
  have e1 : (m ++ (b0 :: b1 :: a)).length = m.length + 2 + a.length := by simp; omega
  have e2 : bvL (m ++ (b0 :: b1 :: a)) = bvL m ++ [.int .u8 b0.toNat, .int .u8 b1.toNat] ++ bvL a := by simp [bvL]
  rw [← e2] at h7
  unfold Wrt
  rw [e1]
  exact h7
/-- A number as eight bytes. -/
def num8 (n : Int) : List UInt8 := be8 (IntKind.u64.wrap n).toNat
theorem u64_nat (n : Int) : IntKind.u64.wrap n = ((IntKind.u64.wrap n).toNat : Int) := by
  have h : 0 ≤ IntKind.u64.wrap n := by
    show 0 ≤ n % 18446744073709551616
    omega
  omega
theorem be8_step (N : Nat) {i : Nat} (hi : i < 8) : (be8 N).take i ++ [UInt8.ofNat (N / 2 ^ (8 * (7 - i)))] = (be8 N).take (i + 1) := by
  rw [List.take_add_one, be8_get N hi]; rfl
set_option maxRecDepth 20000 in
set_option maxHeartbeats 4000000 in
theorem wnum_st (h : St W0 (Wrt 45 g A c m L) W) (hm : m.length ≤ 900000) (n : Int) :
    Calls Tryd.prog 14 #[.pointer (some ⟨g, 0, none⟩), .int .i64 n] W fun x w' => x = .returned (.tuple #[]) ∧ ∃ A' c', St W0 (Wrt 45 g A' c' (m ++ num8 n) L) w' := by
  have HH := hid h
  have EN := u64_nat n
  unfold num8
  obtain ⟨N, hN⟩ : ∃ N, N = (IntKind.u64.wrap n).toNat := ⟨_, rfl⟩
  rw [← hN] at EN ⊢
  have HWB := hid (fun X A' c' l (hX : St W0 (Wrt 45 g A' c' l L) X) (hl : l.length ≤ 1000000) (b : UInt8) (z : Int) (hz : z = (b.toNat : Int)) => show Calls Tryd.prog 36 #[.pointer (some ⟨g, 0, none⟩), .int .i64 z] X fun x w' => x = .returned (.tuple #[]) ∧ ∃ A' c', St W0 (Wrt 45 g A' c' (l ++ [b]) L) w' from hz ▸ wbyte_st hX hl b)
  clear h hN
  go_enter Tryd.func14, Tryd.ntmps14
  go_wp2_with fail
  go_loopw [4] (fun kv X => ∃ (i : Nat) (j : Int) (A1 : Option Addr) (c1 : Nat), i ≤ 8 ∧ j = 7 - (i : Int) ∧ kv = .int .i64 j ∧ Hid (St W0 (Wrt 45 g A1 c1 (m ++ (be8 N).take i) L) X)) (fun kv _ => (intOf kv + 1).toNat)
  case atStart => exact ⟨0, 7, A, c, by omega, by omega, rfl, hid (by rw [List.take_zero, List.append_nil]; exact HH.out)⟩
  case round =>
    clear HH
    obtain ⟨i, j, A1, c1, hi, hj, rfl, HS⟩ := hrel
    have HJ := hid hj
    by_cases hlt : i < 8
    · have e1 : (0 : Int) ≤ j := by omega
      have e2 : j ≤ 7 := by omega
      obtain ⟨b, hb⟩ : ∃ b, b = UInt8.ofNat (N / 2 ^ (8 * (7 - i))) := ⟨_, rfl⟩
      have HST := hid (show (be8 N).take i ++ [b] = (be8 N).take (i + 1) by rw [hb]; exact be8_step N hlt)
      have EB : (N : Int) / 2 ^ (8 * j).toNat % 256 = (b.toNat : Int) := by
        rw [hb, u8_cast, show (8 * j).toNat = 8 * (7 - i) by omega]
        simp
      have HLE := hid (show (m ++ (be8 N).take i).length ≤ 1000000 by rw [List.length_append, List.length_take, be8_len]; omega)
      clear hj hb
      go_wp2_with (go_at_call 36; (with_reducible refine (HWB.out _ _ _ _ HS.out HLE.out b _ rfl).mono ?_); rintro x X5 ⟨rfl, A5, c5, h5⟩; rw [List.append_assoc, HST.out] at h5; have H5 := hid h5; clear h5)
      go_roundw
      case rel => exact ⟨i + 1, j - 1, A5, c5, by omega, by rw [HJ.out]; omega, by go_num, H5⟩
      case measure => (simp [intOf] <;> omega)
    · have e1 : ¬ (0 : Int) ≤ j := by omega
      obtain rfl : i = 8 := by omega
      have ht : (be8 N).take 8 = be8 N := List.take_of_length_le (by rw [be8_len]; exact Nat.le_refl _)
      rw [ht] at HS
      go_wp2_with fail
      go_end0
      exact ⟨rfl, A1, c1, HS.out⟩
theorem eqnilB (a : Addr) (n c : Nat) (W : World) : (binOp .eql 42 (.slice (some a) n c) (.slice none 0 0)).run Tryd.prog W = .ok (.bool false) W := by kernel_rfl
set_option maxRecDepth 20000 in
set_option maxHeartbeats 4000000 in
theorem bclone_st (h : St W0 L W) {B : Addr} {cb : Nat} {b : List UInt8} (hb : ∀ X, St W0 L X → BytesIn X (some B) b) (hl : b.length ≤ 1000000) :
    Calls Tryd.prog 37 #[.slice (some B) b.length cb] W fun x w' => ∃ D d, x = .returned (.slice D b.length d) ∧ St W0 (Row (.slice D b.length d) 5 1 b.length (bvL b) :: L) w' := by
  have HH := hid h
  have HB := hid hb
  obtain ⟨i5, hi, hiz, his, hib⟩ := info_parts info5
  have HI := hid (And.intro hi (And.intro hiz (And.intro his hib)))
  clear h hb hi hiz his hib
  have EN := eqnilB
  go_enter Tryd.func37, Tryd.ntmps37
  go_wp2_with (first | (refine wpList_buildSlice0 rfl rfl Tryd.underlying42 size5s ?_; intro gs X1 hS hgs hges hX1; have H1 := hid (HH.out.newRow0 (e := 5) (s := 1) hX1 hges hS); clear hS hgs hges hX1) | (refine wpList_append_bytes _ _ _ rfl (.slice (some ⟨gs, 0, none⟩) 0 0) rfl (some B) cb b rfl rfl 5 i5 Tryd.underlying42 HI.out.1 HI.out.2.1 HI.out.2.2.1 HI.out.2.2.2 0 [] H1.out.row (HB.out _ H1.out.drop) (by omega) ?_; intro v' X6 hO2 hT2 hfr; have H6 := hid (H1.out.grow hO2 hT2 hfr); clear hO2 hT2 hfr; rw [Nat.zero_add, List.nil_append] at H6; obtain ⟨B2, d2, hv', _⟩ := row_slice H6.out; subst hv'))
  go_ret
  exact ⟨B2, d2, rfl, H6.out⟩
theorem row_bytes {D : Option Addr} {n d e : Nat} {b : List UInt8} (h : St W0 (Row (.slice D n d) e 1 n (bvL b) :: L) W) (hn : n = b.length) : BytesIn W D b ∧ n ≤ d ∧ d ≤ maxLen := by
  subst hn
  have h1 := vals_one (h.row_val rfl) rfl
  exact h1
theorem row_some {D : Option Addr} {n d e s : Nat} {xs : List Value} (h : St W0 (Row (.slice D n d) e s n xs :: L) W) (hn : n ≠ 0) : ∃ g, D = some ⟨g, 0, none⟩ := by
  rcases h.row.2 with ⟨_, h1⟩ | ⟨g, cap, cur, hv, _⟩
  · exact absurd h1 hn
  · cases hv
    exact ⟨g, rfl⟩
set_option maxRecDepth 20000 in
set_option maxHeartbeats 4000000 in
theorem wbytes_st (h : St W0 (Wrt 45 g A c m L) W) (hm : m.length ≤ 1000000) (h0 : m.length ≠ 0) :
    Calls Tryd.prog 15 #[.pointer (some ⟨g, 0, none⟩)] W fun x w' => ∃ D d, x = .returned (.tuple #[.slice (some ⟨D, 0, none⟩) m.length d, .int .i64 0]) ∧ m.length ≤ d ∧ d ≤ maxLen ∧ St W0 (Row (.slice (some ⟨D, 0, none⟩) m.length d) 5 1 m.length (bvL m) :: Wrt 45 g A c m L) w' := by
  have HH := hid h
  obtain ⟨x0, x1, f0⟩ := wrt_cells h
  obtain ⟨g1, rfl⟩ := row_some h.at2 h0
  have HC := hid (bclone_st (cb := c) h (fun X hX => (row_bytes hX.at2 rfl).1) hm)
  clear h
  go_enter Tryd.func15, Tryd.ntmps15
  go_wp2_with (go_at_call 37; (with_reducible refine HC.out.mono ?_); rintro x X5 ⟨D, d, rfl, h5⟩; have H5 := hid h5; clear h5)
  obtain ⟨D1, rfl⟩ := row_some H5.out h0
  obtain ⟨_, hd1, hd2⟩ := row_bytes H5.out rfl
  go_ret2
  exact ⟨D1, d, rfl, hd1, hd2, H5.out⟩
end
end Go.Proofs.YtnakbdgoaepehaaDoor
