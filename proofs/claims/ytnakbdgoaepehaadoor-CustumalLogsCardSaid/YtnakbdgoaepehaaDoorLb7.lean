/- Part 7 of the texts below this law, put together: what each holds is said at its head. -/
import Derived.Test.YtnakbdgoaepehaaDoorLb6
import Derived.Test.YtnakbdgoaepehaaDoorRows
import Derived.OpenShut
import Derived.LaidLaws
import Derived.LaidMore
import Derived.MakeChecks
/- All texts on the way. -/
namespace Go.Cu
open Go Go.RowKit
theorem exists_put3 {a : Act} {i j k : Tmp} {R : Value → Value → Value → Prop} (h : ∀ x y z, a = ((a.put (some i) x).put (some j) y).put (some k) z → R x y z) : ∃ x y z, R x y z :=
  ⟨_, _, _, h (a.tmps.getD i undef) (a.tmps.getD j undef) (a.tmps.getD k undef) (by rw [put_self, put_self, put_self])⟩
section
variable {H : List UInt8 → List UInt8} {k e : List UInt8} {ss : List (List UInt8)}
theorem climb_end (n : Nat) (h : ss.length ≤ n) : climb H k e n (ss.drop n) = e := by rw [List.drop_eq_nil_of_le h]; rfl
theorem climb_up {m : Nat} {s : List UInt8} (h : ss[m]? = some s) : climb H k e m (ss.drop m) = nodeS m (bitN k m) (H (climb H k e (m + 1) (ss.drop (m + 1)))) s := by
  obtain ⟨hm, rfl⟩ := List.getElem?_eq_some_iff.1 h
  rw [List.drop_eq_getElem_cons hm]
  rfl
end
theorem nodeS_len {d b : Nat} {x y : List UInt8} (hx : x.length = 32) (hy : y.length = 32) : (nodeS d b x y).length = 67 := by unfold nodeS nodeB; split <;> simp [hx, hy]
theorem vs_snoc {vs : List Value} {v : Value} {n : Nat} (h : vs.length = n) : (vs ++ [v])[n]? = some v := by subst h; simp
end Go.Cu
namespace Go.Proofs.YtnakbdgoaepehaaDoor
open Go.RowKit Go.Cu
@[go_sem ↓] theorem ldktPROOF (a : Act) (dst : Option Tmp) (x : Operand) (ty : TypeId) (pos : String) (after : Array Edge) (guard : Option (Nat × Bool)) :
      execOp a.eval { dst, op := .load 32 x, type := ty, pos, after, guard } = loadK 32 (a.eval x) := rfl
theorem zeroBY (W : World) : (zeroValue 42).run Tryd.prog W = .ok (.slice none 0 0) W := by kernel_rfl
theorem infoBY : (Tryd.prog.info? 42).map (fun i => (i.zero, i.size, i.bytes)) = some (some (.slice none 0 0), 1, 24) := by kernel_rfl
/-- What the texts are: the last one is the top's. -/
def TextsQ (w : World) (L : List Atm) (sv : Value) (n : Nat) (b : List UInt8) (ss : List (List UInt8)) (r : Ending) (w' : World) : Prop := ∃ (B : Option Addr) (c' : Nat) (vs : List Value) (D : Option Addr) (d m : Nat), r = .returned (.slice B (n + 1) c') ∧ vs[n]? = some (.slice D m d) ∧ m = b.length ∧ m ≤ 100 ∧ St w (Row (.slice B (n + 1) c') 42 1 (n + 1) vs :: Row (.slice D m d) 5 1 m (bvL b) :: Row sv 23 32 n (sumsV ss) :: L) w'
section
variable {w : World} {L : List Atm} {W : World}
set_option maxRecDepth 20000 in
set_option maxHeartbeats 8000000 in
theorem texts_st {A : Option Addr} {n c : Nat} {th : Bool} {k x y : List UInt8} {ss : List (List UInt8)} (h : St w (Row (.slice A n c) 23 32 n (sumsV ss) :: L) W) (hG : Glob w) (hk : k.length = 32) (hx : x.length = 32) (hy : y.length = 32) (hl : ss.length = n) (ha : All32 ss) (hn : n ≤ 256) :
    Calls Tryd.prog 34 #[.agg (bv k), .agg (proofC (.slice A n c) th (leafC x y))] W (TextsQ w L (.slice A n c) n (climb sumL k (endTx th x y) 0 ss) ss) := by
  have HH := hid h
  obtain ⟨i42, hi, hiz, his, hib⟩ := info_parts infoBY
  have HI := hid (And.intro hi (And.intro hiz (And.intro his hib)))
  have HK := hid (fun (g : Nat) (X : World) (hc : X.heap[g]? = some (.cells (bv k) 24 (0, 0))) => run_loadK_box (P := Tryd.prog) hc Tryd.underlying24 rfl size24 ((bv_size k).trans hk))
  have HP := hid (fun (g : Nat) (X : World) (hc : X.heap[g]? = some (.cells (proofC (.slice A n c) th (leafC x y)) 32 (0, 0))) => run_loadK_box (P := Tryd.prog) hc Tryd.underlying32 rfl sizeProof (proofC_size (leafC_size hx hy)))
  have HE := hid (fun (X : World) (M : List Atm) (hX : St w M X) => pend_st (A := A) (n := n) (c := c) (th := th) hX hx hy)
  have HEL := hid (show (endTx th x y).length ≤ 100 by unfold endTx leafB; split <;> simp [hx, hy])
  have HBI := hid (fun (m : Nat) (X : World) (hm : m < 256) => bit_in k m X hk hm)
  have HG := hid (fun (X : World) (hX : Below w.heap.size w X) => hG.below hX hG.two)
  have HN := hid (fun (X : World) (M : List Atm) (m b : Nat) (u s : List UInt8) (hX : St w M X) (hm : m ≤ 256) (hs : s.length = 32) (hb : b ≤ 1) => pnode_st (s := sumL u) (u := s) (n := m) (b := b) hX (sumL_len u) hs (by omega) hb)
  obtain ⟨e, he⟩ : ∃ e, e = endTx th x y := ⟨_, rfl⟩
  rw [← he] at HE HEL ⊢
  have HL := hid (And.intro hl (And.intro ha hn))
  clear h hG hk hx hy hl ha hn he hi hiz his hib
  obtain ⟨T, hT⟩ : ∃ T : Nat → List UInt8, T = fun m => climb sumL k e m (ss.drop m) := ⟨_, rfl⟩
  have HT0 := hid (show T n = e by rw [hT]; exact climb_end n (by rw [HL.out.1]; exact Nat.le_refl _))
  have HT1 := hid (show ∀ m s, ss[m]? = some s → T m = nodeS m (bitN k m) (sumL (T (m + 1))) s from fun m s h => by rw [hT]; exact climb_up h)
  have HTE := hid (show T 0 = climb sumL k e 0 ss by rw [hT]; rfl)
  rw [← HTE.out]
  clear hT HTE
  go_enter Tryd.func34, Tryd.ntmps34
  go_wp2_with (first | (refine wpList_box rfl 24 _ rfl (.agg (bv k)) rfl ?_; intro gk W1 h1 hl1 hg1 hW1; have H1 := hid (show St w (Blk gk (bv k) 24 :: Row (.slice A n c) 23 32 n (sumsV ss) :: L) W1 from HH.out.newBlk hW1 hg1 h1); clear h1 hl1 hg1 hW1) | (refine wpList_box rfl 32 _ rfl (.agg (proofC (.slice A n c) th (leafC x y))) rfl ?_; intro gp W1 h1 hl1 hg1 hW1; have H2 := hid (show St w (Blk gp (proofC (.slice A n c) th (leafC x y)) 32 :: Blk gk (bv k) 24 :: Row (.slice A n c) 23 32 n (sumsV ss) :: L) W1 from H1.out.newBlk hW1 hg1 h1); have LA := HP.out _ _ H2.out.blk; clear h1 hl1 hg1 hW1) | (go_at_call 59; (with_reducible refine (HE.out _ _ H2.out).mono ?_); rintro r w3 ⟨D, d, rfl, hst⟩; have H3 := hid hst; clear hst LA) | (refine wpList_buildSlice1 _ rfl (.slice D e.length d) (by simp [Act.eval]) rfl Tryd.underlying80 zeroBYs sizeBYs (by decide) (by decide) rfl ?_; intro gs X4 hS hgs hges hX1b; have H4 := hid (show St w (Row (.slice (some ⟨gs, 0, none⟩) 1 1) 42 1 1 [.slice D e.length d] :: Row (.slice D e.length d) 5 1 e.length (bvL e) :: Blk gp (proofC (.slice A n c) th (leafC x y)) 32 :: Blk gk (bv k) 24 :: Row (.slice A n c) 23 32 n (sumsV ss) :: L) X4 from H3.out.newRow hX1b hges hS rfl (by decide) (by decide)); have x0 := (cell_of_row _ gp 0 _ _ _ H4.out.drop.drop.blk).trans proofC_0; clear hS hgs hges hX1b))
  clear x0 HH HE HP
  have n0 := HL.out.2.2
  go_loopw [5, 6] (fun av zv X => ∃ (m j c' : Nat) (z : Int) (B D : Option Addr) (vs : List Value) (l d : Nat), j + m = n ∧ av = .slice B (j + 1) c' ∧ zv = .int .i64 z ∧ z = (m : Int) - 1 ∧ Hid (vs[j]? = some (.slice D l d) ∧ vs.length = j + 1 ∧ l = (T m).length ∧ l ≤ 100) ∧ Hid (St w (Row (.slice B (j + 1) c') 42 1 (j + 1) vs :: Row (.slice D l d) 5 1 l (bvL (T m)) :: Blk gp (proofC (.slice A n c) th (leafC x y)) 32 :: Blk gk (bv k) 24 :: Row (.slice A n c) 23 32 n (sumsV ss) :: L) X)) (fun _ zv _ => (intOf zv + 1).toNat)
  case atStart => exact ⟨n, 0, 1, _, _, D, [.slice D e.length d], e.length, d, by omega, rfl, rfl, IntWalk.wrap64_in _ (by omega), hid ⟨rfl, rfl, by rw [HT0.out], HEL.out⟩, by rw [HT0.out]; exact H4⟩
  case round =>
    clear H1 H2 H3 H4 HT0 HEL
    obtain ⟨m, j, c', z, B, D, vs, l, d, hj, rfl, rfl, hz, HV, H1⟩ := hrel
    cases m with
    | zero =>
      obtain rfl : j = n := by omega
      have e1 : ¬ (0 : Int) ≤ z := by omega
      clear hz hj
      go_wp2_with fail
      go_ret
      exact ⟨B, c', vs, D, d, l, rfl, HV.out.1, HV.out.2.2.1, HV.out.2.2.2, H1.out.drop3.drop3⟩
    | succ m =>
      obtain rfl : z = (m : Int) := by omega
      have e0 : (0 : Int) ≤ (m : Int) := by omega
      have e1 : (m : Int) < (n : Int) := by omega
      have j0 : (0 : Int) ≤ (j : Int) := by omega
      have j1 : (j : Int) ≤ 256 := by omega
      have j3 : (j : Int) < ((j + 1 : Nat) : Int) := by omega
      have j4 : (j : Int) < (j : Int) + 1 := by omega
      have HJ := hid hj
      have hmn : m < n := by omega
      obtain ⟨s, hs⟩ : ∃ s, ss[m]? = some s := ⟨ss[m]'(by rw [HL.out.1]; exact hmn), List.getElem?_eq_getElem _⟩
      have HS := hid (show s.length = 32 from HL.out.2.1 s (List.mem_of_getElem? hs))
      have HTM := hid (HT1.out m s hs)
      have HBJ := hid (fun X => HBI.out m X (by omega))
      obtain ⟨gA, rfl, _⟩ := srow_load (t := 23) H1.out.at5 HL.out.2.1 hs Tryd.underlying23 rfl size54s
      have HC := hid (fun (X : World) (hX : St w (Blk gp (proofC (.slice (some ⟨gA, 0, none⟩) n c) th (leafC x y)) 32 :: Blk gk (bv k) 24 :: Row (.slice (some ⟨gA, 0, none⟩) n c) 23 32 n (sumsV ss) :: L) X) => show (loadK 24 (.pointer (some ⟨gk, 0, none⟩))).run Tryd.prog X = .ok (.value (.agg (bv k))) X ∧ X.cell? ⟨gp, 0, none⟩ = some (.slice (some ⟨gA, 0, none⟩) n c) ∧ (loadK 23 (.pointer (some ⟨gA, m * 32, none⟩))).run Tryd.prog X = .ok (.value (.agg (bv s))) X from ⟨HK.out gk X hX.at2.blk, (cell_of_row _ gp 0 _ _ _ hX.blk).trans proofC_0, by
        obtain ⟨g', e, h⟩ := srow_load (t := 23) hX.at3 HL.out.2.1 hs Tryd.underlying23 rfl size54s
        cases e
        exact h _ rfl⟩)
      clear hz hj hmn hs
      go_upto_region 5 with fail
      refine wp_region_segs [.ord [(0, 1), (1, 1), (2, 1), (3, 1), (5, 1), (6, 1), (7, 1), (8, 1), (9, 1), (13, 1), (14, 1), (15, 1), (16, 1), (17, 1)], .blk [(4, []), (10, []), (11, [10])], .ord [(12, 2), (18, 2), (19, 2), (20, 2), (21, 1)]] (fun X => St w (Blk gp (proofC (.slice (some ⟨gA, 0, none⟩) n c) th (leafC x y)) 32 :: Blk gk (bv k) 24 :: Row (.slice (some ⟨gA, 0, none⟩) n c) 23 32 n (sumsV ss) :: L) X) (by kernel_rfl) (by kernel_rfl) (fun d _ c _ _ h => by cases d <;> exact h) (H1.out.drop.drop.turn (Below.drew (Below.refl _ _))) (fun X hXe hX => ?_)
      have H2 := H1.out.turn (Below.drew (Below.refl _ _))
      rw [← hXe] at H2
      replace H2 := hid H2
      clear hXe
      refine wpSegs_ord fun F1 hF1 => ?_
      clear hX H1
      obtain ⟨gB, rfl⟩ := row_some H2.out (by omega)
      iterate 14 (apply wpOrd_class; ((· first | (rw [List.getElem?_toArray, List.getElem?_cons_zero]; done) | (simp only [List.getElem?_toArray, List.getElem?_cons_succ, List.getElem?_cons_zero]; exact rfl))); (· exact rfl); intro K hK; apply Exists.intro; refine And.intro (fun X' hX' => ?_) ?_; (· obtain ⟨hq1, hq2, hq3⟩ := HC.out _ hX'; clear hX'; go_simp; (try go_bits); first | done | exact rfl | exact ⟨rfl, rfl⟩); go_simp; refine hK _ _ ?_; clear hK K)
      have HX := hid (fun (X : World) (hX : St w (Row (.slice (some ⟨gB, 0, none⟩) (j + 1) c') 42 1 (j + 1) vs :: Row (.slice D l d) 5 1 l (bvL (T (m + 1))) :: Blk gp (proofC (.slice (some ⟨gA, 0, none⟩) n c) th (leafC x y)) 32 :: Blk gk (bv k) 24 :: Row (.slice (some ⟨gA, 0, none⟩) n c) 23 32 n (sumsV ss) :: L) X) => show X.cell? ⟨gB, j, none⟩ = some (.slice D l d) from by
        obtain ⟨g', e, h⟩ := row_elem hX rfl HV.out.1
        cases e
        exact h)
      have HSH := hid (fun (X : World) (g : Nat) (hX : St w (Row (.slice (some ⟨gB, 0, none⟩) (j + 1) c') 42 1 (j + 1) vs :: Row (.slice D l d) 5 1 l (bvL (T (m + 1))) :: Blk gp (proofC (.slice (some ⟨gA, 0, none⟩) n c) th (leafC x y)) 32 :: Blk gk (bv k) 24 :: Row (.slice (some ⟨gA, 0, none⟩) n c) 23 32 n (sumsV ss) :: L) X) (hc : X.heap[g]? = some (.cells #[.slice D l d] 42 (0, 0))) => show Calls Tryd.prog 16 #[.slice (some ⟨g, 0, none⟩) 1 1] X fun r w' => r = .returned (.agg (bv (sumL (T (m + 1))))) ∧ Below X.heap.size X w' from by
        obtain ⟨hb, h1, h2⟩ := row_bytes hX.drop HV.out.2.2.1
        have h3 := sha_now (c := 1) (m := 1) (HG.out X hX.below) (ps := [T (m + 1)]) rfl (parts1_now hc (Go.Cu.part_now HV.out.2.2.1 h1 h2 hb)) (by simp) (by have := HV.out.2.2; simp; omega)
        rw [show [T (m + 1)].flatten = T (m + 1) by simp] at h3
        exact h3)
      have HPN := hid (fun (X : World) (M : List Atm) (hX : St w M X) => HN.out X M m (bitN k m) (T (m + 1)) s hX (by have := HJ.out; have := HL.out.2.2; omega) HS.out (by have := bitN_lt k m; omega))
      rw [← HTM.out] at HPN
      have hs := H2.out
      refine wpOrd_to (hF1 _ _ ?_)
      clear hF1 F1 H2
      refine wpSegs_blk fun F2 hF2 => ?_
      refine bulk_intro (fun a0 done a' w' => ∃ x22 x28 x29 : Value, a' = ((a0.put (some 22) x22).put (some 28) x28).put (some 29) x29 ∧ (done 4 = true → x22 = .int .i64 (bitN k m)) ∧ (done 10 = true → x28 = .slice D l d) ∧ (done 11 = true → ∃ g, x29 = .slice (some ⟨g, 0, none⟩) 1 1 ∧ w'.heap[g]? = some (.cells #[.slice D l d] 42 (0, 0))) ∧ St w (Row (.slice (some ⟨gB, 0, none⟩) (j + 1) c') 42 1 (j + 1) vs :: Row (.slice D l d) 5 1 l (bvL (T (m + 1))) :: Blk gp (proofC (.slice (some ⟨gA, 0, none⟩) n c) th (leafC x y)) 32 :: Blk gk (bv k) 24 :: Row (.slice (some ⟨gA, 0, none⟩) n c) 23 32 n (sumsV ss) :: L) w') ?_ ?_ ?_
      · intro done hd
        have d0 := hd (4, []) (by simp)
        have d1 := hd (10, []) (by simp)
        have d2 := hd (11, [10]) (by simp)
        refine exists_put3 (i := 22) (j := 28) (k := 29) fun x y z e => ⟨e, fun h => (by rw [d0] at h; cases h), fun h => (by rw [d1] at h; cases h), fun h => (by rw [d2] at h; cases h), hs⟩
      · rintro p hp done a' w' h1 h2 ⟨x22, x28, x29, rfl, k22, k28, k29, hst⟩
        clear hs
        simp only [List.mem_cons, List.not_mem_nil, or_false] at hp
        rcases hp with rfl | rfl | rfl
        · refine ⟨_, rfl, fun N hN => ?_⟩
          go_wp2_with (go_at_call 54; (with_reducible refine (HBJ.out _).mono ?_); rintro r Xs ⟨rfl, hb⟩)
          exact hN _ _ (fun _ => (hst.turn hb).drop.drop) ⟨.int .i64 (bitN k m), x28, x29, rfl, fun _ => rfl, fun h => k28 (by simpa using h), fun h => (by obtain ⟨g, e1, e2⟩ := k29 (by simpa using h); exact ⟨g, e1, (hb.block g (heap_lt e2)).trans e2⟩), hst.turn hb⟩
        · refine ⟨_, rfl, fun N hN => ?_⟩
          have x0 := HX.out _ hst
          go_wp2_with fail
          exact hN _ _ (fun _ => hst.drop.drop) ⟨x22, .slice D l d, x29, rfl, fun h => k22 (by simpa using h), fun _ => rfl, fun h => k29 (by simpa using h), hst⟩
        · refine ⟨_, rfl, fun N hN => ?_⟩
          obtain rfl := k28 (h2 10 (by simp))
          refine wpList_buildSlice1 _ rfl (.slice D l d) (by simp [Act.eval, Act.put]) rfl Tryd.underlying80 zeroBYs sizeBYs (by decide) (by decide) rfl ?_
          intro gx X4 hS hgs hges hX1b
          exact wpList_then (hN _ _ (fun _ => (hst.turn hX1b).drop.drop) ⟨x22, .slice D l d, .slice (some ⟨gx, 0, none⟩) 1 1, rfl, fun h => k22 (by simpa using h), fun _ => rfl, fun _ => ⟨gx, rfl, hS⟩, hst.turn hX1b⟩)
      · rintro done a' w' hd ⟨x22, x28, x29, rfl, k22, k28, k29, hst⟩
        obtain rfl := k22 (hd (4, []) (by simp))
        obtain rfl := k28 (hd (10, []) (by simp))
        obtain ⟨gx, rfl, hgx⟩ := k29 (hd (11, [10]) (by simp))
        have HGX := hid hgx
        have H3 := hid hst
        clear k22 k28 k29 hd hs hgx hst
        refine hF2 _ _ ?_
        clear hF2 F2
        refine wpSegs_ord fun F1 hF1 => ?_
        (apply wpOrd_comes; ((· first | (rw [List.getElem?_toArray, List.getElem?_cons_zero]; done) | (simp only [List.getElem?_toArray, List.getElem?_cons_succ, List.getElem?_cons_zero]; exact rfl))); intro N hN)
        go_wp2_with (go_at_call 16; (with_reducible refine (HSH.out _ _ H3.out HGX.out).mono ?_); rintro r w6 ⟨rfl, hb⟩; have H4 := hid (H3.out.turn hb); clear hb)
        refine hN _ _ (fun _ => H4.out.drop.drop) ?_
        clear hN N
        (apply wpOrd_comes; ((· first | (rw [List.getElem?_toArray, List.getElem?_cons_zero]; done) | (simp only [List.getElem?_toArray, List.getElem?_cons_succ, List.getElem?_cons_zero]; exact rfl))); intro N hN)
        go_wp2_with (go_at_call 60; (with_reducible refine (HPN.out _ _ H4.out).mono ?_); rintro r w7 ⟨D2, d2, rfl, hst⟩; have H5 := hid hst; clear hst)
        refine hN _ _ (fun _ => H5.out.drop.drop.drop) ?_
        clear hN N
        (apply wpOrd_comes; ((· first | (rw [List.getElem?_toArray, List.getElem?_cons_zero]; done) | (simp only [List.getElem?_toArray, List.getElem?_cons_succ, List.getElem?_cons_zero]; exact rfl))); intro N hN)
        go_wp2_with (refine wpList_buildSlice1 _ rfl (.slice D2 67 d2) (by simp [Act.eval]) rfl Tryd.underlying80 zeroBYs sizeBYs (by decide) (by decide) rfl ?_; intro gn X4 hS hgs hges hX1b; have H6 := hid (H5.out.turn hX1b); have HNW := hid (news_box hS [.slice D2 67 d2] rfl); clear hS hgs hges hX1b)
        refine hN _ _ (fun _ => H6.out.drop.drop.drop) ?_
        clear hN N
        (apply wpOrd_comes; ((· first | (rw [List.getElem?_toArray, List.getElem?_cons_zero]; done) | (simp only [List.getElem?_toArray, List.getElem?_cons_succ, List.getElem?_cons_zero]; exact rfl))); intro N hN)
        go_wp2_with (refine wpList_append_at _ _ _ rfl (.slice (some ⟨gB, 0, none⟩) (j + 1) c') rfl ⟨gn, 0, none⟩ 1 1 rfl rfl 42 i42 (.slice none 0 0) 1 24 Tryd.underlying80 HI.out.1 HI.out.2.1 HI.out.2.2.1 HI.out.2.2.2 rfl (by decide) (j + 1) vs H6.out.at2.row [.slice D2 67 d2] rfl HNW.out (by simp [Value.oneCell']) (by unfold maxLen; omega) (by omega) ?_; intro v' X5 hO2 hT2 hfr; have H7 := hid (H6.out.at2.grow hO2 hT2 hfr); clear hO2 hT2 hfr; obtain ⟨B2, d3, hv', _⟩ := row_slice H7.out; subst hv')
        refine hN _ _ (fun _ => H7.out.drop.drop.drop) ?_
        clear hN N
        (apply wpOrd_class; ((· first | (rw [List.getElem?_toArray, List.getElem?_cons_zero]; done) | (simp only [List.getElem?_toArray, List.getElem?_cons_succ, List.getElem?_cons_zero]; exact rfl))); (· exact rfl); intro K hK; apply Exists.intro; refine And.intro (fun X' hX' => ?_) ?_; (· go_simp; (try go_bits); first | done | exact rfl | exact ⟨rfl, rfl⟩); go_simp; refine hK _ _ ?_; clear hK K)
        refine wpOrd_to (hF1 _ _ (wpSegs_nil ?_))
        clear hF1 F1
        go_wp2_with fail
        go_roundw
        case rel => exact ⟨m, j + 1, d3, _, B2, D2, vs ++ [.slice D2 67 d2], 67, d2, by have := HJ.out; omega, rfl, rfl, rfl, hid ⟨vs_snoc HV.out.2.1, by simp [HV.out.2.1], by rw [HTM.out]; exact (nodeS_len (sumL_len _) HS.out).symm, by decide⟩, hid H7.out.drop3⟩
        case measure => simp only [intOf]; omega
end
end Go.Proofs.YtnakbdgoaepehaaDoor
/- A proof checked. -/
namespace Go.Proofs.YtnakbdgoaepehaaDoor
open Go.RowKit Go.Cu
@[go_sem ↓] theorem nektSUM (a : Act) (dst : Option Tmp) (x y : Operand) (t' ty : TypeId) (pos : String) (after : Array Edge) (guard : Option (Nat × Bool)) :
      execOp a.eval { dst, op := .binOp .neq 23 x y t', type := ty, pos, after, guard } = cmpK .neq 23 x y (a.eval x) (a.eval y) := rfl
@[go_sem ↓] theorem bdktSUM (a : Act) (dst : Option Tmp) (ps : Array (Nat × Operand)) (ty : TypeId) (pos : String) (after : Array Edge) (guard : Option (Nat × Bool)) :
    execOp a.eval { dst, op := .build 23 ps, type := ty, pos, after, guard } = buildK 23 (ps.map fun (i, x) => (i, a.eval x)) := rfl
theorem guardSum : Tryd.prog.eqGuardType Tryd.prog.depth 23 = false := by kernel_rfl
theorem build_sum0 (W : World) : (Instr.build 23 #[]).run Tryd.prog W = .ok (.agg (bv (List.replicate 32 0))) W := by kernel_rfl
section
variable {w : World} {L : List Atm} {W : World}
set_option maxRecDepth 20000 in
set_option maxHeartbeats 8000000 in
theorem check_found {A : Option Addr} {n c : Nat} {k x y root : List UInt8} {ss : List (List UInt8)} (h : St w (Row (.slice A n c) 23 32 n (sumsV ss) :: L) W) (hG : Glob w) (hr : root.length = 32) (hk : k.length = 32) (hx : x.length = 32) (hy : y.length = 32) (hl : ss.length = n) (ha : All32 ss) (hn : n ≤ 256) (hu : n ≤ cm x k) (he : sumL (climb sumL k (endTx true x y) 0 ss) = root) (hxk : x = k) :
    Calls Tryd.prog 10 #[.agg (bv root), .agg (bv k), .agg (proofC (.slice A n c) true (leafC x y))] W fun r w' => r = .returned (.tuple #[.agg (bv y), .bool true, .int .i64 0]) ∧ St w (Row (.slice A n c) 23 32 n (sumsV ss) :: L) w' := by
  have HH := hid h
  have HZ32 := hid zero32_size
  have HVZ := hid (show (bv y).size = 32 by rw [bv_size]; exact hy)
  have HK := hid (fun (g : Nat) (X : World) (hc : X.heap[g]? = some (.cells (bv k) 24 (0, 0))) => run_loadK_box (P := Tryd.prog) hc Tryd.underlying24 rfl size24 ((bv_size k).trans hk))
  have HRL := hid (fun (g : Nat) (X : World) (hc : X.heap[g]? = some (.cells (bv root) 23 (0, 0))) => run_loadK_box (P := Tryd.prog) hc Tryd.underlying23 rfl size54s ((bv_size root).trans hr))
  have HP := hid (fun (g : Nat) (X : World) (hc : X.heap[g]? = some (.cells (proofC (.slice A n c) true (leafC x y)) 32 (0, 0))) => And.intro (run_loadK_box (P := Tryd.prog) hc Tryd.underlying32 rfl sizeProof (proofC_size (leafC_size hx hy))) (And.intro (run_loadK (P := Tryd.prog) (off := 2) (vs := bv x) hc Tryd.underlying24 rfl size24 ((bv_size x).trans hx) (proofC_key hx hy)) (run_loadK (P := Tryd.prog) (off := 34) (vs := bv y) hc Tryd.underlying23 rfl size54s ((bv_size y).trans hy) (proofC_val hx hy))))
  have HTX := hid (fun (X : World) (M : List Atm) (hX : St w (Row (.slice A n c) 23 32 n (sumsV ss) :: M) X) => texts_st (th := true) hX hG hk hx hy hl ha hn)
  have HG := hid (fun (X : World) (hX : Below w.heap.size w X) => hG.below hX hG.two)
  obtain ⟨b, hb⟩ : ∃ b, b = climb sumL k (endTx true x y) 0 ss := ⟨_, rfl⟩
  rw [← hb] at HTX he
  have HU := hid (fun X => under_any x k n X hx hk)
  rw [show decide (min (n : Int) 256 ≤ (cm x k : Int)) = true by exact decide_eq_true (by omega)] at HU
  have CN := fun (p q : Operand) (W : World) => (run_cmpK_neq (P := Tryd.prog) guardSum Tryd.underlying23 be5 cellsK (sumL_len b) hr p q W).trans (show _ = .ok (.value (.bool false)) W by simp [he])
  have CK := fun (p q : Operand) (W : World) => (run_cmpK_eql (P := Tryd.prog) guardKey Tryd.underlying24 be5 cellsK hx hk p q W).trans (show _ = .ok (.value (.bool true)) W by simp [hxk])
  have BS := fun W => run_buildK (build_sum0 W)
  have HN := hid hn
  have n1 : ¬ (256 : Int) < (n : Int) := by omega
  have n2 : (n : Int) < ((n + 1 : Nat) : Int) := by omega
  have n3 : (n : Int) < (n : Int) + 1 := by omega
  have n4 : (n : Int) ≤ 256 := by omega
  have n5 : (0 : Int) ≤ (n : Int) := by omega
  clear h hG hr hk hx hy hl ha hn hb hu he hxk
  go_enter Tryd.func10, Tryd.ntmps10
  go_upto_region 4 with (first | (refine wpList_box rfl 23 _ rfl (.agg (bv root)) rfl ?_; intro gr W1 h1 hl1 hg1 hW1; have H1 := hid (show St w (Blk gr (bv root) 23 :: Row (.slice A n c) 23 32 n (sumsV ss) :: L) W1 from HH.out.newBlk hW1 hg1 h1); clear h1 hl1 hg1 hW1) | (refine wpList_box rfl 24 _ rfl (.agg (bv k)) rfl ?_; intro gk W1 h1 hl1 hg1 hW1; have H2 := hid (show St w (Blk gk (bv k) 24 :: Blk gr (bv root) 23 :: Row (.slice A n c) 23 32 n (sumsV ss) :: L) W1 from H1.out.newBlk hW1 hg1 h1); clear h1 hl1 hg1 hW1) | (refine wpList_box rfl 32 _ rfl (.agg (proofC (.slice A n c) true (leafC x y))) rfl ?_; intro gp W1 h1 hl1 hg1 hW1; have H3 := hid (show St w (Blk gp (proofC (.slice A n c) true (leafC x y)) 32 :: Blk gk (bv k) 24 :: Blk gr (bv root) 23 :: Row (.slice A n c) 23 32 n (sumsV ss) :: L) W1 from H2.out.newBlk hW1 hg1 h1); clear h1 hl1 hg1 hW1) | (refine wpList_alloc 23 rfl rfl (.agg (bv (List.replicate 32 0))) zero54s ?_; intro gz W1 h1 hl1 hg1 hW1; have H4 := hid (show St w (Blk gz (bv (List.replicate 32 0)) 23 :: Blk gp (proofC (.slice A n c) true (leafC x y)) 32 :: Blk gk (bv k) 24 :: Blk gr (bv root) 23 :: Row (.slice A n c) 23 32 n (sumsV ss) :: L) W1 from H3.out.newBlk hW1 hg1 h1); obtain ⟨l1, l2, l3⟩ := HP.out _ _ H4.out.at2.blk; have l4 := HK.out _ _ H4.out.at3.blk; have x0 := (cell_of_row _ gp 0 _ _ _ H4.out.at2.blk).trans proofC_0; have x1 := (cell_of_row _ gp 1 _ _ _ H4.out.at2.blk).trans proofC_1; clear h1 hl1 hg1 hW1) | (go_at_call 33; (with_reducible refine (HU.out _).mono ?_); rintro r w3 ⟨rfl, hst⟩; have H5 := hid (H4.out.turn hst); obtain ⟨l5, _, _⟩ := HP.out _ _ H5.out.at2.blk; have l6 := HK.out _ _ H5.out.at3.blk; clear hst l1 l2 l3 l4 x0 x1) | (go_at_call 34; (with_reducible refine (HTX.out _ _ H5.out.at5).mono ?_); rintro r w3 ⟨B, c', vs, D, d, m, rfl, hv, hm, hm100, hst⟩; have H6 := hid hst; have HV := hid (And.intro hv (And.intro hm hm100)); clear hst hv hm hm100))
  obtain ⟨gB, rfl⟩ := row_some H6.out (by omega)
  have HC := hid (fun (X : World) (hX : St w (Row (.slice (some ⟨gB, 0, none⟩) (n + 1) c') 42 1 (n + 1) vs :: Row (.slice D m d) 5 1 m (bvL b) :: Row (.slice A n c) 23 32 n (sumsV ss) :: Blk gz (bv (List.replicate 32 0)) 23 :: Blk gp (proofC (.slice A n c) true (leafC x y)) 32 :: Blk gk (bv k) 24 :: Blk gr (bv root) 23 :: L) X) => show X.cell? ⟨gB, n, none⟩ = some (.slice D m d) ∧ (loadK 23 (.pointer (some ⟨gr, 0, none⟩))).run Tryd.prog X = .ok (.value (.agg (bv root))) X from ⟨by
    obtain ⟨g', e, h⟩ := row_elem hX rfl HV.out.1
    cases e
    exact h, HRL.out _ _ hX.drop.drop.drop.at4.blk⟩)
  have HSH := hid (fun (X : World) (g : Nat) (hX : St w (Row (.slice (some ⟨gB, 0, none⟩) (n + 1) c') 42 1 (n + 1) vs :: Row (.slice D m d) 5 1 m (bvL b) :: Row (.slice A n c) 23 32 n (sumsV ss) :: Blk gz (bv (List.replicate 32 0)) 23 :: Blk gp (proofC (.slice A n c) true (leafC x y)) 32 :: Blk gk (bv k) 24 :: Blk gr (bv root) 23 :: L) X) (hc : X.heap[g]? = some (.cells #[.slice D m d] 42 (0, 0))) => show Calls Tryd.prog 16 #[.slice (some ⟨g, 0, none⟩) 1 1] X fun r w' => r = .returned (.agg (bv (sumL b))) ∧ Below X.heap.size X w' from by
    obtain ⟨hb, h1, h2⟩ := row_bytes hX.drop HV.out.2.1
    have h3 := sha_now (c := 1) (m := 1) (HG.out X hX.below) (ps := [b]) rfl (parts1_now hc (Go.Cu.part_now HV.out.2.1 h1 h2 hb)) (by simp) (by have := HV.out.2; simp; omega)
    rw [show [b].flatten = b by simp] at h3
    exact h3)
  refine wp_region_segs [.ord [(0, 1), (1, 1), (2, 1), (3, 1), (4, 1), (5, 1), (8, 1), (6, 2), (7, 2), (9, 1), (10, 1)]] (fun X => St w (Row (.slice (some ⟨gB, 0, none⟩) (n + 1) c') 42 1 (n + 1) vs :: Row (.slice D m d) 5 1 m (bvL b) :: Row (.slice A n c) 23 32 n (sumsV ss) :: Blk gz (bv (List.replicate 32 0)) 23 :: Blk gp (proofC (.slice A n c) true (leafC x y)) 32 :: Blk gk (bv k) 24 :: Blk gr (bv root) 23 :: L) X) (by kernel_rfl) (by kernel_rfl) (fun d _ c _ _ h => by cases d <;> exact h) (H6.out.turn (Below.drew (Below.refl _ _))) (fun X hXe hX => ?_)
  have H7 := H6.out.turn (Below.drew (Below.refl _ _))
  rw [← hXe] at H7
  replace H7 := hid H7
  clear hXe
  refine wpSegs_ord fun F1 hF1 => ?_
  clear hX H6 l5 l6
  iterate 7 (apply wpOrd_class; ((· first | (rw [List.getElem?_toArray, List.getElem?_cons_zero]; done) | (simp only [List.getElem?_toArray, List.getElem?_cons_succ, List.getElem?_cons_zero]; exact rfl))); (· exact rfl); intro K hK; apply Exists.intro; refine And.intro (fun X' hX' => ?_) ?_; (· obtain ⟨hq1, hq2⟩ := HC.out _ hX'; clear hX'; go_simp; (try go_bits); first | done | exact rfl | exact ⟨rfl, rfl⟩); go_simp; refine hK _ _ ?_; clear hK K)
  (apply wpOrd_comes; ((· first | (rw [List.getElem?_toArray, List.getElem?_cons_zero]; done) | (simp only [List.getElem?_toArray, List.getElem?_cons_succ, List.getElem?_cons_zero]; exact rfl))); intro N hN)
  go_wp2_with (refine wpList_buildSlice1 _ rfl (.slice D m d) (by simp [Act.eval]) rfl Tryd.underlying80 zeroBYs sizeBYs (by decide) (by decide) rfl ?_; intro gn X4 hS hgs hges hX1b; have HGN := hid hS; have H8 := hid (H7.out.turn hX1b); clear hS hgs hges hX1b)
  refine hN _ _ (fun _ => H8.out) ?_
  clear hN N
  (apply wpOrd_comes; ((· first | (rw [List.getElem?_toArray, List.getElem?_cons_zero]; done) | (simp only [List.getElem?_toArray, List.getElem?_cons_succ, List.getElem?_cons_zero]; exact rfl))); intro N hN)
  go_wp2_with (go_at_call 16; (with_reducible refine (HSH.out _ _ H8.out HGN.out).mono ?_); rintro r w6 ⟨rfl, hb⟩; have H9 := hid (H8.out.turn hb); clear hb)
  refine hN _ _ (fun _ => H9.out) ?_
  clear hN N
  iterate 2 (apply wpOrd_class; ((· first | (rw [List.getElem?_toArray, List.getElem?_cons_zero]; done) | (simp only [List.getElem?_toArray, List.getElem?_cons_succ, List.getElem?_cons_zero]; exact rfl))); (· exact rfl); intro K hK; apply Exists.intro; refine And.intro (fun X' hX' => ?_) ?_; (· obtain ⟨hq1, hq2⟩ := HC.out _ hX'; clear hX'; go_simp; (try go_bits); first | done | exact rfl | exact ⟨rfl, rfl⟩); go_simp; refine hK _ _ ?_; clear hK K)
  refine wpOrd_to (hF1 _ _ (wpSegs_nil ?_))
  clear hF1 F1
  obtain ⟨l1, l2, l3⟩ := HP.out _ _ H9.out.drop.drop.drop.at2.blk
  have l4 := HK.out _ _ H9.out.drop.drop.drop.at3.blk
  have x0 := (cell_of_row _ gp 0 _ _ _ H9.out.drop.drop.drop.at2.blk).trans proofC_0
  have x1 := (cell_of_row _ gp 1 _ _ _ H9.out.drop.drop.drop.at2.blk).trans proofC_1
  have H10 := hid H9.out.drop.drop.at2
  go_wp2_with (refine wpList_store_box 23 _ _ rfl gz rfl rfl (bv y) rfl 32 size54s HVZ.out (bv_one _) 23 _ H10.out.blk HZ32.out ?_; intro W7 hB7 hT7 hs7; have H11 := hid (H10.out.put hB7 hT7))
  exact bodyPost_ret (results_ctt _ rfl hB7 Tryd.underlying23 rfl (by rw [HVZ.out]; exact size54s) rfl) rfl ⟨rfl, H11.out.drop.drop2.drop2.drop2⟩
set_option maxRecDepth 20000 in
set_option maxHeartbeats 8000000 in
theorem check_other {A : Option Addr} {n c : Nat} {k x y root : List UInt8} {ss : List (List UInt8)} (h : St w (Row (.slice A n c) 23 32 n (sumsV ss) :: L) W) (hG : Glob w) (hr : root.length = 32) (hk : k.length = 32) (hx : x.length = 32) (hy : y.length = 32) (hl : ss.length = n) (ha : All32 ss) (hn : n ≤ 256) (hu : n ≤ cm x k) (he : sumL (climb sumL k (endTx true x y) 0 ss) = root) (hxk : x ≠ k) :
    Calls Tryd.prog 10 #[.agg (bv root), .agg (bv k), .agg (proofC (.slice A n c) true (leafC x y))] W fun r w' => r = .returned (.tuple #[.agg (bv (List.replicate 32 0)), .bool false, .int .i64 0]) ∧ St w (Row (.slice A n c) 23 32 n (sumsV ss) :: L) w' := by
  have HH := hid h
  have HZ32 := hid zero32_size
  have HVZ := hid (show (bv (List.replicate 32 0)).size = 32 by rw [bv_size]; exact List.length_replicate)
  have HK := hid (fun (g : Nat) (X : World) (hc : X.heap[g]? = some (.cells (bv k) 24 (0, 0))) => run_loadK_box (P := Tryd.prog) hc Tryd.underlying24 rfl size24 ((bv_size k).trans hk))
  have HRL := hid (fun (g : Nat) (X : World) (hc : X.heap[g]? = some (.cells (bv root) 23 (0, 0))) => run_loadK_box (P := Tryd.prog) hc Tryd.underlying23 rfl size54s ((bv_size root).trans hr))
  have HP := hid (fun (g : Nat) (X : World) (hc : X.heap[g]? = some (.cells (proofC (.slice A n c) true (leafC x y)) 32 (0, 0))) => And.intro (run_loadK_box (P := Tryd.prog) hc Tryd.underlying32 rfl sizeProof (proofC_size (leafC_size hx hy))) (And.intro (run_loadK (P := Tryd.prog) (off := 2) (vs := bv x) hc Tryd.underlying24 rfl size24 ((bv_size x).trans hx) (proofC_key hx hy)) (run_loadK (P := Tryd.prog) (off := 34) (vs := bv y) hc Tryd.underlying23 rfl size54s ((bv_size y).trans hy) (proofC_val hx hy))))
  have HTX := hid (fun (X : World) (M : List Atm) (hX : St w (Row (.slice A n c) 23 32 n (sumsV ss) :: M) X) => texts_st (th := true) hX hG hk hx hy hl ha hn)
  have HG := hid (fun (X : World) (hX : Below w.heap.size w X) => hG.below hX hG.two)
  obtain ⟨b, hb⟩ : ∃ b, b = climb sumL k (endTx true x y) 0 ss := ⟨_, rfl⟩
  rw [← hb] at HTX he
  have HU := hid (fun X => under_any x k n X hx hk)
  rw [show decide (min (n : Int) 256 ≤ (cm x k : Int)) = true by exact decide_eq_true (by omega)] at HU
  have CN := fun (p q : Operand) (W : World) => (run_cmpK_neq (P := Tryd.prog) guardSum Tryd.underlying23 be5 cellsK (sumL_len b) hr p q W).trans (show _ = .ok (.value (.bool false)) W by simp [he])
  have CK := fun (p q : Operand) (W : World) => (run_cmpK_eql (P := Tryd.prog) guardKey Tryd.underlying24 be5 cellsK hx hk p q W).trans (show _ = .ok (.value (.bool false)) W by simp [hxk])
  have BS := fun W => run_buildK (build_sum0 W)
  have HN := hid hn
  have n1 : ¬ (256 : Int) < (n : Int) := by omega
  have n2 : (n : Int) < ((n + 1 : Nat) : Int) := by omega
  have n3 : (n : Int) < (n : Int) + 1 := by omega
  have n4 : (n : Int) ≤ 256 := by omega
  have n5 : (0 : Int) ≤ (n : Int) := by omega
  clear h hG hr hk hx hy hl ha hn hb hu he hxk
  go_enter Tryd.func10, Tryd.ntmps10
  go_upto_region 4 with (first | (refine wpList_box rfl 23 _ rfl (.agg (bv root)) rfl ?_; intro gr W1 h1 hl1 hg1 hW1; have H1 := hid (show St w (Blk gr (bv root) 23 :: Row (.slice A n c) 23 32 n (sumsV ss) :: L) W1 from HH.out.newBlk hW1 hg1 h1); clear h1 hl1 hg1 hW1) | (refine wpList_box rfl 24 _ rfl (.agg (bv k)) rfl ?_; intro gk W1 h1 hl1 hg1 hW1; have H2 := hid (show St w (Blk gk (bv k) 24 :: Blk gr (bv root) 23 :: Row (.slice A n c) 23 32 n (sumsV ss) :: L) W1 from H1.out.newBlk hW1 hg1 h1); clear h1 hl1 hg1 hW1) | (refine wpList_box rfl 32 _ rfl (.agg (proofC (.slice A n c) true (leafC x y))) rfl ?_; intro gp W1 h1 hl1 hg1 hW1; have H3 := hid (show St w (Blk gp (proofC (.slice A n c) true (leafC x y)) 32 :: Blk gk (bv k) 24 :: Blk gr (bv root) 23 :: Row (.slice A n c) 23 32 n (sumsV ss) :: L) W1 from H2.out.newBlk hW1 hg1 h1); clear h1 hl1 hg1 hW1) | (refine wpList_alloc 23 rfl rfl (.agg (bv (List.replicate 32 0))) zero54s ?_; intro gz W1 h1 hl1 hg1 hW1; have H4 := hid (show St w (Blk gz (bv (List.replicate 32 0)) 23 :: Blk gp (proofC (.slice A n c) true (leafC x y)) 32 :: Blk gk (bv k) 24 :: Blk gr (bv root) 23 :: Row (.slice A n c) 23 32 n (sumsV ss) :: L) W1 from H3.out.newBlk hW1 hg1 h1); obtain ⟨l1, l2, l3⟩ := HP.out _ _ H4.out.at2.blk; have l4 := HK.out _ _ H4.out.at3.blk; have x0 := (cell_of_row _ gp 0 _ _ _ H4.out.at2.blk).trans proofC_0; have x1 := (cell_of_row _ gp 1 _ _ _ H4.out.at2.blk).trans proofC_1; clear h1 hl1 hg1 hW1) | (go_at_call 33; (with_reducible refine (HU.out _).mono ?_); rintro r w3 ⟨rfl, hst⟩; have H5 := hid (H4.out.turn hst); obtain ⟨l5, _, _⟩ := HP.out _ _ H5.out.at2.blk; have l6 := HK.out _ _ H5.out.at3.blk; clear hst l1 l2 l3 l4 x0 x1) | (go_at_call 34; (with_reducible refine (HTX.out _ _ H5.out.at5).mono ?_); rintro r w3 ⟨B, c', vs, D, d, m, rfl, hv, hm, hm100, hst⟩; have H6 := hid hst; have HV := hid (And.intro hv (And.intro hm hm100)); clear hst hv hm hm100))
  obtain ⟨gB, rfl⟩ := row_some H6.out (by omega)
  have HC := hid (fun (X : World) (hX : St w (Row (.slice (some ⟨gB, 0, none⟩) (n + 1) c') 42 1 (n + 1) vs :: Row (.slice D m d) 5 1 m (bvL b) :: Row (.slice A n c) 23 32 n (sumsV ss) :: Blk gz (bv (List.replicate 32 0)) 23 :: Blk gp (proofC (.slice A n c) true (leafC x y)) 32 :: Blk gk (bv k) 24 :: Blk gr (bv root) 23 :: L) X) => show X.cell? ⟨gB, n, none⟩ = some (.slice D m d) ∧ (loadK 23 (.pointer (some ⟨gr, 0, none⟩))).run Tryd.prog X = .ok (.value (.agg (bv root))) X from ⟨by
    obtain ⟨g', e, h⟩ := row_elem hX rfl HV.out.1
    cases e
    exact h, HRL.out _ _ hX.drop.drop.drop.at4.blk⟩)
  have HSH := hid (fun (X : World) (g : Nat) (hX : St w (Row (.slice (some ⟨gB, 0, none⟩) (n + 1) c') 42 1 (n + 1) vs :: Row (.slice D m d) 5 1 m (bvL b) :: Row (.slice A n c) 23 32 n (sumsV ss) :: Blk gz (bv (List.replicate 32 0)) 23 :: Blk gp (proofC (.slice A n c) true (leafC x y)) 32 :: Blk gk (bv k) 24 :: Blk gr (bv root) 23 :: L) X) (hc : X.heap[g]? = some (.cells #[.slice D m d] 42 (0, 0))) => show Calls Tryd.prog 16 #[.slice (some ⟨g, 0, none⟩) 1 1] X fun r w' => r = .returned (.agg (bv (sumL b))) ∧ Below X.heap.size X w' from by
    obtain ⟨hb, h1, h2⟩ := row_bytes hX.drop HV.out.2.1
    have h3 := sha_now (c := 1) (m := 1) (HG.out X hX.below) (ps := [b]) rfl (parts1_now hc (Go.Cu.part_now HV.out.2.1 h1 h2 hb)) (by simp) (by have := HV.out.2; simp; omega)
    rw [show [b].flatten = b by simp] at h3
    exact h3)
  refine wp_region_segs [.ord [(0, 1), (1, 1), (2, 1), (3, 1), (4, 1), (5, 1), (8, 1), (6, 2), (7, 2), (9, 1), (10, 1)]] (fun X => St w (Row (.slice (some ⟨gB, 0, none⟩) (n + 1) c') 42 1 (n + 1) vs :: Row (.slice D m d) 5 1 m (bvL b) :: Row (.slice A n c) 23 32 n (sumsV ss) :: Blk gz (bv (List.replicate 32 0)) 23 :: Blk gp (proofC (.slice A n c) true (leafC x y)) 32 :: Blk gk (bv k) 24 :: Blk gr (bv root) 23 :: L) X) (by kernel_rfl) (by kernel_rfl) (fun d _ c _ _ h => by cases d <;> exact h) (H6.out.turn (Below.drew (Below.refl _ _))) (fun X hXe hX => ?_)
  have H7 := H6.out.turn (Below.drew (Below.refl _ _))
  rw [← hXe] at H7
  replace H7 := hid H7
  clear hXe
  refine wpSegs_ord fun F1 hF1 => ?_
  clear hX H6 l5 l6
  iterate 7 (apply wpOrd_class; ((· first | (rw [List.getElem?_toArray, List.getElem?_cons_zero]; done) | (simp only [List.getElem?_toArray, List.getElem?_cons_succ, List.getElem?_cons_zero]; exact rfl))); (· exact rfl); intro K hK; apply Exists.intro; refine And.intro (fun X' hX' => ?_) ?_; (· obtain ⟨hq1, hq2⟩ := HC.out _ hX'; clear hX'; go_simp; (try go_bits); first | done | exact rfl | exact ⟨rfl, rfl⟩); go_simp; refine hK _ _ ?_; clear hK K)
  (apply wpOrd_comes; ((· first | (rw [List.getElem?_toArray, List.getElem?_cons_zero]; done) | (simp only [List.getElem?_toArray, List.getElem?_cons_succ, List.getElem?_cons_zero]; exact rfl))); intro N hN)
  go_wp2_with (refine wpList_buildSlice1 _ rfl (.slice D m d) (by simp [Act.eval]) rfl Tryd.underlying80 zeroBYs sizeBYs (by decide) (by decide) rfl ?_; intro gn X4 hS hgs hges hX1b; have HGN := hid hS; have H8 := hid (H7.out.turn hX1b); clear hS hgs hges hX1b)
  refine hN _ _ (fun _ => H8.out) ?_
  clear hN N
  (apply wpOrd_comes; ((· first | (rw [List.getElem?_toArray, List.getElem?_cons_zero]; done) | (simp only [List.getElem?_toArray, List.getElem?_cons_succ, List.getElem?_cons_zero]; exact rfl))); intro N hN)
  go_wp2_with (go_at_call 16; (with_reducible refine (HSH.out _ _ H8.out HGN.out).mono ?_); rintro r w6 ⟨rfl, hb⟩; have H9 := hid (H8.out.turn hb); clear hb)
  refine hN _ _ (fun _ => H9.out) ?_
  clear hN N
  iterate 2 (apply wpOrd_class; ((· first | (rw [List.getElem?_toArray, List.getElem?_cons_zero]; done) | (simp only [List.getElem?_toArray, List.getElem?_cons_succ, List.getElem?_cons_zero]; exact rfl))); (· exact rfl); intro K hK; apply Exists.intro; refine And.intro (fun X' hX' => ?_) ?_; (· obtain ⟨hq1, hq2⟩ := HC.out _ hX'; clear hX'; go_simp; (try go_bits); first | done | exact rfl | exact ⟨rfl, rfl⟩); go_simp; refine hK _ _ ?_; clear hK K)
  refine wpOrd_to (hF1 _ _ (wpSegs_nil ?_))
  clear hF1 F1
  obtain ⟨l1, l2, l3⟩ := HP.out _ _ H9.out.drop.drop.drop.at2.blk
  have l4 := HK.out _ _ H9.out.drop.drop.drop.at3.blk
  have x0 := (cell_of_row _ gp 0 _ _ _ H9.out.drop.drop.drop.at2.blk).trans proofC_0
  have x1 := (cell_of_row _ gp 1 _ _ _ H9.out.drop.drop.drop.at2.blk).trans proofC_1
  have H10 := hid H9.out.drop.drop.at2
  go_wp2_with (refine wpList_store_box 23 _ _ rfl gz rfl rfl (bv (List.replicate 32 0)) rfl 32 size54s HVZ.out (bv_one _) 23 _ H10.out.blk HZ32.out ?_; intro W7 hB7 hT7 hs7; have H11 := hid (H10.out.put hB7 hT7))
  exact bodyPost_ret (results_ctt _ rfl hB7 Tryd.underlying23 rfl (by rw [HVZ.out]; exact size54s) rfl) rfl ⟨rfl, H11.out.drop.drop2.drop2.drop2⟩
set_option maxRecDepth 20000 in
set_option maxHeartbeats 8000000 in
theorem check_bad {A : Option Addr} {n c : Nat} {k x y root : List UInt8} {ss : List (List UInt8)} (h : St w (Row (.slice A n c) 23 32 n (sumsV ss) :: L) W) (hG : Glob w) (hr : root.length = 32) (hk : k.length = 32) (hx : x.length = 32) (hy : y.length = 32) (hl : ss.length = n) (ha : All32 ss) (hn : n ≤ 256) (hu : n ≤ cm x k) (he : sumL (climb sumL k (endTx true x y) 0 ss) ≠ root) :
    Calls Tryd.prog 10 #[.agg (bv root), .agg (bv k), .agg (proofC (.slice A n c) true (leafC x y))] W fun r w' => r = .returned (.tuple #[.agg (bv (List.replicate 32 0)), .bool false, .int .i64 17]) ∧ St w (Row (.slice A n c) 23 32 n (sumsV ss) :: L) w' := by
  have HH := hid h
  have HZ32 := hid zero32_size
  have HVZ := hid (show (bv (List.replicate 32 0)).size = 32 by rw [bv_size]; exact List.length_replicate)
  have HK := hid (fun (g : Nat) (X : World) (hc : X.heap[g]? = some (.cells (bv k) 24 (0, 0))) => run_loadK_box (P := Tryd.prog) hc Tryd.underlying24 rfl size24 ((bv_size k).trans hk))
  have HRL := hid (fun (g : Nat) (X : World) (hc : X.heap[g]? = some (.cells (bv root) 23 (0, 0))) => run_loadK_box (P := Tryd.prog) hc Tryd.underlying23 rfl size54s ((bv_size root).trans hr))
  have HP := hid (fun (g : Nat) (X : World) (hc : X.heap[g]? = some (.cells (proofC (.slice A n c) true (leafC x y)) 32 (0, 0))) => And.intro (run_loadK_box (P := Tryd.prog) hc Tryd.underlying32 rfl sizeProof (proofC_size (leafC_size hx hy))) (And.intro (run_loadK (P := Tryd.prog) (off := 2) (vs := bv x) hc Tryd.underlying24 rfl size24 ((bv_size x).trans hx) (proofC_key hx hy)) (run_loadK (P := Tryd.prog) (off := 34) (vs := bv y) hc Tryd.underlying23 rfl size54s ((bv_size y).trans hy) (proofC_val hx hy))))
  have HTX := hid (fun (X : World) (M : List Atm) (hX : St w (Row (.slice A n c) 23 32 n (sumsV ss) :: M) X) => texts_st (th := true) hX hG hk hx hy hl ha hn)
  have HG := hid (fun (X : World) (hX : Below w.heap.size w X) => hG.below hX hG.two)
  obtain ⟨b, hb⟩ : ∃ b, b = climb sumL k (endTx true x y) 0 ss := ⟨_, rfl⟩
  rw [← hb] at HTX he
  have HU := hid (fun X => under_any x k n X hx hk)
  rw [show decide (min (n : Int) 256 ≤ (cm x k : Int)) = true by exact decide_eq_true (by omega)] at HU
  have CN := fun (p q : Operand) (W : World) => (run_cmpK_neq (P := Tryd.prog) guardSum Tryd.underlying23 be5 cellsK (sumL_len b) hr p q W).trans (show _ = .ok (.value (.bool true)) W by simp [he])
  have BS := fun W => run_buildK (build_sum0 W)
  have HN := hid hn
  have n1 : ¬ (256 : Int) < (n : Int) := by omega
  have n2 : (n : Int) < ((n + 1 : Nat) : Int) := by omega
  have n3 : (n : Int) < (n : Int) + 1 := by omega
  have n4 : (n : Int) ≤ 256 := by omega
  have n5 : (0 : Int) ≤ (n : Int) := by omega
  clear h hG hr hk hx hy hl ha hn hb hu he
  go_enter Tryd.func10, Tryd.ntmps10
  go_upto_region 4 with (first | (refine wpList_box rfl 23 _ rfl (.agg (bv root)) rfl ?_; intro gr W1 h1 hl1 hg1 hW1; have H1 := hid (show St w (Blk gr (bv root) 23 :: Row (.slice A n c) 23 32 n (sumsV ss) :: L) W1 from HH.out.newBlk hW1 hg1 h1); clear h1 hl1 hg1 hW1) | (refine wpList_box rfl 24 _ rfl (.agg (bv k)) rfl ?_; intro gk W1 h1 hl1 hg1 hW1; have H2 := hid (show St w (Blk gk (bv k) 24 :: Blk gr (bv root) 23 :: Row (.slice A n c) 23 32 n (sumsV ss) :: L) W1 from H1.out.newBlk hW1 hg1 h1); clear h1 hl1 hg1 hW1) | (refine wpList_box rfl 32 _ rfl (.agg (proofC (.slice A n c) true (leafC x y))) rfl ?_; intro gp W1 h1 hl1 hg1 hW1; have H3 := hid (show St w (Blk gp (proofC (.slice A n c) true (leafC x y)) 32 :: Blk gk (bv k) 24 :: Blk gr (bv root) 23 :: Row (.slice A n c) 23 32 n (sumsV ss) :: L) W1 from H2.out.newBlk hW1 hg1 h1); clear h1 hl1 hg1 hW1) | (refine wpList_alloc 23 rfl rfl (.agg (bv (List.replicate 32 0))) zero54s ?_; intro gz W1 h1 hl1 hg1 hW1; have H4 := hid (show St w (Blk gz (bv (List.replicate 32 0)) 23 :: Blk gp (proofC (.slice A n c) true (leafC x y)) 32 :: Blk gk (bv k) 24 :: Blk gr (bv root) 23 :: Row (.slice A n c) 23 32 n (sumsV ss) :: L) W1 from H3.out.newBlk hW1 hg1 h1); obtain ⟨l1, l2, l3⟩ := HP.out _ _ H4.out.at2.blk; have l4 := HK.out _ _ H4.out.at3.blk; have x0 := (cell_of_row _ gp 0 _ _ _ H4.out.at2.blk).trans proofC_0; have x1 := (cell_of_row _ gp 1 _ _ _ H4.out.at2.blk).trans proofC_1; clear h1 hl1 hg1 hW1) | (go_at_call 33; (with_reducible refine (HU.out _).mono ?_); rintro r w3 ⟨rfl, hst⟩; have H5 := hid (H4.out.turn hst); obtain ⟨l5, _, _⟩ := HP.out _ _ H5.out.at2.blk; have l6 := HK.out _ _ H5.out.at3.blk; clear hst l1 l2 l3 l4 x0 x1) | (go_at_call 34; (with_reducible refine (HTX.out _ _ H5.out.at5).mono ?_); rintro r w3 ⟨B, c', vs, D, d, m, rfl, hv, hm, hm100, hst⟩; have H6 := hid hst; have HV := hid (And.intro hv (And.intro hm hm100)); clear hst hv hm hm100))
  obtain ⟨gB, rfl⟩ := row_some H6.out (by omega)
  have HC := hid (fun (X : World) (hX : St w (Row (.slice (some ⟨gB, 0, none⟩) (n + 1) c') 42 1 (n + 1) vs :: Row (.slice D m d) 5 1 m (bvL b) :: Row (.slice A n c) 23 32 n (sumsV ss) :: Blk gz (bv (List.replicate 32 0)) 23 :: Blk gp (proofC (.slice A n c) true (leafC x y)) 32 :: Blk gk (bv k) 24 :: Blk gr (bv root) 23 :: L) X) => show X.cell? ⟨gB, n, none⟩ = some (.slice D m d) ∧ (loadK 23 (.pointer (some ⟨gr, 0, none⟩))).run Tryd.prog X = .ok (.value (.agg (bv root))) X from ⟨by
    obtain ⟨g', e, h⟩ := row_elem hX rfl HV.out.1
    cases e
    exact h, HRL.out _ _ hX.drop.drop.drop.at4.blk⟩)
  have HSH := hid (fun (X : World) (g : Nat) (hX : St w (Row (.slice (some ⟨gB, 0, none⟩) (n + 1) c') 42 1 (n + 1) vs :: Row (.slice D m d) 5 1 m (bvL b) :: Row (.slice A n c) 23 32 n (sumsV ss) :: Blk gz (bv (List.replicate 32 0)) 23 :: Blk gp (proofC (.slice A n c) true (leafC x y)) 32 :: Blk gk (bv k) 24 :: Blk gr (bv root) 23 :: L) X) (hc : X.heap[g]? = some (.cells #[.slice D m d] 42 (0, 0))) => show Calls Tryd.prog 16 #[.slice (some ⟨g, 0, none⟩) 1 1] X fun r w' => r = .returned (.agg (bv (sumL b))) ∧ Below X.heap.size X w' from by
    obtain ⟨hb, h1, h2⟩ := row_bytes hX.drop HV.out.2.1
    have h3 := sha_now (c := 1) (m := 1) (HG.out X hX.below) (ps := [b]) rfl (parts1_now hc (Go.Cu.part_now HV.out.2.1 h1 h2 hb)) (by simp) (by have := HV.out.2; simp; omega)
    rw [show [b].flatten = b by simp] at h3
    exact h3)
  refine wp_region_segs [.ord [(0, 1), (1, 1), (2, 1), (3, 1), (4, 1), (5, 1), (8, 1), (6, 2), (7, 2), (9, 1), (10, 1)]] (fun X => St w (Row (.slice (some ⟨gB, 0, none⟩) (n + 1) c') 42 1 (n + 1) vs :: Row (.slice D m d) 5 1 m (bvL b) :: Row (.slice A n c) 23 32 n (sumsV ss) :: Blk gz (bv (List.replicate 32 0)) 23 :: Blk gp (proofC (.slice A n c) true (leafC x y)) 32 :: Blk gk (bv k) 24 :: Blk gr (bv root) 23 :: L) X) (by kernel_rfl) (by kernel_rfl) (fun d _ c _ _ h => by cases d <;> exact h) (H6.out.turn (Below.drew (Below.refl _ _))) (fun X hXe hX => ?_)
  have H7 := H6.out.turn (Below.drew (Below.refl _ _))
  rw [← hXe] at H7
  replace H7 := hid H7
  clear hXe
  refine wpSegs_ord fun F1 hF1 => ?_
  clear hX H6 l5 l6
  iterate 7 (apply wpOrd_class; ((· first | (rw [List.getElem?_toArray, List.getElem?_cons_zero]; done) | (simp only [List.getElem?_toArray, List.getElem?_cons_succ, List.getElem?_cons_zero]; exact rfl))); (· exact rfl); intro K hK; apply Exists.intro; refine And.intro (fun X' hX' => ?_) ?_; (· obtain ⟨hq1, hq2⟩ := HC.out _ hX'; clear hX'; go_simp; (try go_bits); first | done | exact rfl | exact ⟨rfl, rfl⟩); go_simp; refine hK _ _ ?_; clear hK K)
  (apply wpOrd_comes; ((· first | (rw [List.getElem?_toArray, List.getElem?_cons_zero]; done) | (simp only [List.getElem?_toArray, List.getElem?_cons_succ, List.getElem?_cons_zero]; exact rfl))); intro N hN)
  go_wp2_with (refine wpList_buildSlice1 _ rfl (.slice D m d) (by simp [Act.eval]) rfl Tryd.underlying80 zeroBYs sizeBYs (by decide) (by decide) rfl ?_; intro gn X4 hS hgs hges hX1b; have HGN := hid hS; have H8 := hid (H7.out.turn hX1b); clear hS hgs hges hX1b)
  refine hN _ _ (fun _ => H8.out) ?_
  clear hN N
  (apply wpOrd_comes; ((· first | (rw [List.getElem?_toArray, List.getElem?_cons_zero]; done) | (simp only [List.getElem?_toArray, List.getElem?_cons_succ, List.getElem?_cons_zero]; exact rfl))); intro N hN)
  go_wp2_with (go_at_call 16; (with_reducible refine (HSH.out _ _ H8.out HGN.out).mono ?_); rintro r w6 ⟨rfl, hb⟩; have H9 := hid (H8.out.turn hb); clear hb)
  refine hN _ _ (fun _ => H9.out) ?_
  clear hN N
  iterate 2 (apply wpOrd_class; ((· first | (rw [List.getElem?_toArray, List.getElem?_cons_zero]; done) | (simp only [List.getElem?_toArray, List.getElem?_cons_succ, List.getElem?_cons_zero]; exact rfl))); (· exact rfl); intro K hK; apply Exists.intro; refine And.intro (fun X' hX' => ?_) ?_; (· obtain ⟨hq1, hq2⟩ := HC.out _ hX'; clear hX'; go_simp; (try go_bits); first | done | exact rfl | exact ⟨rfl, rfl⟩); go_simp; refine hK _ _ ?_; clear hK K)
  refine wpOrd_to (hF1 _ _ (wpSegs_nil ?_))
  clear hF1 F1
  obtain ⟨l1, l2, l3⟩ := HP.out _ _ H9.out.drop.drop.drop.at2.blk
  have l4 := HK.out _ _ H9.out.drop.drop.drop.at3.blk
  have x0 := (cell_of_row _ gp 0 _ _ _ H9.out.drop.drop.drop.at2.blk).trans proofC_0
  have x1 := (cell_of_row _ gp 1 _ _ _ H9.out.drop.drop.drop.at2.blk).trans proofC_1
  have H10 := hid H9.out.drop.drop.at2
  go_wp2_with (refine wpList_store_box 23 _ _ rfl gz rfl rfl (bv (List.replicate 32 0)) rfl 32 size54s HVZ.out (bv_one _) 23 _ H10.out.blk HZ32.out ?_; intro W7 hB7 hT7 hs7; have H11 := hid (H10.out.put hB7 hT7))
  exact bodyPost_ret (results_ctt _ rfl hB7 Tryd.underlying23 rfl (by rw [HVZ.out]; exact size54s) rfl) rfl ⟨rfl, H11.out.drop.drop2.drop2.drop2⟩
set_option maxRecDepth 20000 in
set_option maxHeartbeats 8000000 in
theorem check_none {A : Option Addr} {n c : Nat} {k x y root : List UInt8} {ss : List (List UInt8)} (h : St w (Row (.slice A n c) 23 32 n (sumsV ss) :: L) W) (hG : Glob w) (hr : root.length = 32) (hk : k.length = 32) (hx : x.length = 32) (hy : y.length = 32) (hl : ss.length = n) (ha : All32 ss) (hn : n ≤ 256) (he : sumL (climb sumL k (endTx false x y) 0 ss) = root) :
    Calls Tryd.prog 10 #[.agg (bv root), .agg (bv k), .agg (proofC (.slice A n c) false (leafC x y))] W fun r w' => r = .returned (.tuple #[.agg (bv (List.replicate 32 0)), .bool false, .int .i64 0]) ∧ St w (Row (.slice A n c) 23 32 n (sumsV ss) :: L) w' := by
  have HH := hid h
  have HZ32 := hid zero32_size
  have HVZ := hid (show (bv (List.replicate 32 0)).size = 32 by rw [bv_size]; exact List.length_replicate)
  have HK := hid (fun (g : Nat) (X : World) (hc : X.heap[g]? = some (.cells (bv k) 24 (0, 0))) => run_loadK_box (P := Tryd.prog) hc Tryd.underlying24 rfl size24 ((bv_size k).trans hk))
  have HRL := hid (fun (g : Nat) (X : World) (hc : X.heap[g]? = some (.cells (bv root) 23 (0, 0))) => run_loadK_box (P := Tryd.prog) hc Tryd.underlying23 rfl size54s ((bv_size root).trans hr))
  have HP := hid (fun (g : Nat) (X : World) (hc : X.heap[g]? = some (.cells (proofC (.slice A n c) false (leafC x y)) 32 (0, 0))) => And.intro (run_loadK_box (P := Tryd.prog) hc Tryd.underlying32 rfl sizeProof (proofC_size (leafC_size hx hy))) (And.intro (run_loadK (P := Tryd.prog) (off := 2) (vs := bv x) hc Tryd.underlying24 rfl size24 ((bv_size x).trans hx) (proofC_key hx hy)) (run_loadK (P := Tryd.prog) (off := 34) (vs := bv y) hc Tryd.underlying23 rfl size54s ((bv_size y).trans hy) (proofC_val hx hy))))
  have HTX := hid (fun (X : World) (M : List Atm) (hX : St w (Row (.slice A n c) 23 32 n (sumsV ss) :: M) X) => texts_st (th := false) hX hG hk hx hy hl ha hn)
  have HG := hid (fun (X : World) (hX : Below w.heap.size w X) => hG.below hX hG.two)
  obtain ⟨b, hb⟩ : ∃ b, b = climb sumL k (endTx false x y) 0 ss := ⟨_, rfl⟩
  rw [← hb] at HTX he
  have CN := fun (p q : Operand) (W : World) => (run_cmpK_neq (P := Tryd.prog) guardSum Tryd.underlying23 be5 cellsK (sumL_len b) hr p q W).trans (show _ = .ok (.value (.bool false)) W by simp [he])
  have BS := fun W => run_buildK (build_sum0 W)
  have HN := hid hn
  have n1 : ¬ (256 : Int) < (n : Int) := by omega
  have n2 : (n : Int) < ((n + 1 : Nat) : Int) := by omega
  have n3 : (n : Int) < (n : Int) + 1 := by omega
  have n4 : (n : Int) ≤ 256 := by omega
  have n5 : (0 : Int) ≤ (n : Int) := by omega
  clear h hG hr hk hx hy hl ha hn hb he
  go_enter Tryd.func10, Tryd.ntmps10
  go_upto_region 1 with (first | (refine wpList_box rfl 23 _ rfl (.agg (bv root)) rfl ?_; intro gr W1 h1 hl1 hg1 hW1; have H1 := hid (show St w (Blk gr (bv root) 23 :: Row (.slice A n c) 23 32 n (sumsV ss) :: L) W1 from HH.out.newBlk hW1 hg1 h1); clear h1 hl1 hg1 hW1) | (refine wpList_box rfl 24 _ rfl (.agg (bv k)) rfl ?_; intro gk W1 h1 hl1 hg1 hW1; have H2 := hid (show St w (Blk gk (bv k) 24 :: Blk gr (bv root) 23 :: Row (.slice A n c) 23 32 n (sumsV ss) :: L) W1 from H1.out.newBlk hW1 hg1 h1); clear h1 hl1 hg1 hW1) | (refine wpList_box rfl 32 _ rfl (.agg (proofC (.slice A n c) false (leafC x y))) rfl ?_; intro gp W1 h1 hl1 hg1 hW1; have H3 := hid (show St w (Blk gp (proofC (.slice A n c) false (leafC x y)) 32 :: Blk gk (bv k) 24 :: Blk gr (bv root) 23 :: Row (.slice A n c) 23 32 n (sumsV ss) :: L) W1 from H2.out.newBlk hW1 hg1 h1); clear h1 hl1 hg1 hW1) | (refine wpList_alloc 23 rfl rfl (.agg (bv (List.replicate 32 0))) zero54s ?_; intro gz W1 h1 hl1 hg1 hW1; have H4 := hid (show St w (Blk gz (bv (List.replicate 32 0)) 23 :: Blk gp (proofC (.slice A n c) false (leafC x y)) 32 :: Blk gk (bv k) 24 :: Blk gr (bv root) 23 :: Row (.slice A n c) 23 32 n (sumsV ss) :: L) W1 from H3.out.newBlk hW1 hg1 h1); obtain ⟨l1, l2, l3⟩ := HP.out _ _ H4.out.at2.blk; have l4 := HK.out _ _ H4.out.at3.blk; have x0 := (cell_of_row _ gp 0 _ _ _ H4.out.at2.blk).trans proofC_0; have x1 := (cell_of_row _ gp 1 _ _ _ H4.out.at2.blk).trans proofC_1; clear h1 hl1 hg1 hW1))
  go_upto_region 3 with fail
  go_upto_region 4 with (go_at_call 34; (with_reducible refine (HTX.out _ _ H4.out.at5).mono ?_); rintro r w3 ⟨B, c', vs, D, d, m, rfl, hv, hm, hm100, hst⟩; have H6 := hid hst; have HV := hid (And.intro hv (And.intro hm hm100)); clear hst hv hm hm100)
  obtain ⟨gB, rfl⟩ := row_some H6.out (by omega)
  have HC := hid (fun (X : World) (hX : St w (Row (.slice (some ⟨gB, 0, none⟩) (n + 1) c') 42 1 (n + 1) vs :: Row (.slice D m d) 5 1 m (bvL b) :: Row (.slice A n c) 23 32 n (sumsV ss) :: Blk gz (bv (List.replicate 32 0)) 23 :: Blk gp (proofC (.slice A n c) false (leafC x y)) 32 :: Blk gk (bv k) 24 :: Blk gr (bv root) 23 :: L) X) => show X.cell? ⟨gB, n, none⟩ = some (.slice D m d) ∧ (loadK 23 (.pointer (some ⟨gr, 0, none⟩))).run Tryd.prog X = .ok (.value (.agg (bv root))) X from ⟨by
    obtain ⟨g', e, h⟩ := row_elem hX rfl HV.out.1
    cases e
    exact h, HRL.out _ _ hX.drop.drop.drop.at4.blk⟩)
  have HSH := hid (fun (X : World) (g : Nat) (hX : St w (Row (.slice (some ⟨gB, 0, none⟩) (n + 1) c') 42 1 (n + 1) vs :: Row (.slice D m d) 5 1 m (bvL b) :: Row (.slice A n c) 23 32 n (sumsV ss) :: Blk gz (bv (List.replicate 32 0)) 23 :: Blk gp (proofC (.slice A n c) false (leafC x y)) 32 :: Blk gk (bv k) 24 :: Blk gr (bv root) 23 :: L) X) (hc : X.heap[g]? = some (.cells #[.slice D m d] 42 (0, 0))) => show Calls Tryd.prog 16 #[.slice (some ⟨g, 0, none⟩) 1 1] X fun r w' => r = .returned (.agg (bv (sumL b))) ∧ Below X.heap.size X w' from by
    obtain ⟨hb, h1, h2⟩ := row_bytes hX.drop HV.out.2.1
    have h3 := sha_now (c := 1) (m := 1) (HG.out X hX.below) (ps := [b]) rfl (parts1_now hc (Go.Cu.part_now HV.out.2.1 h1 h2 hb)) (by simp) (by have := HV.out.2; simp; omega)
    rw [show [b].flatten = b by simp] at h3
    exact h3)
  refine wp_region_segs [.ord [(0, 1), (1, 1), (2, 1), (3, 1), (4, 1), (5, 1), (8, 1), (6, 2), (7, 2), (9, 1), (10, 1)]] (fun X => St w (Row (.slice (some ⟨gB, 0, none⟩) (n + 1) c') 42 1 (n + 1) vs :: Row (.slice D m d) 5 1 m (bvL b) :: Row (.slice A n c) 23 32 n (sumsV ss) :: Blk gz (bv (List.replicate 32 0)) 23 :: Blk gp (proofC (.slice A n c) false (leafC x y)) 32 :: Blk gk (bv k) 24 :: Blk gr (bv root) 23 :: L) X) (by kernel_rfl) (by kernel_rfl) (fun d _ c _ _ h => by cases d <;> exact h) (H6.out.turn (Below.drew (Below.refl _ _))) (fun X hXe hX => ?_)
  have H7 := H6.out.turn (Below.drew (Below.refl _ _))
  rw [← hXe] at H7
  replace H7 := hid H7
  clear hXe
  refine wpSegs_ord fun F1 hF1 => ?_
  clear hX H6 l1 l2 l3 l4 x0 x1
  iterate 7 (apply wpOrd_class; ((· first | (rw [List.getElem?_toArray, List.getElem?_cons_zero]; done) | (simp only [List.getElem?_toArray, List.getElem?_cons_succ, List.getElem?_cons_zero]; exact rfl))); (· exact rfl); intro K hK; apply Exists.intro; refine And.intro (fun X' hX' => ?_) ?_; (· obtain ⟨hq1, hq2⟩ := HC.out _ hX'; clear hX'; go_simp; (try go_bits); first | done | exact rfl | exact ⟨rfl, rfl⟩); go_simp; refine hK _ _ ?_; clear hK K)
  (apply wpOrd_comes; ((· first | (rw [List.getElem?_toArray, List.getElem?_cons_zero]; done) | (simp only [List.getElem?_toArray, List.getElem?_cons_succ, List.getElem?_cons_zero]; exact rfl))); intro N hN)
  go_wp2_with (refine wpList_buildSlice1 _ rfl (.slice D m d) (by simp [Act.eval]) rfl Tryd.underlying80 zeroBYs sizeBYs (by decide) (by decide) rfl ?_; intro gn X4 hS hgs hges hX1b; have HGN := hid hS; have H8 := hid (H7.out.turn hX1b); clear hS hgs hges hX1b)
  refine hN _ _ (fun _ => H8.out) ?_
  clear hN N
  (apply wpOrd_comes; ((· first | (rw [List.getElem?_toArray, List.getElem?_cons_zero]; done) | (simp only [List.getElem?_toArray, List.getElem?_cons_succ, List.getElem?_cons_zero]; exact rfl))); intro N hN)
  go_wp2_with (go_at_call 16; (with_reducible refine (HSH.out _ _ H8.out HGN.out).mono ?_); rintro r w6 ⟨rfl, hb⟩; have H9 := hid (H8.out.turn hb); clear hb)
  refine hN _ _ (fun _ => H9.out) ?_
  clear hN N
  iterate 2 (apply wpOrd_class; ((· first | (rw [List.getElem?_toArray, List.getElem?_cons_zero]; done) | (simp only [List.getElem?_toArray, List.getElem?_cons_succ, List.getElem?_cons_zero]; exact rfl))); (· exact rfl); intro K hK; apply Exists.intro; refine And.intro (fun X' hX' => ?_) ?_; (· obtain ⟨hq1, hq2⟩ := HC.out _ hX'; clear hX'; go_simp; (try go_bits); first | done | exact rfl | exact ⟨rfl, rfl⟩); go_simp; refine hK _ _ ?_; clear hK K)
  refine wpOrd_to (hF1 _ _ (wpSegs_nil ?_))
  clear hF1 F1
  obtain ⟨l1, l2, l3⟩ := HP.out _ _ H9.out.drop.drop.drop.at2.blk
  have l4 := HK.out _ _ H9.out.drop.drop.drop.at3.blk
  have x0 := (cell_of_row _ gp 0 _ _ _ H9.out.drop.drop.drop.at2.blk).trans proofC_0
  have x1 := (cell_of_row _ gp 1 _ _ _ H9.out.drop.drop.drop.at2.blk).trans proofC_1
  have H10 := hid H9.out.drop.drop.at2
  go_upto_region 8 with fail
  go_wp2_with (refine wpList_store_box 23 _ _ rfl gz rfl rfl (bv (List.replicate 32 0)) rfl 32 size54s HVZ.out (bv_one _) 23 _ H10.out.blk HZ32.out ?_; intro W7 hB7 hT7 hs7; have H11 := hid (H10.out.put hB7 hT7))
  exact bodyPost_ret (results_ctt _ rfl hB7 Tryd.underlying23 rfl (by rw [HVZ.out]; exact size54s) rfl) rfl ⟨rfl, H11.out.drop.drop2.drop2.drop2⟩
set_option maxRecDepth 20000 in
set_option maxHeartbeats 8000000 in
theorem check_nonebad {A : Option Addr} {n c : Nat} {k x y root : List UInt8} {ss : List (List UInt8)} (h : St w (Row (.slice A n c) 23 32 n (sumsV ss) :: L) W) (hG : Glob w) (hr : root.length = 32) (hk : k.length = 32) (hx : x.length = 32) (hy : y.length = 32) (hl : ss.length = n) (ha : All32 ss) (hn : n ≤ 256) (he : sumL (climb sumL k (endTx false x y) 0 ss) ≠ root) :
    Calls Tryd.prog 10 #[.agg (bv root), .agg (bv k), .agg (proofC (.slice A n c) false (leafC x y))] W fun r w' => r = .returned (.tuple #[.agg (bv (List.replicate 32 0)), .bool false, .int .i64 17]) ∧ St w (Row (.slice A n c) 23 32 n (sumsV ss) :: L) w' := by
  have HH := hid h
  have HZ32 := hid zero32_size
  have HVZ := hid (show (bv (List.replicate 32 0)).size = 32 by rw [bv_size]; exact List.length_replicate)
  have HK := hid (fun (g : Nat) (X : World) (hc : X.heap[g]? = some (.cells (bv k) 24 (0, 0))) => run_loadK_box (P := Tryd.prog) hc Tryd.underlying24 rfl size24 ((bv_size k).trans hk))
  have HRL := hid (fun (g : Nat) (X : World) (hc : X.heap[g]? = some (.cells (bv root) 23 (0, 0))) => run_loadK_box (P := Tryd.prog) hc Tryd.underlying23 rfl size54s ((bv_size root).trans hr))
  have HP := hid (fun (g : Nat) (X : World) (hc : X.heap[g]? = some (.cells (proofC (.slice A n c) false (leafC x y)) 32 (0, 0))) => And.intro (run_loadK_box (P := Tryd.prog) hc Tryd.underlying32 rfl sizeProof (proofC_size (leafC_size hx hy))) (And.intro (run_loadK (P := Tryd.prog) (off := 2) (vs := bv x) hc Tryd.underlying24 rfl size24 ((bv_size x).trans hx) (proofC_key hx hy)) (run_loadK (P := Tryd.prog) (off := 34) (vs := bv y) hc Tryd.underlying23 rfl size54s ((bv_size y).trans hy) (proofC_val hx hy))))
  have HTX := hid (fun (X : World) (M : List Atm) (hX : St w (Row (.slice A n c) 23 32 n (sumsV ss) :: M) X) => texts_st (th := false) hX hG hk hx hy hl ha hn)
  have HG := hid (fun (X : World) (hX : Below w.heap.size w X) => hG.below hX hG.two)
  obtain ⟨b, hb⟩ : ∃ b, b = climb sumL k (endTx false x y) 0 ss := ⟨_, rfl⟩
  rw [← hb] at HTX he
  have CN := fun (p q : Operand) (W : World) => (run_cmpK_neq (P := Tryd.prog) guardSum Tryd.underlying23 be5 cellsK (sumL_len b) hr p q W).trans (show _ = .ok (.value (.bool true)) W by simp [he])
  have BS := fun W => run_buildK (build_sum0 W)
  have HN := hid hn
  have n1 : ¬ (256 : Int) < (n : Int) := by omega
  have n2 : (n : Int) < ((n + 1 : Nat) : Int) := by omega
  have n3 : (n : Int) < (n : Int) + 1 := by omega
  have n4 : (n : Int) ≤ 256 := by omega
  have n5 : (0 : Int) ≤ (n : Int) := by omega
  clear h hG hr hk hx hy hl ha hn hb he
  go_enter Tryd.func10, Tryd.ntmps10
  go_upto_region 1 with (first | (refine wpList_box rfl 23 _ rfl (.agg (bv root)) rfl ?_; intro gr W1 h1 hl1 hg1 hW1; have H1 := hid (show St w (Blk gr (bv root) 23 :: Row (.slice A n c) 23 32 n (sumsV ss) :: L) W1 from HH.out.newBlk hW1 hg1 h1); clear h1 hl1 hg1 hW1) | (refine wpList_box rfl 24 _ rfl (.agg (bv k)) rfl ?_; intro gk W1 h1 hl1 hg1 hW1; have H2 := hid (show St w (Blk gk (bv k) 24 :: Blk gr (bv root) 23 :: Row (.slice A n c) 23 32 n (sumsV ss) :: L) W1 from H1.out.newBlk hW1 hg1 h1); clear h1 hl1 hg1 hW1) | (refine wpList_box rfl 32 _ rfl (.agg (proofC (.slice A n c) false (leafC x y))) rfl ?_; intro gp W1 h1 hl1 hg1 hW1; have H3 := hid (show St w (Blk gp (proofC (.slice A n c) false (leafC x y)) 32 :: Blk gk (bv k) 24 :: Blk gr (bv root) 23 :: Row (.slice A n c) 23 32 n (sumsV ss) :: L) W1 from H2.out.newBlk hW1 hg1 h1); clear h1 hl1 hg1 hW1) | (refine wpList_alloc 23 rfl rfl (.agg (bv (List.replicate 32 0))) zero54s ?_; intro gz W1 h1 hl1 hg1 hW1; have H4 := hid (show St w (Blk gz (bv (List.replicate 32 0)) 23 :: Blk gp (proofC (.slice A n c) false (leafC x y)) 32 :: Blk gk (bv k) 24 :: Blk gr (bv root) 23 :: Row (.slice A n c) 23 32 n (sumsV ss) :: L) W1 from H3.out.newBlk hW1 hg1 h1); obtain ⟨l1, l2, l3⟩ := HP.out _ _ H4.out.at2.blk; have l4 := HK.out _ _ H4.out.at3.blk; have x0 := (cell_of_row _ gp 0 _ _ _ H4.out.at2.blk).trans proofC_0; have x1 := (cell_of_row _ gp 1 _ _ _ H4.out.at2.blk).trans proofC_1; clear h1 hl1 hg1 hW1))
  go_upto_region 3 with fail
  go_upto_region 4 with (go_at_call 34; (with_reducible refine (HTX.out _ _ H4.out.at5).mono ?_); rintro r w3 ⟨B, c', vs, D, d, m, rfl, hv, hm, hm100, hst⟩; have H6 := hid hst; have HV := hid (And.intro hv (And.intro hm hm100)); clear hst hv hm hm100)
  obtain ⟨gB, rfl⟩ := row_some H6.out (by omega)
  have HC := hid (fun (X : World) (hX : St w (Row (.slice (some ⟨gB, 0, none⟩) (n + 1) c') 42 1 (n + 1) vs :: Row (.slice D m d) 5 1 m (bvL b) :: Row (.slice A n c) 23 32 n (sumsV ss) :: Blk gz (bv (List.replicate 32 0)) 23 :: Blk gp (proofC (.slice A n c) false (leafC x y)) 32 :: Blk gk (bv k) 24 :: Blk gr (bv root) 23 :: L) X) => show X.cell? ⟨gB, n, none⟩ = some (.slice D m d) ∧ (loadK 23 (.pointer (some ⟨gr, 0, none⟩))).run Tryd.prog X = .ok (.value (.agg (bv root))) X from ⟨by
    obtain ⟨g', e, h⟩ := row_elem hX rfl HV.out.1
    cases e
    exact h, HRL.out _ _ hX.drop.drop.drop.at4.blk⟩)
  have HSH := hid (fun (X : World) (g : Nat) (hX : St w (Row (.slice (some ⟨gB, 0, none⟩) (n + 1) c') 42 1 (n + 1) vs :: Row (.slice D m d) 5 1 m (bvL b) :: Row (.slice A n c) 23 32 n (sumsV ss) :: Blk gz (bv (List.replicate 32 0)) 23 :: Blk gp (proofC (.slice A n c) false (leafC x y)) 32 :: Blk gk (bv k) 24 :: Blk gr (bv root) 23 :: L) X) (hc : X.heap[g]? = some (.cells #[.slice D m d] 42 (0, 0))) => show Calls Tryd.prog 16 #[.slice (some ⟨g, 0, none⟩) 1 1] X fun r w' => r = .returned (.agg (bv (sumL b))) ∧ Below X.heap.size X w' from by
    obtain ⟨hb, h1, h2⟩ := row_bytes hX.drop HV.out.2.1
    have h3 := sha_now (c := 1) (m := 1) (HG.out X hX.below) (ps := [b]) rfl (parts1_now hc (Go.Cu.part_now HV.out.2.1 h1 h2 hb)) (by simp) (by have := HV.out.2; simp; omega)
    rw [show [b].flatten = b by simp] at h3
    exact h3)
  refine wp_region_segs [.ord [(0, 1), (1, 1), (2, 1), (3, 1), (4, 1), (5, 1), (8, 1), (6, 2), (7, 2), (9, 1), (10, 1)]] (fun X => St w (Row (.slice (some ⟨gB, 0, none⟩) (n + 1) c') 42 1 (n + 1) vs :: Row (.slice D m d) 5 1 m (bvL b) :: Row (.slice A n c) 23 32 n (sumsV ss) :: Blk gz (bv (List.replicate 32 0)) 23 :: Blk gp (proofC (.slice A n c) false (leafC x y)) 32 :: Blk gk (bv k) 24 :: Blk gr (bv root) 23 :: L) X) (by kernel_rfl) (by kernel_rfl) (fun d _ c _ _ h => by cases d <;> exact h) (H6.out.turn (Below.drew (Below.refl _ _))) (fun X hXe hX => ?_)
  have H7 := H6.out.turn (Below.drew (Below.refl _ _))
  rw [← hXe] at H7
  replace H7 := hid H7
  clear hXe
  refine wpSegs_ord fun F1 hF1 => ?_
  clear hX H6 l1 l2 l3 l4 x0 x1
  iterate 7 (apply wpOrd_class; ((· first | (rw [List.getElem?_toArray, List.getElem?_cons_zero]; done) | (simp only [List.getElem?_toArray, List.getElem?_cons_succ, List.getElem?_cons_zero]; exact rfl))); (· exact rfl); intro K hK; apply Exists.intro; refine And.intro (fun X' hX' => ?_) ?_; (· obtain ⟨hq1, hq2⟩ := HC.out _ hX'; clear hX'; go_simp; (try go_bits); first | done | exact rfl | exact ⟨rfl, rfl⟩); go_simp; refine hK _ _ ?_; clear hK K)
  (apply wpOrd_comes; ((· first | (rw [List.getElem?_toArray, List.getElem?_cons_zero]; done) | (simp only [List.getElem?_toArray, List.getElem?_cons_succ, List.getElem?_cons_zero]; exact rfl))); intro N hN)
  go_wp2_with (refine wpList_buildSlice1 _ rfl (.slice D m d) (by simp [Act.eval]) rfl Tryd.underlying80 zeroBYs sizeBYs (by decide) (by decide) rfl ?_; intro gn X4 hS hgs hges hX1b; have HGN := hid hS; have H8 := hid (H7.out.turn hX1b); clear hS hgs hges hX1b)
  refine hN _ _ (fun _ => H8.out) ?_
  clear hN N
  (apply wpOrd_comes; ((· first | (rw [List.getElem?_toArray, List.getElem?_cons_zero]; done) | (simp only [List.getElem?_toArray, List.getElem?_cons_succ, List.getElem?_cons_zero]; exact rfl))); intro N hN)
  go_wp2_with (go_at_call 16; (with_reducible refine (HSH.out _ _ H8.out HGN.out).mono ?_); rintro r w6 ⟨rfl, hb⟩; have H9 := hid (H8.out.turn hb); clear hb)
  refine hN _ _ (fun _ => H9.out) ?_
  clear hN N
  iterate 2 (apply wpOrd_class; ((· first | (rw [List.getElem?_toArray, List.getElem?_cons_zero]; done) | (simp only [List.getElem?_toArray, List.getElem?_cons_succ, List.getElem?_cons_zero]; exact rfl))); (· exact rfl); intro K hK; apply Exists.intro; refine And.intro (fun X' hX' => ?_) ?_; (· obtain ⟨hq1, hq2⟩ := HC.out _ hX'; clear hX'; go_simp; (try go_bits); first | done | exact rfl | exact ⟨rfl, rfl⟩); go_simp; refine hK _ _ ?_; clear hK K)
  refine wpOrd_to (hF1 _ _ (wpSegs_nil ?_))
  clear hF1 F1
  obtain ⟨l1, l2, l3⟩ := HP.out _ _ H9.out.drop.drop.drop.at2.blk
  have l4 := HK.out _ _ H9.out.drop.drop.drop.at3.blk
  have x0 := (cell_of_row _ gp 0 _ _ _ H9.out.drop.drop.drop.at2.blk).trans proofC_0
  have x1 := (cell_of_row _ gp 1 _ _ _ H9.out.drop.drop.drop.at2.blk).trans proofC_1
  have H10 := hid H9.out.drop.drop.at2
  go_wp2_with (refine wpList_store_box 23 _ _ rfl gz rfl rfl (bv (List.replicate 32 0)) rfl 32 size54s HVZ.out (bv_one _) 23 _ H10.out.blk HZ32.out ?_; intro W7 hB7 hT7 hs7; have H11 := hid (H10.out.put hB7 hT7))
  exact bodyPost_ret (results_ctt _ rfl hB7 Tryd.underlying23 rfl (by rw [HVZ.out]; exact size54s) rfl) rfl ⟨rfl, H11.out.drop.drop2.drop2.drop2⟩
end
end Go.Proofs.YtnakbdgoaepehaaDoor
/- Leaves of a parameter, and rows of them. -/
namespace Go.Cu
open Go Go.RowKit Go.ChangeShapes Go.WideShapes
abbrev Lv := List UInt8 × List UInt8
/-- A leaf's cells. -/
def lfL (p : Lv) : List Value := (leafC p.1 p.2).toList
def Lv.ok (p : Lv) : Prop := p.1.length = 32 ∧ p.2.length = 32
def LeavesOk (ls : List Lv) : Prop := ∀ p ∈ ls, Lv.ok p
theorem lfL_len {p : Lv} (h : Lv.ok p) : (lfL p).length = 64 := by unfold lfL; rw [Array.length_toList, leafC_size h.1 h.2]
abbrev leavesV (ls : List Lv) : List Value := ls.flatMap lfL
theorem LeavesOk.len {ls : List Lv} (h : LeavesOk ls) : ∀ x ∈ ls, (lfL x).length = 64 := fun x hx => lfL_len (h x hx)
theorem leavesV_len {ls : List Lv} (h : LeavesOk ls) : (leavesV ls).length = ls.length * 64 := fm_len ls h.len
theorem lfL_one (p : Lv) : ∀ u ∈ lfL p, u.oneCell' = true := by
  intro u hu
  unfold lfL leafC at hu
  rw [Array.toList_append] at hu
  rcases List.mem_append.1 hu with h | h
  · exact bv_one _ u h
  · exact bv_one _ u h
theorem leavesV_one (ls : List Lv) : ∀ u ∈ leavesV ls, u.oneCell' = true := by
  intro u hu
  obtain ⟨x, _, hx⟩ := List.mem_flatMap.1 hu
  exact lfL_one x u hx
theorem LeavesOk.take {ls : List Lv} (h : LeavesOk ls) (n : Nat) : LeavesOk (ls.take n) := fun x hx => h x (List.mem_of_mem_take hx)
def LeavesIn (w : World) (A : Option Addr) (ls : List Lv) : Prop := ∀ i p, ls[i]? = some p → ∃ g o, A = some ⟨g, o, none⟩ ∧ g < w.heap.size ∧ ∀ j, j < 64 → w.cell? ⟨g, o + i * 64 + j, none⟩ = (lfL p)[j]?
theorem LeavesIn.take {w : World} {A : Option Addr} {ls : List Lv} (h : LeavesIn w A ls) (n : Nat) : LeavesIn w A (ls.take n) := fun i k hk => by
  rw [List.getElem?_take] at hk
  split at hk
  · exact h i k hk
  · cases hk
theorem LeavesIn.below {w W : World} {A : Option Addr} {ls : List Lv} (h : LeavesIn w A ls) (hb : Below w.heap.size w W) : LeavesIn W A ls := fun i k hk => by
  obtain ⟨g, o, hA, hg, hc⟩ := h i k hk
  exact ⟨g, o, hA, Nat.lt_of_lt_of_le hg hb.size, fun j hj => (hb.cell (p := ⟨g, o + i * 64 + j, none⟩) hg).trans (hc j hj)⟩
section
variable {P : Program}
theorem wpList_append_leaves {ops : Array Oper} {rest : List Oper} {o : Oper} {a : Act} {w : World} {Q : Exit → Act → World → Prop} (s x : Operand) (t : TypeId)
    (ho : o.op = .call { callee := .builtin .append, args := #[s, x], argTypes := #[t, t] }) (v : Value) (hs : a.eval s = v) (B : Option Addr) (m c : Nat) (hx : a.eval x = .slice B m c) (hw : Region.wanted o (yielded ops a.tmps) = true)
    (e : TypeId) (i : TypeInfo) (z : Value) (ht : P.underlying t = some (.slice e)) (hi : P.info? e = some i) (hz : i.zero = some z)
    (hsize : i.size = 64) (hby : i.bytes = 64) (hzs : z.cells.size = 64)
    (n : Nat) (xs : List Value) (hown : w.ownsRow 0 e 64 v n xs) (ls : List Lv) (hS : LeavesIn w B ls) (ha : LeavesOk ls) (hm : ls.length = m)
    (h63 : n + m ≤ 1000000)
    (h : ∀ v' w', w'.ownsRow 0 e 64 v' (n + m) (xs ++ leavesV ls) → Tch (fun g => v.ownBlock = some g) w w' → (v'.ownBlock = v.ownBlock ∨ v'.ownBlock = some w.heap.size) → wpList P ops Q rest (a.put o.dst v') w') : wpList P ops Q (o :: rest) a w := by
  by_cases h0 : m = 0
  · subst h0
    obtain rfl : ls = [] := List.eq_nil_of_length_eq_zero hm
    refine wpList_wanted hw fun K hK => ?_
    have hrun := run_append_zero 0 t o.type e i 64 ht hi v n xs hown B c
    unfold Oper.wp execOp
    simp only [ho, resolve, invoke, builtin, Sem.run_bind, Sem.run_pure, Result.andThen_ok, List.map_toArray, List.map_cons, List.map_nil, hs, hx, hrun]
    exact hK _ _ (h v w (by simpa using hown) (Tch.refl _ _) (.inl rfl))
  · obtain ⟨g, o', rfl, _, _⟩ := hS 0 (ls[0]'(by omega)) (List.getElem?_eq_getElem (by omega))
    have hkl : (leavesV ls).length = m * 64 := by rw [leavesV_len ha, hm]
    refine wpList_append_at s x t ho v hs ⟨g, o', none⟩ m c hx hw e i z 64 64 ht hi hz hsize hby hzs (by decide) n xs hown (leavesV ls) hkl (fun j u hj => ?_) (leavesV_one ls) (by unfold maxLen; omega) (by omega) h
    have hjl : j < (leavesV ls).length := (List.getElem?_eq_some_iff.1 hj).1
    have hi32 : j / 64 < ls.length := by omega
    obtain ⟨g', o2, e', _, hc⟩ := hS (j / 64) (ls[j / 64]) (List.getElem?_eq_getElem hi32)
    cases e'
    have h5 := fm_get ls (j / 64) (j % 64) (ls[j / 64]) ha.len (List.getElem?_eq_getElem hi32) (Nat.mod_lt _ (by decide))
    have hdm : j / 64 * 64 + j % 64 = j := Nat.div_add_mod' j 64
    rw [hdm] at h5
    have h6 := hc (j % 64) (Nat.mod_lt _ (by decide))
    rw [Nat.add_assoc, hdm] at h6
    have e3 : (⟨g, o', none⟩ : Addr).add j = ⟨g, o' + j, none⟩ := by unfold Addr.add; split <;> simp_all
    rw [e3, h6, ← h5]
    exact hj
section
variable {W0 W : World} {L : List Atm} {A : Option Addr} {e n c t : Nat} {ls : List Lv}
/-- A part of a leaf loaded out of a row. -/
theorem lrow_load (h : St W0 (Row (.slice A n c) e 64 n (leavesV ls) :: L) W) (ha : LeavesOk ls) {i : Nat} {p : Lv} (hi : ls[i]? = some p) {d : TypeDesc} {vs : Array Value} {o' sz : Nat}
    (hu : P.underlying t = some d) (hd : (match d with | .struct _ | .array _ _ => true | _ => false) = true) (hs : (P.info? t).map (·.size) = some sz) (hv : vs.size = sz) (ho : o' + sz ≤ 64) (hp : ∀ j, j < vs.size → (leafC p.1 p.2)[o' + j]? = vs[j]?) :
    ∃ g, A = some ⟨g, 0, none⟩ ∧ ∀ o, o = i * 64 + o' → (loadK t (.pointer (some ⟨g, o, none⟩))).run P W = .ok (.value (.agg vs)) W := by
  have hin : i < ls.length := (List.getElem?_eq_some_iff.1 hi).1
  have hl : ls.length * 64 = n * 64 := (leavesV_len ha).symm.trans h.row.1
  rcases h.row.2 with ⟨_, h1⟩ | ⟨g, cap, cur, hv', _, hb, h1, h2, h3, h4⟩
  · omega
  · cases hv'
    refine ⟨g, rfl, fun o ho' => ?_⟩
    subst ho'
    refine run_loadK hb hu hd hs hv fun j hj => ?_
    have h5 := fm_get ls i (o' + j) p ha.len hi (by omega)
    have h6 : (cur.toList.take (n * 64))[i * 64 + (o' + j)]? = (lfL p)[o' + j]? := by rw [h4]; exact h5
    rw [List.getElem?_take_of_lt (by omega)] at h6
    rw [Nat.add_assoc, ← Array.getElem?_toList, h6, ← hp j hj]
    unfold lfL
    rw [Array.getElem?_toList]
end
section
variable {H : Type} {enc : TypeId × Value → H} {w : World} {base : Nat} {spare : Nat → Bool} {held : Bool}
theorem arr_cells {t e n fuel : Nat} {cs : List Value} {x : DataW H × List MemPlace} (ht : P.underlying t = some (.array n e)) (he : P.underlying e = some (.int .u8)) (hc : P.cellsOf e = 1) (hl0 : cs.length = n)
    (h : DataW.trod enc P w base spare held fuel t cs = some x) : ∃ l : List UInt8, l.length = n ∧ cs = bvL l := by
  obtain ⟨xs, m, _, _, _, hl, hel⟩ := DataW.trod_array ht h
  have hall : ∀ c ∈ cs, ∃ a : Int, c = .int .u8 a ∧ (Lit.int .u8 a).wf = true := by
    intro c hcm
    obtain ⟨i, hi, rfl⟩ := List.mem_iff_getElem.1 hcm
    have hin : i < n := by omega
    have h1 := hel i hin
    rw [hc] at h1
    have h2 : (cs.drop (i * 1)).take 1 = [cs[i]] := by
      rw [Nat.mul_one, List.drop_eq_getElem_cons hi]
      rfl
    have hx : xs[i]? = some (xs[i]'(by omega)) := List.getElem?_eq_getElem (by omega)
    rw [h2, hx] at h1
    obtain ⟨a, e1, _, wa⟩ := DataW.trod_int he h1
    exact ⟨a, by simpa using e1, wa⟩
  obtain ⟨l, hl'⟩ := cells_bv cs hall
  exact ⟨l, by rw [← hl0, hl', List.length_map], hl'⟩
theorem leaves_open {r : Reach} {b0 t e k1 k2 b : Nat} {v : Value} {d : DataW H} {p : List MemPlace} {fs : Array Field} (ht : P.underlying t = some (.slice e)) (hs : P.cellsOf e = 64) (hu : P.underlying e = some (.struct fs)) {f0 f1 : Field} (hf0 : fs[0]? = some f0) (hf1 : fs[1]? = some f1) (t0 : f0.type = k1) (t1 : f1.type = k2) (o0 : f0.offset = 0) (o1 : f1.offset = 32)
    (hk1 : P.underlying k1 = some (.array 32 b)) (hk2 : P.underlying k2 = some (.array 32 b)) (hc1 : P.cellsOf k1 = 32) (hc2 : P.cellsOf k2 = 32) (he : P.underlying b = some (.int .u8)) (hc : P.cellsOf b = 1)
    (hv : Value.okWide P w r b0 t v) (h : DataW.Trod enc P w base spare held t v d p) : ∃ (A : Option Addr) (c : Nat) (ls : List Lv), v = .slice A ls.length c ∧ ls.length ≤ c ∧ LeavesOk ls ∧ LeavesIn w A ls := by
  obtain ⟨A, len, cap, rfl, h1, _, h3⟩ := param_slice ht hs (by decide) hv h
  obtain ⟨ls, rfl, hp⟩ := choose_list (α := Lv) (p := fun i k => Lv.ok k ∧ ∃ g o, A = some ⟨g, o, none⟩ ∧ g < w.heap.size ∧ ∀ j, j < 64 → w.cell? ⟨g, o + i * 64 + j, none⟩ = (lfL k)[j]?) len (fun i hi => by
    obtain ⟨g, o, n, cs', y, hA, hg, hl, hcell, hy⟩ := h3 i hi
    obtain ⟨n1, y1, e1⟩ := field_cells hu hy 0 f0 hf0
    obtain ⟨n2, y2, e2⟩ := field_cells hu hy 1 f1 hf1
    rw [t0, o0, hc1] at e1
    rw [t1, o1, hc2] at e2
    obtain ⟨l1, hl1, q1⟩ := arr_cells hk1 he hc (by simp; omega) e1
    obtain ⟨l2, hl2, q2⟩ := arr_cells hk2 he hc (by simp; omega) e2
    have hcs : cs' = lfL (l1, l2) := by
      unfold lfL leafC
      rw [Array.toList_append, bv_eq, bv_eq]
      show cs' = bvL l1 ++ bvL l2
      rw [← q1, ← q2, List.drop_zero, List.take_of_length_le (l := cs'.drop 32) (by simp; omega), List.take_append_drop]
    rw [hcs] at hcell
    exact ⟨(l1, l2), ⟨hl1, hl2⟩, g, o, hA, hg, hcell⟩)
  refine ⟨A, cap, ls, rfl, h1, fun k hk => ?_, fun i k hk => (hp i k hk).2⟩
  obtain ⟨i, hi⟩ := List.mem_iff_getElem?.1 hk
  exact (hp i k hi).1
end
end
end Go.Cu
namespace Go.Proofs.YtnakbdgoaepehaaDoor
open Go.RowKit Go.Cu
theorem infoLeaf : (Tryd.prog.info? 30).map (fun i => (i.zero, i.size, i.bytes)) = some (some (.agg (leafC zeroK zeroK)), 64, 64) := by kernel_rfl
section
variable {w : World} {L : List Atm} {W : World}
set_option maxRecDepth 20000 in
set_option maxHeartbeats 8000000 in
theorem leaves_st (h : St w L W) {A : Option Addr} {n c m : Nat} {ls : List Lv} (hin : LeavesIn w A ls) (ha : LeavesOk ls) (hn : ls.length = n) (hc : n ≤ c) (hm : m = min n 8) : Calls Tryd.prog 6 #[.slice A n c] W fun r w' => ∃ B d, r = .returned (.slice B m d) ∧ St w (Row (.slice B m d) 30 64 m (leavesV (ls.take m)) :: L) w' := by
  have HH := hid h
  obtain ⟨i30, hi, hiz, his, hib⟩ := info_parts infoLeaf
  have HI := hid (And.intro hi (And.intro hiz (And.intro his hib)))
  have HLN := hid (show (ls.take m).length = m by rw [List.length_take]; omega)
  have HOK := hid (ha.take m)
  have HIN := hid (hin.take m)
  have hmin : min (n : Int) 8 = (m : Int) := by omega
  have m0 : (0 : Int) ≤ (m : Int) := by omega
  have m8 : m ≤ 8 := by omega
  have hmc : m ≤ c := by omega
  have hmci : (m : Int) ≤ (c : Int) := by omega
  clear h hin ha hn hc hm hi hiz his hib
  go_enter Tryd.func6, Tryd.ntmps6
  go_wp2_with (first | (refine wpList_buildSlice0 rfl rfl Tryd.underlying22 sizeLeaf ?_; intro gs X1 hS hgs hges hX1; have H1 := hid (HH.out.newRow0 (e := 30) (s := 64) hX1 hges hS); clear hS hgs hges hX1) | (refine wpList_append_leaves _ _ _ rfl (.slice (some ⟨gs, 0, none⟩) 0 0) rfl A m c rfl rfl 30 i30 (.agg (leafC zeroK zeroK)) Tryd.underlying22 HI.out.1 HI.out.2.1 HI.out.2.2.1 HI.out.2.2.2 zsize 0 [] H1.out.row (ls.take m) (HIN.out.below H1.out.below) HOK.out HLN.out (by omega) ?_; intro v' X5 hO2 hT2 hfr; have H5 := hid (H1.out.grow hO2 hT2 hfr); clear hO2 hT2 hfr hmin; obtain ⟨B, d, hv', _⟩ := row_slice H5.out; subst hv'))
  rw [Nat.zero_add, List.nil_append] at H5
  go_ret
  exact ⟨B, d, rfl, H5.out⟩
end
end Go.Proofs.YtnakbdgoaepehaaDoor
/- A key's value. -/
namespace Go.Cu
open Go Go.RowKit
def getOk : Tr → List UInt8 → Bool
  | .leaf x _, k => decide (x = k)
  | _, _ => false
theorem treeC_val {k x : List UInt8} {a b : Value} {s : Bool} {sm : List UInt8} {n : Int} (hk : k.length = 32) (hx : x.length = 32) (j : Nat) (hj : j < (bv x).size) : (treeC (leafC k x) a b s sm n)[32 + j]? = (bv x)[j]? := by
  have h1 := hj
  rw [bv_size] at h1
  have h2 := treeC_leaf (a := a) (b := b) (s := s) (sm := sm) (n := n) (lf := leafC k x) (32 + j) (by rw [leafC_size hk hx]; omega)
  rw [Nat.zero_add] at h2
  rw [h2]
  exact leafC_val hk j hj
end Go.Cu
namespace Go.Proofs.YtnakbdgoaepehaaDoor
open Go.RowKit Go.Cu
@[go_sem ↓] theorem nektKEY (a : Act) (dst : Option Tmp) (x y : Operand) (t' ty : TypeId) (pos : String) (after : Array Edge) (guard : Option (Nat × Bool)) :
      execOp a.eval { dst, op := .binOp .neq 24 x y t', type := ty, pos, after, guard } = cmpK .neq 24 x y (a.eval x) (a.eval y) := rfl
section
variable {w : World} {L : List Atm} {W : World} {k : List UInt8} {t : Tr}
/-- What Get answers. -/
def GetQ (w : World) (L : List Atm) (b : Bool) (r : Ending) (w' : World) : Prop := ∃ (V : List UInt8) (m : Int), V.length = 32 ∧ r = .returned (.tuple #[.agg (bv V), .bool b, .int .i64 m]) ∧ St w L w'
set_option maxRecDepth 20000 in
set_option maxHeartbeats 8000000 in
theorem get_st (h : St w L W) {F : Nat → Prop} {v : Value} (ht : TreeIn F w v t) (hw : t.WF 0) (hk : k.length = 32) : Calls Tryd.prog 11 #[v, .agg (bv k)] W (GetQ w L (getOk (t.last k 0) k)) := by
  have HH := hid h
  have HK := hid (fun (g : Nat) (X : World) (hc : X.heap[g]? = some (.cells (bv k) 24 (0, 0))) => run_loadK_box (P := Tryd.prog) hc Tryd.underlying24 rfl size24 ((bv_size k).trans hk))
  have HWAY := hid (fun (X : World) (M : List Atm) (hX : St w M X) => way_st hX ht hw hk)
  have HNN := hid (t.last_ne (k := k) 0)
  obtain ⟨tl, htl⟩ : ∃ tl, tl = t.last k 0 := ⟨_, rfl⟩
  rw [← htl] at HWAY HNN ⊢
  have HZ32 := hid zero32_size
  have HKL := hid hk
  clear h ht hw hk htl
  have BS := fun W => run_buildK (build_sum0 W)
  go_enter Tryd.func11, Tryd.ntmps11
  go_upto_region 2 with (first | (refine wpList_box rfl 24 _ rfl (.agg (bv k)) rfl ?_; intro gk W1 h1 hl1 hg1 hW1; have H1 := hid (show St w (Blk gk (bv k) 24 :: L) W1 from HH.out.newBlk hW1 hg1 h1); clear h1 hl1 hg1 hW1) | (refine wpList_alloc 23 rfl rfl (.agg (bv (List.replicate 32 0))) zero54s ?_; intro gz W1 h1 hl1 hg1 hW1; have H2 := hid (show St w (Blk gz (bv (List.replicate 32 0)) 23 :: Blk gk (bv k) 24 :: L) W1 from H1.out.newBlk hW1 hg1 h1); have LA := HK.out _ _ H2.out.at2.blk; clear h1 hl1 hg1 hW1) | (go_at_call 35; (with_reducible refine (HWAY.out _ _ H2.out).mono ?_); rintro r w3 ⟨sv, ev, vs, F', rfl, he, hn, hst⟩; have H3 := hid hst.drop; have HE := hid he; obtain ⟨B, c0, hsv, _⟩ := row_slice hst; subst hsv; clear he hn hst LA))
  have he := HE.out
  cases tl with
  | nil =>
    obtain rfl : ev = .pointer none := he
    go_wp2_with (refine wpList_store_box 23 _ _ rfl gz rfl rfl (bv (List.replicate 32 0)) rfl 32 size54s HZ32.out (bv_one _) 23 _ H3.out.blk HZ32.out ?_; intro W7 hB7 hT7 hs7; have H4 := hid (H3.out.put hB7 hT7))
    exact bodyPost_ret (results_ctt _ rfl hB7 Tryd.underlying23 rfl (by rw [HZ32.out]; exact size54s) rfl) rfl ⟨_, _, List.length_replicate, rfl, H4.out.drop.drop⟩
  | leaf x y =>
    obtain ⟨hx, hy, g, m, rfl, _, hc⟩ := he
    have HYZ := hid (show (bv y).size = 32 by rw [bv_size]; exact hy)
    have HYL := hid hy
    have HC := hid (fun (X : World) (hX : St w (Blk gz (bv (List.replicate 32 0)) 23 :: Blk gk (bv k) 24 :: L) X) => And.intro (HK.out gk X hX.at2.blk) (run_loadK (P := Tryd.prog) (off := 0) (vs := bv x) ((hX.below.block g (heap_lt hc)).trans hc) Tryd.underlying24 rfl size24 ((bv_size x).trans hx) (treeC_key hx hy)))
    have HV := hid (fun (X : World) (hX : St w (Blk gz (bv (List.replicate 32 0)) 23 :: Blk gk (bv k) 24 :: L) X) => run_loadK (P := Tryd.prog) (off := 32) (vs := bv y) ((hX.below.block g (heap_lt hc)).trans hc) Tryd.underlying23 rfl size54s ((bv_size y).trans hy) (treeC_val hx hy))
    by_cases hxk : x = k
    · have CM := fun (p q : Operand) (W : World) => (run_cmpK_neq (P := Tryd.prog) guardKey Tryd.underlying24 be5 cellsK hx HKL.out p q W).trans (show _ = .ok (.value (.bool false)) W by simp [hxk])
      have HR := hid (show getOk (.leaf x y) k = true by simp [getOk, hxk])
      skip
      clear hx hy hc hxk
      go_upto_region 4 with fail
      refine wp_region_segs [.ord [(0, 1), (1, 1), (2, 1), (3, 1), (4, 1), (5, 1), (6, 1), (7, 1)]] (fun X => St w (Blk gz (bv (List.replicate 32 0)) 23 :: Blk gk (bv k) 24 :: L) X) (by kernel_rfl) (by kernel_rfl) (fun d _ c _ _ h => by cases d <;> exact h) (H3.out.turn (Below.drew (Below.refl _ _))) (fun X hXe hX => ?_)
      have H4 := H3.out.turn (Below.drew (Below.refl _ _))
      rw [← hXe] at H4
      replace H4 := hid H4
      clear hXe
      refine wpSegs_ord fun F1 hF1 => ?_
      clear hX
      iterate 8 (apply wpOrd_class; ((· first | (rw [List.getElem?_toArray, List.getElem?_cons_zero]; done) | (simp only [List.getElem?_toArray, List.getElem?_cons_succ, List.getElem?_cons_zero]; exact rfl))); (· exact rfl); intro K hK; apply Exists.intro; refine And.intro (fun X' hX' => ?_) ?_; (· obtain ⟨hq1, hq2⟩ := HC.out _ hX'; clear hX'; go_simp; (try go_bits); first | done | exact rfl | exact ⟨rfl, rfl⟩); go_simp; refine hK _ _ ?_; clear hK K)
      refine wpOrd_to (hF1 _ _ (wpSegs_nil ?_))
      clear hF1 F1
      have LV := HV.out _ H4.out
      go_wp2_with (refine wpList_store_box 23 _ _ rfl gz rfl rfl (bv y) rfl 32 size54s HYZ.out (bv_one _) 23 _ H4.out.blk HZ32.out ?_; intro W7 hB7 hT7 hs7; have H5 := hid (H4.out.put hB7 hT7))
      exact bodyPost_ret (results_ctt _ rfl hB7 Tryd.underlying23 rfl (by rw [HYZ.out]; exact size54s) rfl) rfl ⟨y, wrap64 ((vs.length : Int) + 1), HYL.out, by rw [HR.out]; rfl, H5.out.drop.drop⟩
    · have CM := fun (p q : Operand) (W : World) => (run_cmpK_neq (P := Tryd.prog) guardKey Tryd.underlying24 be5 cellsK hx HKL.out p q W).trans (show _ = .ok (.value (.bool true)) W by simp [hxk])
      have HR := hid (show getOk (.leaf x y) k = false by simp [getOk, hxk])
      skip
      clear hx hy hc hxk
      go_upto_region 4 with fail
      refine wp_region_segs [.ord [(0, 1), (1, 1), (2, 1), (3, 1), (4, 1), (5, 1), (6, 1), (7, 1)]] (fun X => St w (Blk gz (bv (List.replicate 32 0)) 23 :: Blk gk (bv k) 24 :: L) X) (by kernel_rfl) (by kernel_rfl) (fun d _ c _ _ h => by cases d <;> exact h) (H3.out.turn (Below.drew (Below.refl _ _))) (fun X hXe hX => ?_)
      have H4 := H3.out.turn (Below.drew (Below.refl _ _))
      rw [← hXe] at H4
      replace H4 := hid H4
      clear hXe
      refine wpSegs_ord fun F1 hF1 => ?_
      clear hX
      iterate 8 (apply wpOrd_class; ((· first | (rw [List.getElem?_toArray, List.getElem?_cons_zero]; done) | (simp only [List.getElem?_toArray, List.getElem?_cons_succ, List.getElem?_cons_zero]; exact rfl))); (· exact rfl); intro K hK; apply Exists.intro; refine And.intro (fun X' hX' => ?_) ?_; (· obtain ⟨hq1, hq2⟩ := HC.out _ hX'; clear hX'; go_simp; (try go_bits); first | done | exact rfl | exact ⟨rfl, rfl⟩); go_simp; refine hK _ _ ?_; clear hK K)
      refine wpOrd_to (hF1 _ _ (wpSegs_nil ?_))
      clear hF1 F1
      have LV := HV.out _ H4.out
      go_wp2_with (refine wpList_store_box 23 _ _ rfl gz rfl rfl (bv (List.replicate 32 0)) rfl 32 size54s HZ32.out (bv_one _) 23 _ H4.out.blk HZ32.out ?_; intro W7 hB7 hT7 hs7; have H5 := hid (H4.out.put hB7 hT7))
      exact bodyPost_ret (results_ctt _ rfl hB7 Tryd.underlying23 rfl (by rw [HZ32.out]; exact size54s) rfl) rfl ⟨(List.replicate 32 0), wrap64 ((vs.length : Int) + 1), List.length_replicate, by rw [HR.out]; rfl, H5.out.drop.drop⟩
  | node e a b => exact absurd rfl (HNN.out e a b)
end
end Go.Proofs.YtnakbdgoaepehaaDoor
/- What the listed tables say of memory. -/
namespace Go.Proofs.YtnakbdgoaepehaaDoor
open Go.ChangeShapes Go.WideShapes Go.ChangeAt Go.RowKit Go.Cu
theorem gStart : Tryd.prog.globalNamed "custumal/sha2.start" = some 1 := by kernel_rfl
theorem gRounds : Tryd.prog.globalNamed "custumal/sha2.rounds" = some 3 := by kernel_rfl
theorem gtStart : (Tryd.prog.globals[1]?).map (·.type) = some 109 := by kernel_rfl
theorem gtRounds : (Tryd.prog.globals[3]?).map (·.type) = some 123 := by kernel_rfl
/-- An array of words that reads as these. -/
theorem words_cells {H : Type} {enc : TypeId × Value → H} {P : Program} {w : World} {base : Nat} {sp : Nat → Bool} {held : Bool} {fuel t e n : Nat} {cs : List Value} {l : List UInt32} {p : List MemPlace}
    (ht : P.underlying t = some (.array n e)) (he : P.underlying e = some (.int .u32)) (hc : P.cellsOf e = 1) (hct : P.cellsOf t = n) (hl : l.length = n)
    (h : DataW.trod enc P w base sp held fuel t cs = some (.agg (l.map fun x => .lit (.int .u32 x.toNat)), p)) : cs = l.map fun x => Value.int .u32 x.toNat := by
  obtain ⟨xs, m, rfl, hx, hlen, hn, hel⟩ := DataW.trod_array ht h
  rw [hc] at hel
  rw [hct] at hlen
  simp only [Prod.mk.injEq, DataW.agg.injEq] at hx
  apply List.ext_getElem?
  intro i
  by_cases hi : i < n
  · have h1 := hel i hi
    have hxi : i < xs.length := by omega
    rw [List.getElem?_eq_getElem hxi] at h1
    obtain ⟨k, e1, e2, _⟩ := DataW.trod_int he h1
    have hcs : i < cs.length := by omega
    have e3 : (cs.drop (i * 1)).take 1 = [cs[i]] := by
      rw [Nat.mul_one, List.drop_eq_getElem_cons hcs, List.take_succ_cons, List.take_zero]
    rw [e3] at e1
    have hli : i < l.length := by omega
    have e4 : (xs.map (·.1))[i]? = (l.map fun x => DataW.lit (H := H) (.int .u32 x.toNat))[i]? := by rw [hx.1]
    rw [List.getElem?_map, List.getElem?_map, List.getElem?_eq_getElem hxi, List.getElem?_eq_getElem hli, e2] at e4
    simp only [Option.map_some, Option.some.injEq, DataW.lit.injEq, Lit.int.injEq, true_and] at e4
    rw [List.getElem?_map, List.getElem?_eq_getElem hcs, List.getElem?_eq_getElem hli]
    simp only [List.cons.injEq, and_true] at e1
    rw [e1, e4]
    rfl
  · rw [List.getElem?_eq_none (by omega), List.getElem?_eq_none (by simp; omega)]
set_option maxRecDepth 20000 in
theorem start_datum : (Rows.laid_custumal_sha2_start : DataW Unit) = .agg (startL.map fun x => .lit (.int .u32 x.toNat)) := by rfl
set_option maxRecDepth 20000 in
theorem rounds_datum : (Rows.laid_custumal_sha2_rounds : DataW Unit) = .agg (roundsL.map fun x => .lit (.int .u32 x.toNat)) := by rfl
theorem var_block {P : Program} {W : World} {name : String} {cs : Array Value} {g : Nat} (hg : P.globalNamed name = some g) (h : W.var? P name = some cs) : ∃ t f, W.heap[g]? = some (.cells cs t f) := by
  unfold World.var? at h
  rw [hg] at h
  simp only [Option.bind_some] at h
  split at h
  · rename_i cs' t f hh
    cases h
    exact ⟨t, f, hh⟩
  · cases h
/-- The tables lie where the program looks for them. -/
theorem glob_of_laid {W : World} (h : laidMetH Tryd.prog [("custumal/sha2.start", Rows.laid_custumal_sha2_start), ("custumal/sha2.rounds", Rows.laid_custumal_sha2_rounds)] W) : Glob W := by
  rw [MakeChecks.laidMetH_plain _ _ _ (by kernel_rfl)] at h
  obtain ⟨ps, ⟨g0, t0, cs0, f0, p0, q0, hg0, ht0, hv0, hd0, ⟨g1, t1, cs1, f1, p1, q1, hg1, ht1, hv1, hd1, _, _⟩, _⟩, _, _⟩ := h
  obtain rfl := Option.some.inj (gStart.symm.trans hg0)
  obtain rfl := Option.some.inj (gRounds.symm.trans hg1)
  obtain rfl := Option.some.inj (gtStart.symm.trans ht0)
  obtain rfl := Option.some.inj (gtRounds.symm.trans ht1)
  have hd0' := hd0
  have hd1' := hd1
  rw [start_datum] at hd0'
  rw [rounds_datum] at hd1'
  have c0 := words_cells Tryd.underlying109 Tryd.underlying108 (by kernel_rfl) (by kernel_rfl) startL_len hd0'
  have c1 := words_cells Tryd.underlying123 Tryd.underlying108 (by kernel_rfl) (by kernel_rfl) roundsL_len hd1'
  obtain ⟨a0, b0, h0⟩ := var_block gStart hv0
  obtain ⟨a1, b1, h1⟩ := var_block gRounds hv1
  refine ⟨a0, b0, a1, b1, ?_, ?_⟩
  · rw [h0]
    congr 2
    obtain ⟨l⟩ := cs0
    exact congrArg List.toArray c0
  · rw [h1]
    congr 2
    obtain ⟨l⟩ := cs1
    exact congrArg List.toArray c1
end Go.Proofs.YtnakbdgoaepehaaDoor
/- What is shown of a key, and calls upon trees that lie among other things. -/
namespace Go.Cu
open Go Go.RowKit
/-- What is shown of a key in a tree. -/
structure Shown (t : Tr) (k : List UInt8) (ss : List (List UInt8)) (th : Bool) (x y : List UInt8) : Prop where
  sums : ss = t.beside sumL k 0
  all : All32 ss
  len : ss.length ≤ 256
  key : x.length = 32
  val : y.length = 32
  top : sumL (climb sumL k (endTx th x y) 0 ss) = t.sum sumL
  under : th = true → ss.length ≤ cm x k
  ok : getOk (t.last k 0) k = (th && decide (x = k))
  endL : endL (t.last k 0) = leafC x y
  endT : endT (t.last k 0) = th
section
variable {t : Tr} {k lk lv x y : List UInt8}
theorem shown_leaf (hw : t.WF 0) (h : t.last k 0 = .leaf x y) : Shown t k (t.beside sumL k 0) true x y := by
  obtain ⟨hx, hy⟩ := last_wf t 0 hw x y h
  have hb := beside_len (H := sumL) (k := k) t 0 hw (by decide)
  have ht := climb_beside (H := sumL) (k := k) t 0 hw
  rw [h] at ht
  exact ⟨rfl, beside_all t 0, by omega, hx, hy, ht, fun _ => last_under hw h, by rw [h]; simp [getOk], by rw [h]; rfl, by rw [h]; rfl⟩
theorem shown_nil (hw : t.WF 0) (h : t.last k 0 = .nil) : Shown t k (t.beside sumL k 0) false zeroK zeroK := by
  have hb := beside_len (H := sumL) (k := k) t 0 hw (by decide)
  have ht := climb_beside (H := sumL) (k := k) t 0 hw
  rw [h] at ht
  exact ⟨rfl, beside_all t 0, by omega, zeroK_len, zeroK_len, ht, fun h => (by cases h), by rw [h]; rfl, by rw [h]; rfl, by rw [h]; rfl⟩
theorem shown_any (hw : t.WF 0) : ∃ ss th x y, Shown t k ss th x y := by
  cases h : t.last k 0 with
  | nil => exact ⟨_, _, _, _, shown_nil hw h⟩
  | leaf x y => exact ⟨_, _, _, _, shown_leaf hw h⟩
  | node d a b => exact absurd h (t.last_ne 0 d a b)
theorem shown_put (hw : t.WF 0) (hlk : lk.length = 32) (hlv : lv.length = 32) : Shown (t.put lk lv 0) lk ((t.put lk lv 0).beside sumL lk 0) true lk lv :=
  shown_leaf (put_wf hlk hlv t 0 hw (agree0 t) (by decide)) (put_last hlk t 0 hw (agree0 t) (by decide))
end
section
variable {W0 W : World} {L : List Atm} {v : Value} {t : Tr}
theorem St.treeAt (h : St W0 (TreeA v t :: L) W) : ∃ F, TreeIn F W v t ∧ ∀ v' t' W', TreeIn (fun g => F g ∨ W.heap.size ≤ g) W' v' t' → Below W.heap.size W W' → St W0 (TreeA v' t' :: L) W' := by
  obtain ⟨F, ha, _, hr⟩ := h.first
  exact ⟨F, ha, fun v' t' W' h' hb => hr (TreeA v' t') W' h' (Tch.of_below hb)⟩
theorem St.nilTree (h : St W0 L W) : St W0 (TreeA (.pointer none) .nil :: L) W := h.push (Below.refl _ _) rfl
theorem St.mid {M : List Atm} {a : Atm} (h : St W0 (M ++ a :: L) W) : St W0 (a :: (M ++ L)) W := h.perm List.perm_middle
theorem St.unmid {M : List Atm} {a : Atm} (h : St W0 (a :: (M ++ L)) W) : St W0 (M ++ a :: L) W := h.perm List.perm_middle.symm
end
end Go.Cu
namespace Go.Proofs.YtnakbdgoaepehaaDoor
open Go.RowKit Go.Cu
section
variable {w : World} {L : List Atm} {W : World} {v : Value} {t : Tr} {k lk lv x y root : List UInt8} {ss : List (List UInt8)} {th : Bool}
theorem root_at (h : St w (TreeA v t :: L) W) (hG : Glob w) : Calls Tryd.prog 7 #[v] W fun r w' => r = .returned (.agg (bv (t.sum sumL))) ∧ Below W.heap.size W w' := by
  obtain ⟨F, ht, _⟩ := h.treeAt
  exact root_now (hG.below h.below hG.two) ht
theorem prove_at {M : List Atm} (h : St w M W) (h' : St w (TreeA v t :: L) W) (hG : Glob w) (hw : t.WF 0) (hk : k.length = 32) {n : Nat} (hs : Shown t k ss th x y) (hn : n = ss.length) : Calls Tryd.prog 8 #[v, .agg (bv k)] W fun r w' => ∃ A c, r = .returned (.agg (proofC (.slice A n c) th (leafC x y))) ∧ St w (Row (.slice A n c) 23 32 n (sumsV ss) :: M) w' := by
  subst hn
  obtain ⟨F, ht, _⟩ := h'.treeAt
  have h1 := prove_st (St.start W) (hG.below h.below hG.two) ht hw hk (by rw [hs.endL]; exact leafC_size hs.key hs.val)
  rw [hs.endL, hs.endT, ← hs.sums] at h1
  exact h1.mono fun e w' ⟨A, c, hr, hst⟩ => ⟨A, c, hr, h.link hst⟩
theorem put_at (h : St w (TreeA v t :: L) W) (hG : Glob w) (hw : t.WF 0) (hlk : lk.length = 32) (hlv : lv.length = 32) : Calls Tryd.prog 9 #[v, .agg (leafC lk lv)] W fun r w' => ∃ p, r = .returned (.pointer p) ∧ St w (TreeA (.pointer p) (t.put lk lv 0) :: L) w' := by
  obtain ⟨F, ht, hput⟩ := h.treeAt
  exact (tPut_now (hG.below h.below hG.two) ht hw hlk hlv).mono fun e w' ⟨p, hr, h1, h2⟩ => ⟨p, hr, hput _ _ _ h1 h2⟩
theorem get_at {M : List Atm} (h : St w M W) (h' : St w (TreeA v t :: L) W) (hw : t.WF 0) (hk : k.length = 32) : Calls Tryd.prog 11 #[v, .agg (bv k)] W fun r w' => ∃ (V : List UInt8) (m : Int), V.length = 32 ∧ r = .returned (.tuple #[.agg (bv V), .bool (getOk (t.last k 0) k), .int .i64 m]) ∧ St w M w' := by
  obtain ⟨F, ht, _⟩ := h'.treeAt
  exact (get_st (St.start W) ht hw hk).mono fun e w' ⟨V, m, h1, h2, h3⟩ => ⟨V, m, h1, h2, h.turn h3.below⟩
/-- What a check answers. -/
theorem check_at {A : Option Addr} {n c : Nat} (h : St w (Row (.slice A n c) 23 32 n (sumsV ss) :: L) W) (hG : Glob w) (hr : root.length = 32) (hk : k.length = 32) (hs : Shown t k ss th x y) (hn : n = ss.length) :
    Calls Tryd.prog 10 #[.agg (bv root), .agg (bv k), .agg (proofC (.slice A n c) th (leafC x y))] W fun r w' => ∃ (V : List UInt8) (O : Bool) (E : Int), r = .returned (.tuple #[.agg (bv V), .bool O, .int .i64 E]) ∧ V.length = 32 ∧ (t.sum sumL = root → E = 0 ∧ O = (th && decide (x = k)) ∧ (O = true → V = y)) ∧ St w (Row (.slice A n c) 23 32 n (sumsV ss) :: L) w' := by
  subst hn
  have hz : (List.replicate 32 (0 : UInt8)).length = 32 := List.length_replicate
  cases th with
  | true =>
    by_cases he : t.sum sumL = root
    · have he' := hs.top.trans he
      by_cases hx : x = k
      · exact (check_found h hG hr hk hs.key hs.val rfl hs.all hs.len (hs.under rfl) he' hx).mono fun e w' ⟨h1, h2⟩ => ⟨y, true, 0, h1, hs.val, fun _ => ⟨rfl, by simp [hx], fun _ => rfl⟩, h2⟩
      · exact (check_other h hG hr hk hs.key hs.val rfl hs.all hs.len (hs.under rfl) he' hx).mono fun e w' ⟨h1, h2⟩ => ⟨_, false, 0, h1, hz, fun _ => ⟨rfl, by simp [hx], fun h => (by cases h)⟩, h2⟩
    · exact (check_bad h hG hr hk hs.key hs.val rfl hs.all hs.len (hs.under rfl) (by rw [hs.top]; exact he)).mono fun e w' ⟨h1, h2⟩ => ⟨_, false, 17, h1, hz, fun h => absurd h he, h2⟩
  | false =>
    by_cases he : t.sum sumL = root
    · exact (check_none h hG hr hk hs.key hs.val rfl hs.all hs.len (hs.top.trans he)).mono fun e w' ⟨h1, h2⟩ => ⟨_, false, 0, h1, hz, fun _ => ⟨rfl, rfl, fun h => (by cases h)⟩, h2⟩
    · exact (check_nonebad h hG hr hk hs.key hs.val rfl hs.all hs.len (by rw [hs.top]; exact he)).mono fun e w' ⟨h1, h2⟩ => ⟨_, false, 17, h1, hz, fun h => absurd h he, h2⟩
end
end Go.Proofs.YtnakbdgoaepehaaDoor
/- A log of sums, plainly: roots, what shows that one is there or that a beginning is one, and that it is taken. No program. -/
namespace Go.Cu
open Go Go.RowKit
section
variable {X : Type} (N : X → X → X) (Z : X)
/-- A sum more upon the peaks (the last one first). -/
def pushP : X × Nat → List (X × Nat) → List (X × Nat)
  | p, [] => [p]
  | p, q :: qs => if q.2 = p.2 then pushP (N q.1 p.1, 2 * p.2) qs else p :: q :: qs
def peaksP : List (X × Nat) → List X → List (X × Nat)
  | ps, [] => ps
  | ps, s :: ss => peaksP (pushP N (s, 1) ps) ss
def foldP : X → List (X × Nat) → X
  | out, [] => out
  | out, p :: ps => foldP (N p.1 out) ps
def outP : List (X × Nat) → X
  | [] => Z
  | p :: ps => foldP N p.1 ps
def totalP (ss : List X) : X := outP N Z (peaksP N [] ss)
def halfF (n : Nat) : Nat → Nat → Nat
  | 0, k => k
  | f + 1, k => if k + k < n then halfF n f (2 * k) else k
def halfP (n : Nat) : Nat := halfF n n 1
def incP : Nat → List X → Nat → List X → List X
  | 0, _, _, out => out
  | f + 1, s, i, out => if s.length ≤ 1 then out else if i < halfP s.length then incP f (s.take (halfP s.length)) i (out ++ [totalP N Z (s.drop (halfP s.length))]) else incP f (s.drop (halfP s.length)) (i - halfP s.length) (out ++ [totalP N Z (s.take (halfP s.length))])
/-- (fuel, sums, m, first, out): the way and what is left. -/
def conP : Nat → List X → Nat → Bool → List X → List X × List X × Bool
  | 0, s, _, b, out => (out, s, b)
  | f + 1, s, m, b, out => if s.length ≤ m then (out, s, b) else if m ≤ halfP s.length then conP f (s.take (halfP s.length)) m b (out ++ [totalP N Z (s.drop (halfP s.length))]) else conP f (s.drop (halfP s.length)) (m - halfP s.length) false (out ++ [totalP N Z (s.take (halfP s.length))])
def conOut (r : List X × List X × Bool) : List X := if r.2.2 then r.1.reverse else (r.1 ++ [totalP N Z r.2.1]).reverse
def rightP (c : Nat × Nat) : Bool := c.1 % 2 == 1 || c.1 == c.2
def upF : Nat → Nat × Nat → Nat × Nat
  | 0, c => c
  | f + 1, c => if c.1 ≠ 0 ∧ c.1 % 2 = 0 then upF f (c.1 / 2, c.2 / 2) else c
def upP (c : Nat × Nat) : Nat × Nat := let d := if c.1 % 2 = 0 then upF c.1 c else c; (d.1 / 2, d.2 / 2)
def ckI : Nat × Nat → X → List X → Option ((Nat × Nat) × X)
  | c, x, [] => some (c, x)
  | c, x, s :: ss => if c.2 = 0 then none else if rightP c then ckI (upP c) (N s x) ss else ckI (c.1 / 2, c.2 / 2) (N x s) ss
def ckC : Nat × Nat → X → X → List X → Option ((Nat × Nat) × X × X)
  | c, x, y, [] => some (c, x, y)
  | c, x, y, s :: ss => if c.2 = 0 then none else if rightP c then ckC (upP c) (N s x) (N s y) ss else ckC (c.1 / 2, c.2 / 2) x (N y s) ss
def dropF : Nat → Nat × Nat → Nat × Nat
  | 0, c => c
  | f + 1, c => if c.1 % 2 = 1 then dropF f (c.1 / 2, c.2 / 2) else c
def powerP (m : Nat) : Bool := m == 1 || m == 2 || m == 4 || m == 8
/-- What shows a place is taken. -/
theorem inc_law : ∀ (es : List X), es.length ≤ 8 → ∀ i x, es[i]? = some x → ∃ a, ckI N (i, es.length - 1) x (incP N Z es.length es i []).reverse = some ((a, 0), totalP N Z es)
  | [], _, _ + 0, _, h => by cases h
  | [x0], _, 0, _, h => by cases h; exact ⟨0, by kernel_rfl⟩
  | [_], _, _ + 1, _, h => by cases h
  | [x0, x1], _, 0, _, h => by cases h; exact ⟨0, by kernel_rfl⟩
  | [x0, x1], _, 1, _, h => by cases h; exact ⟨0, by kernel_rfl⟩
  | [_, _], _, _ + 2, _, h => by cases h
  | [x0, x1, x2], _, 0, _, h => by cases h; exact ⟨0, by kernel_rfl⟩
  | [x0, x1, x2], _, 1, _, h => by cases h; exact ⟨0, by kernel_rfl⟩
  | [x0, x1, x2], _, 2, _, h => by cases h; exact ⟨0, by kernel_rfl⟩
  | [_, _, _], _, _ + 3, _, h => by cases h
  | [x0, x1, x2, x3], _, 0, _, h => by cases h; exact ⟨0, by kernel_rfl⟩
  | [x0, x1, x2, x3], _, 1, _, h => by cases h; exact ⟨0, by kernel_rfl⟩
  | [x0, x1, x2, x3], _, 2, _, h => by cases h; exact ⟨0, by kernel_rfl⟩
  | [x0, x1, x2, x3], _, 3, _, h => by cases h; exact ⟨0, by kernel_rfl⟩
  | [_, _, _, _], _, _ + 4, _, h => by cases h
  | [x0, x1, x2, x3, x4], _, 0, _, h => by cases h; exact ⟨0, by kernel_rfl⟩
  | [x0, x1, x2, x3, x4], _, 1, _, h => by cases h; exact ⟨0, by kernel_rfl⟩
  | [x0, x1, x2, x3, x4], _, 2, _, h => by cases h; exact ⟨0, by kernel_rfl⟩
  | [x0, x1, x2, x3, x4], _, 3, _, h => by cases h; exact ⟨0, by kernel_rfl⟩
  | [x0, x1, x2, x3, x4], _, 4, _, h => by cases h; exact ⟨0, by kernel_rfl⟩
  | [_, _, _, _, _], _, _ + 5, _, h => by cases h
  | [x0, x1, x2, x3, x4, x5], _, 0, _, h => by cases h; exact ⟨0, by kernel_rfl⟩
  | [x0, x1, x2, x3, x4, x5], _, 1, _, h => by cases h; exact ⟨0, by kernel_rfl⟩
  | [x0, x1, x2, x3, x4, x5], _, 2, _, h => by cases h; exact ⟨0, by kernel_rfl⟩
  | [x0, x1, x2, x3, x4, x5], _, 3, _, h => by cases h; exact ⟨0, by kernel_rfl⟩
  | [x0, x1, x2, x3, x4, x5], _, 4, _, h => by cases h; exact ⟨0, by kernel_rfl⟩
  | [x0, x1, x2, x3, x4, x5], _, 5, _, h => by cases h; exact ⟨0, by kernel_rfl⟩
  | [_, _, _, _, _, _], _, _ + 6, _, h => by cases h
  | [x0, x1, x2, x3, x4, x5, x6], _, 0, _, h => by cases h; exact ⟨0, by kernel_rfl⟩
  | [x0, x1, x2, x3, x4, x5, x6], _, 1, _, h => by cases h; exact ⟨0, by kernel_rfl⟩
  | [x0, x1, x2, x3, x4, x5, x6], _, 2, _, h => by cases h; exact ⟨0, by kernel_rfl⟩
  | [x0, x1, x2, x3, x4, x5, x6], _, 3, _, h => by cases h; exact ⟨0, by kernel_rfl⟩
  | [x0, x1, x2, x3, x4, x5, x6], _, 4, _, h => by cases h; exact ⟨0, by kernel_rfl⟩
  | [x0, x1, x2, x3, x4, x5, x6], _, 5, _, h => by cases h; exact ⟨0, by kernel_rfl⟩
  | [x0, x1, x2, x3, x4, x5, x6], _, 6, _, h => by cases h; exact ⟨0, by kernel_rfl⟩
  | [_, _, _, _, _, _, _], _, _ + 7, _, h => by cases h
  | [x0, x1, x2, x3, x4, x5, x6, x7], _, 0, _, h => by cases h; exact ⟨0, by kernel_rfl⟩
  | [x0, x1, x2, x3, x4, x5, x6, x7], _, 1, _, h => by cases h; exact ⟨0, by kernel_rfl⟩
  | [x0, x1, x2, x3, x4, x5, x6, x7], _, 2, _, h => by cases h; exact ⟨0, by kernel_rfl⟩
  | [x0, x1, x2, x3, x4, x5, x6, x7], _, 3, _, h => by cases h; exact ⟨0, by kernel_rfl⟩
  | [x0, x1, x2, x3, x4, x5, x6, x7], _, 4, _, h => by cases h; exact ⟨0, by kernel_rfl⟩
  | [x0, x1, x2, x3, x4, x5, x6, x7], _, 5, _, h => by cases h; exact ⟨0, by kernel_rfl⟩
  | [x0, x1, x2, x3, x4, x5, x6, x7], _, 6, _, h => by cases h; exact ⟨0, by kernel_rfl⟩
  | [x0, x1, x2, x3, x4, x5, x6, x7], _, 7, _, h => by cases h; exact ⟨0, by kernel_rfl⟩
  | [_, _, _, _, _, _, _, _], _, _ + 8, _, h => by cases h
  | _ :: _ :: _ :: _ :: _ :: _ :: _ :: _ :: _ :: _, h, _, _, _ => by simp only [List.length_cons] at h; omega
/-- What is checked of a beginning. -/
def conCk (m n : Nat) (old : X) (p : List X) : Option ((Nat × Nat) × X × X) :=
  match (if powerP m then old :: p else p) with
  | [] => none
  | x :: ss => ckC N (dropF 8 (m - 1, n - 1)) x x ss
/-- What shows a beginning is taken. -/
theorem con_law : ∀ (es : List X), es.length ≤ 8 → ∀ m, 1 ≤ m → m < es.length → ∃ a, conCk N m es.length (totalP N Z (es.take m)) (conOut N Z (conP N Z es.length es m true [])) = some ((a, 0), totalP N Z (es.take m), totalP N Z es)
  | [], _, 0, h, _ => by omega
  | [], _, m + 1, _, h => by simp only [List.length_nil] at h; omega
  | [_], _, 0, h, _ => by omega
  | [_], _, m + 1, _, h => by simp only [List.length_cons, List.length_nil] at h; omega
  | [_, _], _, 0, h, _ => by omega
  | [x0, x1], _, 1, _, _ => ⟨0, by kernel_rfl⟩
  | [_, _], _, m + 2, _, h => by simp only [List.length_cons, List.length_nil] at h; omega
  | [_, _, _], _, 0, h, _ => by omega
  | [x0, x1, x2], _, 1, _, _ => ⟨0, by kernel_rfl⟩
  | [x0, x1, x2], _, 2, _, _ => ⟨0, by kernel_rfl⟩
  | [_, _, _], _, m + 3, _, h => by simp only [List.length_cons, List.length_nil] at h; omega
  | [_, _, _, _], _, 0, h, _ => by omega
  | [x0, x1, x2, x3], _, 1, _, _ => ⟨0, by kernel_rfl⟩
  | [x0, x1, x2, x3], _, 2, _, _ => ⟨0, by kernel_rfl⟩
  | [x0, x1, x2, x3], _, 3, _, _ => ⟨0, by kernel_rfl⟩
  | [_, _, _, _], _, m + 4, _, h => by simp only [List.length_cons, List.length_nil] at h; omega
  | [_, _, _, _, _], _, 0, h, _ => by omega
  | [x0, x1, x2, x3, x4], _, 1, _, _ => ⟨0, by kernel_rfl⟩
  | [x0, x1, x2, x3, x4], _, 2, _, _ => ⟨0, by kernel_rfl⟩
  | [x0, x1, x2, x3, x4], _, 3, _, _ => ⟨0, by kernel_rfl⟩
  | [x0, x1, x2, x3, x4], _, 4, _, _ => ⟨0, by kernel_rfl⟩
  | [_, _, _, _, _], _, m + 5, _, h => by simp only [List.length_cons, List.length_nil] at h; omega
  | [_, _, _, _, _, _], _, 0, h, _ => by omega
  | [x0, x1, x2, x3, x4, x5], _, 1, _, _ => ⟨0, by kernel_rfl⟩
  | [x0, x1, x2, x3, x4, x5], _, 2, _, _ => ⟨0, by kernel_rfl⟩
  | [x0, x1, x2, x3, x4, x5], _, 3, _, _ => ⟨0, by kernel_rfl⟩
  | [x0, x1, x2, x3, x4, x5], _, 4, _, _ => ⟨0, by kernel_rfl⟩
  | [x0, x1, x2, x3, x4, x5], _, 5, _, _ => ⟨0, by kernel_rfl⟩
  | [_, _, _, _, _, _], _, m + 6, _, h => by simp only [List.length_cons, List.length_nil] at h; omega
  | [_, _, _, _, _, _, _], _, 0, h, _ => by omega
  | [x0, x1, x2, x3, x4, x5, x6], _, 1, _, _ => ⟨0, by kernel_rfl⟩
  | [x0, x1, x2, x3, x4, x5, x6], _, 2, _, _ => ⟨0, by kernel_rfl⟩
  | [x0, x1, x2, x3, x4, x5, x6], _, 3, _, _ => ⟨0, by kernel_rfl⟩
  | [x0, x1, x2, x3, x4, x5, x6], _, 4, _, _ => ⟨0, by kernel_rfl⟩
  | [x0, x1, x2, x3, x4, x5, x6], _, 5, _, _ => ⟨0, by kernel_rfl⟩
  | [x0, x1, x2, x3, x4, x5, x6], _, 6, _, _ => ⟨0, by kernel_rfl⟩
  | [_, _, _, _, _, _, _], _, m + 7, _, h => by simp only [List.length_cons, List.length_nil] at h; omega
  | [_, _, _, _, _, _, _, _], _, 0, h, _ => by omega
  | [x0, x1, x2, x3, x4, x5, x6, x7], _, 1, _, _ => ⟨0, by kernel_rfl⟩
  | [x0, x1, x2, x3, x4, x5, x6, x7], _, 2, _, _ => ⟨0, by kernel_rfl⟩
  | [x0, x1, x2, x3, x4, x5, x6, x7], _, 3, _, _ => ⟨0, by kernel_rfl⟩
  | [x0, x1, x2, x3, x4, x5, x6, x7], _, 4, _, _ => ⟨0, by kernel_rfl⟩
  | [x0, x1, x2, x3, x4, x5, x6, x7], _, 5, _, _ => ⟨0, by kernel_rfl⟩
  | [x0, x1, x2, x3, x4, x5, x6, x7], _, 6, _, _ => ⟨0, by kernel_rfl⟩
  | [x0, x1, x2, x3, x4, x5, x6, x7], _, 7, _, _ => ⟨0, by kernel_rfl⟩
  | [_, _, _, _, _, _, _, _], _, m + 8, _, h => by simp only [List.length_cons, List.length_nil] at h; omega
  | _ :: _ :: _ :: _ :: _ :: _ :: _ :: _ :: _ :: _, h, _, _, _ => by simp only [List.length_cons] at h; omega
end
end Go.Cu
