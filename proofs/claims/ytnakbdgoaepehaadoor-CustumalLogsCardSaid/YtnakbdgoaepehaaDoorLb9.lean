/- Part 9 of the texts below this law, put together: what each holds is said at its head. -/
import Derived.Test.YtnakbdgoaepehaaDoorLb8
import Derived.Deep.CutBlock
import Derived.Deep.DeepCutAuto
/- That a beginning is one, checked: a power of two. -/
namespace Go.Proofs.YtnakbdgoaepehaaDoor
open Go.RowKit Go.Cu
section
variable {w : World}
set_option maxRecDepth 20000 in
set_option maxHeartbeats 16000000 in
theorem ckC_P (hG : Glob w) {A : Option Addr} {q c m n a : Nat} {old root : List UInt8} {ps : List (List UInt8)} (hin : SumsAt w A ps) (ha : All32 ps) (hq : q = ps.length) (h10 : q ≤ 10) (hc : q ≤ c) (ho : old.length = 32) (hr : root.length = 32) (h1 : 1 ≤ m) (hm : m < n) (h8 : n ≤ 8) (hpw : powerP m = true) (hck : conCk nodeL m n old ps = some ((a, 0), old, root)) :
    Calls Tryd.prog 29 #[.int .i64 m, .int .i64 n, .slice A q c, .agg (bv old), .agg (bv root)] w fun r w' => r = .returned (.int .i64 0) ∧ Below w.heap.size w w' := by
  have HGL := hid hG
  have HA := hid ha
  have HIN := hid hin
  have HQ := hid hq
  have HCC := hid hc
  have HRL := hid hr
  have HOO := hid ho
  have HRZ := hid (show (bv root).size = 32 from (bv_size root).trans hr)
  have HOZ := hid (show (bv old).size = 32 from (bv_size old).trans ho)
  have HOL := hid (show (bvL old).length = 32 by rw [bvL_len, ho])
  have HZ32 := hid zero32_size
  obtain ⟨i23, hi', hiz, his, hib⟩ := info_parts infoSum
  have HI := hid (And.intro hi' (And.intro hiz (And.intro his hib)))
  have HMN := hid (And.intro h1 (And.intro hm h8))
  have m0 : ¬ (m : Int) < 0 := by omega
  have m1 : ¬ (n : Int) < (m : Int) := by omega
  have m2 : ¬ (m : Int) = 0 := by omega
  have m3 : ((m : Int) == 0) = false := by simp; omega
  have m4 : (m == 0) = false := by simp; omega
  have m5 : ¬ (m : Int) = (n : Int) := by omega
  have m6 : ((m : Int) == (n : Int)) = false := by simp; omega
  have m7 : (m == n) = false := by simp; omega
  have m8 : (1 : Int) ≤ (m : Int) := by omega
  have m9 : (m : Int) ≤ 8 := by omega
  have n1 : (1 : Int) ≤ (n : Int) := by omega
  have n2 : (n : Int) ≤ 8 := by omega
  have q10 : (q : Int) ≤ 10 := by omega
  have q0 : (0 : Int) ≤ (q : Int) := by omega
  have bn2 : decide (n < m) = false := decide_eq_false (by omega)
  have hnn : #[Value.int .i64 ((m : Int) - 1), .int .i64 ((n : Int) - 1)] = clC (m - 1, n - 1) := by
    unfold clC
    rw [show ((m : Int) - 1) = (((m - 1 : Nat)) : Int) by omega, show ((n : Int) - 1) = (((n - 1 : Nat)) : Int) by omega]
  have HNN := hid hnn
  clear hi' hiz his hib hnn hc
  have HPO := hid (fun X => power_now (w := X) (m := m) h1 (by omega))
  rw [hpw] at HPO
  obtain ⟨k, hk⟩ : ∃ k, k = q := ⟨_, rfl⟩
  subst hk
  obtain ⟨y, hy⟩ : ∃ y, y = old := ⟨_, rfl⟩
  obtain ⟨ss, hss⟩ : ∃ ss, ss = ps := ⟨_, rfl⟩
  have HCK := hid (show ckC nodeL (dropF 8 (m - 1, n - 1)) y y ss = some ((a, 0), old, root) from by
    unfold conCk at hck
    rw [if_pos hpw] at hck
    rw [hy, hss]
    exact hck)
  have HAL := hid (show All32 (y :: ss) by rw [hy, hss]; exact ha.cons ho)
  have HSL := hid (show ss.length = k by rw [hss, hq])
  have HYO := hid (And.intro hy hss)
  clear hy hss hq ho hr hck ha hin hG hpw
  go_enter Tryd.func29, Tryd.ntmps29
  go_upto_region 7 with (first | (refine wpList_box rfl 23 (.tmp 3) rfl (.agg (bv old)) rfl ?_; intro g8 W1 h1 hl1 hg1 hW1; have H1 := hid ((St.start w).newBlk hW1 hg1 h1); clear h1 hl1 hg1 hW1) | (refine wpList_box rfl 23 (.tmp 4) rfl (.agg (bv root)) rfl ?_; intro g9 W1 h1 hl1 hg1 hW1; have H2 := hid (H1.out.newBlk hW1 hg1 h1); have L8 := run_loadK_box (P := Tryd.prog) H2.out.at2.blk Tryd.underlying23 rfl size54s HOZ.out; clear h1 hl1 hg1 hW1) | (go_at_call 53; (with_reducible refine (HPO.out _).mono ?_); rintro r w3 ⟨rfl, rfl⟩) | (refine wpList_buildSlice1 _ rfl (.agg (bv old)) (by simp [Act.eval]) rfl Tryd.underlying28 zero54s size54s (by decide) (by decide) HOZ.out ?_; intro gn X4 hS hgs hges hX1b; have H3 := hid (H2.out.newRow1 (e := 23) (s := 32) hX1b hges hS (bvL old) (show (bv old).toList = bvL old by rw [bv_eq]) HOL.out); clear hS hgs hges hX1b L8) | (refine wpList_append_sums _ _ _ rfl (.slice (some ⟨gn, 0, none⟩) 1 1) rfl A k c rfl rfl 23 i23 (.agg (bv (List.replicate 32 0))) Tryd.underlying28 HI.out.1 HI.out.2.1 HI.out.2.2.1 HI.out.2.2.2 HZ32.out 1 (bvL old) H3.out.row ps (HIN.out.below H3.out.below) HA.out HQ.out.symm (by omega) ?_; intro v' X5 hO2 hT2 hfr; have H4 := hid (H3.out.grow hO2 hT2 hfr); clear hO2 hT2 hfr; obtain ⟨A1, c1, hv', _⟩ := row_slice H4.out; subst hv'))
  obtain ⟨g, rfl⟩ := row_some H4.out (by omega)
  replace H4 := hid (show St w [Row (.slice (some ⟨g, 0, none⟩) (1 + k) c1) 23 32 (1 + k) (sumsV (y :: ss)), Blk g9 (bv root) 23, Blk g8 (bv old) 23] X5 from by rw [HYO.out.1, HYO.out.2]; exact H4.out)
  have k1 : (0 : Int) < 1 + (k : Int) := by omega
  have k2 : ¬ (1 + (k : Int)) = 0 := by omega
  have k3 : (1 : Int) ≤ 1 + (k : Int) := by omega
  have k5 : 1 ≤ 1 + k := by omega
  have k6 : ((1 + (k : Int)) == 0) = false := by simp; omega
  have kc0 := (row_room H4.out).1
  have kc : (1 + (k : Int)) ≤ (c1 : Int) := by omega
  go_wp2_with (first | (refine wpList_alloc 99 rfl rfl (.agg (clC (0, 0))) zeroClimb ?_; intro g11 W1 h1 hl1 hg1 hW1; have H5 := hid (H4.out.newBlk hW1 hg1 h1); clear h1 hl1 hg1 hW1) | (refine wpList_store_box 99 _ _ rfl g11 rfl rfl #[.int .i64 ((m : Int) - 1), .int .i64 ((n : Int) - 1)] rfl 2 sizeClimb rfl (by rw [HNN.out]; exact clC_one _) 99 _ H5.out.blk rfl ?_; intro W7 hB7 hT7 hs7; rw [HNN.out] at hB7; have H6 := hid (H5.out.put hB7 hT7); clear hB7 hT7 hs7))
  clear H1 H2 H3 H4 H5
  have HSA := hid (fun (X : World) (hX : St w [Row (.slice (some ⟨g, 0, none⟩) (1 + k) c1) 23 32 (1 + k) (sumsV (y :: ss)), Blk g9 (bv root) 23, Blk g8 (bv old) 23] X) => show SumsAt X (some ⟨g, 0, none⟩) (y :: ss) from sums_row hX HAL.out)
  have HSD := hid (fun (X : World) (hX : St w [Row (.slice (some ⟨g, 0, none⟩) (1 + k) c1) 23 32 (1 + k) (sumsV (y :: ss)), Blk g9 (bv root) 23, Blk g8 (bv old) 23] X) => show SumsAt X (some ⟨g, 32, none⟩) ss from (HSA.out X hX).drop 1 _ (by omega))
  have HAS := hid (show All32 ss from fun x hx => HAL.out x (List.mem_cons_of_mem _ hx))
  have HYL := hid (HAL.out y (by simp))
  have HFC := hid (fun (X : World) (ca cl : Nat) (M : List Atm) (hX : St w (Blk g11 (clC (ca, cl)) 99 :: M) X) => show X.cell? ⟨g11, 0, none⟩ = some (.int .i64 (ca : Int)) ∧ X.cell? ⟨g11, 1, none⟩ = some (.int .i64 (cl : Int)) ∧ (loadK 99 (.pointer (some ⟨g11, 0, none⟩))).run Tryd.prog X = .ok (.value (.agg (clC (ca, cl)))) X from ⟨(blk_cell hX 0).trans rfl, (blk_cell hX 1).trans rfl, run_loadK_box (P := Tryd.prog) hX.blk Tryd.underlying99 rfl sizeClimb rfl⟩)
  go_simp
  go_loopw [52] (fun _ X => ∃ (ca cl f : Nat), Hid (dropF f (ca, cl) = dropF 8 (m - 1, n - 1)) ∧ ca ≤ f ∧ ca ≤ 8 ∧ cl ≤ 8 ∧ Hid (St w [Blk g11 (clC (ca, cl)) 99, Row (.slice (some ⟨g, 0, none⟩) (1 + k) c1) 23 32 (1 + k) (sumsV (y :: ss)), Blk g9 (bv root) 23, Blk g8 (bv old) 23] X)) (fun _ X => (intOf ((X.cell? ⟨g11, 0, none⟩).getD undef)).toNat)
  case atStart => exact ⟨m - 1, n - 1, 8, hid rfl, by have := HMN.out; omega, by have := HMN.out; omega, by have := HMN.out; omega, H6⟩
  case round =>
    clear H6
    obtain ⟨ca, cl, f, HD, hf, hca, hcl, H2⟩ := hrel
    have pa0 : (0 : Int) ≤ (ca : Int) := by omega
    have pa1 : (ca : Int) ≤ 8 := by omega
    have pl1 : (0 : Int) ≤ (cl : Int) := by omega
    have pl2 : (cl : Int) ≤ 8 := by omega
    obtain ⟨x0, x1, LCx⟩ := HFC.out _ _ _ _ H2.out
    clear LCx
    by_cases hodd : ca % 2 = 1
    · have e2 : bits .and .i64 (ca : Int) 1 = 1 := (Go.Proofs.and_one _ (by omega)).trans (by omega)
      have HO := hid (And.intro hodd hf)
      have HCB := hid (And.intro hca hcl)
      clear hodd hf hca hcl
      go_wp2_with (refine wpList_store_box 99 _ _ rfl g11 rfl rfl (clC (ca / 2, cl / 2)) rfl 2 sizeClimb rfl (clC_one _) 99 _ H2.out.blk rfl ?_; intro W9 hB9 hT9 hs9; have H3 := hid (H2.out.put hB9 hT9); clear hB9 hT9 hs9)
      have HX0 := hid x0
      have HX4 := hid (HFC.out _ _ _ _ H3.out).1
      clear x0 x1
      go_simp
      go_roundw
      case rel => exact ⟨ca / 2, cl / 2, f - 1, hid (by
        rw [← HD.out]
        obtain ⟨f', rfl⟩ : ∃ f', f = f' + 1 := ⟨f - 1, by have := HO.out; omega⟩
        exact (dropF_odd (c := (ca, cl)) HO.out.1).symm), by have := HO.out; omega, by have := HCB.out; omega, by have := HCB.out; omega, H3⟩
      case measure =>
        rw [HX4.out, HX0.out]
        have := HO.out
        show max (((ca / 2 : Nat) : Int)) 0 < (ca : Int)
        omega
    · have e2 : bits .and .i64 (ca : Int) 1 = 0 := (Go.Proofs.and_one _ (by omega)).trans (by omega)
      have HCK2 := hid (show ckC nodeL (ca, cl) y y ss = some ((a, 0), old, root) from by
        rw [← HCK.out, ← HD.out, dropF_even hodd])
      have HC12 := hid (fun (X : World) (hX : St w [Blk g11 (clC (ca, cl)) 99, Row (.slice (some ⟨g, 0, none⟩) (1 + k) c1) 23 32 (1 + k) (sumsV (y :: ss)), Blk g9 (bv root) 23, Blk g8 (bv old) 23] X) => show (loadK 23 (.pointer (some ⟨g, 0, none⟩))).run Tryd.prog X = .ok (.value (.agg (bv y))) X from by
        obtain ⟨g', o', e', h'⟩ := (HSA.out X hX.drop).load (P := Tryd.prog) (t := 23) HAL.out (i := 0) (s := y) rfl Tryd.underlying23 rfl size54s
        cases e'
        exact h' _ (by omega))
      have HYZ0 := hid (show (bv y).size = 32 from (bv_size y).trans HYL.out)
      clear HD hf
      go_upto_region 12 with fail
      clear x0 x1 e2
      refine wp_region_segs [.ord [(0, 1), (1, 1), (2, 1), (3, 1), (4, 1), (5, 1)], .blk [(6, []), (7, [])], .ord [(8, 2), (9, 2)]] (fun X => St w [Blk g11 (clC (ca, cl)) 99, Row (.slice (some ⟨g, 0, none⟩) (1 + k) c1) 23 32 (1 + k) (sumsV (y :: ss)), Blk g9 (bv root) 23, Blk g8 (bv old) 23] X) (by kernel_rfl) (by kernel_rfl) (fun d _ c _ _ h => by cases d <;> exact h) (H2.out.turn (Below.drew (Below.refl _ _))) (fun X hXe hX => ?_)
      have H3 := H2.out.turn (Below.drew (Below.refl _ _))
      rw [← hXe] at H3
      replace H3 := hid H3
      clear hXe
      refine wpSegs_ord fun F1 hF1 => ?_
      clear hX H2
      iterate 6 (apply wpOrd_class; ((· first | (rw [List.getElem?_toArray, List.getElem?_cons_zero]; done) | (simp only [List.getElem?_toArray, List.getElem?_cons_succ, List.getElem?_cons_zero]; exact rfl))); (· exact rfl); intro K hK; apply Exists.intro; refine And.intro (fun X' hX' => ?_) ?_; (· have hq := HC12.out _ hX'; clear hX'; go_simp; (try go_bits); first | done | exact rfl | exact ⟨rfl, rfl⟩); go_simp; refine hK _ _ ?_; clear hK K)
      have hs := H3.out
      refine wpOrd_to (hF1 _ _ ?_)
      clear hF1 F1
      refine wpSegs_blk fun F2 hF2 => ?_
      refine bulk_intro (fun a0 done a' w' => ∃ (x v : Value) (g12 g13 : Nat), a' = (a0.put (some 12) x).put (some 13) v ∧ (done 6 = true → x = .pointer (some ⟨g12, 0, none⟩)) ∧ (done 7 = true → v = .pointer (some ⟨g13, 0, none⟩)) ∧ St w (optA (done 6) (Blk g12 (bv (List.replicate 32 0)) 23) ++ (optA (done 7) (Blk g13 (bv (List.replicate 32 0)) 23) ++ [Blk g11 (clC (ca, cl)) 99, Row (.slice (some ⟨g, 0, none⟩) (1 + k) c1) 23 32 (1 + k) (sumsV (y :: ss)), Blk g9 (bv root) 23, Blk g8 (bv old) 23])) w') ?_ ?_ ?_
      · intro done hd
        have d0 := hd (6, []) (by simp)
        have d1 := hd (7, []) (by simp)
        refine ⟨undef, undef, 0, 0, rfl, fun h => (by rw [d0] at h; cases h), fun h => (by rw [d1] at h; cases h), ?_⟩
        simp only [d0, d1]
        exact hs
      · rintro p hp done a' w' h1 h2 ⟨x, v, g12, g13, rfl, hx0, hy1, hst⟩
        clear hs
        simp only [List.mem_cons, List.not_mem_nil, or_false] at hp
        rcases hp with rfl | rfl
        · refine ⟨_, rfl, fun N hN => ?_⟩
          refine wpList_alloc 23 rfl rfl (.agg (bv (List.replicate 32 0))) zero54s ?_
          intro gq W1 hg hgl hgs hW1
          simp only [h1] at hst
          have h6 := St.newBlk (show St w (optA (done 7) (Blk g13 (bv (List.replicate 32 0)) 23) ++ [Blk g11 (clC (ca, cl)) 99, Row (.slice (some ⟨g, 0, none⟩) (1 + k) c1) 23 32 (1 + k) (sumsV (y :: ss)), Blk g9 (bv root) 23, Blk g8 (bv old) 23]) w' from hst) hW1 hgs hg
          refine wpList_then (hN _ _ (fun _ => h6.drop.sub) ⟨.pointer (some ⟨gq, 0, none⟩), v, gq, g13, rfl, fun _ => rfl, fun h => hy1 (by simpa using h), ?_⟩)
          exact h6
        · refine ⟨_, rfl, fun N hN => ?_⟩
          refine wpList_alloc 23 rfl rfl (.agg (bv (List.replicate 32 0))) zero54s ?_
          intro gq W1 hg hgl hgs hW1
          simp only [h1] at hst
          have h6 := St.newBlk (show St w (optA (done 6) (Blk g12 (bv (List.replicate 32 0)) 23) ++ [Blk g11 (clC (ca, cl)) 99, Row (.slice (some ⟨g, 0, none⟩) (1 + k) c1) 23 32 (1 + k) (sumsV (y :: ss)), Blk g9 (bv root) 23, Blk g8 (bv old) 23]) w' from hst) hW1 hgs hg
          refine wpList_then (hN _ _ (fun _ => h6.drop.sub) ⟨x, .pointer (some ⟨gq, 0, none⟩), g12, gq, rfl, fun h => hx0 (by simpa using h), fun _ => rfl, ?_⟩)
          exact h6.unmidA
      · rintro done a' w' hd ⟨x, v, g12, g13, rfl, hx0, hy1, hst⟩
        obtain rfl := hx0 (hd (6, []) (by simp))
        obtain rfl := hy1 (hd (7, []) (by simp))
        rw [hd (6, []) (by simp), hd (7, []) (by simp)] at hst
        clear hx0 hy1 hd hs
        refine hF2 _ _ ?_
        clear hF2 F2
        refine wpSegs_ord fun F3 hF3 => ?_
        have H4 := hid (show St w [Blk g12 (bv (List.replicate 32 0)) 23, Blk g13 (bv (List.replicate 32 0)) 23, Blk g11 (clC (ca, cl)) 99, Row (.slice (some ⟨g, 0, none⟩) (1 + k) c1) 23 32 (1 + k) (sumsV (y :: ss)), Blk g9 (bv root) 23, Blk g8 (bv old) 23] w' from hst)
        clear hst
        go_simp
        (apply wpOrd_comes; ((· first | (rw [List.getElem?_toArray, List.getElem?_cons_zero]; done) | (simp only [List.getElem?_toArray, List.getElem?_cons_succ, List.getElem?_cons_zero]; exact rfl))); intro N hN)
        go_wp2_with (refine wpList_store_box 23 _ _ rfl g12 rfl rfl (bv y) rfl 32 size54s HYZ0.out (bv_one _) 23 _ H4.out.blk HZ32.out ?_; intro W8 hB8 hT8 hs8; have H5 := hid (H4.out.put hB8 hT8); clear hB8 hT8 hs8)
        refine hN _ _ (fun _ => H5.out.drop.drop) ?_
        clear hN N
        (apply wpOrd_comes; ((· first | (rw [List.getElem?_toArray, List.getElem?_cons_zero]; done) | (simp only [List.getElem?_toArray, List.getElem?_cons_succ, List.getElem?_cons_zero]; exact rfl))); intro N hN)
        go_wp2_with (refine wpList_store_box 23 _ _ rfl g13 rfl rfl (bv y) rfl 32 size54s HYZ0.out (bv_one _) 23 _ H5.out.at2.blk HZ32.out ?_; intro W8 hB8 hT8 hs8; have H6 := hid (H5.out.at2.put hB8 hT8).at2; clear hB8 hT8 hs8)
        refine hN _ _ (fun _ => H6.out.drop.drop) ?_
        clear hN N
        refine wpOrd_to (hF3 _ _ (wpSegs_nil ?_))
        clear hF3 F3
        have HC0 := hid (And.intro hca hcl)
        by_cases hcc : c1 = 1
        · have hk0 : k = 0 := by omega
          have hcc' : (c1 == 1) = true := by simp [hcc]
          have kn : ¬ (0 : Int) < (k : Int) := by omega
          have HE0 := hid (show ckC nodeL (ca, cl) y y [] = some ((a, 0), old, root) from by
            have h := HCK2.out
            rw [List.eq_nil_of_length_eq_zero (show ss.length = 0 by rw [HSL.out]; exact hk0)] at h
            exact h)
          go_wp2_with fail
          clear hodd hca hcl pa0 pa1 pl1 pl2 hcc hcc' hk0
          go_loopw [72] (fun iv X => iv = .int .i64 0 ∧ Hid (St w [Blk g12 (bv y) 23, Blk g13 (bv y) 23, Blk g11 (clC (ca, cl)) 99, Row (.slice (some ⟨g, 0, none⟩) (1 + k) c1) 23 32 (1 + k) (sumsV (y :: ss)), Blk g9 (bv root) 23, Blk g8 (bv old) 23] X)) (fun iv _ => 1)
          case atStart => exact ⟨rfl, H6⟩
          case round =>
            clear H3 H4 H5 H6
            obtain ⟨rfl, H2⟩ := hrel
            obtain ⟨x, hx⟩ : ∃ x, x = y := ⟨_, rfl⟩
            obtain ⟨z, hz⟩ : ∃ z, z = y := ⟨_, rfl⟩
            have HX32 := hid (show x.length = 32 by rw [hx]; exact HYL.out)
            have HY32 := hid (show z.length = 32 by rw [hz]; exact HYL.out)
            replace H2 := hid (show St w [Blk g12 (bv x) 23, Blk g13 (bv z) 23, Blk g11 (clC (ca, cl)) 99, Row (.slice (some ⟨g, 0, none⟩) (1 + k) c1) 23 32 (1 + k) (sumsV (y :: ss)), Blk g9 (bv root) 23, Blk g8 (bv old) 23] wr from by rw [hx, hz]; exact H2.out)
            have hp := HE0.out
            rw [show ckC nodeL (ca, cl) y y [] = ckC nodeL (ca, cl) x z [] by rw [hx, hz]] at hp
            clear hx hz
            have hp2 := Option.some.inj hp
            have hcl0 : cl = 0 := congrArg (fun v => v.1.2) hp2
            have hxo : x = old := congrArg (fun v => v.2.1) hp2
            have hzr : z = root := congrArg (fun v => v.2.2) hp2
            obtain ⟨x0, x1, LC⟩ := HFC.out _ _ _ _ H2.out.at3
            have L12 := run_loadK_box (P := Tryd.prog) H2.out.blk Tryd.underlying23 rfl size54s ((bv_size x).trans HX32.out)
            have L13 := run_loadK_box (P := Tryd.prog) H2.out.at2.blk Tryd.underlying23 rfl size54s ((bv_size z).trans HY32.out)
            have L9 := run_loadK_box (P := Tryd.prog) H2.out.at5.blk Tryd.underlying23 rfl size54s HRZ.out
            have L8 := run_loadK_box (P := Tryd.prog) H2.out.at6.blk Tryd.underlying23 rfl size54s HOZ.out
            have CN1 := fun (p q : Operand) (W : World) => (run_cmpK_neq (P := Tryd.prog) guardSum Tryd.underlying23 be5 cellsK HX32.out HOO.out p q W).trans (show _ = .ok (.value (.bool false)) W by simp [hxo])
            have CN2 := fun (p q : Operand) (W : World) => (run_cmpK_neq (P := Tryd.prog) guardSum Tryd.underlying23 be5 cellsK HY32.out HRL.out p q W).trans (show _ = .ok (.value (.bool false)) W by simp [hzr])
            have c9 : ((cl : Int) != 0) = false := by rw [hcl0]; rfl
            clear hp hp2 hxo hzr hcl0 x0 LC
            go_wp2_with fail
            go_ret
            exact ⟨rfl, H2.out.below⟩
        · have hcc' : (c1 == 1) = false := by simp [hcc]
          go_wp2_with fail
          clear hodd hca hcl pa0 pa1 pl1 pl2 hcc hcc'
          go_loopw [72] (fun iv X => ∃ (t ca cl : Nat) (x z : List UInt8), t ≤ k ∧ iv = .int .i64 t ∧ Hid (ckC nodeL (ca, cl) x z (ss.drop t) = some ((a, 0), old, root)) ∧ ca ≤ 8 ∧ cl ≤ 8 ∧ Hid (x.length = 32) ∧ Hid (z.length = 32) ∧ Hid (St w [Blk g12 (bv x) 23, Blk g13 (bv z) 23, Blk g11 (clC (ca, cl)) 99, Row (.slice (some ⟨g, 0, none⟩) (1 + k) c1) 23 32 (1 + k) (sumsV (y :: ss)), Blk g9 (bv root) 23, Blk g8 (bv old) 23] X)) (fun iv _ => k - (intOf iv).toNat)
          case atStart => exact ⟨0, ca, cl, y, y, by omega, rfl, hid (by rw [List.drop_zero]; exact HCK2.out), HC0.out.1, HC0.out.2, HYL, HYL, H6⟩
          case round =>
            clear H3 H4 H5 H6 HCK2 HC0 HC12
            obtain ⟨t, ca, cl, x, z, ht, rfl, HP, hca, hcl, HX32, HY32, H2⟩ := hrel
            have t0 : (0 : Int) ≤ (t : Int) := by omega
            have HXZ := hid (show (bv x).size = 32 from (bv_size x).trans HX32.out)
            have HYZ := hid (show (bv z).size = 32 from (bv_size z).trans HY32.out)
            by_cases hlt : t < k
            · have t1 : (t : Int) < (k : Int) := by omega
              obtain ⟨s, hs⟩ : ∃ s, ss[t]? = some s := ⟨_, List.getElem?_eq_getElem (by rw [HSL.out]; exact hlt)⟩
              have HS32 := hid (HAS.out s (List.mem_of_getElem? hs))
              have HSZ := hid (show (bv s).size = 32 from (bv_size s).trans HS32.out)
              have LS : (loadK 23 (.pointer (some ⟨g, 32 + t * 32, none⟩))).run Tryd.prog wr = .ok (.value (.agg (bv s))) wr := by
                obtain ⟨g', o', e', h'⟩ := (HSD.out wr H2.out.drop.drop.drop).load (P := Tryd.prog) (t := 23) HAS.out hs Tryd.underlying23 rfl size54s
                cases e'
                exact h' _ rfl
              have hp := HP.out
              obtain ⟨hsl, hse⟩ := List.getElem?_eq_some_iff.1 hs
              rw [List.drop_eq_getElem_cons hsl, hse] at hp
              obtain ⟨hcz, hp⟩ := ckC_cons hp
              have c0 : (0 : Int) ≤ (ca : Int) := by omega
              have c8 : (ca : Int) ≤ 8 := by omega
              have l1 : (1 : Int) ≤ (cl : Int) := by have h : cl ≠ 0 := hcz; omega
              have l2 : (cl : Int) ≤ 8 := by omega
              have l3 : ¬ (cl : Int) = 0 := by omega
              have l4 : ((cl : Int) == 0) = false := by simp; omega
              have l5 : (cl == 0) = false := by simp; omega
              have HCB := hid (And.intro hca hcl)
              have HF := hid (fun (X : World) (g15 : Nat) (hX : St w [Blk g15 (bv s) 23, Blk g12 (bv x) 23, Blk g13 (bv z) 23, Blk g11 (clC (ca, cl)) 99, Row (.slice (some ⟨g, 0, none⟩) (1 + k) c1) 23 32 (1 + k) (sumsV (y :: ss)), Blk g9 (bv root) 23, Blk g8 (bv old) 23] X) => show (loadK 23 (.pointer (some ⟨g15, 0, none⟩))).run Tryd.prog X = .ok (.value (.agg (bv s))) X ∧ (loadK 23 (.pointer (some ⟨g12, 0, none⟩))).run Tryd.prog X = .ok (.value (.agg (bv x))) X ∧ (loadK 23 (.pointer (some ⟨g13, 0, none⟩))).run Tryd.prog X = .ok (.value (.agg (bv z))) X from ⟨run_loadK_box (P := Tryd.prog) hX.blk Tryd.underlying23 rfl size54s HSZ.out, run_loadK_box (P := Tryd.prog) hX.at2.blk Tryd.underlying23 rfl size54s HXZ.out, run_loadK_box (P := Tryd.prog) hX.at3.blk Tryd.underlying23 rfl size54s HYZ.out⟩)
              clear hs hsl hse hcz HP
              by_cases hrb : rightP (ca, cl) = true
              · obtain ⟨sm, hsm⟩ : ∃ sm, sm = nodeL s x := ⟨_, rfl⟩
                obtain ⟨sz, hsz⟩ : ∃ sz, sz = nodeL s z := ⟨_, rfl⟩
                obtain ⟨⟨ua, ul⟩, hup⟩ : ∃ u, u = upP (ca, cl) := ⟨_, rfl⟩
                have hul := upP_le (ca, cl)
                rw [← hup] at hul
                have HUL := hid hul
                have HUPC := hid (fun X => up_now (w := X) hca hcl)
                rw [← hup] at HUPC
                have HP2 := hid (show ckC nodeL (ua, ul) sm sz (ss.drop (t + 1)) = some ((a, 0), old, root) from by
                  rw [hsm, hsz, hup]
                  rw [if_pos hrb] at hp
                  exact hp)
                have HSM32 := hid (show sm.length = 32 by rw [hsm]; exact nodeL_len _ _)
                have HSMZ := hid (show (bv sm).size = 32 from (bv_size sm).trans HSM32.out)
                have HSZ32 := hid (show sz.length = 32 by rw [hsz]; exact nodeL_len _ _)
                have HSZZ := hid (show (bv sz).size = 32 from (bv_size sz).trans HSZ32.out)
                have HLN := hid (fun (X : World) (hX : Below w.heap.size w X) => lnode_now (HGL.out.below hX HGL.out.two) HS32.out HX32.out)
                have HLN2 := hid (fun (X : World) (hX : Below w.heap.size w X) => lnode_now (HGL.out.below hX HGL.out.two) HS32.out HY32.out)
                rw [← hsm] at HLN
                rw [← hsz] at HLN2
                have HRT := hid (fun X => right_now (w := X) (a := ca) (l := cl) hca)
                rw [show rightP (ca, cl) = true from hrb] at HRT
                clear hsm hsz hup hul hp hrb hca hcl
                go_upto_region 21 with (first | (refine wpList_alloc 23 rfl rfl (.agg (bv (List.replicate 32 0))) zero54s ?_; intro g15 W1 h1 hl1 hg1 hW1; have H3 := hid (H2.out.newBlk hW1 hg1 h1); clear h1 hl1 hg1 hW1 LS) | (refine wpList_store_box 23 _ _ rfl g15 rfl rfl (bv s) rfl 32 size54s HSZ.out (bv_one _) 23 _ H3.out.blk HZ32.out ?_; intro W7 hB7 hT7 hs7; have H4 := hid (show St w [Blk g15 (bv s) 23, Blk g12 (bv x) 23, Blk g13 (bv z) 23, Blk g11 (clC (ca, cl)) 99, Row (.slice (some ⟨g, 0, none⟩) (1 + k) c1) 23 32 (1 + k) (sumsV (y :: ss)), Blk g9 (bv root) 23, Blk g8 (bv old) 23] W7 from H3.out.put hB7 hT7); clear hB7 hT7 hs7; obtain ⟨x0, x1, LC⟩ := HFC.out _ _ _ _ H4.out.at4) | (go_at_call 49; (with_reducible refine (HRT.out _).mono ?_); rintro r w3 ⟨rfl, hb⟩; have H5 := hid (H4.out.turn hb); clear hb x0 x1 LC; obtain ⟨x0, x1, LC⟩ := HFC.out _ _ _ _ H5.out.at4; obtain ⟨L15, L12, L13⟩ := HF.out _ _ H5.out))
                clear H2 H3 H4 x0 x1 LC L15 L12 L13
                have HF1 := hid (fun X hX => HF.out X g15 hX)
                refine wp_region_ord [6, 7] [(0, 1), (1, 1), (3, 1), (4, 1), (2, 2), (5, 2), (6, 2), (7, 2)] (fun X => St w [Blk g15 (bv s) 23, Blk g12 (bv x) 23, Blk g13 (bv z) 23, Blk g11 (clC (ca, cl)) 99, Row (.slice (some ⟨g, 0, none⟩) (1 + k) c1) 23 32 (1 + k) (sumsV (y :: ss)), Blk g9 (bv root) 23, Blk g8 (bv old) 23] X) (by kernel_rfl) (by kernel_rfl) (fun d _ c _ _ h => by cases d <;> exact h) (H5.out.turn (Below.drew (Below.refl _ _))) (fun X hXe hXi => ?_)
                have H6 := H5.out.turn (Below.drew (Below.refl _ _))
                rw [← hXe] at H6
                replace H6 := hid H6
                clear hXe hXi
                clear H5
                iterate 4 (apply wpOrd_class; ((· first | (rw [List.getElem?_toArray, List.getElem?_cons_zero]; done) | (simp only [List.getElem?_toArray, List.getElem?_cons_succ, List.getElem?_cons_zero]; exact rfl))); (· exact rfl); intro K hK; apply Exists.intro; refine And.intro (fun X' hX' => ?_) ?_; (· obtain ⟨hq1, hq2, hq3⟩ := HF1.out _ hX'; clear hX'; go_simp; (try go_bits); first | done | exact rfl | exact ⟨rfl, rfl⟩); go_simp; refine hK _ _ ?_; clear hK K)
                (apply wpOrd_comes; ((· first | (rw [List.getElem?_toArray, List.getElem?_cons_zero]; done) | (simp only [List.getElem?_toArray, List.getElem?_cons_succ, List.getElem?_cons_zero]; exact rfl))); intro N hN)
                go_wp2_with (go_at_call 50; (with_reducible refine (HLN.out _ H6.out.below).mono ?_); rintro r w4 ⟨rfl, hb⟩; have H7 := hid (H6.out.turn hb); clear hb)
                refine hN _ _ (fun _ => H7.out) ?_
                clear hN N
                (apply wpOrd_comes; ((· first | (rw [List.getElem?_toArray, List.getElem?_cons_zero]; done) | (simp only [List.getElem?_toArray, List.getElem?_cons_succ, List.getElem?_cons_zero]; exact rfl))); intro N hN)
                go_wp2_with (go_at_call 50; (with_reducible refine (HLN2.out _ H7.out.below).mono ?_); rintro r w5 ⟨rfl, hb⟩; have H8 := hid (H7.out.turn hb); clear hb)
                refine hN _ _ (fun _ => H8.out) ?_
                clear hN N
                (apply wpOrd_comes; ((· first | (rw [List.getElem?_toArray, List.getElem?_cons_zero]; done) | (simp only [List.getElem?_toArray, List.getElem?_cons_succ, List.getElem?_cons_zero]; exact rfl))); intro N hN)
                go_wp2_with (refine wpList_store_box 23 _ _ rfl g12 rfl rfl (bv sm) rfl 32 size54s HSMZ.out (bv_one _) 23 _ H8.out.at2.blk HXZ.out ?_; intro W8 hB8 hT8 hs8; have H9 := hid (H8.out.at2.put hB8 hT8); clear hB8 hT8 hs8)
                refine hN _ _ (fun h => by cases h) ?_
                clear hN N
                (apply wpOrd_comes; ((· first | (rw [List.getElem?_toArray, List.getElem?_cons_zero]; done) | (simp only [List.getElem?_toArray, List.getElem?_cons_succ, List.getElem?_cons_zero]; exact rfl))); intro N hN)
                go_wp2_with (refine wpList_store_box 23 _ _ rfl g13 rfl rfl (bv sz) rfl 32 size54s HSZZ.out (bv_one _) 23 _ H9.out.at3.blk HYZ.out ?_; intro W9 hB8 hT8 hs8; have H10 := hid (show St w [Blk g12 (bv sm) 23, Blk g13 (bv sz) 23, Blk g11 (clC (ca, cl)) 99, Row (.slice (some ⟨g, 0, none⟩) (1 + k) c1) 23 32 (1 + k) (sumsV (y :: ss)), Blk g9 (bv root) 23, Blk g8 (bv old) 23] W9 from (H9.out.at3.put hB8 hT8).drop3.at2); clear hB8 hT8 hs8)
                refine hN _ _ (fun h => by cases h) ?_
                clear hN N
                refine wpOrd_done ?_
                obtain ⟨x0, x1, LC⟩ := HFC.out _ _ _ _ H10.out.at3
                go_wp2_with (first | (go_at_call 51; (with_reducible refine (HUPC.out _).mono ?_); rintro r w5 ⟨rfl, hb⟩; have H11 := hid (H10.out.turn hb); clear hb x0 x1 LC) | (refine wpList_store_box 99 _ _ rfl g11 rfl rfl (clC (ua, ul)) rfl 2 sizeClimb rfl (clC_one _) 99 _ H11.out.at3.blk rfl ?_; intro W9 hB9 hT9 hs9; have H12 := hid (H11.out.at3.put hB9 hT9); clear hB9 hT9 hs9))
                go_roundw
                case rel => exact ⟨t + 1, ua, ul, sm, sz, by omega, by go_num, HP2, by have := HUL.out; have := HCB.out; omega, by have := HUL.out; have := HCB.out; omega, HSM32, HSZ32, hid H12.out.back3⟩
                case measure => simp only [intOf]; omega
              · obtain ⟨sz, hsz⟩ : ∃ sz, sz = nodeL z s := ⟨_, rfl⟩
                have HP2 := hid (show ckC nodeL (ca / 2, cl / 2) x sz (ss.drop (t + 1)) = some ((a, 0), old, root) from by
                  rw [hsz]
                  rw [if_neg hrb] at hp
                  exact hp)
                have HSZ32 := hid (show sz.length = 32 by rw [hsz]; exact nodeL_len _ _)
                have HSZZ := hid (show (bv sz).size = 32 from (bv_size sz).trans HSZ32.out)
                have HLN2 := hid (fun (X : World) (hX : Below w.heap.size w X) => lnode_now (HGL.out.below hX HGL.out.two) HY32.out HS32.out)
                rw [← hsz] at HLN2
                have HRT := hid (fun X => right_now (w := X) (a := ca) (l := cl) hca)
                rw [show rightP (ca, cl) = false from by simpa using hrb] at HRT
                clear hsz hp hrb hca hcl
                go_wp2_with (first | (refine wpList_alloc 23 rfl rfl (.agg (bv (List.replicate 32 0))) zero54s ?_; intro g15 W1 h1 hl1 hg1 hW1; have H3 := hid (H2.out.newBlk hW1 hg1 h1); clear h1 hl1 hg1 hW1 LS) | (refine wpList_store_box 23 _ _ rfl g15 rfl rfl (bv s) rfl 32 size54s HSZ.out (bv_one _) 23 _ H3.out.blk HZ32.out ?_; intro W7 hB7 hT7 hs7; have H4 := hid (show St w [Blk g15 (bv s) 23, Blk g12 (bv x) 23, Blk g13 (bv z) 23, Blk g11 (clC (ca, cl)) 99, Row (.slice (some ⟨g, 0, none⟩) (1 + k) c1) 23 32 (1 + k) (sumsV (y :: ss)), Blk g9 (bv root) 23, Blk g8 (bv old) 23] W7 from H3.out.put hB7 hT7); clear hB7 hT7 hs7; obtain ⟨x0, x1, LC⟩ := HFC.out _ _ _ _ H4.out.at4) | (go_at_call 49; (with_reducible refine (HRT.out _).mono ?_); rintro r w3 ⟨rfl, hb⟩; have H5 := hid (H4.out.turn hb); clear hb x0 x1 LC; obtain ⟨x0, x1, LC⟩ := HFC.out _ _ _ _ H5.out.at4; obtain ⟨L15, L12, L13⟩ := HF.out _ _ H5.out) | (go_at_call 50; (with_reducible refine (HLN2.out _ H5.out.below).mono ?_); rintro r w4 ⟨rfl, hb⟩; have H6 := hid (H5.out.turn hb); clear hb x0 x1 LC L15 L12 L13) | (refine wpList_store_box 23 _ _ rfl g13 rfl rfl (bv sz) rfl 32 size54s HSZZ.out (bv_one _) 23 _ H6.out.at3.blk HYZ.out ?_; intro W8 hB8 hT8 hs8; have H7 := hid (show St w [Blk g12 (bv x) 23, Blk g13 (bv sz) 23, Blk g11 (clC (ca, cl)) 99, Row (.slice (some ⟨g, 0, none⟩) (1 + k) c1) 23 32 (1 + k) (sumsV (y :: ss)), Blk g9 (bv root) 23, Blk g8 (bv old) 23] W8 from (H6.out.at3.put hB8 hT8).drop2.at2); clear hB8 hT8 hs8; obtain ⟨x0, x1, LC⟩ := HFC.out _ _ _ _ H7.out.at3) | (refine wpList_store_box 99 _ _ rfl g11 rfl rfl (clC (ca / 2, cl / 2)) rfl 2 sizeClimb rfl (clC_one _) 99 _ H7.out.at3.blk rfl ?_; intro W9 hB9 hT9 hs9; have H12 := hid (H7.out.at3.put hB9 hT9); clear hB9 hT9 hs9))
                go_roundw
                case rel => exact ⟨t + 1, ca / 2, cl / 2, x, sz, by omega, by go_num, HP2, by have := HCB.out; omega, by have := HCB.out; omega, HX32, HSZ32, hid H12.out.back3⟩
                case measure => simp only [intOf]; omega
            · have t1 : ¬ (t : Int) < (k : Int) := by omega
              have hp := HP.out
              rw [List.drop_of_length_le (by rw [HSL.out]; omega)] at hp
              clear HP
              have hp2 := Option.some.inj hp
              have hcl0 : cl = 0 := congrArg (fun v => v.1.2) hp2
              have hxo : x = old := congrArg (fun v => v.2.1) hp2
              have hzr : z = root := congrArg (fun v => v.2.2) hp2
              obtain ⟨x0, x1, LC⟩ := HFC.out _ _ _ _ H2.out.at3
              have L12 := run_loadK_box (P := Tryd.prog) H2.out.blk Tryd.underlying23 rfl size54s ((bv_size x).trans HX32.out)
              have L13 := run_loadK_box (P := Tryd.prog) H2.out.at2.blk Tryd.underlying23 rfl size54s ((bv_size z).trans HY32.out)
              have L9 := run_loadK_box (P := Tryd.prog) H2.out.at5.blk Tryd.underlying23 rfl size54s HRZ.out
              have L8 := run_loadK_box (P := Tryd.prog) H2.out.at6.blk Tryd.underlying23 rfl size54s HOZ.out
              have CN1 := fun (p q : Operand) (W : World) => (run_cmpK_neq (P := Tryd.prog) guardSum Tryd.underlying23 be5 cellsK HX32.out HOO.out p q W).trans (show _ = .ok (.value (.bool false)) W by simp [hxo])
              have CN2 := fun (p q : Operand) (W : World) => (run_cmpK_neq (P := Tryd.prog) guardSum Tryd.underlying23 be5 cellsK HY32.out HRL.out p q W).trans (show _ = .ok (.value (.bool false)) W by simp [hzr])
              have c9 : ((cl : Int) != 0) = false := by rw [hcl0]; rfl
              clear hp hp2 hxo hzr hcl0 x0 LC
              go_wp2_with fail
              go_ret
              exact ⟨rfl, H2.out.below⟩
end
end Go.Proofs.YtnakbdgoaepehaaDoor
/- That a beginning is one, checked: no power of two. -/
namespace Go.Proofs.YtnakbdgoaepehaaDoor
open Go.RowKit Go.Cu
section
variable {w : World}
set_option maxRecDepth 20000 in
set_option maxHeartbeats 16000000 in
theorem ckC_N (hG : Glob w) {A : Option Addr} {q c m n a : Nat} {old root : List UInt8} {ps : List (List UInt8)} (hin : SumsAt w A ps) (ha : All32 ps) (hq : q = ps.length) (h10 : q ≤ 10) (hc : q ≤ c) (ho : old.length = 32) (hr : root.length = 32) (h1 : 1 ≤ m) (hm : m < n) (h8 : n ≤ 8) (hpw : ¬ powerP m = true) (hck : conCk nodeL m n old ps = some ((a, 0), old, root)) :
    Calls Tryd.prog 29 #[.int .i64 m, .int .i64 n, .slice A q c, .agg (bv old), .agg (bv root)] w fun r w' => r = .returned (.int .i64 0) ∧ Below w.heap.size w w' := by
  have HGL := hid hG
  have HA := hid ha
  have HIN := hid hin
  have HQ := hid hq
  have HCC := hid hc
  have HRL := hid hr
  have HOO := hid ho
  have HRZ := hid (show (bv root).size = 32 from (bv_size root).trans hr)
  have HOZ := hid (show (bv old).size = 32 from (bv_size old).trans ho)
  have HOL := hid (show (bvL old).length = 32 by rw [bvL_len, ho])
  have HZ32 := hid zero32_size
  obtain ⟨i23, hi', hiz, his, hib⟩ := info_parts infoSum
  have HI := hid (And.intro hi' (And.intro hiz (And.intro his hib)))
  have HMN := hid (And.intro h1 (And.intro hm h8))
  have m0 : ¬ (m : Int) < 0 := by omega
  have m1 : ¬ (n : Int) < (m : Int) := by omega
  have m2 : ¬ (m : Int) = 0 := by omega
  have m3 : ((m : Int) == 0) = false := by simp; omega
  have m4 : (m == 0) = false := by simp; omega
  have m5 : ¬ (m : Int) = (n : Int) := by omega
  have m6 : ((m : Int) == (n : Int)) = false := by simp; omega
  have m7 : (m == n) = false := by simp; omega
  have m8 : (1 : Int) ≤ (m : Int) := by omega
  have m9 : (m : Int) ≤ 8 := by omega
  have n1 : (1 : Int) ≤ (n : Int) := by omega
  have n2 : (n : Int) ≤ 8 := by omega
  have q10 : (q : Int) ≤ 10 := by omega
  have q0 : (0 : Int) ≤ (q : Int) := by omega
  have bn2 : decide (n < m) = false := decide_eq_false (by omega)
  have hnn : #[Value.int .i64 ((m : Int) - 1), .int .i64 ((n : Int) - 1)] = clC (m - 1, n - 1) := by
    unfold clC
    rw [show ((m : Int) - 1) = (((m - 1 : Nat)) : Int) by omega, show ((n : Int) - 1) = (((n - 1 : Nat)) : Int) by omega]
  have HNN := hid hnn
  clear hi' hiz his hib hnn hc
  have HPO := hid (fun X => power_now (w := X) (m := m) h1 (by omega))
  rw [show powerP m = false from by simpa using hpw] at HPO
  have hck2 : ∃ y ss, ps = y :: ss ∧ ckC nodeL (dropF 8 (m - 1, n - 1)) y y ss = some ((a, 0), old, root) := by
    unfold conCk at hck
    rw [if_neg hpw] at hck
    cases ps with
    | nil => cases hck
    | cons y ss => exact ⟨y, ss, rfl, hck⟩
  obtain ⟨y, ss, rfl, hck3⟩ := hck2
  have HCK := hid hck3
  obtain ⟨k, hk⟩ : ∃ k, k = ss.length := ⟨_, rfl⟩
  obtain rfl : q = k + 1 := by rw [hq, hk]; rfl
  have HAL := hid ha
  have HSL := hid hk.symm
  obtain ⟨g, o, cs0, t0, rfl, _⟩ := hin.some (fun e => by cases e)
  clear hk hq ho hr hck hck3 ha hin hG hpw
  have k1 : (0 : Int) < (k : Int) + 1 := by omega
  have k2 : ¬ ((k : Int) + 1) = 0 := by omega
  have k3 : (1 : Int) ≤ (k : Int) + 1 := by omega
  have k5 : 1 ≤ k + 1 := by omega
  have k6 : (((k : Int) + 1) == 0) = false := by simp; omega
  have kc : ((k : Int) + 1) ≤ (c : Int) := by have := HCC.out; omega
  have kc0 : k + 1 ≤ c := HCC.out
  go_enter Tryd.func29, Tryd.ntmps29
  go_wp2_with (first | (refine wpList_box rfl 23 (.tmp 3) rfl (.agg (bv old)) rfl ?_; intro g8 W1 h1 hl1 hg1 hW1; have H1 := hid ((St.start w).newBlk hW1 hg1 h1); clear h1 hl1 hg1 hW1) | (refine wpList_box rfl 23 (.tmp 4) rfl (.agg (bv root)) rfl ?_; intro g9 W1 h1 hl1 hg1 hW1; have H2 := hid (H1.out.newBlk hW1 hg1 h1); have L8 := run_loadK_box (P := Tryd.prog) H2.out.at2.blk Tryd.underlying23 rfl size54s HOZ.out; clear h1 hl1 hg1 hW1) | (go_at_call 53; (with_reducible refine (HPO.out _).mono ?_); rintro r w3 ⟨rfl, rfl⟩) | (refine wpList_alloc 99 rfl rfl (.agg (clC (0, 0))) zeroClimb ?_; intro g11 W1 h1 hl1 hg1 hW1; have H5 := hid (H2.out.newBlk hW1 hg1 h1); clear h1 hl1 hg1 hW1 L8) | (refine wpList_store_box 99 _ _ rfl g11 rfl rfl #[.int .i64 ((m : Int) - 1), .int .i64 ((n : Int) - 1)] rfl 2 sizeClimb rfl (by rw [HNN.out]; exact clC_one _) 99 _ H5.out.blk rfl ?_; intro W7 hB7 hT7 hs7; rw [HNN.out] at hB7; have H6 := hid (H5.out.put hB7 hT7); clear hB7 hT7 hs7))
  clear H1 H2 H5
  have HSA := hid (fun (X : World) (hX : St w [Blk g9 (bv root) 23, Blk g8 (bv old) 23] X) => show SumsAt X (some ⟨g, o, none⟩) (y :: ss) from HIN.out.below hX.below)
  have HSD := hid (fun (X : World) (hX : St w [Blk g9 (bv root) 23, Blk g8 (bv old) 23] X) => show SumsAt X (some ⟨g, (o + 32), none⟩) ss from (HSA.out X hX).drop 1 _ (by omega))
  have HAS := hid (show All32 ss from fun x hx => HAL.out x (List.mem_cons_of_mem _ hx))
  have HYL := hid (HAL.out y (by simp))
  have HFC := hid (fun (X : World) (ca cl : Nat) (M : List Atm) (hX : St w (Blk g11 (clC (ca, cl)) 99 :: M) X) => show X.cell? ⟨g11, 0, none⟩ = some (.int .i64 (ca : Int)) ∧ X.cell? ⟨g11, 1, none⟩ = some (.int .i64 (cl : Int)) ∧ (loadK 99 (.pointer (some ⟨g11, 0, none⟩))).run Tryd.prog X = .ok (.value (.agg (clC (ca, cl)))) X from ⟨(blk_cell hX 0).trans rfl, (blk_cell hX 1).trans rfl, run_loadK_box (P := Tryd.prog) hX.blk Tryd.underlying99 rfl sizeClimb rfl⟩)
  go_simp
  go_loopw [52] (fun _ X => ∃ (ca cl f : Nat), Hid (dropF f (ca, cl) = dropF 8 (m - 1, n - 1)) ∧ ca ≤ f ∧ ca ≤ 8 ∧ cl ≤ 8 ∧ Hid (St w [Blk g11 (clC (ca, cl)) 99, Blk g9 (bv root) 23, Blk g8 (bv old) 23] X)) (fun _ X => (intOf ((X.cell? ⟨g11, 0, none⟩).getD undef)).toNat)
  case atStart => exact ⟨m - 1, n - 1, 8, hid rfl, by have := HMN.out; omega, by have := HMN.out; omega, by have := HMN.out; omega, H6⟩
  case round =>
    clear H6
    obtain ⟨ca, cl, f, HD, hf, hca, hcl, H2⟩ := hrel
    have pa0 : (0 : Int) ≤ (ca : Int) := by omega
    have pa1 : (ca : Int) ≤ 8 := by omega
    have pl1 : (0 : Int) ≤ (cl : Int) := by omega
    have pl2 : (cl : Int) ≤ 8 := by omega
    obtain ⟨x0, x1, LCx⟩ := HFC.out _ _ _ _ H2.out
    clear LCx
    by_cases hodd : ca % 2 = 1
    · have e2 : bits .and .i64 (ca : Int) 1 = 1 := (Go.Proofs.and_one _ (by omega)).trans (by omega)
      have HO := hid (And.intro hodd hf)
      have HCB := hid (And.intro hca hcl)
      clear hodd hf hca hcl
      go_wp2_with (refine wpList_store_box 99 _ _ rfl g11 rfl rfl (clC (ca / 2, cl / 2)) rfl 2 sizeClimb rfl (clC_one _) 99 _ H2.out.blk rfl ?_; intro W9 hB9 hT9 hs9; have H3 := hid (H2.out.put hB9 hT9); clear hB9 hT9 hs9)
      have HX0 := hid x0
      have HX4 := hid (HFC.out _ _ _ _ H3.out).1
      clear x0 x1
      go_simp
      go_roundw
      case rel => exact ⟨ca / 2, cl / 2, f - 1, hid (by
        rw [← HD.out]
        obtain ⟨f', rfl⟩ : ∃ f', f = f' + 1 := ⟨f - 1, by have := HO.out; omega⟩
        exact (dropF_odd (c := (ca, cl)) HO.out.1).symm), by have := HO.out; omega, by have := HCB.out; omega, by have := HCB.out; omega, H3⟩
      case measure =>
        rw [HX4.out, HX0.out]
        have := HO.out
        show max (((ca / 2 : Nat) : Int)) 0 < (ca : Int)
        omega
    · have e2 : bits .and .i64 (ca : Int) 1 = 0 := (Go.Proofs.and_one _ (by omega)).trans (by omega)
      have HCK2 := hid (show ckC nodeL (ca, cl) y y ss = some ((a, 0), old, root) from by
        rw [← HCK.out, ← HD.out, dropF_even hodd])
      have HC12 := hid (fun (X : World) (hX : St w [Blk g11 (clC (ca, cl)) 99, Blk g9 (bv root) 23, Blk g8 (bv old) 23] X) => show (loadK 23 (.pointer (some ⟨g, o, none⟩))).run Tryd.prog X = .ok (.value (.agg (bv y))) X from by
        obtain ⟨g', o', e', h'⟩ := (HSA.out X hX.drop).load (P := Tryd.prog) (t := 23) HAL.out (i := 0) (s := y) rfl Tryd.underlying23 rfl size54s
        cases e'
        exact h' _ (by omega))
      have HYZ0 := hid (show (bv y).size = 32 from (bv_size y).trans HYL.out)
      clear HD hf
      go_upto_region 12 with fail
      clear x0 x1 e2
      refine wp_region_segs [.ord [(0, 1), (1, 1), (2, 1), (3, 1), (4, 1), (5, 1)], .blk [(6, []), (7, [])], .ord [(8, 2), (9, 2)]] (fun X => St w [Blk g11 (clC (ca, cl)) 99, Blk g9 (bv root) 23, Blk g8 (bv old) 23] X) (by kernel_rfl) (by kernel_rfl) (fun d _ c _ _ h => by cases d <;> exact h) (H2.out.turn (Below.drew (Below.refl _ _))) (fun X hXe hX => ?_)
      have H3 := H2.out.turn (Below.drew (Below.refl _ _))
      rw [← hXe] at H3
      replace H3 := hid H3
      clear hXe
      refine wpSegs_ord fun F1 hF1 => ?_
      clear hX H2
      iterate 6 (apply wpOrd_class; ((· first | (rw [List.getElem?_toArray, List.getElem?_cons_zero]; done) | (simp only [List.getElem?_toArray, List.getElem?_cons_succ, List.getElem?_cons_zero]; exact rfl))); (· exact rfl); intro K hK; apply Exists.intro; refine And.intro (fun X' hX' => ?_) ?_; (· have hq := HC12.out _ hX'; clear hX'; go_simp; (try go_bits); first | done | exact rfl | exact ⟨rfl, rfl⟩); go_simp; refine hK _ _ ?_; clear hK K)
      have hs := H3.out
      refine wpOrd_to (hF1 _ _ ?_)
      clear hF1 F1
      refine wpSegs_blk fun F2 hF2 => ?_
      refine bulk_intro (fun a0 done a' w' => ∃ (x v : Value) (g12 g13 : Nat), a' = (a0.put (some 12) x).put (some 13) v ∧ (done 6 = true → x = .pointer (some ⟨g12, 0, none⟩)) ∧ (done 7 = true → v = .pointer (some ⟨g13, 0, none⟩)) ∧ St w (optA (done 6) (Blk g12 (bv (List.replicate 32 0)) 23) ++ (optA (done 7) (Blk g13 (bv (List.replicate 32 0)) 23) ++ [Blk g11 (clC (ca, cl)) 99, Blk g9 (bv root) 23, Blk g8 (bv old) 23])) w') ?_ ?_ ?_
      · intro done hd
        have d0 := hd (6, []) (by simp)
        have d1 := hd (7, []) (by simp)
        refine ⟨undef, undef, 0, 0, rfl, fun h => (by rw [d0] at h; cases h), fun h => (by rw [d1] at h; cases h), ?_⟩
        simp only [d0, d1]
        exact hs
      · rintro p hp done a' w' h1 h2 ⟨x, v, g12, g13, rfl, hx0, hy1, hst⟩
        clear hs
        simp only [List.mem_cons, List.not_mem_nil, or_false] at hp
        rcases hp with rfl | rfl
        · refine ⟨_, rfl, fun N hN => ?_⟩
          refine wpList_alloc 23 rfl rfl (.agg (bv (List.replicate 32 0))) zero54s ?_
          intro gq W1 hg hgl hgs hW1
          simp only [h1] at hst
          have h6 := St.newBlk (show St w (optA (done 7) (Blk g13 (bv (List.replicate 32 0)) 23) ++ [Blk g11 (clC (ca, cl)) 99, Blk g9 (bv root) 23, Blk g8 (bv old) 23]) w' from hst) hW1 hgs hg
          refine wpList_then (hN _ _ (fun _ => h6.drop.sub) ⟨.pointer (some ⟨gq, 0, none⟩), v, gq, g13, rfl, fun _ => rfl, fun h => hy1 (by simpa using h), ?_⟩)
          exact h6
        · refine ⟨_, rfl, fun N hN => ?_⟩
          refine wpList_alloc 23 rfl rfl (.agg (bv (List.replicate 32 0))) zero54s ?_
          intro gq W1 hg hgl hgs hW1
          simp only [h1] at hst
          have h6 := St.newBlk (show St w (optA (done 6) (Blk g12 (bv (List.replicate 32 0)) 23) ++ [Blk g11 (clC (ca, cl)) 99, Blk g9 (bv root) 23, Blk g8 (bv old) 23]) w' from hst) hW1 hgs hg
          refine wpList_then (hN _ _ (fun _ => h6.drop.sub) ⟨x, .pointer (some ⟨gq, 0, none⟩), g12, gq, rfl, fun h => hx0 (by simpa using h), fun _ => rfl, ?_⟩)
          exact h6.unmidA
      · rintro done a' w' hd ⟨x, v, g12, g13, rfl, hx0, hy1, hst⟩
        obtain rfl := hx0 (hd (6, []) (by simp))
        obtain rfl := hy1 (hd (7, []) (by simp))
        rw [hd (6, []) (by simp), hd (7, []) (by simp)] at hst
        clear hx0 hy1 hd hs
        refine hF2 _ _ ?_
        clear hF2 F2
        refine wpSegs_ord fun F3 hF3 => ?_
        have H4 := hid (show St w [Blk g12 (bv (List.replicate 32 0)) 23, Blk g13 (bv (List.replicate 32 0)) 23, Blk g11 (clC (ca, cl)) 99, Blk g9 (bv root) 23, Blk g8 (bv old) 23] w' from hst)
        clear hst
        go_simp
        (apply wpOrd_comes; ((· first | (rw [List.getElem?_toArray, List.getElem?_cons_zero]; done) | (simp only [List.getElem?_toArray, List.getElem?_cons_succ, List.getElem?_cons_zero]; exact rfl))); intro N hN)
        go_wp2_with (refine wpList_store_box 23 _ _ rfl g12 rfl rfl (bv y) rfl 32 size54s HYZ0.out (bv_one _) 23 _ H4.out.blk HZ32.out ?_; intro W8 hB8 hT8 hs8; have H5 := hid (H4.out.put hB8 hT8); clear hB8 hT8 hs8)
        refine hN _ _ (fun _ => H5.out.drop.drop) ?_
        clear hN N
        (apply wpOrd_comes; ((· first | (rw [List.getElem?_toArray, List.getElem?_cons_zero]; done) | (simp only [List.getElem?_toArray, List.getElem?_cons_succ, List.getElem?_cons_zero]; exact rfl))); intro N hN)
        go_wp2_with (refine wpList_store_box 23 _ _ rfl g13 rfl rfl (bv y) rfl 32 size54s HYZ0.out (bv_one _) 23 _ H5.out.at2.blk HZ32.out ?_; intro W8 hB8 hT8 hs8; have H6 := hid (H5.out.at2.put hB8 hT8).at2; clear hB8 hT8 hs8)
        refine hN _ _ (fun _ => H6.out.drop.drop) ?_
        clear hN N
        refine wpOrd_to (hF3 _ _ (wpSegs_nil ?_))
        clear hF3 F3
        have HC0 := hid (And.intro hca hcl)
        by_cases hcc : c = 1
        · have hk0 : k = 0 := by omega
          have hcc' : (c == 1) = true := by simp [hcc]
          have kn : ¬ (0 : Int) < (k : Int) := by omega
          have HE0 := hid (show ckC nodeL (ca, cl) y y [] = some ((a, 0), old, root) from by
            have h := HCK2.out
            rw [List.eq_nil_of_length_eq_zero (show ss.length = 0 by rw [HSL.out]; exact hk0)] at h
            exact h)
          go_wp2_with fail
          clear hodd hca hcl pa0 pa1 pl1 pl2 hcc hcc' hk0
          go_loopw [72] (fun iv X => iv = .int .i64 0 ∧ Hid (St w [Blk g12 (bv y) 23, Blk g13 (bv y) 23, Blk g11 (clC (ca, cl)) 99, Blk g9 (bv root) 23, Blk g8 (bv old) 23] X)) (fun iv _ => 1)
          case atStart => exact ⟨rfl, H6⟩
          case round =>
            clear H3 H4 H5 H6
            obtain ⟨rfl, H2⟩ := hrel
            obtain ⟨x, hx⟩ : ∃ x, x = y := ⟨_, rfl⟩
            obtain ⟨z, hz⟩ : ∃ z, z = y := ⟨_, rfl⟩
            have HX32 := hid (show x.length = 32 by rw [hx]; exact HYL.out)
            have HY32 := hid (show z.length = 32 by rw [hz]; exact HYL.out)
            replace H2 := hid (show St w [Blk g12 (bv x) 23, Blk g13 (bv z) 23, Blk g11 (clC (ca, cl)) 99, Blk g9 (bv root) 23, Blk g8 (bv old) 23] wr from by rw [hx, hz]; exact H2.out)
            have hp := HE0.out
            rw [show ckC nodeL (ca, cl) y y [] = ckC nodeL (ca, cl) x z [] by rw [hx, hz]] at hp
            clear hx hz
            have hp2 := Option.some.inj hp
            have hcl0 : cl = 0 := congrArg (fun v => v.1.2) hp2
            have hxo : x = old := congrArg (fun v => v.2.1) hp2
            have hzr : z = root := congrArg (fun v => v.2.2) hp2
            obtain ⟨x0, x1, LC⟩ := HFC.out _ _ _ _ H2.out.at3
            have L12 := run_loadK_box (P := Tryd.prog) H2.out.blk Tryd.underlying23 rfl size54s ((bv_size x).trans HX32.out)
            have L13 := run_loadK_box (P := Tryd.prog) H2.out.at2.blk Tryd.underlying23 rfl size54s ((bv_size z).trans HY32.out)
            have L9 := run_loadK_box (P := Tryd.prog) H2.out.at4.blk Tryd.underlying23 rfl size54s HRZ.out
            have L8 := run_loadK_box (P := Tryd.prog) H2.out.at5.blk Tryd.underlying23 rfl size54s HOZ.out
            have CN1 := fun (p q : Operand) (W : World) => (run_cmpK_neq (P := Tryd.prog) guardSum Tryd.underlying23 be5 cellsK HX32.out HOO.out p q W).trans (show _ = .ok (.value (.bool false)) W by simp [hxo])
            have CN2 := fun (p q : Operand) (W : World) => (run_cmpK_neq (P := Tryd.prog) guardSum Tryd.underlying23 be5 cellsK HY32.out HRL.out p q W).trans (show _ = .ok (.value (.bool false)) W by simp [hzr])
            have c9 : ((cl : Int) != 0) = false := by rw [hcl0]; rfl
            clear hp hp2 hxo hzr hcl0 x0 LC
            go_wp2_with fail
            go_ret
            exact ⟨rfl, H2.out.below⟩
        · have hcc' : (c == 1) = false := by simp [hcc]
          go_wp2_with fail
          clear hodd hca hcl pa0 pa1 pl1 pl2 hcc hcc'
          go_loopw [72] (fun iv X => ∃ (t ca cl : Nat) (x z : List UInt8), t ≤ k ∧ iv = .int .i64 t ∧ Hid (ckC nodeL (ca, cl) x z (ss.drop t) = some ((a, 0), old, root)) ∧ ca ≤ 8 ∧ cl ≤ 8 ∧ Hid (x.length = 32) ∧ Hid (z.length = 32) ∧ Hid (St w [Blk g12 (bv x) 23, Blk g13 (bv z) 23, Blk g11 (clC (ca, cl)) 99, Blk g9 (bv root) 23, Blk g8 (bv old) 23] X)) (fun iv _ => k - (intOf iv).toNat)
          case atStart => exact ⟨0, ca, cl, y, y, by omega, rfl, hid (by rw [List.drop_zero]; exact HCK2.out), HC0.out.1, HC0.out.2, HYL, HYL, H6⟩
          case round =>
            clear H3 H4 H5 H6 HCK2 HC0 HC12
            obtain ⟨t, ca, cl, x, z, ht, rfl, HP, hca, hcl, HX32, HY32, H2⟩ := hrel
            have t0 : (0 : Int) ≤ (t : Int) := by omega
            have HXZ := hid (show (bv x).size = 32 from (bv_size x).trans HX32.out)
            have HYZ := hid (show (bv z).size = 32 from (bv_size z).trans HY32.out)
            by_cases hlt : t < k
            · have t1 : (t : Int) < (k : Int) := by omega
              obtain ⟨s, hs⟩ : ∃ s, ss[t]? = some s := ⟨_, List.getElem?_eq_getElem (by rw [HSL.out]; exact hlt)⟩
              have HS32 := hid (HAS.out s (List.mem_of_getElem? hs))
              have HSZ := hid (show (bv s).size = 32 from (bv_size s).trans HS32.out)
              have LS : (loadK 23 (.pointer (some ⟨g, (o + 32) + t * 32, none⟩))).run Tryd.prog wr = .ok (.value (.agg (bv s))) wr := by
                obtain ⟨g', o', e', h'⟩ := (HSD.out wr H2.out.drop.drop.drop).load (P := Tryd.prog) (t := 23) HAS.out hs Tryd.underlying23 rfl size54s
                cases e'
                exact h' _ rfl
              have hp := HP.out
              obtain ⟨hsl, hse⟩ := List.getElem?_eq_some_iff.1 hs
              rw [List.drop_eq_getElem_cons hsl, hse] at hp
              obtain ⟨hcz, hp⟩ := ckC_cons hp
              have c0 : (0 : Int) ≤ (ca : Int) := by omega
              have c8 : (ca : Int) ≤ 8 := by omega
              have l1 : (1 : Int) ≤ (cl : Int) := by have h : cl ≠ 0 := hcz; omega
              have l2 : (cl : Int) ≤ 8 := by omega
              have l3 : ¬ (cl : Int) = 0 := by omega
              have l4 : ((cl : Int) == 0) = false := by simp; omega
              have l5 : (cl == 0) = false := by simp; omega
              have HCB := hid (And.intro hca hcl)
              have HF := hid (fun (X : World) (g15 : Nat) (hX : St w [Blk g15 (bv s) 23, Blk g12 (bv x) 23, Blk g13 (bv z) 23, Blk g11 (clC (ca, cl)) 99, Blk g9 (bv root) 23, Blk g8 (bv old) 23] X) => show (loadK 23 (.pointer (some ⟨g15, 0, none⟩))).run Tryd.prog X = .ok (.value (.agg (bv s))) X ∧ (loadK 23 (.pointer (some ⟨g12, 0, none⟩))).run Tryd.prog X = .ok (.value (.agg (bv x))) X ∧ (loadK 23 (.pointer (some ⟨g13, 0, none⟩))).run Tryd.prog X = .ok (.value (.agg (bv z))) X from ⟨run_loadK_box (P := Tryd.prog) hX.blk Tryd.underlying23 rfl size54s HSZ.out, run_loadK_box (P := Tryd.prog) hX.at2.blk Tryd.underlying23 rfl size54s HXZ.out, run_loadK_box (P := Tryd.prog) hX.at3.blk Tryd.underlying23 rfl size54s HYZ.out⟩)
              clear hs hsl hse hcz HP
              by_cases hrb : rightP (ca, cl) = true
              · obtain ⟨sm, hsm⟩ : ∃ sm, sm = nodeL s x := ⟨_, rfl⟩
                obtain ⟨sz, hsz⟩ : ∃ sz, sz = nodeL s z := ⟨_, rfl⟩
                obtain ⟨⟨ua, ul⟩, hup⟩ : ∃ u, u = upP (ca, cl) := ⟨_, rfl⟩
                have hul := upP_le (ca, cl)
                rw [← hup] at hul
                have HUL := hid hul
                have HUPC := hid (fun X => up_now (w := X) hca hcl)
                rw [← hup] at HUPC
                have HP2 := hid (show ckC nodeL (ua, ul) sm sz (ss.drop (t + 1)) = some ((a, 0), old, root) from by
                  rw [hsm, hsz, hup]
                  rw [if_pos hrb] at hp
                  exact hp)
                have HSM32 := hid (show sm.length = 32 by rw [hsm]; exact nodeL_len _ _)
                have HSMZ := hid (show (bv sm).size = 32 from (bv_size sm).trans HSM32.out)
                have HSZ32 := hid (show sz.length = 32 by rw [hsz]; exact nodeL_len _ _)
                have HSZZ := hid (show (bv sz).size = 32 from (bv_size sz).trans HSZ32.out)
                have HLN := hid (fun (X : World) (hX : Below w.heap.size w X) => lnode_now (HGL.out.below hX HGL.out.two) HS32.out HX32.out)
                have HLN2 := hid (fun (X : World) (hX : Below w.heap.size w X) => lnode_now (HGL.out.below hX HGL.out.two) HS32.out HY32.out)
                rw [← hsm] at HLN
                rw [← hsz] at HLN2
                have HRT := hid (fun X => right_now (w := X) (a := ca) (l := cl) hca)
                rw [show rightP (ca, cl) = true from hrb] at HRT
                clear hsm hsz hup hul hp hrb hca hcl
                go_upto_region 21 with (first | (refine wpList_alloc 23 rfl rfl (.agg (bv (List.replicate 32 0))) zero54s ?_; intro g15 W1 h1 hl1 hg1 hW1; have H3 := hid (H2.out.newBlk hW1 hg1 h1); clear h1 hl1 hg1 hW1 LS) | (refine wpList_store_box 23 _ _ rfl g15 rfl rfl (bv s) rfl 32 size54s HSZ.out (bv_one _) 23 _ H3.out.blk HZ32.out ?_; intro W7 hB7 hT7 hs7; have H4 := hid (show St w [Blk g15 (bv s) 23, Blk g12 (bv x) 23, Blk g13 (bv z) 23, Blk g11 (clC (ca, cl)) 99, Blk g9 (bv root) 23, Blk g8 (bv old) 23] W7 from H3.out.put hB7 hT7); clear hB7 hT7 hs7; obtain ⟨x0, x1, LC⟩ := HFC.out _ _ _ _ H4.out.at4) | (go_at_call 49; (with_reducible refine (HRT.out _).mono ?_); rintro r w3 ⟨rfl, hb⟩; have H5 := hid (H4.out.turn hb); clear hb x0 x1 LC; obtain ⟨x0, x1, LC⟩ := HFC.out _ _ _ _ H5.out.at4; obtain ⟨L15, L12, L13⟩ := HF.out _ _ H5.out))
                clear H2 H3 H4 x0 x1 LC L15 L12 L13
                have HF1 := hid (fun X hX => HF.out X g15 hX)
                refine wp_region_ord [6, 7] [(0, 1), (1, 1), (3, 1), (4, 1), (2, 2), (5, 2), (6, 2), (7, 2)] (fun X => St w [Blk g15 (bv s) 23, Blk g12 (bv x) 23, Blk g13 (bv z) 23, Blk g11 (clC (ca, cl)) 99, Blk g9 (bv root) 23, Blk g8 (bv old) 23] X) (by kernel_rfl) (by kernel_rfl) (fun d _ c _ _ h => by cases d <;> exact h) (H5.out.turn (Below.drew (Below.refl _ _))) (fun X hXe hXi => ?_)
                have H6 := H5.out.turn (Below.drew (Below.refl _ _))
                rw [← hXe] at H6
                replace H6 := hid H6
                clear hXe hXi
                clear H5
                iterate 4 (apply wpOrd_class; ((· first | (rw [List.getElem?_toArray, List.getElem?_cons_zero]; done) | (simp only [List.getElem?_toArray, List.getElem?_cons_succ, List.getElem?_cons_zero]; exact rfl))); (· exact rfl); intro K hK; apply Exists.intro; refine And.intro (fun X' hX' => ?_) ?_; (· obtain ⟨hq1, hq2, hq3⟩ := HF1.out _ hX'; clear hX'; go_simp; (try go_bits); first | done | exact rfl | exact ⟨rfl, rfl⟩); go_simp; refine hK _ _ ?_; clear hK K)
                (apply wpOrd_comes; ((· first | (rw [List.getElem?_toArray, List.getElem?_cons_zero]; done) | (simp only [List.getElem?_toArray, List.getElem?_cons_succ, List.getElem?_cons_zero]; exact rfl))); intro N hN)
                go_wp2_with (go_at_call 50; (with_reducible refine (HLN.out _ H6.out.below).mono ?_); rintro r w4 ⟨rfl, hb⟩; have H7 := hid (H6.out.turn hb); clear hb)
                refine hN _ _ (fun _ => H7.out) ?_
                clear hN N
                (apply wpOrd_comes; ((· first | (rw [List.getElem?_toArray, List.getElem?_cons_zero]; done) | (simp only [List.getElem?_toArray, List.getElem?_cons_succ, List.getElem?_cons_zero]; exact rfl))); intro N hN)
                go_wp2_with (go_at_call 50; (with_reducible refine (HLN2.out _ H7.out.below).mono ?_); rintro r w5 ⟨rfl, hb⟩; have H8 := hid (H7.out.turn hb); clear hb)
                refine hN _ _ (fun _ => H8.out) ?_
                clear hN N
                (apply wpOrd_comes; ((· first | (rw [List.getElem?_toArray, List.getElem?_cons_zero]; done) | (simp only [List.getElem?_toArray, List.getElem?_cons_succ, List.getElem?_cons_zero]; exact rfl))); intro N hN)
                go_wp2_with (refine wpList_store_box 23 _ _ rfl g12 rfl rfl (bv sm) rfl 32 size54s HSMZ.out (bv_one _) 23 _ H8.out.at2.blk HXZ.out ?_; intro W8 hB8 hT8 hs8; have H9 := hid (H8.out.at2.put hB8 hT8); clear hB8 hT8 hs8)
                refine hN _ _ (fun h => by cases h) ?_
                clear hN N
                (apply wpOrd_comes; ((· first | (rw [List.getElem?_toArray, List.getElem?_cons_zero]; done) | (simp only [List.getElem?_toArray, List.getElem?_cons_succ, List.getElem?_cons_zero]; exact rfl))); intro N hN)
                go_wp2_with (refine wpList_store_box 23 _ _ rfl g13 rfl rfl (bv sz) rfl 32 size54s HSZZ.out (bv_one _) 23 _ H9.out.at3.blk HYZ.out ?_; intro W9 hB8 hT8 hs8; have H10 := hid (show St w [Blk g12 (bv sm) 23, Blk g13 (bv sz) 23, Blk g11 (clC (ca, cl)) 99, Blk g9 (bv root) 23, Blk g8 (bv old) 23] W9 from (H9.out.at3.put hB8 hT8).drop3.at2); clear hB8 hT8 hs8)
                refine hN _ _ (fun h => by cases h) ?_
                clear hN N
                refine wpOrd_done ?_
                obtain ⟨x0, x1, LC⟩ := HFC.out _ _ _ _ H10.out.at3
                go_wp2_with (first | (go_at_call 51; (with_reducible refine (HUPC.out _).mono ?_); rintro r w5 ⟨rfl, hb⟩; have H11 := hid (H10.out.turn hb); clear hb x0 x1 LC) | (refine wpList_store_box 99 _ _ rfl g11 rfl rfl (clC (ua, ul)) rfl 2 sizeClimb rfl (clC_one _) 99 _ H11.out.at3.blk rfl ?_; intro W9 hB9 hT9 hs9; have H12 := hid (H11.out.at3.put hB9 hT9); clear hB9 hT9 hs9))
                go_roundw
                case rel => exact ⟨t + 1, ua, ul, sm, sz, by omega, by go_num, HP2, by have := HUL.out; have := HCB.out; omega, by have := HUL.out; have := HCB.out; omega, HSM32, HSZ32, hid H12.out.back3⟩
                case measure => simp only [intOf]; omega
              · obtain ⟨sz, hsz⟩ : ∃ sz, sz = nodeL z s := ⟨_, rfl⟩
                have HP2 := hid (show ckC nodeL (ca / 2, cl / 2) x sz (ss.drop (t + 1)) = some ((a, 0), old, root) from by
                  rw [hsz]
                  rw [if_neg hrb] at hp
                  exact hp)
                have HSZ32 := hid (show sz.length = 32 by rw [hsz]; exact nodeL_len _ _)
                have HSZZ := hid (show (bv sz).size = 32 from (bv_size sz).trans HSZ32.out)
                have HLN2 := hid (fun (X : World) (hX : Below w.heap.size w X) => lnode_now (HGL.out.below hX HGL.out.two) HY32.out HS32.out)
                rw [← hsz] at HLN2
                have HRT := hid (fun X => right_now (w := X) (a := ca) (l := cl) hca)
                rw [show rightP (ca, cl) = false from by simpa using hrb] at HRT
                clear hsz hp hrb hca hcl
                go_wp2_with (first | (refine wpList_alloc 23 rfl rfl (.agg (bv (List.replicate 32 0))) zero54s ?_; intro g15 W1 h1 hl1 hg1 hW1; have H3 := hid (H2.out.newBlk hW1 hg1 h1); clear h1 hl1 hg1 hW1 LS) | (refine wpList_store_box 23 _ _ rfl g15 rfl rfl (bv s) rfl 32 size54s HSZ.out (bv_one _) 23 _ H3.out.blk HZ32.out ?_; intro W7 hB7 hT7 hs7; have H4 := hid (show St w [Blk g15 (bv s) 23, Blk g12 (bv x) 23, Blk g13 (bv z) 23, Blk g11 (clC (ca, cl)) 99, Blk g9 (bv root) 23, Blk g8 (bv old) 23] W7 from H3.out.put hB7 hT7); clear hB7 hT7 hs7; obtain ⟨x0, x1, LC⟩ := HFC.out _ _ _ _ H4.out.at4) | (go_at_call 49; (with_reducible refine (HRT.out _).mono ?_); rintro r w3 ⟨rfl, hb⟩; have H5 := hid (H4.out.turn hb); clear hb x0 x1 LC; obtain ⟨x0, x1, LC⟩ := HFC.out _ _ _ _ H5.out.at4; obtain ⟨L15, L12, L13⟩ := HF.out _ _ H5.out) | (go_at_call 50; (with_reducible refine (HLN2.out _ H5.out.below).mono ?_); rintro r w4 ⟨rfl, hb⟩; have H6 := hid (H5.out.turn hb); clear hb x0 x1 LC L15 L12 L13) | (refine wpList_store_box 23 _ _ rfl g13 rfl rfl (bv sz) rfl 32 size54s HSZZ.out (bv_one _) 23 _ H6.out.at3.blk HYZ.out ?_; intro W8 hB8 hT8 hs8; have H7 := hid (show St w [Blk g12 (bv x) 23, Blk g13 (bv sz) 23, Blk g11 (clC (ca, cl)) 99, Blk g9 (bv root) 23, Blk g8 (bv old) 23] W8 from (H6.out.at3.put hB8 hT8).drop2.at2); clear hB8 hT8 hs8; obtain ⟨x0, x1, LC⟩ := HFC.out _ _ _ _ H7.out.at3) | (refine wpList_store_box 99 _ _ rfl g11 rfl rfl (clC (ca / 2, cl / 2)) rfl 2 sizeClimb rfl (clC_one _) 99 _ H7.out.at3.blk rfl ?_; intro W9 hB9 hT9 hs9; have H12 := hid (H7.out.at3.put hB9 hT9); clear hB9 hT9 hs9))
                go_roundw
                case rel => exact ⟨t + 1, ca / 2, cl / 2, x, sz, by omega, by go_num, HP2, by have := HCB.out; omega, by have := HCB.out; omega, HX32, HSZ32, hid H12.out.back3⟩
                case measure => simp only [intOf]; omega
            · have t1 : ¬ (t : Int) < (k : Int) := by omega
              have hp := HP.out
              rw [List.drop_of_length_le (by rw [HSL.out]; omega)] at hp
              clear HP
              have hp2 := Option.some.inj hp
              have hcl0 : cl = 0 := congrArg (fun v => v.1.2) hp2
              have hxo : x = old := congrArg (fun v => v.2.1) hp2
              have hzr : z = root := congrArg (fun v => v.2.2) hp2
              obtain ⟨x0, x1, LC⟩ := HFC.out _ _ _ _ H2.out.at3
              have L12 := run_loadK_box (P := Tryd.prog) H2.out.blk Tryd.underlying23 rfl size54s ((bv_size x).trans HX32.out)
              have L13 := run_loadK_box (P := Tryd.prog) H2.out.at2.blk Tryd.underlying23 rfl size54s ((bv_size z).trans HY32.out)
              have L9 := run_loadK_box (P := Tryd.prog) H2.out.at4.blk Tryd.underlying23 rfl size54s HRZ.out
              have L8 := run_loadK_box (P := Tryd.prog) H2.out.at5.blk Tryd.underlying23 rfl size54s HOZ.out
              have CN1 := fun (p q : Operand) (W : World) => (run_cmpK_neq (P := Tryd.prog) guardSum Tryd.underlying23 be5 cellsK HX32.out HOO.out p q W).trans (show _ = .ok (.value (.bool false)) W by simp [hxo])
              have CN2 := fun (p q : Operand) (W : World) => (run_cmpK_neq (P := Tryd.prog) guardSum Tryd.underlying23 be5 cellsK HY32.out HRL.out p q W).trans (show _ = .ok (.value (.bool false)) W by simp [hzr])
              have c9 : ((cl : Int) != 0) = false := by rw [hcl0]; rfl
              clear hp hp2 hxo hzr hcl0 x0 LC
              go_wp2_with fail
              go_ret
              exact ⟨rfl, H2.out.below⟩
end
end Go.Proofs.YtnakbdgoaepehaaDoor
/- One more. -/
namespace Go.Proofs.YtnakbdgoaepehaaDoor
open Go.RowKit Go.Cu
def AddQ (w : World) (L : List Atm) (gl n : Nat) (ss : List (List UInt8)) (r : Ending) (w' : World) : Prop := r = .returned (.int .i64 n) ∧ ∃ (A : Option Addr) (c : Nat), St w (Row (.slice A (n + 1) c) 23 32 (n + 1) (sumsV ss) :: Blk gl #[.slice A (n + 1) c] 63 :: L) w'
section
variable {w : World} {L : List Atm} {W : World}
set_option maxRecDepth 20000 in
set_option maxHeartbeats 8000000 in
theorem add_st {A : Option Addr} {gl n c : Nat} {ss : List (List UInt8)} (h : St w (Row (.slice A n c) 23 32 n (sumsV ss) :: Blk gl #[.slice A n c] 63 :: L) W) (hG : Glob w) (hn : n = ss.length) (h8 : n ≤ 100) {B : Option Addr} {m d : Nat} {r : List UInt8} (hm : m = r.length) (hd : m ≤ d) (hdm : d ≤ maxLen) (hl : r.length ≤ 1000) (hb : ∀ X, St w (Blk gl #[.slice A n c] 63 :: L) X → BytesIn X B r) :
    Calls Tryd.prog 24 #[.pointer (some ⟨gl, 0, none⟩), .slice B m d] W (AddQ w L gl n (ss ++ [entL r])) := by
  have HH := hid h
  have HN8 := hid h8
  have HE := hid (fun (X : World) (hX : St w (Blk gl #[.slice A n c] 63 :: L) X) => entry_now (hG.below hX.below hG.two) hm hd hdm (hb X hX) hl)
  have HC := hid (fun (X : World) (hX : St w (Blk gl #[.slice A n c] 63 :: L) X) => (blk_cell hX 0).trans (show _ = some (.slice A n c) from rfl))
  obtain ⟨sm, hsm⟩ : ∃ sm, sm = entL r := ⟨_, rfl⟩
  have HZ := hid (show (bv sm).size = 32 by rw [bv_size, hsm]; exact entL_len _)
  have HZL := hid (show (bvL sm).length = 1 * 32 by rw [bvL_len, hsm, entL_len])
  rw [← hsm] at HE ⊢
  have HZ32 := hid zero32_size
  obtain ⟨i23, hi, hiz, his, hib⟩ := info_parts infoSum
  have HI := hid (And.intro hi (And.intro hiz (And.intro his hib)))
  have n0 : (0 : Int) ≤ (n : Int) := by omega
  have n1 : (n : Int) ≤ 100 := by omega
  clear h hG hn h8 hm hd hdm hl hb hsm hi hiz his hib
  go_enter Tryd.func24, Tryd.ntmps24
  go_upto_region 3 with fail
  refine wp_region_ord [11] [(0, 1), (1, 1), (2, 1), (3, 1), (4, 1), (5, 1), (6, 2), (7, 2), (8, 2), (9, 1), (10, 1), (11, 2)] (fun X => St w (Blk gl #[.slice A n c] 63 :: L) X) (by kernel_rfl) (by kernel_rfl) (fun d _ c _ _ h => by cases d <;> exact h) (HH.out.drop.turn (Below.drew (Below.refl _ _))) (fun X hXe hXi => ?_)
  have H2 := HH.out.turn (Below.drew (Below.refl _ _))
  rw [← hXe] at H2
  replace H2 := hid H2
  clear hXe hXi HH
  iterate 6 (apply wpOrd_class; ((· first | (rw [List.getElem?_toArray, List.getElem?_cons_zero]; done) | (simp only [List.getElem?_toArray, List.getElem?_cons_succ, List.getElem?_cons_zero]; exact rfl))); (· exact rfl); intro K hK; apply Exists.intro; refine And.intro (fun X' hX' => ?_) ?_; (· have hq := HC.out _ hX'; clear hX'; go_simp; (try go_bits); first | done | exact rfl | exact ⟨rfl, rfl⟩); go_simp; refine hK _ _ ?_; clear hK K)
  (apply wpOrd_comes; ((· first | (rw [List.getElem?_toArray, List.getElem?_cons_zero]; done) | (simp only [List.getElem?_toArray, List.getElem?_cons_succ, List.getElem?_cons_zero]; exact rfl))); intro N hN)
  go_wp2_with (go_at_call 44; (with_reducible refine (HE.out _ H2.out.drop).mono ?_); rintro r w3 ⟨rfl, hb⟩; have H3 := hid (H2.out.turn hb); clear hb)
  refine hN _ _ (fun _ => H3.out.drop) ?_
  clear hN N
  (apply wpOrd_comes; ((· first | (rw [List.getElem?_toArray, List.getElem?_cons_zero]; done) | (simp only [List.getElem?_toArray, List.getElem?_cons_succ, List.getElem?_cons_zero]; exact rfl))); intro N hN)
  go_wp2_with (refine wpList_buildSlice1 _ rfl (.agg (bv sm)) (by simp [Act.eval]) rfl Tryd.underlying28 zero54s size54s (by decide) (by decide) HZ.out ?_; intro gn X4 hS hgs hges hX1b; have H4 := hid (H3.out.turn hX1b); have HNW := hid (news_box hS (bvL sm) (show (bv sm).toList = bvL sm by rw [bv_eq])); clear hS hgs hges hX1b)
  refine hN _ _ (fun _ => H4.out.drop) ?_
  clear hN N
  (apply wpOrd_comes; ((· first | (rw [List.getElem?_toArray, List.getElem?_cons_zero]; done) | (simp only [List.getElem?_toArray, List.getElem?_cons_succ, List.getElem?_cons_zero]; exact rfl))); intro N hN)
  go_wp2_with (refine wpList_append_at _ _ _ rfl (.slice A n c) rfl ⟨gn, 0, none⟩ 1 1 rfl rfl 23 i23 (.agg (bv (List.replicate 32 0))) 32 32 Tryd.underlying28 HI.out.1 HI.out.2.1 HI.out.2.2.1 HI.out.2.2.2 HZ32.out (by decide) n (sumsV ss) H4.out.row (bvL sm) HZL.out HNW.out (bvL_one _) (by have := HN8.out; unfold maxLen; omega) (by omega) ?_; intro v' X5 hO2 hT2 hfr; have H5 := hid (H4.out.grow hO2 hT2 hfr); clear hO2 hT2 hfr; obtain ⟨A1, c1, hv', _⟩ := row_slice H5.out; subst hv')
  refine hN _ _ (fun _ => H5.out.drop) ?_
  clear hN N
  iterate 2 (apply wpOrd_class; ((· first | (rw [List.getElem?_toArray, List.getElem?_cons_zero]; done) | (simp only [List.getElem?_toArray, List.getElem?_cons_succ, List.getElem?_cons_zero]; exact rfl))); (· exact rfl); intro K hK; apply Exists.intro; refine And.intro (fun X' hX' => ?_) ?_; (· have hq := HC.out _ hX'; clear hX'; go_simp; (try go_bits); first | done | exact rfl | exact ⟨rfl, rfl⟩); go_simp; refine hK _ _ ?_; clear hK K)
  have fz := frozen_of_row X5 gl 0 _ _ H5.out.at2.blk
  have fc := HC.out X5 H5.out.drop
  (apply wpOrd_comes; ((· first | (rw [List.getElem?_toArray, List.getElem?_cons_zero]; done) | (simp only [List.getElem?_toArray, List.getElem?_cons_succ, List.getElem?_cons_zero]; exact rfl))); intro N hN)
  go_wp2_with fail
  have H6 := hid (H5.out.at2.setCell 0 (.slice A1 (n + 1) c1))
  clear fz fc H5
  refine hN _ _ (fun h => by cases h) ?_
  clear hN N
  refine wpOrd_done ?_
  obtain ⟨Y, hY⟩ : ∃ Y, Y = X5.setCell ⟨gl, 0, none⟩ (.slice A1 (n + 1) c1) := ⟨_, rfl⟩
  rw [← hY] at H6
  simp only [← hY]
  clear hY HC HE
  have x0 := (blk_cell H6.out 0).trans (show _ = some (.slice A1 (n + 1) c1) from rfl)
  have H7 := hid (show St w (Row (.slice A1 (n + 1) c1) 23 32 (n + 1) (sumsV (ss ++ [sm])) :: Blk gl #[.slice A1 (n + 1) c1] 63 :: L) Y from by rw [sumsV_snoc]; exact H6.out.at2)
  clear H6
  go_wp2_with fail
  go_ret
  exact ⟨rfl, A1, c1, H7.out⟩
end
end Go.Proofs.YtnakbdgoaepehaaDoor
/- A row of sums turned round. -/
namespace Go.Cu
open Go Go.RowKit
/-- Half turned: what lies below i or from n - i on stands as in the turned one. -/
def RevAt {α : Type} (l l' : List α) (i : Nat) : Prop := l'.length = l.length ∧ ∀ t, t < l.length → l'[t]? = if t < i ∨ l.length - i ≤ t then l[l.length - 1 - t]? else l[t]?
section
variable {α : Type} {l l' : List α} {i : Nat}
theorem RevAt.start : RevAt l l 0 := ⟨rfl, fun t ht => by rw [if_neg (by omega)]⟩
theorem RevAt.step {x y : α} (h : RevAt l l' i) (hi : i < l.length - 1 - i) (hx : l'[i]? = some x) (hy : l'[l.length - 1 - i]? = some y) : RevAt l ((l'.set i y).set (l.length - 1 - i) x) (i + 1) := by
  have hxi := h.2 i (by omega)
  rw [if_neg (by omega), hx] at hxi
  have hyi := h.2 (l.length - 1 - i) (by omega)
  rw [if_neg (by omega), hy] at hyi
  refine ⟨by rw [List.length_set, List.length_set, h.1], fun t ht => ?_⟩
  rw [List.getElem?_set, List.getElem?_set, List.length_set, h.1]
  by_cases h1 : l.length - 1 - i = t
  · rw [if_pos h1, if_pos (by omega), if_pos (by omega), ← h1, show l.length - 1 - (l.length - 1 - i) = i by omega, hxi]
  · rw [if_neg h1]
    by_cases h2 : i = t
    · rw [if_pos h2, if_pos (by omega), if_pos (by omega), ← h2, hyi]
    · rw [if_neg h2, h.2 t ht]
      by_cases h3 : t < i ∨ l.length - i ≤ t
      · rw [if_pos h3, if_pos (by omega)]
      · rw [if_neg h3, if_neg (by omega)]
theorem RevAt.done (h : RevAt l l' i) (hi : l.length ≤ 2 * i + 1) : l' = l.reverse := by
  refine List.ext_getElem? fun t => ?_
  rcases Nat.lt_or_ge t l.length with ht | ht
  · rw [h.2 t ht, List.getElem?_reverse ht]
    split
    · rfl
    · congr 1
      omega
  · rw [List.getElem?_eq_none (by rw [h.1]; exact ht), List.getElem?_eq_none (by rw [List.length_reverse]; exact ht)]
end
end Go.Cu
namespace Go.Proofs.YtnakbdgoaepehaaDoor
open Go.RowKit Go.Cu
section
variable {w : World} {L : List Atm} {W : World}
set_option maxRecDepth 20000 in
set_option maxHeartbeats 8000000 in
theorem rev_st {A : Option Addr} {n c : Nat} {ss : List (List UInt8)} (h : St w (Row (.slice A n c) 23 32 n (sumsV ss) :: L) W) (ha : All32 ss) (hn : n = ss.length) (h8 : n ≤ 100) : Calls Tryd.prog 48 #[.slice A n c] W fun r w' => r = .returned (.tuple #[]) ∧ St w (Row (.slice A n c) 23 32 n (sumsV ss.reverse) :: L) w' := by
  have HH := hid h
  have HA := hid ha
  have HN := hid hn
  have n8 : (n : Int) ≤ 100 := by omega
  have n0 : (0 : Int) ≤ (n : Int) := by omega
  clear h ha hn h8
  go_enter Tryd.func48, Tryd.ntmps48
  go_wp2_with fail
  go_loopw [2, 3] (fun iv jv X => ∃ (i : Nat) (z : Int) (ls : List (List UInt8)), iv = .int .i64 i ∧ jv = .int .i64 z ∧ z = (n : Int) - 1 - i ∧ 2 * i ≤ n ∧ Hid (RevAt ss ls i) ∧ Hid (All32 ls) ∧ Hid (St w (Row (.slice A n c) 23 32 n (sumsV ls) :: L) X)) (fun _ jv _ => (intOf jv + 1).toNat)
  case atStart => exact ⟨0, _, ss, rfl, rfl, by omega, by omega, hid RevAt.start, HA, HH⟩
  case round =>
    clear HH
    obtain ⟨i, z, ls, rfl, rfl, hz, hi, HR, HL, H1⟩ := hrel
    by_cases hlt : (i : Int) < z
    · obtain ⟨j, hj⟩ : ∃ j : Nat, j = n - 1 - i := ⟨_, rfl⟩
      obtain rfl : z = (j : Int) := by omega
      have HJ := hid (And.intro hj hlt)
      have hin : i < n := by omega
      have hjn : j < n := by omega
      have i0 : (0 : Int) ≤ (i : Int) := by omega
      have i1 : (i : Int) < (n : Int) := by omega
      have j0 : (0 : Int) ≤ (j : Int) := by omega
      have j1 : (j : Int) < (n : Int) := by omega
      have hll := HR.out.1
      obtain ⟨x, hx⟩ : ∃ x, ls[i]? = some x := ⟨_, List.getElem?_eq_getElem (by have := HN.out; omega)⟩
      obtain ⟨y, hy⟩ : ∃ y, ls[j]? = some y := ⟨_, List.getElem?_eq_getElem (by have := HN.out; omega)⟩
      have HX := hid hx
      have HY := hid hy
      have HX32 := hid (HL.out x (List.mem_of_getElem? hx))
      have HY32 := hid (HL.out y (List.mem_of_getElem? hy))
      obtain ⟨g, rfl⟩ := row_some H1.out (by omega)
      have HF := hid (fun (X : World) (hX : St w (Row (.slice (some ⟨g, 0, none⟩) n c) 23 32 n (sumsV ls) :: L) X) => show (loadK 23 (.pointer (some ⟨g, i * 32, none⟩))).run Tryd.prog X = .ok (.value (.agg (bv x))) X ∧ (loadK 23 (.pointer (some ⟨g, j * 32, none⟩))).run Tryd.prog X = .ok (.value (.agg (bv y))) X from by
        obtain ⟨g1, e1, h1⟩ := srow_load (P := Tryd.prog) (t := 23) hX HL.out HX.out Tryd.underlying23 rfl size54s
        obtain ⟨g2, e2, h2⟩ := srow_load (P := Tryd.prog) (t := 23) hX HL.out HY.out Tryd.underlying23 rfl size54s
        cases e1; cases e2
        exact ⟨h1 _ rfl, h2 _ rfl⟩)
      have HLN := hid (show ls.length = n by rw [hll, HN.out])
      clear hx hy hll hj hz
      go_upto_region 3 with fail
      refine wp_region_ord [2, 3, 13, 14, 15] [(2, 0), (3, 0), (0, 1), (1, 1), (4, 1), (5, 1), (6, 1), (7, 1), (8, 1), (9, 1), (10, 1), (11, 1), (12, 1), (13, 2), (14, 0), (15, 2)] (fun X => St w (Row (.slice (some ⟨g, 0, none⟩) n c) 23 32 n (sumsV ls) :: L) X) (by kernel_rfl) (by kernel_rfl) (fun d _ c _ _ h => by cases d <;> exact h) (H1.out.turn (Below.drew (Below.refl _ _))) (fun X hXe hXi => ?_)
      have H2 := H1.out.turn (Below.drew (Below.refl _ _))
      rw [← hXe] at H2
      replace H2 := hid H2
      clear hXe hXi
      clear H1
      iterate 2 (apply wpOrd_pure; ((· first | (rw [List.getElem?_toArray, List.getElem?_cons_zero]; done) | (simp only [List.getElem?_toArray, List.getElem?_cons_succ, List.getElem?_cons_zero]; exact rfl))); (· exact rfl); intro K hK; apply Exists.intro; refine And.intro (fun X' => ?_) ?_; (· go_simp; (try go_bits); first | done | exact rfl | exact ⟨rfl, rfl⟩); go_simp; refine hK _ _ ?_; clear hK K)
      iterate 11 (apply wpOrd_class; ((· first | (rw [List.getElem?_toArray, List.getElem?_cons_zero]; done) | (simp only [List.getElem?_toArray, List.getElem?_cons_succ, List.getElem?_cons_zero]; exact rfl))); (· exact rfl); intro K hK; apply Exists.intro; refine And.intro (fun X' hX' => ?_) ?_; (· obtain ⟨hq1, hq2⟩ := HF.out _ hX'; clear hX'; go_simp; (try go_bits); first | done | exact rfl | exact ⟨rfl, rfl⟩); go_simp; refine hK _ _ ?_; clear hK K)
      (apply wpOrd_comes; ((· first | (rw [List.getElem?_toArray, List.getElem?_cons_zero]; done) | (simp only [List.getElem?_toArray, List.getElem?_cons_succ, List.getElem?_cons_zero]; exact rfl))); intro N hN)
      go_wp2_with (refine wpList_sstore _ _ rfl H2.out HL.out HLN.out (i := i) hin rfl rfl rfl HY32.out rfl size54s ?_; intro W8 h8; have H3 := hid h8; clear h8)
      refine hN _ _ (fun h => by cases h) ?_
      clear hN N
      (apply wpOrd_pure; ((· first | (rw [List.getElem?_toArray, List.getElem?_cons_zero]; done) | (simp only [List.getElem?_toArray, List.getElem?_cons_succ, List.getElem?_cons_zero]; exact rfl))); (· exact rfl); intro K hK; apply Exists.intro; refine And.intro (fun X' => ?_) ?_; (· go_simp; (try go_bits); first | done | exact rfl | exact ⟨rfl, rfl⟩); go_simp; refine hK _ _ ?_; clear hK K)
      (apply wpOrd_comes; ((· first | (rw [List.getElem?_toArray, List.getElem?_cons_zero]; done) | (simp only [List.getElem?_toArray, List.getElem?_cons_succ, List.getElem?_cons_zero]; exact rfl))); intro N hN)
      go_wp2_with (refine wpList_sstore _ _ rfl H3.out (HL.out.set HY32.out) (by rw [List.length_set]; exact HLN.out) (i := j) hjn rfl rfl rfl HX32.out rfl size54s ?_; intro W9 h8; have H4 := hid h8; clear h8)
      refine hN _ _ (fun h => by cases h) ?_
      clear hN N
      refine wpOrd_done ?_
      go_wp2_with fail
      go_roundw
      case rel => exact ⟨i + 1, _, _, by go_num, rfl, by have := HJ.out; omega, by have := HJ.out; omega, hid (by
        have h1 := HJ.out
        have h2 := HN.out
        have e : j = ss.length - 1 - i := by omega
        have hy := HY.out
        have h3 := HR.out.step (by omega) HX.out (by rw [← e]; exact hy)
        rw [← e] at h3
        exact h3), hid ((HL.out.set HY32.out).set HX32.out), H4⟩
      case measure => simp only [intOf]; omega
    · have HD := hid (show ls = ss.reverse from HR.out.done (by have := HN.out; omega))
      go_wp2_with fail
      go_end0
      exact ⟨rfl, by rw [← HD.out]; exact H1.out⟩
end
end Go.Proofs.YtnakbdgoaepehaaDoor
/- What shows that one is there. -/
namespace Go.Cu
open Go Go.RowKit
section
variable {X : Type} {N : X → X → X} {Z : X} {f i k : Nat} {s out : List X}
theorem incP_stop (h : s.length ≤ 1) : incP N Z f s i out = out := by
  cases f with
  | zero => rfl
  | succ f => unfold incP; rw [if_pos h]
theorem incP_left (h : ¬ s.length ≤ 1) (hk : k = halfP s.length) (hi : i < k) : incP N Z (f + 1) s i out = incP N Z f (s.take k) i (out ++ [totalP N Z (s.drop k)]) := by
  subst hk
  conv => lhs; unfold incP
  rw [if_neg h, if_pos hi]
theorem incP_right (h : ¬ s.length ≤ 1) (hk : k = halfP s.length) (hi : ¬ i < k) : incP N Z (f + 1) s i out = incP N Z f (s.drop k) (i - k) (out ++ [totalP N Z (s.take k)]) := by
  subst hk
  conv => lhs; unfold incP
  rw [if_neg h, if_neg hi]
end
theorem half_in {n : Nat} (h2 : 2 ≤ n) (h8 : n ≤ 8) : 1 ≤ halfP n ∧ halfP n < n := by
  have : n = 2 ∨ n = 3 ∨ n = 4 ∨ n = 5 ∨ n = 6 ∨ n = 7 ∨ n = 8 := by omega
  rcases this with rfl | rfl | rfl | rfl | rfl | rfl | rfl <;> decide
end Go.Cu
namespace Go.Proofs.YtnakbdgoaepehaaDoor
open Go.RowKit Go.Cu
/-- Sums that a call makes: a row of its own. -/
def SumsQ (w : World) (tot : List (List UInt8)) (r : Ending) (w' : World) : Prop := ∃ (B : Option Addr) (n d : Nat), r = .returned (.tuple #[.slice B n d, .int .i64 0]) ∧ n = tot.length ∧ n ≤ 10 ∧ St w [Row (.slice B n d) 23 32 n (sumsV tot)] w'
section
variable {w : World}
set_option maxRecDepth 20000 in
set_option maxHeartbeats 8000000 in
theorem linc_now (hG : Glob w) {gl n c : Nat} {A : Option Addr} {ss : List (List UInt8)} (hl : w.heap[gl]? = some (.cells #[.slice A n c] 63 (0, 0))) (hin : SumsAt w A ss) (ha : All32 ss) (hn : n = ss.length) (h8 : n ≤ 8) (hc : n ≤ c) {i m : Nat} (hm : m ≤ n) (hi : i < m) : Calls Tryd.prog 26 #[.pointer (some ⟨gl, 0, none⟩), .int .i64 i, .int .i64 m] w (SumsQ w (incP nodeL nilL m (ss.take m) i []).reverse) := by
  have HX := hid (fun (X : World) (hX : Below w.heap.size w X) => log_cell hl hX)
  have HLEN := hid (fun (X : World) (hX : Below w.heap.size w X) => lgLen_now (w := X) ((hX.block gl (heap_lt hl)).trans hl))
  have HTOT := hid (fun (X : World) (hX : Below w.heap.size w X) (A : Option Addr) (n c : Nat) (ls : List (List UInt8)) (h1 : SumsAt w A ls) (h2 : All32 ls) (h3 : n = ls.length) (h4 : n ≤ 8) => total_now (A := A) (n := n) (c := c) (hG.below hX hG.two) (h1.below hX) h2 h3 h4)
  have HIN := hid (hin.take m)
  have HA := hid (ha.take m)
  have HLN := hid (show (ss.take m).length = m by rw [List.length_take]; omega)
  obtain ⟨s0, hs0⟩ : ∃ s0, s0 = ss.take m := ⟨_, rfl⟩
  rw [← hs0] at HIN HA HLN ⊢
  have HZ32 := hid zero32_size
  obtain ⟨i23, hi', hiz, his, hib⟩ := info_parts infoSum
  have HI := hid (And.intro hi' (And.intro hiz (And.intro his hib)))
  have HB := hid (And.intro hm (And.intro hi (And.intro h8 hc)))
  have x0 := HX.out w (Below.refl _ _)
  have m1 : ¬ (m : Int) < 1 := by omega
  have m2 : ¬ (n : Int) < (m : Int) := by omega
  have m3 : (m : Int) ≤ (c : Int) := by omega
  have m4 : m ≤ c := by omega
  have i0 : ¬ (i : Int) < 0 := by omega
  have i1 : ¬ (m : Int) ≤ (i : Int) := by omega
  have m0 : (0 : Int) ≤ (m : Int) := by omega
  have bn1 : decide (n < m) = false := decide_eq_false (by omega)
  have bn2 : decide (m ≤ i) = false := decide_eq_false (by omega)
  clear hG hl hin ha hn h8 hc hm hi hs0 hi' hiz his hib
  go_enter Tryd.func26, Tryd.ntmps26
  go_wp2_with (go_at_call 45; (with_reducible refine (HLEN.out _ (Below.refl _ _)).mono ?_); rintro r w3 ⟨rfl, rfl⟩)
  go_loopw [1, 8, 9] (fun iv ov sv X => ∃ (j f z q c2 d : Nat) (B A2 : Option Addr) (out ls : List (List UInt8)), iv = .int .i64 j ∧ ov = .slice B z d ∧ sv = .slice A2 q c2 ∧ Hid (incP nodeL nilL f ls j out = incP nodeL nilL m s0 i []) ∧ q ≤ f + 1 ∧ z + q ≤ 8 ∧ q ≤ c2 ∧ j < q ∧ Hid (q = ls.length) ∧ Hid (z = out.length) ∧ Hid (All32 ls) ∧ Hid (All32 out) ∧ Hid (SumsAt w A2 ls) ∧ Hid (St w [Row (.slice B z d) 23 32 z (sumsV out)] X)) (fun _ _ sv _ => lnV sv)
  case atStart => exact ⟨i, m, 0, m, c, 0, none, A, [], s0, rfl, rfl, rfl, hid rfl, by omega, by have := HB.out; omega, m4, HB.out.2.1, hid HLN.out.symm, hid rfl, HA, hid (fun x hx => by cases hx), HIN, hid ((St.start w).nilRow 23 32)⟩
  case round =>
    obtain ⟨j, f, z, q, c2, d, B, A2, out, ls, rfl, rfl, rfl, HP, hf, hz, hcq, hjq, HQ, HOL, HLA, HOA, HLS, H3⟩ := hrel
    have j0 : (0 : Int) ≤ (j : Int) := by omega
    have q0 : (0 : Int) ≤ (q : Int) := by omega
    by_cases hlt : q ≤ 1
    · have e1 : ¬ (1 : Int) < (q : Int) := by omega
      have HST := hid (show out = incP nodeL nilL m s0 i [] from by rw [← HP.out]; exact (incP_stop (by rw [← HQ.out]; exact hlt)).symm)
      have HRV := hid (fun (X : World) (hX : St w [Row (.slice B z d) 23 32 z (sumsV out)] X) => rev_st hX HOA.out HOL.out (by omega))
      have HZ10 := hid hz
      clear HP hf hz hcq hjq hlt
      go_wp2_with (go_at_call 48; (with_reducible refine (HRV.out _ H3.out).mono ?_); rintro r w3 ⟨rfl, hst⟩; have H4 := hid hst; clear hst)
      go_ret2
      exact ⟨B, z, d, rfl, by rw [← HST.out, List.length_reverse]; exact HOL.out, by have := HZ10.out; omega, by rw [← HST.out]; exact H4.out⟩
    · have e0 : (1 : Int) < (q : Int) := by omega
      obtain ⟨f, rfl⟩ : ∃ f', f = f' + 1 := ⟨f - 1, by omega⟩
      obtain ⟨k, hk⟩ : ∃ k, k = halfP q := ⟨_, rfl⟩
      obtain ⟨g, o, cs, t, rfl, _⟩ := HLS.out.some (fun e => by have h := HQ.out; rw [e, List.length_nil] at h; omega)
      obtain ⟨hk1, hk2⟩ := half_in (n := q) (by omega) (by omega)
      rw [← hk] at hk1 hk2
      have HHF := hid (fun X => half_now (w := X) (n := q) (by omega) (by omega))
      rw [← hk] at HHF
      have HK := hid (show k = halfP ls.length by rw [hk, ← HQ.out])
      have k0 : (0 : Int) ≤ (k : Int) := by omega
      have k1 : (k : Int) ≤ (q : Int) := by omega
      have k2 : (k : Int) ≤ (c2 : Int) := by omega
      have k3 : k ≤ q := by omega
      have k4 : k ≤ c2 := by omega
      have k5 : (q : Int) ≤ (c2 : Int) := by omega
      have q9 : (q : Int) ≤ 9 := by omega
      have z9 : (z : Int) ≤ 9 := by omega
      have j9 : (j : Int) ≤ 9 := by omega
      clear hk
      go_upto_region 7 with (go_at_call 47; (with_reducible refine (HHF.out _).mono ?_); rintro r w3 ⟨rfl, rfl⟩)
      by_cases hjk : j < k
      · have e1n := hid hjk
        have e1 : (j : Int) < (k : Int) := by omega
        obtain ⟨sm, hsm⟩ : ∃ sm, sm = totalL (ls.drop k) := ⟨_, rfl⟩
        have HSM := hid hsm
        have HSM32 := hid (show sm.length = 32 by rw [hsm]; exact total_len (HLA.out.drop k))
        have HSZ := hid (show (bv sm).size = 32 from (bv_size sm).trans HSM32.out)
        have HSL := hid (show (bvL sm).length = 1 * 32 by rw [bvL_len, HSM32.out])
        have HT := hid (fun (X : World) (hX : Below w.heap.size w X) => HTOT.out X hX (some ⟨g, o + k * 32, none⟩) (q - k) (c2 - k) (ls.drop k) (HLS.out.drop k _ rfl) (HLA.out.drop k) (by rw [List.length_drop]; have := HQ.out; omega) (by omega))
        rw [← hsm] at HT
        have HST := hid (show incP nodeL nilL f (ls.take k) (j) (out ++ [sm]) = incP nodeL nilL m s0 i [] from by
          rw [← HP.out, hsm]
          exact (incP_left (by rw [← HQ.out]; omega) HK.out (by omega)).symm)
        have HQ2 := hid (show (k) = (ls.take k).length by rw [List.length_take]; have := HQ.out; omega)
        have HLS2 := hid (show SumsAt w (some ⟨g, o, none⟩) (ls.take k) from HLS.out.take k)
        have HLA2 := hid (HLA.out.take k)
        have HOA2 := hid (HOA.out.snoc HSM32.out)
        have HOL2 := hid (show z + 1 = (out ++ [sm]).length by rw [List.length_append]; have := HOL.out; simp; omega)
        have HJQ := hid hjq
        have HKQ := hid (And.intro hk1 hk2)
        have HFZ := hid (And.intro hf (And.intro hz hcq))
        clear hsm HP hjq hlt
        go_wp2_with (first | (go_at_call 46; (with_reducible refine (HT.out _ H3.out.below).mono ?_); rintro r w3 ⟨rfl, hb⟩; have H4 := hid (H3.out.turn hb); clear hb) | (refine wpList_buildSlice1 _ rfl (.agg (bv sm)) (by simp [Act.eval, Act.put]) rfl Tryd.underlying28 zero54s size54s (by decide) (by decide) HSZ.out ?_; intro gn X4 hS hgs hges hX1b; have H4b := hid (H4.out.turn hX1b); have HNW := hid (news_box hS (bvL sm) (show (bv sm).toList = bvL sm by rw [bv_eq])); clear hS hgs hges hX1b) | (refine wpList_append_at _ _ _ rfl (.slice B z d) rfl ⟨gn, 0, none⟩ 1 1 rfl rfl 23 i23 (.agg (bv (List.replicate 32 0))) 32 32 Tryd.underlying28 HI.out.1 HI.out.2.1 HI.out.2.2.1 HI.out.2.2.2 HZ32.out (by decide) z (sumsV out) H4b.out.row (bvL sm) HSL.out HNW.out (bvL_one _) (by unfold maxLen; omega) (by omega) ?_; intro v' X5 hO2 hT2 hfr; have H5 := hid (H4b.out.grow hO2 hT2 hfr); clear hO2 hT2 hfr; obtain ⟨B1, d1, hv', _⟩ := row_slice H5.out; subst hv'))
        have H6 := H5.out
        rw [← sumsV_snoc] at H6
        go_roundw
        case rel => exact ⟨j, f, z + 1, k, c2, d1, B1, some ⟨g, o, none⟩, out ++ [sm], ls.take k, by rfl, rfl, rfl, HST, by have := HFZ.out; have := HKQ.out; omega, by have := HFZ.out; have := HKQ.out; omega, by have := HFZ.out; have := HKQ.out; omega, e1n.out, HQ2, HOL2, HLA2, HOA2, HLS2, hid H6⟩
        case measure => have := HKQ.out; show k < q; omega
      · have e1n := hid hjk
        have e1 : ¬ (j : Int) < (k : Int) := by omega
        obtain ⟨sm, hsm⟩ : ∃ sm, sm = totalL (ls.take k) := ⟨_, rfl⟩
        have HSM := hid hsm
        have HSM32 := hid (show sm.length = 32 by rw [hsm]; exact total_len (HLA.out.take k))
        have HSZ := hid (show (bv sm).size = 32 from (bv_size sm).trans HSM32.out)
        have HSL := hid (show (bvL sm).length = 1 * 32 by rw [bvL_len, HSM32.out])
        have HT := hid (fun (X : World) (hX : Below w.heap.size w X) => HTOT.out X hX (some ⟨g, o, none⟩) (k) (c2) (ls.take k) (HLS.out.take k) (HLA.out.take k) (by rw [List.length_take]; have := HQ.out; omega) (by omega))
        rw [← hsm] at HT
        have HST := hid (show incP nodeL nilL f (ls.drop k) ((j - k)) (out ++ [sm]) = incP nodeL nilL m s0 i [] from by
          rw [← HP.out, hsm]
          exact (incP_right (by rw [← HQ.out]; omega) HK.out (by omega)).symm)
        have HQ2 := hid (show (q - k) = (ls.drop k).length by rw [List.length_drop]; have := HQ.out; omega)
        have HLS2 := hid (show SumsAt w (some ⟨g, o + k * 32, none⟩) (ls.drop k) from HLS.out.drop k _ rfl)
        have HLA2 := hid (HLA.out.drop k)
        have HOA2 := hid (HOA.out.snoc HSM32.out)
        have HOL2 := hid (show z + 1 = (out ++ [sm]).length by rw [List.length_append]; have := HOL.out; simp; omega)
        have HJQ := hid hjq
        have HKQ := hid (And.intro hk1 hk2)
        have HFZ := hid (And.intro hf (And.intro hz hcq))
        clear hsm HP hjq hlt
        go_wp2_with (first | (go_at_call 46; (with_reducible refine (HT.out _ H3.out.below).mono ?_); rintro r w3 ⟨rfl, hb⟩; have H4 := hid (H3.out.turn hb); clear hb) | (refine wpList_buildSlice1 _ rfl (.agg (bv sm)) (by simp [Act.eval, Act.put]) rfl Tryd.underlying28 zero54s size54s (by decide) (by decide) HSZ.out ?_; intro gn X4 hS hgs hges hX1b; have H4b := hid (H4.out.turn hX1b); have HNW := hid (news_box hS (bvL sm) (show (bv sm).toList = bvL sm by rw [bv_eq])); clear hS hgs hges hX1b) | (refine wpList_append_at _ _ _ rfl (.slice B z d) rfl ⟨gn, 0, none⟩ 1 1 rfl rfl 23 i23 (.agg (bv (List.replicate 32 0))) 32 32 Tryd.underlying28 HI.out.1 HI.out.2.1 HI.out.2.2.1 HI.out.2.2.2 HZ32.out (by decide) z (sumsV out) H4b.out.row (bvL sm) HSL.out HNW.out (bvL_one _) (by unfold maxLen; omega) (by omega) ?_; intro v' X5 hO2 hT2 hfr; have H5 := hid (H4b.out.grow hO2 hT2 hfr); clear hO2 hT2 hfr; obtain ⟨B1, d1, hv', _⟩ := row_slice H5.out; subst hv'))
        have H6 := H5.out
        rw [← sumsV_snoc] at H6
        go_roundw
        case rel => exact ⟨j - k, f, z + 1, q - k, c2 - k, d1, B1, some ⟨g, o + k * 32, none⟩, out ++ [sm], ls.drop k, by go_num, rfl, by go_num, HST, by have := HFZ.out; have := HKQ.out; omega, by have := HFZ.out; have := HKQ.out; omega, by have := HFZ.out; have := HKQ.out; omega, by have := HJQ.out; have := e1n.out; omega, HQ2, HOL2, HLA2, HOA2, HLS2, hid H6⟩
        case measure => have := HKQ.out; show q - k < q; omega
  
end
end Go.Proofs.YtnakbdgoaepehaaDoor
/- What shows that a beginning is one. -/
namespace Go.Cu
open Go Go.RowKit
section
variable {X : Type} {N : X → X → X} {Z : X} {f m k : Nat} {s out : List X} {b : Bool}
theorem conP_stop (h : s.length ≤ m) : conP N Z f s m b out = (out, s, b) := by
  cases f with
  | zero => rfl
  | succ f => unfold conP; rw [if_pos h]
theorem conP_left (h : ¬ s.length ≤ m) (hk : k = halfP s.length) (hi : m ≤ k) : conP N Z (f + 1) s m b out = conP N Z f (s.take k) m b (out ++ [totalP N Z (s.drop k)]) := by
  subst hk
  conv => lhs; unfold conP
  rw [if_neg h, if_pos hi]
theorem conP_right (h : ¬ s.length ≤ m) (hk : k = halfP s.length) (hi : ¬ m ≤ k) : conP N Z (f + 1) s m b out = conP N Z f (s.drop k) (m - k) false (out ++ [totalP N Z (s.take k)]) := by
  subst hk
  conv => lhs; unfold conP
  rw [if_neg h, if_neg hi]
end
end Go.Cu
namespace Go.Proofs.YtnakbdgoaepehaaDoor
open Go.RowKit Go.Cu
section
variable {w : World}
set_option maxRecDepth 20000 in
set_option maxHeartbeats 8000000 in
theorem lcon_all {gl n c : Nat} {A : Option Addr} (hl : w.heap[gl]? = some (.cells #[.slice A n c] 63 (0, 0))) {m : Nat} (hm : m ≤ n) (h1 : 1 ≤ m) : Calls Tryd.prog 27 #[.pointer (some ⟨gl, 0, none⟩), .int .i64 m, .int .i64 m] w fun r w' => r = .returned (.tuple #[.slice none 0 0, .int .i64 0]) ∧ w = w' := by
  have HLEN := hid (fun (X : World) (hX : Below w.heap.size w X) => lgLen_now (w := X) ((hX.block gl (heap_lt hl)).trans hl))
  have m0 : ¬ (m : Int) < 0 := by omega
  have m2 : ¬ (n : Int) < (m : Int) := by omega
  have m3 : ¬ (m : Int) < (m : Int) := by omega
  have m4 : ¬ (m : Int) = 0 := by omega
  have m5 : ((m : Int) == 0) = false := by simp; omega
  clear hl hm h1
  go_enter Tryd.func27, Tryd.ntmps27
  go_wp2_with (go_at_call 45; (with_reducible refine (HLEN.out _ (Below.refl _ _)).mono ?_); rintro r w3 ⟨rfl, rfl⟩)
  go_ret2
  exact ⟨rfl, rfl⟩
set_option maxRecDepth 20000 in
set_option maxHeartbeats 8000000 in
theorem lcon_now (hG : Glob w) {gl n c : Nat} {A : Option Addr} {ss : List (List UInt8)} (hl : w.heap[gl]? = some (.cells #[.slice A n c] 63 (0, 0))) (hin : SumsAt w A ss) (ha : All32 ss) (hn : n = ss.length) (h8 : n ≤ 8) (hc : n ≤ c) {i m : Nat} (hm : m ≤ n) (hi1 : 1 ≤ i) (hi : i < m) : Calls Tryd.prog 27 #[.pointer (some ⟨gl, 0, none⟩), .int .i64 i, .int .i64 m] w (SumsQ w (conOut nodeL nilL (conP nodeL nilL m (ss.take m) i true []))) := by
  have HX := hid (fun (X : World) (hX : Below w.heap.size w X) => log_cell hl hX)
  have HLEN := hid (fun (X : World) (hX : Below w.heap.size w X) => lgLen_now (w := X) ((hX.block gl (heap_lt hl)).trans hl))
  have HTOT := hid (fun (X : World) (hX : Below w.heap.size w X) (A : Option Addr) (n c : Nat) (ls : List (List UInt8)) (h1 : SumsAt w A ls) (h2 : All32 ls) (h3 : n = ls.length) (h4 : n ≤ 8) => total_now (A := A) (n := n) (c := c) (hG.below hX hG.two) (h1.below hX) h2 h3 h4)
  have HIN := hid (hin.take m)
  have HA := hid (ha.take m)
  have HLN := hid (show (ss.take m).length = m by rw [List.length_take]; omega)
  obtain ⟨s0, hs0⟩ : ∃ s0, s0 = ss.take m := ⟨_, rfl⟩
  rw [← hs0] at HIN HA HLN ⊢
  obtain ⟨R0, hR0⟩ : ∃ R0, R0 = conP nodeL nilL m s0 i true [] := ⟨_, rfl⟩
  have HR0 := hid hR0
  rw [← hR0]
  have HZ32 := hid zero32_size
  obtain ⟨i23, hi', hiz, his, hib⟩ := info_parts infoSum
  have HI := hid (And.intro hi' (And.intro hiz (And.intro his hib)))
  have HB := hid (And.intro hm (And.intro hi (And.intro h8 (And.intro hc hi1))))
  have x0 := HX.out w (Below.refl _ _)
  have m1 : ¬ (m : Int) < 0 := by omega
  have m2 : ¬ (n : Int) < (m : Int) := by omega
  have m3 : (m : Int) ≤ (c : Int) := by omega
  have m4 : m ≤ c := by omega
  have i0 : ¬ (i : Int) < 0 := by omega
  have i1 : ¬ (m : Int) < (i : Int) := by omega
  have i2 : ¬ (i : Int) = 0 := by omega
  have i3 : ¬ (i : Int) = (m : Int) := by omega
  have i4 : ((i : Int) == 0) = false := by simp; omega
  have i5 : ((i : Int) == (m : Int)) = false := by simp; omega
  have i6 : (i == 0) = false := by simp; omega
  have i7 : (i == m) = false := by simp; omega
  have m0 : (0 : Int) ≤ (m : Int) := by omega
  have bn1 : decide (n < m) = false := decide_eq_false (by omega)
  have bn2 : decide (m < i) = false := decide_eq_false (by omega)
  clear hG hl hin ha hn h8 hc hm hi hi1 hs0 hR0 hi' hiz his hib
  go_enter Tryd.func27, Tryd.ntmps27
  go_wp2_with (go_at_call 45; (with_reducible refine (HLEN.out _ (Below.refl _ _)).mono ?_); rintro r w3 ⟨rfl, rfl⟩)
  go_loopw [1, 8, 9, 10] (fun iv ov sv bvv X => ∃ (j f z q c2 d : Nat) (B A2 : Option Addr) (out ls : List (List UInt8)) (b : Bool), iv = .int .i64 j ∧ ov = .slice B z d ∧ sv = .slice A2 q c2 ∧ bvv = .bool b ∧ Hid (conP nodeL nilL f ls j b out = R0) ∧ q ≤ f + 1 ∧ z + q ≤ 8 ∧ q ≤ c2 ∧ 1 ≤ j ∧ Hid (q = ls.length) ∧ Hid (z = out.length) ∧ Hid (All32 ls) ∧ Hid (All32 out) ∧ Hid (SumsAt w A2 ls) ∧ Hid (St w [Row (.slice B z d) 23 32 z (sumsV out)] X)) (fun _ _ sv _ _ => lnV sv)
  case atStart => exact ⟨i, m, 0, m, c, 0, none, A, [], s0, true, rfl, rfl, rfl, rfl, hid HR0.out.symm, by omega, by have := HB.out; omega, m4, HB.out.2.2.2.2, hid HLN.out.symm, hid rfl, HA, hid (fun x hx => by cases hx), HIN, hid ((St.start w).nilRow 23 32)⟩
  case round =>
    obtain ⟨j, f, z, q, c2, d, B, A2, out, ls, b, rfl, rfl, rfl, rfl, HP, hf, hz, hcq, hj1, HQ, HOL, HLA, HOA, HLS, H3⟩ := hrel
    have j0 : (0 : Int) ≤ (j : Int) := by omega
    have q0 : (0 : Int) ≤ (q : Int) := by omega
    by_cases hlt : q ≤ j
    · have e1 : ¬ (j : Int) < (q : Int) := by omega
      have HST0 := hid (show (out, ls, b) = R0 from by rw [← HP.out]; exact (conP_stop (by rw [← HQ.out]; exact hlt)).symm)
      have HZ10 := hid hz
      have z8 : z ≤ 8 := by omega
      clear HP hf hz hcq hj1 hlt
      cases b with
      | true =>
        have HST := hid (show conOut nodeL nilL R0 = out.reverse from by rw [← HST0.out]; rfl)
        have HRV := hid (fun (X : World) (hX : St w [Row (.slice B z d) 23 32 z (sumsV out)] X) => rev_st hX HOA.out HOL.out (by omega))
        go_wp2_with (go_at_call 48; (with_reducible refine (HRV.out _ H3.out).mono ?_); rintro r w3 ⟨rfl, hst⟩; have H4 := hid hst; clear hst)
        go_ret2
        exact ⟨B, z, d, rfl, by rw [HST.out, List.length_reverse]; exact HOL.out, by have := HZ10.out; omega, by rw [HST.out]; exact H4.out⟩
      | false =>
        obtain ⟨sm, hsm⟩ : ∃ sm, sm = totalL ls := ⟨_, rfl⟩
        have HST := hid (show conOut nodeL nilL R0 = (out ++ [sm]).reverse from by rw [← HST0.out, hsm]; rfl)
        have HSM32 := hid (show sm.length = 32 by rw [hsm]; exact total_len HLA.out)
        have HSZ := hid (show (bv sm).size = 32 from (bv_size sm).trans HSM32.out)
        have HSL := hid (show (bvL sm).length = 1 * 32 by rw [bvL_len, HSM32.out])
        have HT := hid (fun (X : World) (hX : Below w.heap.size w X) => HTOT.out X hX A2 q c2 ls HLS.out HLA.out HQ.out (by have := HZ10.out; omega))
        rw [← hsm] at HT
        have HOL2 := hid (show z + 1 = (out ++ [sm]).length by rw [List.length_append]; have := HOL.out; simp; omega)
        have HRV := hid (fun (X : World) (B1 : Option Addr) (d1 : Nat) (hX : St w [Row (.slice B1 (z + 1) d1) 23 32 (z + 1) (sumsV (out ++ [sm]))] X) => rev_st hX (HOA.out.snoc HSM32.out) HOL2.out (by have := HZ10.out; omega))
        clear hsm
        go_upto_region 18 with (first | (go_at_call 46; (with_reducible refine (HT.out _ H3.out.below).mono ?_); rintro r w3 ⟨rfl, hb⟩; have H4 := hid (H3.out.turn hb); clear hb) | (refine wpList_buildSlice1 _ rfl (.agg (bv sm)) (by simp [Act.eval, Act.put]) rfl Tryd.underlying28 zero54s size54s (by decide) (by decide) HSZ.out ?_; intro gn X4 hS hgs hges hX1b; have H4b := hid (H4.out.turn hX1b); have HNW := hid (news_box hS (bvL sm) (show (bv sm).toList = bvL sm by rw [bv_eq])); clear hS hgs hges hX1b) | (refine wpList_append_at _ _ _ rfl (.slice B z d) rfl ⟨gn, 0, none⟩ 1 1 rfl rfl 23 i23 (.agg (bv (List.replicate 32 0))) 32 32 Tryd.underlying28 HI.out.1 HI.out.2.1 HI.out.2.2.1 HI.out.2.2.2 HZ32.out (by decide) z (sumsV out) H4b.out.row (bvL sm) HSL.out HNW.out (bvL_one _) (by unfold maxLen; omega) (by omega) ?_; intro v' X5 hO2 hT2 hfr; have H5 := hid (H4b.out.grow hO2 hT2 hfr); clear hO2 hT2 hfr; obtain ⟨B1, d1, hv', _⟩ := row_slice H5.out; subst hv'))
        have H6 := H5.out
        rw [← sumsV_snoc] at H6
        go_wp2_with (go_at_call 48; (with_reducible refine (HRV.out _ _ _ H6).mono ?_); rintro r w3 ⟨rfl, hst⟩; have H7 := hid hst; clear hst)
        go_ret2
        exact ⟨B1, z + 1, d1, rfl, by rw [HST.out, List.length_reverse]; exact HOL2.out, by have := HZ10.out; omega, by rw [HST.out]; exact H7.out⟩
    · have e0 : (j : Int) < (q : Int) := by omega
      obtain ⟨f, rfl⟩ : ∃ f', f = f' + 1 := ⟨f - 1, by omega⟩
      obtain ⟨k, hk⟩ : ∃ k, k = halfP q := ⟨_, rfl⟩
      obtain ⟨g, o, cs, t, rfl, _⟩ := HLS.out.some (fun e => by have h := HQ.out; rw [e, List.length_nil] at h; omega)
      obtain ⟨hk1, hk2⟩ := half_in (n := q) (by omega) (by omega)
      rw [← hk] at hk1 hk2
      have HHF := hid (fun X => half_now (w := X) (n := q) (by omega) (by omega))
      rw [← hk] at HHF
      have HK := hid (show k = halfP ls.length by rw [hk, ← HQ.out])
      have k0 : (0 : Int) ≤ (k : Int) := by omega
      have k1 : (k : Int) ≤ (q : Int) := by omega
      have k2 : (k : Int) ≤ (c2 : Int) := by omega
      have k3 : k ≤ q := by omega
      have k4 : k ≤ c2 := by omega
      have k5 : (q : Int) ≤ (c2 : Int) := by omega
      have q9 : (q : Int) ≤ 9 := by omega
      have z9 : (z : Int) ≤ 9 := by omega
      have j9 : (j : Int) ≤ 9 := by omega
      clear hk
      go_upto_region 9 with (go_at_call 47; (with_reducible refine (HHF.out _).mono ?_); rintro r w3 ⟨rfl, rfl⟩)
      by_cases hjk : j ≤ k
      · have e1n := hid hjk
        have e1 : (j : Int) ≤ (k : Int) := by omega
        obtain ⟨sm, hsm⟩ : ∃ sm, sm = totalL (ls.drop k) := ⟨_, rfl⟩
        have HSM := hid hsm
        have HSM32 := hid (show sm.length = 32 by rw [hsm]; exact total_len (HLA.out.drop k))
        have HSZ := hid (show (bv sm).size = 32 from (bv_size sm).trans HSM32.out)
        have HSL := hid (show (bvL sm).length = 1 * 32 by rw [bvL_len, HSM32.out])
        have HT := hid (fun (X : World) (hX : Below w.heap.size w X) => HTOT.out X hX (some ⟨g, o + k * 32, none⟩) (q - k) (c2 - k) (ls.drop k) (HLS.out.drop k _ rfl) (HLA.out.drop k) (by rw [List.length_drop]; have := HQ.out; omega) (by omega))
        rw [← hsm] at HT
        have HST := hid (show conP nodeL nilL f (ls.take k) (j) b (out ++ [sm]) = R0 from by
          rw [← HP.out, hsm]
          exact (conP_left (by rw [← HQ.out]; omega) HK.out (by omega)).symm)
        have HQ2 := hid (show (k) = (ls.take k).length by rw [List.length_take]; have := HQ.out; omega)
        have HLS2 := hid (show SumsAt w (some ⟨g, o, none⟩) (ls.take k) from HLS.out.take k)
        have HLA2 := hid (HLA.out.take k)
        have HOA2 := hid (HOA.out.snoc HSM32.out)
        have HOL2 := hid (show z + 1 = (out ++ [sm]).length by rw [List.length_append]; have := HOL.out; simp; omega)
        have HKQ := hid (And.intro hk1 hk2)
        have HFZ := hid (And.intro hf (And.intro hz (And.intro hcq (And.intro hj1 hlt))))
        clear hsm HP hj1 hlt
        go_wp2_with (first | (go_at_call 46; (with_reducible refine (HT.out _ H3.out.below).mono ?_); rintro r w3 ⟨rfl, hb⟩; have H4 := hid (H3.out.turn hb); clear hb) | (refine wpList_buildSlice1 _ rfl (.agg (bv sm)) (by simp [Act.eval, Act.put]) rfl Tryd.underlying28 zero54s size54s (by decide) (by decide) HSZ.out ?_; intro gn X4 hS hgs hges hX1b; have H4b := hid (H4.out.turn hX1b); have HNW := hid (news_box hS (bvL sm) (show (bv sm).toList = bvL sm by rw [bv_eq])); clear hS hgs hges hX1b) | (refine wpList_append_at _ _ _ rfl (.slice B z d) rfl ⟨gn, 0, none⟩ 1 1 rfl rfl 23 i23 (.agg (bv (List.replicate 32 0))) 32 32 Tryd.underlying28 HI.out.1 HI.out.2.1 HI.out.2.2.1 HI.out.2.2.2 HZ32.out (by decide) z (sumsV out) H4b.out.row (bvL sm) HSL.out HNW.out (bvL_one _) (by unfold maxLen; omega) (by omega) ?_; intro v' X5 hO2 hT2 hfr; have H5 := hid (H4b.out.grow hO2 hT2 hfr); clear hO2 hT2 hfr; obtain ⟨B1, d1, hv', _⟩ := row_slice H5.out; subst hv'))
        have H6 := H5.out
        rw [← sumsV_snoc] at H6
        go_roundw
        case rel => exact ⟨j, f, z + 1, k, c2, d1, B1, some ⟨g, o, none⟩, out ++ [sm], ls.take k, b, by rfl, rfl, rfl, rfl, HST, by have := HFZ.out; have := HKQ.out; omega, by have := HFZ.out; have := HKQ.out; omega, by have := HFZ.out; have := HKQ.out; omega, by have := HFZ.out; have := HKQ.out; have := e1n.out; omega, HQ2, HOL2, HLA2, HOA2, HLS2, hid H6⟩
        case measure => have := HKQ.out; show k < q; omega
      · have e1n := hid hjk
        have e1 : ¬ (j : Int) ≤ (k : Int) := by omega
        obtain ⟨sm, hsm⟩ : ∃ sm, sm = totalL (ls.take k) := ⟨_, rfl⟩
        have HSM := hid hsm
        have HSM32 := hid (show sm.length = 32 by rw [hsm]; exact total_len (HLA.out.take k))
        have HSZ := hid (show (bv sm).size = 32 from (bv_size sm).trans HSM32.out)
        have HSL := hid (show (bvL sm).length = 1 * 32 by rw [bvL_len, HSM32.out])
        have HT := hid (fun (X : World) (hX : Below w.heap.size w X) => HTOT.out X hX (some ⟨g, o, none⟩) (k) (c2) (ls.take k) (HLS.out.take k) (HLA.out.take k) (by rw [List.length_take]; have := HQ.out; omega) (by omega))
        rw [← hsm] at HT
        have HST := hid (show conP nodeL nilL f (ls.drop k) ((j - k)) false (out ++ [sm]) = R0 from by
          rw [← HP.out, hsm]
          exact (conP_right (by rw [← HQ.out]; omega) HK.out (by omega)).symm)
        have HQ2 := hid (show (q - k) = (ls.drop k).length by rw [List.length_drop]; have := HQ.out; omega)
        have HLS2 := hid (show SumsAt w (some ⟨g, o + k * 32, none⟩) (ls.drop k) from HLS.out.drop k _ rfl)
        have HLA2 := hid (HLA.out.drop k)
        have HOA2 := hid (HOA.out.snoc HSM32.out)
        have HOL2 := hid (show z + 1 = (out ++ [sm]).length by rw [List.length_append]; have := HOL.out; simp; omega)
        have HKQ := hid (And.intro hk1 hk2)
        have HFZ := hid (And.intro hf (And.intro hz (And.intro hcq (And.intro hj1 hlt))))
        clear hsm HP hj1 hlt
        go_wp2_with (first | (go_at_call 46; (with_reducible refine (HT.out _ H3.out.below).mono ?_); rintro r w3 ⟨rfl, hb⟩; have H4 := hid (H3.out.turn hb); clear hb) | (refine wpList_buildSlice1 _ rfl (.agg (bv sm)) (by simp [Act.eval, Act.put]) rfl Tryd.underlying28 zero54s size54s (by decide) (by decide) HSZ.out ?_; intro gn X4 hS hgs hges hX1b; have H4b := hid (H4.out.turn hX1b); have HNW := hid (news_box hS (bvL sm) (show (bv sm).toList = bvL sm by rw [bv_eq])); clear hS hgs hges hX1b) | (refine wpList_append_at _ _ _ rfl (.slice B z d) rfl ⟨gn, 0, none⟩ 1 1 rfl rfl 23 i23 (.agg (bv (List.replicate 32 0))) 32 32 Tryd.underlying28 HI.out.1 HI.out.2.1 HI.out.2.2.1 HI.out.2.2.2 HZ32.out (by decide) z (sumsV out) H4b.out.row (bvL sm) HSL.out HNW.out (bvL_one _) (by unfold maxLen; omega) (by omega) ?_; intro v' X5 hO2 hT2 hfr; have H5 := hid (H4b.out.grow hO2 hT2 hfr); clear hO2 hT2 hfr; obtain ⟨B1, d1, hv', _⟩ := row_slice H5.out; subst hv'))
        have H6 := H5.out
        rw [← sumsV_snoc] at H6
        go_roundw
        case rel => exact ⟨j - k, f, z + 1, q - k, c2 - k, d1, B1, some ⟨g, o + k * 32, none⟩, out ++ [sm], ls.drop k, false, by go_num, rfl, by go_num, rfl, HST, by have := HFZ.out; have := HKQ.out; omega, by have := HFZ.out; have := HKQ.out; omega, by have := HFZ.out; have := HKQ.out; omega, by have := HFZ.out; have := HKQ.out; have := e1n.out; omega, HQ2, HOL2, HLA2, HOA2, HLS2, hid H6⟩
        case measure => have := HKQ.out; show q - k < q; omega
  
end
end Go.Proofs.YtnakbdgoaepehaaDoor
