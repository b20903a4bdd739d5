/- CustumalLogs: roots of a tree's versions in a log are there, each at its place, and the log of fewer is its beginning: for all leaves and numbers. The two tables of the sums are tied to the program's text by the card. -/
import Derived.Test.YtnakbdgoaepehaaDoorLb10
import Derived.Test.YtnakbdgoaepehaaDoorRows
import Derived.Test.YtnakbdgoaepehaaDoorCards
import Derived.Test.YtnakbdgoaepehaaDoorTie
import Derived.ChangeOld
import Derived.Stop.Joined
import Derived.SevenTiedAt
/- CustumalLogs: the walk. -/
namespace Go.Proofs.YtnakbdgoaepehaaDoor
open Go.RowKit Go.Cu
set_option maxRecDepth 40000 in
set_option maxHeartbeats 80000000 in
theorem logs_walk {A : Option Addr} {c : Nat} {ls : List Lv} {z : Int} (w : World) (hG : Glob w) (hin : LeavesIn w A ls) (ha : LeavesOk ls) (hc : ls.length ≤ c) :
    Calls Tryd.prog 5 #[.slice A ls.length c, .int .i64 z] w fun x w' => x = .returned (.bool true) ∧ Below w.heap.size w w' := by
  obtain ⟨m, hm⟩ : ∃ m, m = min ls.length 8 := ⟨_, rfl⟩
  obtain ⟨lt, hlt⟩ : ∃ lt, lt = ls.take m := ⟨_, rfl⟩
  have HLN := hid (show lt.length = m by rw [hlt, List.length_take]; omega)
  have HOK := hid (show LeavesOk lt by rw [hlt]; exact ha.take m)
  have HLV := hid (fun (X : World) (M : List Atm) (hX : St w M X) => leaves_st hX hin ha rfl hc hm)
  rw [← hlt] at HLV
  have HG := hid hG
  have HZ32 := hid zero32_size
  have HM8 := hid (show m ≤ 8 by omega)
  have m8 : (m : Int) ≤ 8 := by omega
  have m0 : (0 : Int) ≤ (m : Int) := by omega
  have HSTD := hid (fun (X : World) (M : List Atm) (hX : St w M X) => stands_st hX hG)
  obtain ⟨i23, hi', hiz, his, hib⟩ := info_parts infoSum
  have HI := hid (And.intro hi' (And.intro hiz (And.intro his hib)))
  obtain ⟨nl, hnl⟩ : ∃ nl, nl = ls.length := ⟨_, rfl⟩
  rw [← hnl] at HLV ⊢
  clear hG hin ha hc hm hlt hnl hi' hiz his hib
  go_enter Tryd.func5, Tryd.ntmps5
  go_wp2_with (first | (go_at_call 6; (with_reducible refine (HLV.out _ _ (St.start w)).mono ?_); rintro r w3 ⟨B, d, rfl, hst⟩; have H1 := hid (hst.nilTree.nilRow 23 32); clear hst) | (refine wpList_box rfl 63 _ rfl (.agg #[.slice none 0 0]) rfl ?_; intro g6 W1 h1 hl1 hg1 hW1; have H2 := hid ((H1.out.newBlk hW1 hg1 h1).nilRow 23 32); clear h1 hl1 hg1 hW1))
  clear H1 HLV
  go_loopw [5, 7, 8] (fun tv rv iv X => ∃ (i : Nat) (t : Tr) (rs : List (List UInt8)) (A2 R : Option Addr) (c2 d2 : Nat), i ≤ m ∧ iv = .int .i64 i ∧ rv = .slice R i d2 ∧ Hid (t.WF 0) ∧ Hid (rs.length = i) ∧ Hid (All32 rs) ∧ Hid (St w [Row (.slice A2 i c2) 23 32 i (sumsV (entsL rs)), Blk g6 #[.slice A2 i c2] 63, Row (.slice R i d2) 23 32 i (sumsV rs), TreeA tv t, Row (.slice B m d) 30 64 m (leavesV lt)] X)) (fun _ _ iv _ => m - (intOf iv).toNat)
  case atStart => exact ⟨0, .nil, [], none, none, 0, 0, by omega, rfl, rfl, hid trivial, hid rfl, hid (fun x hx => by cases hx), H2⟩
  case round =>
    clear H2
    obtain ⟨i, t, rs, A2, R, c2, d2, hi, rfl, rfl, HW, HRN, HRA, H2⟩ := hrel
    have i0 : (0 : Int) ≤ (i : Int) := by omega
    by_cases hlt : i < m
    · have i1 : (i : Int) < (m : Int) := by omega
      have i2 : (i : Int) ≤ 8 := by omega
      have HLT := hid hlt
      obtain ⟨⟨lk, lv⟩, hp⟩ : ∃ p, lt[i]? = some p := ⟨_, List.getElem?_eq_getElem (by rw [HLN.out]; exact hlt)⟩
      have HP32 := hid (HOK.out _ (List.mem_of_getElem? hp))
      obtain ⟨gB, rfl⟩ := row_some H2.out.at5 (by omega)
      have LL : (loadK 30 (.pointer (some ⟨gB, i * 64, none⟩))).run Tryd.prog wr = .ok (.value (.agg (leafC lk lv))) wr := by
        obtain ⟨g1, e1, h1⟩ := lrow_load (t := 30) (vs := leafC lk lv) (o' := 0) H2.out.at5 HOK.out hp Tryd.underlying30 rfl sizeLeaf (leafC_size HP32.out.1 HP32.out.2) (by decide) (fun j _ => by rw [Nat.zero_add])
        cases e1
        exact h1 _ rfl
      have HPU := hid (fun (X : World) (v : Value) (M : List Atm) (hX : St w (TreeA v t :: M) X) => put_at hX HG.out HW.out HP32.out.1 HP32.out.2)
      obtain ⟨t2, ht2⟩ : ∃ t2, t2 = t.put lk lv 0 := ⟨_, rfl⟩
      have HW2 := hid (put_wf HP32.out.1 HP32.out.2 t 0 HW.out (agree0 t) (by decide))
      rw [← ht2] at HPU HW2
      obtain ⟨r, hr⟩ : ∃ r, r = t2.sum sumL := ⟨_, rfl⟩
      have HR32 := hid (show r.length = 32 by rw [hr]; exact sum_len t2)
      have HRZ := hid (show (bv r).size = 32 from (bv_size r).trans HR32.out)
      have HRB := hid (show (bvL r).length = 1 * 32 by rw [bvL_len, HR32.out])
      have HRO := hid (fun (X : World) (v : Value) (M : List Atm) (hX : St w (TreeA v t2 :: M) X) => root_at hX HG.out)
      rw [← hr] at HRO
      have HADD := hid (fun (X : World) (a : Atm) (M : List Atm) (g9 : Nat) (hX : St w (Row (.slice A2 i c2) 23 32 i (sumsV (entsL rs)) :: Blk g6 #[.slice A2 i c2] 63 :: a :: Blk g9 (bv r) 23 :: M) X) => add_st (B := some ⟨g9, 0, none⟩) (m := 32) (d := 32) (r := r) hX HG.out (by rw [entsL_len, HRN.out]) (by omega) HR32.out.symm (by decide) (by unfold maxLen; omega) (by rw [HR32.out]; decide) (fun Y hY => blk_bytes hY.at3))
      rw [← entsL_snoc] at HADD
      clear hp ht2 hr hlt
      go_wp2_with (first | (go_at_call 9; (with_reducible refine (HPU.out _ _ _ H2.out.at4).mono ?_); rintro q w3 ⟨p, rfl, hst⟩; have H3 := hid hst; clear hst LL) | (go_at_call 7; (with_reducible refine (HRO.out _ _ _ H3.out).mono ?_); rintro q w3 ⟨rfl, hb⟩; have H4 := hid (H3.out.turn hb); clear hb) | (refine wpList_alloc 23 rfl rfl (.agg (bv (List.replicate 32 0))) zero54s ?_; intro g9 W1 h1 hl1 hg1 hW1; have H5 := hid (H4.out.newBlk hW1 hg1 h1); clear h1 hl1 hg1 hW1) | (refine wpList_store_box 23 _ _ rfl g9 rfl rfl (bv r) rfl 32 size54s HRZ.out (bv_one _) 23 _ H5.out.blk HZ32.out ?_; intro W7 hB7 hT7 hs7; have H6 := hid (H5.out.put hB7 hT7); have L9 := run_loadK_box (P := Tryd.prog) hB7 Tryd.underlying23 rfl size54s HRZ.out; clear hB7 hT7 hs7) | (refine wpList_buildSlice1 _ rfl (.agg (bv r)) (by simp [Act.eval, Act.put]) rfl Tryd.underlying28 zero54s size54s (by decide) (by decide) HRZ.out ?_; intro gn X4 hS hgs hges hX1b; have H7 := hid (H6.out.turn hX1b); have HNW := hid (news_box hS (bvL r) (show (bv r).toList = bvL r by rw [bv_eq])); clear hS hgs hges hX1b L9) | (refine wpList_append_at _ _ _ rfl (.slice R i d2) rfl ⟨gn, 0, none⟩ 1 1 rfl rfl 23 i23 (.agg (bv (List.replicate 32 0))) 32 32 Tryd.underlying28 HI.out.1 HI.out.2.1 HI.out.2.2.1 HI.out.2.2.2 HZ32.out (by decide) i (sumsV rs) H7.out.at5.row (bvL r) HRB.out HNW.out (bvL_one _) (by unfold maxLen; omega) (by omega) ?_; intro v' X5 hO2 hT2 hfr; have H8 := hid (H7.out.at5.grow hO2 hT2 hfr); clear hO2 hT2 hfr; obtain ⟨R1, d1, hv', _⟩ := row_slice H8.out; subst hv') | (go_at_call 24; (with_reducible refine (HADD.out _ _ _ _ H8.out.at5.at5).mono ?_); rintro q w5 ⟨rfl, A3, c3, hst⟩; have H9 := hid hst.drop4; clear hst))
      have H10 := H9.out
      rw [← sumsV_snoc] at H10
      go_roundw
      case rel => exact ⟨i + 1, t2, rs ++ [r], A3, R1, c3, d1, by have := HLT.out; omega, by go_num, rfl, HW2, hid (by rw [List.length_append, HRN.out]; rfl), hid (HRA.out.snoc HR32.out), hid H10⟩
      case measure => have := HLT.out; simp only [intOf]; omega
    · have e1 : ¬ (i : Int) < (m : Int) := by omega
      obtain rfl : i = m := by omega
      clear e1 hlt hi
      replace H2 := hid (show St w [Row (.slice A2 i c2) 23 32 i (sumsV (entsL rs)), Blk g6 #[.slice A2 i c2] 63, Row (.slice R i d2) 23 32 i (sumsV rs)] wr from H2.out.drop4.drop4)
      by_cases hz : i = 0
      · have e0 : ((i : Int) == 0) = true := by simp; omega
        go_upto_region 14 with (go_at_call 12; (with_reducible refine (HSTD.out _ _ H2.out).mono ?_); rintro q w3 ⟨rfl, hst⟩; have H3 := hid hst; clear hst)
        go_wp2_with (go_at_call 12; (with_reducible refine (HSTD.out _ _ H3.out).mono ?_); rintro q w3 ⟨rfl, hst⟩; have H4 := hid hst; clear hst)
        go_ret
        exact ⟨rfl, H4.out.below⟩
      · have e0 : ((i : Int) == 0) = false := by simp; omega
        have e1 : ¬ (i : Int) = 0 := by omega
        have e2 : (1 : Int) ≤ (i : Int) := by omega
        have e3 : (i == 0) = false := by simp; omega
        obtain ⟨j, er, hj⟩ := u64_rem z i (by omega)
        have HJI := hid hj
        have HJR := hid er
        have HZ := hid hz
        obtain ⟨gR, rfl⟩ := row_some H2.out.at3 (by omega)
        clear er hj hz
        go_upto_region 15 with (go_at_call 12; (with_reducible refine (HSTD.out _ _ H2.out).mono ?_); rintro q w3 ⟨rfl, hst⟩; have H3 := hid hst; clear hst)
        have er := HJR.out
        have j0 : (0 : Int) ≤ (j : Int) := by omega
        have j1 : (j : Int) < (i : Int) := by have := HJI.out; omega
        have j2 : (j : Int) ≤ 8 := by omega
        go_upto_region 16 with fail
        clear er HJR H2 HSTD
        obtain ⟨r, hr⟩ : ∃ r, rs[j]? = some r := ⟨_, List.getElem?_eq_getElem (by rw [HRN.out]; exact HJI.out)⟩
        have HRJ := hid hr
        have HR32 := hid (HRA.out r (List.mem_of_getElem? hr))
        have hel : (entsL rs).length = i := by rw [entsL_len, HRN.out]
        have htk : (entsL rs).take i = entsL rs := List.take_of_length_le (by omega)
        have HLR := hid (fun (X : World) (M M' : List Atm) (k : Nat) (h1 : 1 ≤ k) (h2 : k ≤ i) (hX : St w (Row (.slice A2 i c2) 23 32 i (sumsV (entsL rs)) :: M) X) (hX' : St w (Blk g6 #[.slice A2 i c2] 63 :: M') X) => lroot_now (w := X) (HG.out.below hX.below HG.out.two) hX'.blk (sums_row hX (entsL_all rs)) (entsL_all rs) hel.symm HM8.out (row_room hX).1 h1 h2)
        have HIC := hid (fun (X : World) (M M' : List Atm) (hX : St w (Row (.slice A2 i c2) 23 32 i (sumsV (entsL rs)) :: M) X) (hX' : St w (Blk g6 #[.slice A2 i c2] 63 :: M') X) => linc_now (w := X) (i := j) (HG.out.below hX.below HG.out.two) hX'.blk (sums_row hX (entsL_all rs)) (entsL_all rs) hel.symm HM8.out (row_room hX).1 (Nat.le_refl i) HJI.out)
        have HCO := hid (fun (X : World) (M M' : List Atm) (hne : j + 1 < i) (hX : St w (Row (.slice A2 i c2) 23 32 i (sumsV (entsL rs)) :: M) X) (hX' : St w (Blk g6 #[.slice A2 i c2] 63 :: M') X) => lcon_now (w := X) (i := j + 1) (HG.out.below hX.below HG.out.two) hX'.blk (sums_row hX (entsL_all rs)) (entsL_all rs) hel.symm HM8.out (row_room hX).1 (Nat.le_refl i) (Nat.le_add_left 1 j) hne)
        have HCA := hid (fun (X : World) (M' : List Atm) (heq : j + 1 = i) (hX' : St w (Blk g6 #[.slice A2 i c2] 63 :: M') X) => show Calls Tryd.prog 27 #[.pointer (some ⟨g6, 0, none⟩), .int .i64 ((j : Int) + 1), .int .i64 i] X fun r w' => r = .returned (.tuple #[.slice none 0 0, .int .i64 0]) ∧ X = w' from by
          rw [show ((j : Int) + 1) = (i : Int) by omega]
          exact lcon_all (w := X) (m := i) hX'.blk (Nat.le_refl i) (by omega))
        rw [htk] at HIC HCO
        obtain ⟨ps, hps⟩ : ∃ ps, ps = (incP nodeL nilL i (entsL rs) j []).reverse := ⟨_, rfl⟩
        obtain ⟨qs, hqs⟩ : ∃ qs, qs = conOut nodeL nilL (conP nodeL nilL i (entsL rs) (j + 1) true []) := ⟨_, rfl⟩
        have HPA := hid (show All32 ps by rw [hps]; exact inc_all (entsL_all rs))
        have HQA := hid (show All32 qs by rw [hqs]; exact con_all (entsL_all rs))
        obtain ⟨top, htop⟩ : ∃ top, top = totalL (entsL rs) := ⟨_, rfl⟩
        obtain ⟨old, hold⟩ : ∃ old, old = totalL ((entsL rs).take (j + 1)) := ⟨_, rfl⟩
        have HT32 := hid (show top.length = 32 by rw [htop]; exact total_len (entsL_all rs))
        have HO32 := hid (show old.length = 32 by rw [hold]; exact total_len ((entsL_all rs).take _))
        obtain ⟨a, hcki⟩ := inc_law nodeL nilL (entsL rs) (by rw [hel]; exact HM8.out) j (entL r) (entsL_get hr)
        have ht1 : totalP nodeL nilL (entsL rs) = top := htop.symm
        have ht2 : totalP nodeL nilL ((entsL rs).take (j + 1)) = old := hold.symm
        rw [hel, ← hps, ht1] at hcki
        have HCKI := hid hcki
        have HCL := hid (fun (hne : j + 1 < i) => con_law nodeL nilL (entsL rs) (by rw [hel]; exact HM8.out) (j + 1) (Nat.le_add_left 1 j) (by rw [hel]; exact hne))
        rw [hel, ← hqs, ht1, ht2] at HCL
        have HL1 := hid (fun (X : World) (M M' : List Atm) (hX : St w (Row (.slice A2 i c2) 23 32 i (sumsV (entsL rs)) :: M) X) (hX' : St w (Blk g6 #[.slice A2 i c2] 63 :: M') X) => HLR.out X M M' i (by have := HZ.out; omega) (Nat.le_refl i) hX hX')
        rw [htk, ← htop] at HL1
        have HL2 := hid (fun (X : World) (M M' : List Atm) (hX : St w (Row (.slice A2 i c2) 23 32 i (sumsV (entsL rs)) :: M) X) (hX' : St w (Blk g6 #[.slice A2 i c2] 63 :: M') X) => HLR.out X M M' (j + 1) (Nat.le_add_left 1 j) HJI.out hX hX')
        rw [← hold] at HL2
        rw [← hps] at HIC
        rw [← hqs] at HCO
        have hcs : ((j + 1 : Nat) : Int) = (j : Int) + 1 := by omega
        rw [hcs] at HL2 HCO
        clear hcs
        have HOT := hid (fun (heq : j + 1 = i) => show old = top by rw [hold, htop, heq, htk])
        have HTZ := hid (show (bv top).size = 32 from (bv_size top).trans HT32.out)
        have HOZ := hid (show (bv old).size = 32 from (bv_size old).trans HO32.out)
        clear ht1 ht2 hr hel htk hps hqs htop hold hcki HLR
        go_upto_region 18 with (first | (go_at_call 25; (with_reducible refine (HL1.out _ _ _ H3.out H3.out.at2).mono ?_); rintro q w4 ⟨rfl, hb⟩; have H4 := hid (H3.out.turn hb); clear hb) | (refine wpList_alloc 23 rfl rfl (.agg (bv (List.replicate 32 0))) zero54s ?_; intro g12 W1 h1 hl1 hg1 hW1; have H5 := hid (H4.out.newBlk hW1 hg1 h1); clear h1 hl1 hg1 hW1) | (refine wpList_store_box 23 _ _ rfl g12 rfl rfl (bv top) rfl 32 size54s HTZ.out (bv_one _) 23 _ H5.out.blk HZ32.out ?_; intro W7 hB7 hT7 hs7; have H6 := hid (H5.out.put hB7 hT7); clear hB7 hT7 hs7) | (go_at_call 26; (with_reducible refine (HIC.out _ _ _ H6.out.at2 H6.out.at3).mono ?_); rintro q w5 ⟨PA, pn, pd, rfl, hpn, hp10, hst⟩; have H7 := hid (H6.out.link hst); have HPN := hid (And.intro hpn hp10); clear hst hpn hp10))
        go_upto_region 19 with (first | (go_at_call 25; (with_reducible refine (HL2.out _ _ _ H7.out.at3 H7.out.at4).mono ?_); rintro q w4 ⟨rfl, hb⟩; have H7b := hid (H7.out.turn hb); clear hb) | (refine wpList_alloc 23 rfl rfl (.agg (bv (List.replicate 32 0))) zero54s ?_; intro g16 W1 h1 hl1 hg1 hW1; have H7c := hid (H7b.out.newBlk hW1 hg1 h1); clear h1 hl1 hg1 hW1) | (refine wpList_store_box 23 _ _ rfl g16 rfl rfl (bv old) rfl 32 size54s HOZ.out (bv_one _) 23 _ H7c.out.blk HZ32.out ?_; intro W8 hB7 hT7 hs7; have H8 := hid (H7c.out.put hB7 hT7); clear hB7 hT7 hs7))
        clear H3 H4 H5 H6 H7 H7b H7c HL1 HL2 HIC
        by_cases hji : j + 1 = i
        · replace HOT := hid (HOT.out hji)
          replace HCA := hid (fun X M' => HCA.out X M' hji)
          have HEQ := hid hji
          clear HCO HCL hji
          go_upto_region 20 with (go_at_call 27; (with_reducible refine (HCA.out _ _ H8.out.at5).mono ?_); rintro q w5 ⟨rfl, rfl⟩; have H9 := hid H8.out)
          clear H8 HCA
          have HF := hid (fun (X : World) (hX : St w [Blk g16 (bv old) 23, Row (.slice PA pn pd) 23 32 pn (sumsV ps), Blk g12 (bv top) 23, Row (.slice A2 i c2) 23 32 i (sumsV (entsL rs)), Blk g6 #[.slice A2 i c2] 63, Row (.slice (some ⟨gR, 0, none⟩) i d2) 23 32 i (sumsV rs)] X) => show (loadK 23 (.pointer (some ⟨g12, 0, none⟩))).run Tryd.prog X = .ok (.value (.agg (bv top))) X ∧ (loadK 23 (.pointer (some ⟨g16, 0, none⟩))).run Tryd.prog X = .ok (.value (.agg (bv old))) X from ⟨run_loadK_box (P := Tryd.prog) hX.at3.blk Tryd.underlying23 rfl size54s ((bv_size top).trans HT32.out), run_loadK_box (P := Tryd.prog) hX.blk Tryd.underlying23 rfl size54s ((bv_size old).trans HO32.out)⟩)
          have HCI := hid (fun (X : World) (hX : St w [Blk g16 (bv old) 23, Row (.slice PA pn pd) 23 32 pn (sumsV ps), Blk g12 (bv top) 23, Row (.slice A2 i c2) 23 32 i (sumsV (entsL rs)), Blk g6 #[.slice A2 i c2] 63, Row (.slice (some ⟨gR, 0, none⟩) i d2) 23 32 i (sumsV rs)] X) => ckI_now (w := X) (B := some ⟨gR, j * 32, none⟩) (d := 32) (A := PA) (c := pd) (HG.out.below hX.below HG.out.two) (m := 32) HR32.out.symm (Nat.le_refl _) (by unfold maxLen; omega) (by
            obtain ⟨g', e', h'⟩ := row_part hX.at6 HRA.out HRJ.out
            cases e'
            exact h') (by rw [HR32.out]; decide) (sums_row hX.at2 HPA.out) HPA.out HPN.out.1 HPN.out.2 HT32.out HJI.out HM8.out HCKI.out)
          have HCC := hid (fun (X : World) (hX : St w [Blk g16 (bv old) 23, Row (.slice PA pn pd) 23 32 pn (sumsV ps), Blk g12 (bv top) 23, Row (.slice A2 i c2) 23 32 i (sumsV (entsL rs)), Blk g6 #[.slice A2 i c2] 63, Row (.slice (some ⟨gR, 0, none⟩) i d2) 23 32 i (sumsV rs)] X) => show Calls Tryd.prog 29 #[.int .i64 ((j : Int) + 1), .int .i64 i, .slice none 0 0, .agg (bv old), .agg (bv top)] X fun r w' => r = .returned (.int .i64 0) ∧ Below X.heap.size X w' from by
            rw [show ((j : Int) + 1) = (i : Int) by have := HEQ.out; omega, HOT.out]
            exact ckC_all (w := X) (m := i) (c := 0) (A := none) (by have := HJI.out; omega) HT32.out)
          go_upto_region 20 with fail
          refine wp_region_ord [] [(0, 1), (1, 1), (2, 1), (3, 1), (4, 1), (5, 1), (6, 1), (7, 1), (8, 1), (9, 1), (10, 1), (11, 1), (12, 1), (13, 1), (14, 1), (15, 1), (16, 1), (17, 1), (18, 1), (19, 1), (20, 1), (21, 1), (22, 1), (23, 2), (24, 1), (25, 1), (26, 1), (27, 1), (28, 1), (29, 1), (30, 1), (31, 1), (32, 1), (33, 2), (34, 1), (35, 1), (36, 1)] (fun X => St w [Blk g16 (bv old) 23, Row (.slice PA pn pd) 23 32 pn (sumsV ps), Blk g12 (bv top) 23, Row (.slice A2 i c2) 23 32 i (sumsV (entsL rs)), Blk g6 #[.slice A2 i c2] 63, Row (.slice (some ⟨gR, 0, none⟩) i d2) 23 32 i (sumsV rs)] X) (by kernel_rfl) (by kernel_rfl) (fun d _ c _ _ h => by cases d <;> exact h) (H9.out.turn (Below.drew (Below.refl _ _))) (fun X hXe hXi => ?_)
          have H10 := H9.out.turn (Below.drew (Below.refl _ _))
          rw [← hXe] at H10
          replace H10 := hid H10
          clear hXe hXi
          clear H9
          iterate 23 (apply wpOrd_class; ((· first | (rw [List.getElem?_toArray, List.getElem?_cons_zero]; done) | (simp only [List.getElem?_toArray, List.getElem?_cons_succ, List.getElem?_cons_zero]; exact rfl))); (· exact rfl); intro K hK; apply Exists.intro; refine And.intro (fun X' hX' => ?_) ?_; (· obtain ⟨hq1, hq2⟩ := HF.out _ hX'; clear hX'; go_simp; (try go_bits); first | done | exact rfl | exact ⟨rfl, rfl⟩); go_simp; refine hK _ _ ?_; clear hK K)
          (apply wpOrd_comes; ((· first | (rw [List.getElem?_toArray, List.getElem?_cons_zero]; done) | (simp only [List.getElem?_toArray, List.getElem?_cons_succ, List.getElem?_cons_zero]; exact rfl))); intro N hN)
          go_wp2_with (go_at_call 28; (with_reducible refine (HCI.out _ H10.out).mono ?_); rintro q w6 ⟨rfl, hb⟩; have H11 := hid (H10.out.turn hb); clear hb)
          refine hN _ _ (fun _ => H11.out) ?_
          clear hN N
          iterate 9 (apply wpOrd_class; ((· first | (rw [List.getElem?_toArray, List.getElem?_cons_zero]; done) | (simp only [List.getElem?_toArray, List.getElem?_cons_succ, List.getElem?_cons_zero]; exact rfl))); (· exact rfl); intro K hK; apply Exists.intro; refine And.intro (fun X' hX' => ?_) ?_; (· obtain ⟨hq1, hq2⟩ := HF.out _ hX'; clear hX'; go_simp; (try go_bits); first | done | exact rfl | exact ⟨rfl, rfl⟩); go_simp; refine hK _ _ ?_; clear hK K)
          (apply wpOrd_comes; ((· first | (rw [List.getElem?_toArray, List.getElem?_cons_zero]; done) | (simp only [List.getElem?_toArray, List.getElem?_cons_succ, List.getElem?_cons_zero]; exact rfl))); intro N hN)
          go_wp2_with (go_at_call 29; (with_reducible refine (HCC.out _ H11.out).mono ?_); rintro q w7 ⟨rfl, hb⟩; have H12 := hid (H11.out.turn hb); clear hb)
          refine hN _ _ (fun _ => H12.out) ?_
          clear hN N
          iterate 3 (apply wpOrd_class; ((· first | (rw [List.getElem?_toArray, List.getElem?_cons_zero]; done) | (simp only [List.getElem?_toArray, List.getElem?_cons_succ, List.getElem?_cons_zero]; exact rfl))); (· exact rfl); intro K hK; apply Exists.intro; refine And.intro (fun X' hX' => ?_) ?_; (· obtain ⟨hq1, hq2⟩ := HF.out _ hX'; clear hX'; go_simp; (try go_bits); first | done | exact rfl | exact ⟨rfl, rfl⟩); go_simp; refine hK _ _ ?_; clear hK K)
          refine wpOrd_done ?_
          go_wp2_with fail
          go_ret
          exact ⟨rfl, H12.out.below⟩
        · have HNE := hid hji
          replace HCO := hid (fun X M M' => HCO.out X M M' (by have := HJI.out; omega))
          obtain ⟨a2, hckc⟩ := HCL.out (by have := HJI.out; omega)
          have HCKC := hid hckc
          clear HOT HCA HCL hckc hji
          go_upto_region 20 with (go_at_call 27; (with_reducible refine (HCO.out _ _ _ H8.out.at4 H8.out.at5).mono ?_); rintro q w5 ⟨QA, qn, qd, rfl, hqn, hq10, hst⟩; have H9 := hid (H8.out.link hst); have HQN := hid (And.intro hqn hq10); clear hst hqn hq10)
          clear H8 HCO
          have HF := hid (fun (X : World) (hX : St w [Row (.slice QA qn qd) 23 32 qn (sumsV qs), Blk g16 (bv old) 23, Row (.slice PA pn pd) 23 32 pn (sumsV ps), Blk g12 (bv top) 23, Row (.slice A2 i c2) 23 32 i (sumsV (entsL rs)), Blk g6 #[.slice A2 i c2] 63, Row (.slice (some ⟨gR, 0, none⟩) i d2) 23 32 i (sumsV rs)] X) => show (loadK 23 (.pointer (some ⟨g12, 0, none⟩))).run Tryd.prog X = .ok (.value (.agg (bv top))) X ∧ (loadK 23 (.pointer (some ⟨g16, 0, none⟩))).run Tryd.prog X = .ok (.value (.agg (bv old))) X from ⟨run_loadK_box (P := Tryd.prog) hX.drop.at3.blk Tryd.underlying23 rfl size54s ((bv_size top).trans HT32.out), run_loadK_box (P := Tryd.prog) hX.drop.blk Tryd.underlying23 rfl size54s ((bv_size old).trans HO32.out)⟩)
          have HCI := hid (fun (X : World) (hX : St w [Row (.slice QA qn qd) 23 32 qn (sumsV qs), Blk g16 (bv old) 23, Row (.slice PA pn pd) 23 32 pn (sumsV ps), Blk g12 (bv top) 23, Row (.slice A2 i c2) 23 32 i (sumsV (entsL rs)), Blk g6 #[.slice A2 i c2] 63, Row (.slice (some ⟨gR, 0, none⟩) i d2) 23 32 i (sumsV rs)] X) => ckI_now (w := X) (B := some ⟨gR, j * 32, none⟩) (d := 32) (A := PA) (c := pd) (HG.out.below hX.below HG.out.two) (m := 32) HR32.out.symm (Nat.le_refl _) (by unfold maxLen; omega) (by
            obtain ⟨g', e', h'⟩ := row_part hX.drop.at6 HRA.out HRJ.out
            cases e'
            exact h') (by rw [HR32.out]; decide) (sums_row hX.drop.at2 HPA.out) HPA.out HPN.out.1 HPN.out.2 HT32.out HJI.out HM8.out HCKI.out)
          have HCC := hid (fun (X : World) (hX : St w [Row (.slice QA qn qd) 23 32 qn (sumsV qs), Blk g16 (bv old) 23, Row (.slice PA pn pd) 23 32 pn (sumsV ps), Blk g12 (bv top) 23, Row (.slice A2 i c2) 23 32 i (sumsV (entsL rs)), Blk g6 #[.slice A2 i c2] 63, Row (.slice (some ⟨gR, 0, none⟩) i d2) 23 32 i (sumsV rs)] X) => ckC_now (w := X) (A := QA) (c := qd) (m := j + 1) (n := i) (HG.out.below hX.below HG.out.two) (sums_row hX HQA.out) HQA.out HQN.out.1 HQN.out.2 (row_room hX).1 HO32.out HT32.out (Nat.le_add_left 1 j) (by have := HJI.out; have := HNE.out; omega) HM8.out HCKC.out)
          rw [show ((j + 1 : Nat) : Int) = (j : Int) + 1 by omega] at HCC
          go_upto_region 20 with fail
          refine wp_region_ord [] [(0, 1), (1, 1), (2, 1), (3, 1), (4, 1), (5, 1), (6, 1), (7, 1), (8, 1), (9, 1), (10, 1), (11, 1), (12, 1), (13, 1), (14, 1), (15, 1), (16, 1), (17, 1), (18, 1), (19, 1), (20, 1), (21, 1), (22, 1), (23, 2), (24, 1), (25, 1), (26, 1), (27, 1), (28, 1), (29, 1), (30, 1), (31, 1), (32, 1), (33, 2), (34, 1), (35, 1), (36, 1)] (fun X => St w [Row (.slice QA qn qd) 23 32 qn (sumsV qs), Blk g16 (bv old) 23, Row (.slice PA pn pd) 23 32 pn (sumsV ps), Blk g12 (bv top) 23, Row (.slice A2 i c2) 23 32 i (sumsV (entsL rs)), Blk g6 #[.slice A2 i c2] 63, Row (.slice (some ⟨gR, 0, none⟩) i d2) 23 32 i (sumsV rs)] X) (by kernel_rfl) (by kernel_rfl) (fun d _ c _ _ h => by cases d <;> exact h) (H9.out.turn (Below.drew (Below.refl _ _))) (fun X hXe hXi => ?_)
          have H10 := H9.out.turn (Below.drew (Below.refl _ _))
          rw [← hXe] at H10
          replace H10 := hid H10
          clear hXe hXi
          clear H9
          iterate 23 (apply wpOrd_class; ((· first | (rw [List.getElem?_toArray, List.getElem?_cons_zero]; done) | (simp only [List.getElem?_toArray, List.getElem?_cons_succ, List.getElem?_cons_zero]; exact rfl))); (· exact rfl); intro K hK; apply Exists.intro; refine And.intro (fun X' hX' => ?_) ?_; (· obtain ⟨hq1, hq2⟩ := HF.out _ hX'; clear hX'; go_simp; (try go_bits); first | done | exact rfl | exact ⟨rfl, rfl⟩); go_simp; refine hK _ _ ?_; clear hK K)
          (apply wpOrd_comes; ((· first | (rw [List.getElem?_toArray, List.getElem?_cons_zero]; done) | (simp only [List.getElem?_toArray, List.getElem?_cons_succ, List.getElem?_cons_zero]; exact rfl))); intro N hN)
          go_wp2_with (go_at_call 28; (with_reducible refine (HCI.out _ H10.out).mono ?_); rintro q w6 ⟨rfl, hb⟩; have H11 := hid (H10.out.turn hb); clear hb)
          refine hN _ _ (fun _ => H11.out) ?_
          clear hN N
          iterate 9 (apply wpOrd_class; ((· first | (rw [List.getElem?_toArray, List.getElem?_cons_zero]; done) | (simp only [List.getElem?_toArray, List.getElem?_cons_succ, List.getElem?_cons_zero]; exact rfl))); (· exact rfl); intro K hK; apply Exists.intro; refine And.intro (fun X' hX' => ?_) ?_; (· obtain ⟨hq1, hq2⟩ := HF.out _ hX'; clear hX'; go_simp; (try go_bits); first | done | exact rfl | exact ⟨rfl, rfl⟩); go_simp; refine hK _ _ ?_; clear hK K)
          (apply wpOrd_comes; ((· first | (rw [List.getElem?_toArray, List.getElem?_cons_zero]; done) | (simp only [List.getElem?_toArray, List.getElem?_cons_succ, List.getElem?_cons_zero]; exact rfl))); intro N hN)
          go_wp2_with (go_at_call 29; (with_reducible refine (HCC.out _ H11.out).mono ?_); rintro q w7 ⟨rfl, hb⟩; have H12 := hid (H11.out.turn hb); clear hb)
          refine hN _ _ (fun _ => H12.out) ?_
          clear hN N
          iterate 3 (apply wpOrd_class; ((· first | (rw [List.getElem?_toArray, List.getElem?_cons_zero]; done) | (simp only [List.getElem?_toArray, List.getElem?_cons_succ, List.getElem?_cons_zero]; exact rfl))); (· exact rfl); intro K hK; apply Exists.intro; refine And.intro (fun X' hX' => ?_) ?_; (· obtain ⟨hq1, hq2⟩ := HF.out _ hX'; clear hX'; go_simp; (try go_bits); first | done | exact rfl | exact ⟨rfl, rfl⟩); go_simp; refine hK _ _ ?_; clear hK K)
          refine wpOrd_done ?_
          go_wp2_with fail
          go_ret
          exact ⟨rfl, H12.out.below⟩
      
  
end Go.Proofs.YtnakbdgoaepehaaDoor
/- CustumalLogs: roots of a tree's versions in a log are there, each at its place, and the log of fewer is its beginning: for all leaves and numbers. The two tables of the sums are tied to the program's text by the card. -/
namespace Go.Proofs.YtnakbdgoaepehaaDoor
open Go.ChangeShapes Go.WideShapes Go.ChangeAt Go.RowKit Go.Cu
theorem own : ownKnob Tryd.prog.godebug = none := by kernel_rfl
theorem laidOut : laidOutB Tryd.prog = true := by kernel_rfl
abbrev laidA : List (String × DataW Unit) := [("custumal/sha2.start", Rows.laid_custumal_sha2_start), ("custumal/sha2.rounds", Rows.laid_custumal_sha2_rounds)]
/-- The door's own heap meets the condition. -/
theorem door_met (os : Os) (args : Array Value) : laidMetH Tryd.prog laidA ((World.doorLaid Tryd.prog 400 os).forCall (fun _ _ => 0) ⟨#[], args, []⟩).memory := by
  rw [MakeChecks.laidMetH_plain _ _ _ (by kernel_rfl)]
  exact laidMet_of_run' 8 (by kernel_rfl) (by kernel_rfl)
set_option maxRecDepth 100000 in
theorem logs_lifted (os : Os) (started : os.Started) (H : Type) (enc : TypeId × Value → H) :
    ReturnsInHanded {} Tryd.checked os 5 .any (fun w args => (Rows.custumalLogsSpec.pre enc Tryd.prog Tryd.f5 [] false w args ∧ laidMetH Tryd.prog laidA w) ∧ sizedMet enc Tryd.prog Tryd.f5 (OpenSpec.ofChange Rows.custumalLogsSpec) false w args)
      (Rows.custumalLogsSpec.post enc Tryd.prog Tryd.f5 false true false false) := by
  refine returnsInHanded_of_change_and (C := Tryd.checked) (X := fun w _ => laidMetH Tryd.prog laidA w) (fun _ _ _ hh h => h.of_heap hh) own started (by kernel_rfl) Tryd.func5
    (ChangeSpec.witness_shaped (enc := enc) (C := Tryd.checked) (os := os) (X := fun w _ => laidMetH Tryd.prog laidA w) false (World.doorLaid Tryd.prog 400 os) #[.slice none 0 0, .int .i64 0] 8 rfl (World.shaped_of_RefB (by kernel_rfl) (by kernel_rfl)) (by kernel_rfl) (by kernel_rfl) (by kernel_rfl) (door_met os _)) ?_
  intro W base args ds gs before hval0 hW _ _ hL _
  have hval : ∀ (j : Nat) t v, Tryd.f5.params[j]? = some t → args[j]? = some v → Value.okWide Tryd.prog W .any base t v := hval0
  have hW' := hW
  obtain ⟨p, q, hA0, hV, rfl, hfz, hnd⟩ := hW
  have hA : DataW.TrodAll enc Tryd.prog W 0 (fun _ => true) true Tryd.f5.params.toList args.toList ds p := hA0
  rw [Tryd.params5] at hA hval
  obtain ⟨v0, vs0, d0, ds0, p0, q0, hargs, rfl, rfl, h0, r0⟩ := trodAll_cons hA
  obtain ⟨v1, vs1, d1, ds1, p1, q1, rfl, rfl, rfl, h1, r1⟩ := trodAll_cons r0
  obtain ⟨rfl, rfl, rfl⟩ := trodAll_nil r1
  obtain rfl : args = #[v0, v1] := by cases args; simp_all
  obtain ⟨rfl, rfl⟩ := trodVars_none hV
  have k0 := h0
  have lt0 : ∀ x ∈ p0, x.block < W.heap.size := by obtain ⟨m, hm⟩ := k0; exact DataW.trod_lt m _ _ _ hm
  have k1 := h1
  have lt1 : ∀ x ∈ p1, x.block < W.heap.size := by obtain ⟨m, hm⟩ := k1; exact DataW.trod_lt m _ _ _ hm
  obtain ⟨A0, c0, ls, rfl, hlc, hok, hin⟩ := leaves_open (k1 := 24) (k2 := 23) (b := 5) Tryd.underlying22 (by kernel_rfl) Tryd.underlying30 rfl rfl rfl rfl rfl rfl Tryd.underlying24 Tryd.underlying23 (by kernel_rfl) (by kernel_rfl) Tryd.underlying5 (by kernel_rfl) (hval 0 22 v0 rfl rfl) h0
  obtain ⟨n1, rfl, rfl, rfl, w1⟩ := open_int Tryd.underlying3 (hval 1 3 v1 rfl rfl) h1
  clear hA0 hval0
  refine (logs_walk (z := n1) W (glob_of_laid hL) hin hok hlc).mono fun e W' ⟨he, bel⟩ => ?_
  subst he
  exact ⟨_, rfl, _, _, _, [], _, [], hW', trodAll_mk1 (shut_bool Tryd.underlying4 _), (trodAll_cons_mk (Below.trod laidOut (by kernel_rfl) (of_decide_eq_true (by kernel_rfl)) k0 bel lt0) (trodAll_cons_mk (Below.trod laidOut (by kernel_rfl) (of_decide_eq_true (by kernel_rfl)) k1 bel lt1) trodAll_mk0)), rfl, bel.frame _, fun h => by cases h⟩

theorem custumalLogs_holds : Rows.CustumalLogsSaid :=
  OpenClaim.holds_of_wide 5 Tryd.f5 rfl rfl rfl rfl rfl rfl rfl ⟨rfl, rfl, rfl, rfl, rfl⟩ rfl rfl rfl rfl rfl (by kernel_rfl) Tryd.func5 (by kernel_rfl)
    (of_decide_eq_true (by kernel_rfl)) (by unfold Func.isWrapper; first | (rw [if_pos (by decide +kernel)]; kernel_rfl) | (rw [if_neg (by decide +kernel)]; exact ⟨rfl, rfl⟩))
    (fun os started H enc _ => logs_lifted os started H enc)

theorem custumalLogs_card : Rows.CustumalLogsCardSaid :=
  Claim7.holds_tied_plain_at .later [] [.data, .data] true (true, "6500f4af6ab020251246ec3d5906ec6065d01b9c5ad1c1b7304603533cdc5830") false
    custumalLogs_holds (fun _ h => by cases h) (by kernel_rfl) (fun _ h => by cases h) custumalLogs_row_tie rfl ⟨rfl, rfl⟩ (by kernel_rfl) rfl
    (fun f fn hf hfn => by
      obtain rfl : f = 5 := Option.some.inj ((show Tryd.prog.funcNamed "custumal/custumaltop.CustumalLogs" = some 5 by kernel_rfl).symm.trans hf) |>.symm
      obtain rfl : fn = Tryd.f5 := (Option.some.inj (Tryd.func5.symm.trans hfn)).symm
      exact ⟨by kernel_rfl, fun j t ht => by
        rw [Tryd.params5] at ht
        have hm : t ∈ [22, 3] := by simpa using Array.mem_of_getElem? ht
        have hall : ([22, 3].all fun u => !Tryd.prog.wantsStandIn u) = true := by kernel_rfl
        exact (show Tryd.prog.wantsStandIn t = false by simpa using List.all_eq_true.1 hall t hm)⟩)
    (by kernel_rfl)
end Go.Proofs.YtnakbdgoaepehaaDoor
