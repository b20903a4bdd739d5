/- DocRead. -/
import Derived.Test.YthmchbdhikakhaaDiskRefMem
namespace Go.Proofs.Ythmchbdhikakhaa
open Go.RowKit Go.Cu
set_option maxRecDepth 20000 in
set_option maxHeartbeats 400000 in
theorem rread_down {p : Nat} {F : Nat → Prop} {S : DS} {w : World} (h : RefIn w p F S) (hoff : S.off = true) (i : Int) :
    Calls Try.prog 20 #[.pointer (some ⟨p, 0, none⟩), .int .i64 i] w fun x w' => x = .returned (.tuple #[.agg (bv zeroB), .int .i64 13]) ∧ Below w.heap.size w w' := by
  obtain ⟨pl, wv, h⟩ := h
  have hp := lt_of_heap h.box
  have L4 : ∀ X, Below w.heap.size w X → X.cell? ⟨p, 4, none⟩ = some (.bool true) := fun X hb => (hb.cell (p := ⟨p, 4, none⟩) hp).trans ((cell_of_row w p 4 _ _ _ h.box).trans (by rw [hoff]; rfl))
  have BZ := fun W => run_buildK (build32 W)
  clear h hoff
  go_enter Try.func20, Try.ntmps20
  go_wp2_with (first | (refine wpList_alloc 32 rfl rfl (.agg (bv zeroB)) zero32 ?_; intro gr W0 hR hr hgr hW) | (refine wpList_buildv 32 _ rfl rfl #[] ?_ (.agg (bv zeroB)) build32 ?_; (· simp [Act.eval])) | (refine wpList_store_box 32 _ _ rfl gr rfl rfl (bv zeroB) rfl 128 size32 bvz (bv_one _) 32 _ hR bvz ?_; intro X2 hR2 hT2 hs2))
  refine bodyPost_ret (results_cell_tmp rfl _ _ _ gr 32 (bv zeroB) (0, 0) rfl hR2 Try.underlying32 (by rw [bvz]; exact size32)) rfl ⟨rfl, ?_⟩
  exact hW.trans (hT2.below hW.size (fun i hi => by subst hi; exact hgr))
set_option maxRecDepth 20000 in
set_option maxHeartbeats 400000 in
theorem rread_out {p : Nat} {F : Nat → Prop} {S : DS} {w : World} (h : RefIn w p F S) (hoff : S.off = false) (i : Int) (hi : i < 0 ∨ (S.last.length : Int) ≤ i) :
    Calls Try.prog 20 #[.pointer (some ⟨p, 0, none⟩), .int .i64 i] w fun x w' => x = .returned (.tuple #[.agg (bv zeroB), .int .i64 1]) ∧ Below w.heap.size w w' := by
  obtain ⟨pl, wv, h⟩ := h
  have hp := lt_of_heap h.box
  have L4 : ∀ X, Below w.heap.size w X → X.cell? ⟨p, 4, none⟩ = some (.bool false) := fun X hb => (hb.cell (p := ⟨p, 4, none⟩) hp).trans ((cell_of_row w p 4 _ _ _ h.box).trans (by rw [hoff]; rfl))
  have L0 : ∀ X, Below w.heap.size w X → X.cell? ⟨p, 0, none⟩ = some (.slice (some ⟨pl, 0, none⟩) S.last.length S.last.length) := fun X hb => (hb.cell (p := ⟨p, 0, none⟩) hp).trans ((cell_of_row w p 0 _ _ _ h.box).trans rfl)
  clear h hoff
  by_cases h1 : i < 0
  · clear hi
    go_enter Try.func20, Try.ntmps20
    go_wp2_with (first | (refine wpList_alloc 32 rfl rfl (.agg (bv zeroB)) zero32 ?_; intro gr W0 hR hr hgr hW) | (refine wpList_buildv 32 _ rfl rfl #[] ?_ (.agg (bv zeroB)) build32 ?_; (· simp [Act.eval])) | (refine wpList_store_box 32 _ _ rfl gr rfl rfl (bv zeroB) rfl 128 size32 bvz (bv_one _) 32 _ hR bvz ?_; intro X2 hR2 hT2 hs2))
    refine bodyPost_ret (results_cell_tmp rfl _ _ _ gr 32 (bv zeroB) (0, 0) rfl hR2 Try.underlying32 (by rw [bvz]; exact size32)) rfl ⟨rfl, ?_⟩
    exact hW.trans (hT2.below hW.size (fun i hi => by subst hi; exact hgr))
  · have h2 : (S.last.length : Int) ≤ i := by omega
    clear hi
    go_enter Try.func20, Try.ntmps20
    go_wp2_with (first | (refine wpList_alloc 32 rfl rfl (.agg (bv zeroB)) zero32 ?_; intro gr W0 hR hr hgr hW) | (refine wpList_buildv 32 _ rfl rfl #[] ?_ (.agg (bv zeroB)) build32 ?_; (· simp [Act.eval])) | (refine wpList_store_box 32 _ _ rfl gr rfl rfl (bv zeroB) rfl 128 size32 bvz (bv_one _) 32 _ hR bvz ?_; intro X2 hR2 hT2 hs2))
    refine bodyPost_ret (results_cell_tmp rfl _ _ _ gr 32 (bv zeroB) (0, 0) rfl hR2 Try.underlying32 (by rw [bvz]; exact size32)) rfl ⟨rfl, ?_⟩
    exact hW.trans (hT2.below hW.size (fun i hi => by subst hi; exact hgr))
set_option maxRecDepth 20000 in
set_option maxHeartbeats 1000000 in
theorem rread_in {p : Nat} {F : Nat → Prop} {S : DS} {w : World} {N : Nat} (h : RefIn w p F S) (hok : S.Ok N) (htd : S.Tied) (hN : N ≤ 1000000) {n : Nat} (hz : S.at_ (n : Int) = 0) :
    Calls Try.prog 20 #[.pointer (some ⟨p, 0, none⟩), .int .i64 n] w fun x w' => x = .returned (.tuple #[.agg (bv (S.now.getD n zeroB)), .int .i64 0]) ∧ Below w.heap.size w w' := by
  obtain ⟨pl, wv, hat⟩ := h
  obtain ⟨A, c, rfl⟩ := own_slice hat.wait
  obtain ⟨hoff, _, hlt⟩ := DS.at_zero hz
  have hlen := hok.len
  have hbig := hok.big
  have hfew := hok.few
  have HG := hid (show S.last[n]? = some (S.last.getD n zeroB) by rw [List.getD_eq_getElem?_getD, List.getElem?_eq_getElem (by omega)]; rfl)
  have hl0 := full_getD hok.last n
  have HSZ := hid ((bv_size _).trans hl0)
  have HF := hid (show Full S.last from hok.last)
  have hp := lt_of_heap hat.box
  have hpl := lt_of_heap hat.last
  have HAT := hid hat
  have HOK := hid hok
  have HTD := hid htd
  have hn : (n : Int) < (S.last.length : Int) := by omega
  have L4 : ∀ X, Below w.heap.size w X → X.cell? ⟨p, 4, none⟩ = some (.bool false) := fun X hb => (hb.cell (p := ⟨p, 4, none⟩) hp).trans ((cell_of_row w p 4 _ _ _ hat.box).trans (by rw [hoff]; rfl))
  have L0 : ∀ X, Below w.heap.size w X → X.cell? ⟨p, 0, none⟩ = some (.slice (some ⟨pl, 0, none⟩) S.last.length S.last.length) := fun X hb => (hb.cell (p := ⟨p, 0, none⟩) hp).trans ((cell_of_row w p 0 _ _ _ hat.box).trans rfl)
  have L1 : ∀ X, Below w.heap.size w X → X.cell? ⟨p, 1, none⟩ = some (.slice A S.wait.length c) := fun X hb => (hb.cell (p := ⟨p, 1, none⟩) hp).trans ((cell_of_row w p 1 _ _ _ hat.box).trans rfl)
  have LN : ∀ X, Below w.heap.size w X → (loadK 32 (.pointer (some ⟨pl, n * 128, none⟩))).run Try.prog X = .ok (.value (.agg (bv (S.last.getD n zeroB)))) X := fun X hb =>
    run_loadK ((hb.block pl hpl).trans HAT.out.last) Try.underlying32 rfl size32 HSZ.out (flat_get HF.out HG.out)
  clear hat hok htd hz hoff
  have HL1 := hid L1
  have tok1 : True := trivial
  go_enter Try.func20, Try.ntmps20
  go_wp2_with (first | (have _t := tok1; refine wpList_alloc 32 rfl rfl (.agg (bv zeroB)) zero32 ?_; intro gr W0 hR hr hgr hW; clear tok1) | (refine wpList_alloc 32 rfl rfl (.agg (bv zeroB)) zero32 ?_; intro gb W1 hB hb hgb hW1) | (refine wpList_store_box 32 _ _ rfl gb rfl rfl (bv (S.last.getD n zeroB)) rfl 128 size32 HSZ.out (bv_one _) 32 _ hB bvz ?_; intro W2 hB2 hT2 hs2))
  have h0 : St w [Blk gb (bv (S.last.getD n zeroB)) 32, Blk gr (bv zeroB) 32] W2 := (((St.start w).newBlk hW hgr hR).newBlk hW1 hgb hB).put hB2 hT2
  have HS := hid h0
  clear hB2 hT2 hs2 hB hb hgb hW1 hR hr hgr L0 L4 LN hW h0 L1
  go_loopw [7] (fun k X => ∃ j : Nat, j ≤ S.wait.length ∧ k = .int .i64 j ∧ Hid (St w [Blk gb (bv ((over (S.wait.take j) S.last).getD n zeroB)) 32, Blk gr (bv zeroB) 32] X)) (fun k _ => S.wait.length - (intOf k).toNat)
  case atStart => exact ⟨0, by omega, rfl, HS⟩
  case round =>
    clear HS
    obtain ⟨j, hj, rfl, HX⟩ := hrel
    have hbw := HX.out.below
    have c1 := HL1.out wr hbw
    have HBW := hid hbw
    clear hbw
    by_cases hlt : j < S.wait.length
    · have e1 : (j : Int) < (S.wait.length : Int) := by omega
      obtain ⟨q, hq⟩ : ∃ q, S.wait[j]? = some q := ⟨_, List.getElem?_eq_getElem hlt⟩
      obtain ⟨hq1, hq2⟩ := HOK.out.wait q (List.mem_of_getElem? hq)
      have HST := hid (over_step hq S.last n (by omega))
      have HFW : FullW S.wait := fun q hq => (HOK.out.wait q hq).2
      have hw := HAT.out.wait
      obtain ⟨_, hw2⟩ := hw
      rcases hw2 with ⟨_, h0⟩ | ⟨gw, cap, cur, hv, _, hgw, hcap, hmax, hcs, htk⟩
      · exact absurd h0 (by show S.wait.length ≠ 0; omega)
      obtain ⟨rfl, rfl⟩ : A = some ⟨gw, 0, none⟩ ∧ c = cap := by
        injection hv with e1 e2 e3
        exact ⟨e1, e3⟩
      have hgwl := lt_of_heap hgw
      have hcell : ∀ i, i < 129 → cur[j * 129 + i]? = (putL q)[i]? := fun i hi => by
        have h3 := waitL_get HFW hq i hi
        rw [← htk, List.getElem?_take] at h3
        have hlen : j * 129 + i < S.wait.length * 129 := by omega
        rw [if_pos hlen] at h3
        simpa using h3
      have cq : wr.cell? ⟨gw, j * 129, none⟩ = some (.int .i64 q.1) := by
        rw [HBW.out.cell (p := ⟨gw, j * 129, none⟩) hgwl, cell_of_row w gw (j * 129) _ _ _ hgw]
        have := hcell 0 (by omega)
        simpa [putL] using this
      have HSQ := hid ((bv_size q.2).trans hq2)
      have LQ : (loadK 32 (.pointer (some ⟨gw, j * 129 + 1, none⟩))).run Try.prog wr = .ok (.value (.agg (bv q.2))) wr := run_loadK ((HBW.out.block gw hgwl).trans hgw) Try.underlying32 rfl size32 HSQ.out (fun i hi => by
        rw [HSQ.out] at hi
        rw [show j * 129 + 1 + i = j * 129 + (i + 1) by omega, hcell (i + 1) (by omega)]
        simp [putL, bvL, bv])
      have HQ := hid hq
      clear HFW hv hgw htk hcs hcell hq hq2
      by_cases he : q.1 = n
      · have e2 : ((q.1 : Nat) : Int) = (n : Int) := by omega
        have e3 : ((q.1 : Int) == (n : Int)) = true := by simpa using e2
        have hgb := HX.out.blk
        clear e2
        rw [he] at cq HST
        have HST := hid (HST.out.trans (if_pos rfl))
        clear he e3
        have HZ := hid (show (bv ((over (S.wait.take j) S.last).getD n zeroB)).size = 128 by rw [bv_size]; exact full_getD (lastOf_full _ _ _ _ (fun p hp => (HOK.out.wait p (List.mem_of_mem_take hp)).2) HOK.out.last) _)
        have HGB := hid hgb
        clear hgb
        go_wp2_with (refine wpList_store_box 32 _ _ rfl gb rfl rfl (bv q.2) rfl 128 size32 HSQ.out (bv_one _) 32 _ HGB.out HZ.out ?_; intro X2 hB2 hT2 hs2)
        go_roundw
        case rel =>
          refine ⟨j + 1, by omega, by go_num, ?_⟩
          rw [HST.out]
          exact hid (HX.out.put hB2 hT2)
        case measure => simp [intOf]; omega
      · have e3 : ((q.1 : Int) == (n : Int)) = false := by
          rw [beq_eq_false_iff_ne]; omega
        have HST := hid (HST.out.trans (if_neg he))
        clear he
        go_wp2
        go_roundw
        case rel =>
          refine ⟨j + 1, by omega, by go_num, ?_⟩
          rw [HST.out]
          exact HX
        case measure => simp [intOf]; omega
    · have e : j = S.wait.length := by omega
      subst e
      have e1 : ¬ (S.wait.length : Int) < (S.wait.length : Int) := by omega
      have HE := hid (show (over (S.wait.take S.wait.length) S.last).getD n zeroB = S.now.getD n zeroB by rw [List.take_length, ← HTD.out.now])
      have hgb := HX.out.blk
      have hgr := HX.out.at2.blk
      have hne := HX.out.blk_ne
      rw [HE.out] at hgb
      have HSN := hid ((bv_size (S.now.getD n zeroB)).trans (full_getD HOK.out.now n))
      have LB : (loadK 32 (.pointer (some ⟨gb, 0, none⟩))).run Try.prog wr = .ok (.value (.agg (bv (S.now.getD n zeroB)))) wr := run_loadK_box hgb Try.underlying32 rfl size32 HSN.out
      have HGR := hid hgr
      clear hgr hgb
      go_wp2_with (refine wpList_store_box 32 _ _ rfl gr rfl rfl (bv (S.now.getD n zeroB)) rfl 128 size32 HSN.out (bv_one _) 32 _ HGR.out bvz ?_; intro X2 hB2 hT2 hs2)
      refine bodyPost_ret (results_cell_tmp rfl _ _ _ gr 32 (bv _) (0, 0) rfl hB2 Try.underlying32 (by rw [HSN.out]; exact size32)) rfl ⟨rfl, ?_⟩
      exact (HX.out.at2.put hB2 hT2).below
theorem rread_any {p : Nat} {F : Nat → Prop} {S : DS} {w : World} {N : Nat} (h : RefIn w p F S) (hok : S.Ok N) (htd : S.Tied) (hN : N ≤ 1000000) (i : Int) :
    Calls Try.prog 20 #[.pointer (some ⟨p, 0, none⟩), .int .i64 i] w fun x w' => x = .returned (.tuple #[.agg (bv (if S.at_ i = 0 then S.now.getD i.toNat zeroB else zeroB)), .int .i64 (S.at_ i)]) ∧ Below w.heap.size w w' := by
  by_cases hz : S.at_ i = 0
  · obtain ⟨_, h0, _⟩ := DS.at_zero hz
    obtain ⟨n, rfl⟩ := Int.eq_ofNat_of_zero_le h0
    rw [if_pos hz, hz]
    exact rread_in h hok htd hN hz
  · rw [if_neg hz]
    cases ho : S.off
    · have hi : i < 0 ∨ (S.last.length : Int) ≤ i := by
        rw [hok.len]
        unfold DS.at_ at hz
        rw [ho] at hz
        simp only [Bool.false_eq_true, if_false] at hz
        exact Decidable.byContradiction fun hc => hz (if_neg hc)
      have e : S.at_ i = 1 := by
        unfold DS.at_
        rw [ho]
        simp only [Bool.false_eq_true, if_false]
        rw [if_pos (by rw [← hok.len]; exact hi)]
      rw [e]
      exact rread_out h ho i hi
    · have e : S.at_ i = 13 := by unfold DS.at_; rw [ho]; rfl
      rw [e]
      exact rread_down h ho i
end Go.Proofs.Ythmchbdhikakhaa
