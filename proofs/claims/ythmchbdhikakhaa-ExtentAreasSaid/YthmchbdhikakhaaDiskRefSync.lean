/- DocSync and DocCrash; the document's new disk. -/
import Derived.Test.YthmchbdhikakhaaDiskRefWrite
import Derived.Test.YthmchbdhikakhaaDiskCrash
import Derived.Test.YthmchbdhikakhaaDiskNew
namespace Go.Proofs.Ythmchbdhikakhaa
open Go.RowKit Go.Cu
/-- One round's store: the cells of the k-th write, laid over what lasts. -/
theorem ref_store {X V1 : World} {p : Nat} {F : Nat → Prop} {S : DS} {pl : Nat} {wv : Value} {L : List Blk8} {q : Nat × Blk8} (hX0 : RefAt X p F { S with last := L } pl wv) (hT1 : Tch (· = pl) X V1)
    (hFL : Full L) (hq1 : q.1 < L.length) (hq2 : q.2.length = 128) (hL1 : V1.heap[pl]? = some (.cells (putAt (flat L) (q.1 * 128) (Value.agg (bv q.2)).cells.toList) 32 (0, 0))) :
    RefAt V1 p F { S with last := L.set q.1 q.2 } pl wv := by
  have e1 := (hT1.block p (lt_of_heap hX0.box) (heap_ne hX0.box hX0.last (by decide))).trans hX0.box
  refine ⟨hX0.op, hX0.ol, hX0.ow, ?_, ?_, own_keep hX0.wait fun g hg => hT1.block g (own_lt hX0.wait hg) (fun e => own_ne hX0.wait hX0.last (by decide) (by rw [hg]; exact congrArg some e))⟩
  · rw [e1]
    simp only [List.length_set]
  · rw [hL1]
    exact congrArg (fun c => some (Obj.cells c 32 (0, 0))) (flat_put hFL hq1 hq2)
set_option maxRecDepth 20000 in
set_option maxHeartbeats 1000000 in
theorem rsettle_sync {p : Nat} {F : Nat → Prop} {S : DS} {w : World} {N : Nat} (h : RefIn w p F S) (hok : S.Ok N) (hN : N ≤ 1000000) (hoff : S.off = false) :
    Calls Try.prog 22 #[.pointer (some ⟨p, 0, none⟩)] w fun x w' => x = .returned (.int .i64 0) ∧ RefIn w' p F (S.settle fun _ => true) ∧ Tch F w w' := by
  obtain ⟨pl, wv, hat⟩ := h
  obtain ⟨A, c, rfl⟩ := own_slice hat.wait
  have hbig := hok.big
  have hfew := hok.few
  have hlen := hok.len
  have H := hid hat
  have HOK := hid hok
  have c1 : w.cell? ⟨p, 1, none⟩ = some (.slice A S.wait.length c) := (cell_of_row w p 1 _ _ _ hat.box).trans rfl
  have c4 : w.cell? ⟨p, 4, none⟩ = some (.bool false) := (cell_of_row w p 4 _ _ _ hat.box).trans (by rw [hoff]; rfl)
  clear hoff
  clear hat hok
  go_enter Try.func22, Try.ntmps22
  go_wp2_with fail
  clear c1 c4
  go_loopw [3] (fun i X => ∃ n : Nat, n ≤ S.wait.length ∧ i = .int .i64 n ∧ Hid (RefAt X p F { S with last := lastOf (fun _ => true) 0 (S.wait.take n) S.last } pl (.slice A S.wait.length c)) ∧ Hid (Tch F w X)) (fun i _ => S.wait.length - (intOf i).toNat)
  case atStart => exact ⟨0, by omega, rfl, H, hid (Tch.refl _ _)⟩
  case round =>
    obtain ⟨n, hn, rfl, HX, HT⟩ := hrel
    have c1 : wr.cell? ⟨p, 1, none⟩ = some (.slice A S.wait.length c) := (cell_of_row wr p 1 _ _ _ HX.out.box).trans rfl
    by_cases hlt : n < S.wait.length
    · obtain ⟨q, hq⟩ : ∃ q, S.wait[n]? = some q := ⟨_, List.getElem?_eq_getElem hlt⟩
      obtain ⟨hq1, hq2⟩ := HOK.out.wait q (List.mem_of_getElem? hq)
      have HS := hid (lastOf_step (fun _ => true) hq S.last)
      have HFW : FullW S.wait := fun q hq => (HOK.out.wait q hq).2
      have hw := HX.out.wait
      obtain ⟨_, hw2⟩ := hw
      rcases hw2 with ⟨_, h0⟩ | ⟨gw, cap, cur, hv, _, hgw, hcap, hmax, hcs, htk⟩
      · exact absurd h0 (by show S.wait.length ≠ 0; omega)
      obtain ⟨rfl, rfl⟩ : A = some ⟨gw, 0, none⟩ ∧ c = cap := by
        injection hv with e1 e2 e3
        exact ⟨e1, e3⟩
      have hgwl := lt_of_heap hgw
      have hcell : ∀ i, i < 129 → cur[n * 129 + i]? = (putL q)[i]? := fun i hi => by
        have h3 := waitL_get HFW hq i hi
        rw [← htk, List.getElem?_take] at h3
        have hlen : n * 129 + i < S.wait.length * 129 := by omega
        rw [if_pos hlen] at h3
        simpa using h3
      have LQ0 : ∀ Y, Below wr.heap.size wr Y → Y.cell? ⟨gw, n * 129, none⟩ = some (.int .i64 q.1) := fun Y hb => by
        rw [hb.cell (p := ⟨gw, n * 129, none⟩) hgwl, cell_of_row wr gw (n * 129) _ _ _ hgw]
        have := hcell 0 (by omega)
        simpa [putL] using this
      have HSB := hid ((bv_size q.2).trans hq2)
      have LB : ∀ Y, Below wr.heap.size wr Y → (loadK 32 (.pointer (some ⟨gw, n * 129 + 1, none⟩))).run Try.prog Y = .ok (.value (.agg (bv q.2))) Y := fun Y hb => run_loadK ((hb.block gw hgwl).trans hgw) Try.underlying32 rfl size32 HSB.out (fun i hi => by
        rw [HSB.out] at hi
        rw [show n * 129 + 1 + i = n * 129 + (i + 1) by omega, hcell (i + 1) (by omega)]
        simp [putL, bvL, bv])
      have hpX := lt_of_heap HX.out.box
      have L1 : ∀ Y, Below wr.heap.size wr Y → Y.cell? ⟨p, 1, none⟩ = some (.slice (some ⟨gw, 0, none⟩) S.wait.length c) := fun Y hb => (hb.cell (p := ⟨p, 1, none⟩) hpX).trans c1
      have hLLn : (lastOf (fun _ => true) 0 (S.wait.take n) S.last).length = S.last.length := lastOf_len _ _ _ _
      have HLL := hid hLLn
      have L0 : ∀ Y, Below wr.heap.size wr Y → Y.cell? ⟨p, 0, none⟩ = some (.slice (some ⟨pl, 0, none⟩) S.last.length S.last.length) := fun Y hb => (hb.cell (p := ⟨p, 0, none⟩) hpX).trans ((cell_of_row wr p 0 _ _ _ HX.out.box).trans (by dsimp only; rw [hLLn]; rfl))
      have HB := hid hq2
      have HQ1 := hid hq1
      have hqi : (q.1 : Int) < (S.last.length : Int) := by omega
      have hl0 : (n : Int) < (S.wait.length : Int) := by omega
      clear HFW hv hgw htk hcs hcell hq hLLn
      have HS := hid (HS.out.trans (if_pos rfl))
      have hX : Below wr.heap.size wr wr := Below.refl _ _
      go_wp2
      refine wp_region_ord [21] [(0, 1), (1, 1), (2, 1), (3, 1), (4, 1), (5, 1), (6, 1), (7, 1), (8, 1), (9, 1), (10, 1), (11, 1), (12, 1), (13, 1), (14, 1), (15, 1), (16, 1), (17, 1), (18, 1), (19, 1), (20, 1), (21, 2)] (fun X => Below wr.heap.size wr X) (by kernel_rfl) (by kernel_rfl) (fun d _ c _ _ h => by cases d <;> exact h) (Below.drew hX) (fun X hXe hX1 => ?_)
      clear hXe
      repeat (apply wpOrd_class; ((· first | (rw [List.getElem?_toArray, List.getElem?_cons_zero]; done) | (simp only [List.getElem?_toArray, List.getElem?_cons_succ, List.getElem?_cons_zero]; exact rfl))); (· exact rfl); intro K hK; apply Exists.intro; refine And.intro (fun X' hX' => ?_) ?_; (· go_simp; (try go_bits); first | done | exact rfl | exact ⟨rfl, rfl⟩); go_simp; refine hK _ _ ?_; clear hK K)
      (apply wpOrd_comes; ((· first | (rw [List.getElem?_toArray, List.getElem?_cons_zero]; done) | (simp only [List.getElem?_toArray, List.getElem?_cons_succ, List.getElem?_cons_zero]; exact rfl))); intro N hN)
      have hX0 := HX.out.below hX1
      clear LB L0 L1 LQ0
      have hFL : Full (lastOf (fun _ => true) 0 (S.wait.take n) S.last) := lastOf_full _ _ _ _ (fun p hp => (HOK.out.wait p (List.mem_of_mem_take hp)).2) HOK.out.last
      refine wpList_store_part 32 _ _ rfl pl (q.1 * 128) rfl rfl (.agg (bv q.2)) rfl 128 size32 HSB.out (bv_one _) 32 _ hX0.last (by rw [flat_size hFL, HLL.out]; have := HQ1.out; omega) ?_
      intro V1 hL1 hT1 hs1
      have HV := hid (show RefAt V1 p F { S with last := lastOf (fun _ => true) 0 (S.wait.take (n + 1)) S.last } pl (.slice (some ⟨gw, 0, none⟩) S.wait.length c) from by
        rw [HS.out]
        exact ref_store hX0 hT1 hFL (by rw [HLL.out]; have := HQ1.out; omega) HB.out hL1)
      have HTV := hid (((HT.out.trans (Tch.of_below (F := F) hX1) (fun _ h => h) (fun _ _ h => h))).trans hT1 (fun _ h => h) (fun i _ e => by subst e; exact hX0.ol))
      clear hX0 hX1 hX hT1 hs1 hL1 hFL HX HT HS
      refine hN _ _ (fun h => by cases h) (wpOrd_done ?_)
      clear hN N
      go_wp2
      go_roundw
      case rel => exact ⟨n + 1, by omega, by go_num, HV, HTV⟩
      case measure => simp [intOf]; omega
    · have e : n = S.wait.length := by omega
      subst e
      have hl0 : ¬ (S.wait.length : Int) < (S.wait.length : Int) := by omega
      rw [List.take_length] at HX
      have hcl := cell_of_row wr p 1 _ _ _ HX.out.box
      have f1 : wr.frozen? ⟨p, 1, none⟩ = false := frozen_of_row wr p 1 _ _ HX.out.box
      have P1 := hid (heap_setCell_same wr p 1 _ 51 (.slice none 0 0) HX.out.box)
      have T1 := hid ((Tch.refl (· = p) wr).setCell (g := p) (i := 1) rfl (.slice none 0 0))
      clear hcl
      go_wp2
      go_ret
      refine ⟨rfl, ?_, ?_⟩
      · have hpl := heap_ne HX.out.last HX.out.box (by decide)
        refine ⟨pl, .slice none 0 0, HX.out.op, HX.out.ol, fun g hg => by simp [Value.ownBlock] at hg, ?_, (T1.out.block pl (lt_of_heap HX.out.last) hpl).trans HX.out.last, rfl, .inl ⟨rfl, rfl⟩⟩
        exact P1.out.trans rfl
      · exact HT.out.trans T1.out (fun _ h => h) (fun i _ e => by subst e; exact HX.out.op)
set_option maxRecDepth 20000 in
set_option maxHeartbeats 1000000 in
theorem rcrash_any {p : Nat} {F : Nat → Prop} {S : DS} {w : World} {N : Nat} (h : RefIn w p F S) (hok : S.Ok N) (hN : N ≤ 1000000) {keep : List Bool} {Ak : Option Addr} {ck0 : Nat} (hk : keep.length ≤ 9223372036854775807)
    (hrow : ∀ j b, keep[j]? = some b → ∃ q, Ak = some q ∧ (q.add j).block < w.heap.size ∧ ¬ F (q.add j).block ∧ w.cell? (q.add j) = some (.bool b)) :
    Calls Try.prog 24 #[.pointer (some ⟨p, 0, none⟩), .slice Ak keep.length ck0] w fun x w' => x = .returned (.tuple #[]) ∧ RefIn w' p F (S.crash keep) ∧ Tch F w w' := by
  obtain ⟨pl, wv, hat⟩ := h
  obtain ⟨A, c, rfl⟩ := own_slice hat.wait
  have hbig := hok.big
  have hfew := hok.few
  have hlen := hok.len
  have H := hid hat
  have HOK := hid hok
  have HR := hid hrow
  have c1 : w.cell? ⟨p, 1, none⟩ = some (.slice A S.wait.length c) := (cell_of_row w p 1 _ _ _ hat.box).trans rfl
  clear hrow
  clear hat hok
  go_enter Try.func24, Try.ntmps24
  go_wp2_with fail
  clear c1
  go_loopw [4] (fun i X => ∃ n : Nat, n ≤ S.wait.length ∧ i = .int .i64 n ∧ Hid (RefAt X p F { S with last := lastOf (fun k => keep.getD k false) 0 (S.wait.take n) S.last } pl (.slice A S.wait.length c)) ∧ Hid (Tch F w X)) (fun i _ => S.wait.length - (intOf i).toNat)
  case atStart => exact ⟨0, by omega, rfl, H, hid (Tch.refl _ _)⟩
  case round =>
    obtain ⟨n, hn, rfl, HX, HT⟩ := hrel
    have c1 : wr.cell? ⟨p, 1, none⟩ = some (.slice A S.wait.length c) := (cell_of_row wr p 1 _ _ _ HX.out.box).trans rfl
    by_cases hlt : n < S.wait.length
    · obtain ⟨q, hq⟩ : ∃ q, S.wait[n]? = some q := ⟨_, List.getElem?_eq_getElem hlt⟩
      obtain ⟨hq1, hq2⟩ := HOK.out.wait q (List.mem_of_getElem? hq)
      have HS := hid (lastOf_step (fun k => keep.getD k false) hq S.last)
      have HFW : FullW S.wait := fun q hq => (HOK.out.wait q hq).2
      have hw := HX.out.wait
      obtain ⟨_, hw2⟩ := hw
      rcases hw2 with ⟨_, h0⟩ | ⟨gw, cap, cur, hv, _, hgw, hcap, hmax, hcs, htk⟩
      · exact absurd h0 (by show S.wait.length ≠ 0; omega)
      obtain ⟨rfl, rfl⟩ : A = some ⟨gw, 0, none⟩ ∧ c = cap := by
        injection hv with e1 e2 e3
        exact ⟨e1, e3⟩
      have hgwl := lt_of_heap hgw
      have hcell : ∀ i, i < 129 → cur[n * 129 + i]? = (putL q)[i]? := fun i hi => by
        have h3 := waitL_get HFW hq i hi
        rw [← htk, List.getElem?_take] at h3
        have hlen : n * 129 + i < S.wait.length * 129 := by omega
        rw [if_pos hlen] at h3
        simpa using h3
      have LQ0 : ∀ Y, Below wr.heap.size wr Y → Y.cell? ⟨gw, n * 129, none⟩ = some (.int .i64 q.1) := fun Y hb => by
        rw [hb.cell (p := ⟨gw, n * 129, none⟩) hgwl, cell_of_row wr gw (n * 129) _ _ _ hgw]
        have := hcell 0 (by omega)
        simpa [putL] using this
      have HSB := hid ((bv_size q.2).trans hq2)
      have LB : ∀ Y, Below wr.heap.size wr Y → (loadK 32 (.pointer (some ⟨gw, n * 129 + 1, none⟩))).run Try.prog Y = .ok (.value (.agg (bv q.2))) Y := fun Y hb => run_loadK ((hb.block gw hgwl).trans hgw) Try.underlying32 rfl size32 HSB.out (fun i hi => by
        rw [HSB.out] at hi
        rw [show n * 129 + 1 + i = n * 129 + (i + 1) by omega, hcell (i + 1) (by omega)]
        simp [putL, bvL, bv])
      have hpX := lt_of_heap HX.out.box
      have L1 : ∀ Y, Below wr.heap.size wr Y → Y.cell? ⟨p, 1, none⟩ = some (.slice (some ⟨gw, 0, none⟩) S.wait.length c) := fun Y hb => (hb.cell (p := ⟨p, 1, none⟩) hpX).trans c1
      have hLLn : (lastOf (fun k => keep.getD k false) 0 (S.wait.take n) S.last).length = S.last.length := lastOf_len _ _ _ _
      have HLL := hid hLLn
      have L0 : ∀ Y, Below wr.heap.size wr Y → Y.cell? ⟨p, 0, none⟩ = some (.slice (some ⟨pl, 0, none⟩) S.last.length S.last.length) := fun Y hb => (hb.cell (p := ⟨p, 0, none⟩) hpX).trans ((cell_of_row wr p 0 _ _ _ HX.out.box).trans (by dsimp only; rw [hLLn]; rfl))
      have HB := hid hq2
      have HQ1 := hid hq1
      have hqi : (q.1 : Int) < (S.last.length : Int) := by omega
      have hl0 : (n : Int) < (S.wait.length : Int) := by omega
      clear HFW hv hgw htk hcs hcell hq hLLn
      cases hb : keep.getD n false
      · have HS := hid (HS.out.trans (if_neg (by rw [hb]; decide)))
        clear LB L0 L1 LQ0
        rw [List.getD_eq_getElem?_getD] at hb
        cases hkn : keep[n]? with
        | none =>
          have hge : ¬ n < keep.length := by simpa using hkn
          have hge' : ¬ (n : Int) < (keep.length : Int) := by omega
          clear hkn hb
          go_wp2
          go_roundw
          case rel => exact ⟨n + 1, by omega, by go_num, by rw [HS.out]; exact HX, HT⟩
          case measure => simp [intOf]; omega
        | some b =>
          obtain rfl : b = false := by rw [hkn] at hb; exact hb
          have hltk : (n : Int) < (keep.length : Int) := by have := (List.getElem?_eq_some_iff.1 hkn).1; omega
          obtain ⟨q0, hA0, hl0', hn0, hc0⟩ := HR.out n false hkn
          subst hA0
          have ck : wr.cell? (q0.add n) = some (.bool false) := (tch_cell HT.out hl0' hn0).trans hc0
          clear hkn hb hc0 hn0 hl0'
          go_wp2
          go_roundw
          case rel => exact ⟨n + 1, by omega, by go_num, by rw [HS.out]; exact HX, HT⟩
          case measure => simp [intOf]; omega
      · have HS := hid (HS.out.trans (if_pos hb))
        rw [List.getD_eq_getElem?_getD] at hb
        cases hkn : keep[n]? with
        | none => rw [hkn] at hb; cases hb
        | some b =>
          obtain rfl : b = true := by rw [hkn] at hb; exact hb
          have hltk : (n : Int) < (keep.length : Int) := by have := (List.getElem?_eq_some_iff.1 hkn).1; omega
          obtain ⟨q0, hA0, hl0', hn0, hc0⟩ := HR.out n true hkn
          subst hA0
          have ck : wr.cell? (q0.add n) = some (.bool true) := (tch_cell HT.out hl0' hn0).trans hc0
          clear hkn hb hc0 hn0 hl0'
          have hX : Below wr.heap.size wr wr := Below.refl _ _
          go_wp2
          refine wp_region_ord [21] [(0, 1), (1, 1), (2, 1), (3, 1), (4, 1), (5, 1), (6, 1), (7, 1), (8, 1), (9, 1), (10, 1), (11, 1), (12, 1), (13, 1), (14, 1), (15, 1), (16, 1), (17, 1), (18, 1), (19, 1), (20, 1), (21, 2)] (fun X => Below wr.heap.size wr X) (by kernel_rfl) (by kernel_rfl) (fun d _ c _ _ h => by cases d <;> exact h) (Below.drew hX) (fun X hXe hX1 => ?_)
          clear hXe
          repeat (apply wpOrd_class; ((· first | (rw [List.getElem?_toArray, List.getElem?_cons_zero]; done) | (simp only [List.getElem?_toArray, List.getElem?_cons_succ, List.getElem?_cons_zero]; exact rfl))); (· exact rfl); intro K hK; apply Exists.intro; refine And.intro (fun X' hX' => ?_) ?_; (· go_simp; (try go_bits); first | done | exact rfl | exact ⟨rfl, rfl⟩); go_simp; refine hK _ _ ?_; clear hK K)
          (apply wpOrd_comes; ((· first | (rw [List.getElem?_toArray, List.getElem?_cons_zero]; done) | (simp only [List.getElem?_toArray, List.getElem?_cons_succ, List.getElem?_cons_zero]; exact rfl))); intro N hN)
          have hX0 := HX.out.below hX1
          clear LB L0 L1 LQ0
          have hFL : Full (lastOf (fun k => keep.getD k false) 0 (S.wait.take n) S.last) := lastOf_full _ _ _ _ (fun p hp => (HOK.out.wait p (List.mem_of_mem_take hp)).2) HOK.out.last
          refine wpList_store_part 32 _ _ rfl pl (q.1 * 128) rfl rfl (.agg (bv q.2)) rfl 128 size32 HSB.out (bv_one _) 32 _ hX0.last (by rw [flat_size hFL, HLL.out]; have := HQ1.out; omega) ?_
          intro V1 hL1 hT1 hs1
          have HV := hid (show RefAt V1 p F { S with last := lastOf (fun k => keep.getD k false) 0 (S.wait.take (n + 1)) S.last } pl (.slice (some ⟨gw, 0, none⟩) S.wait.length c) from by
            rw [HS.out]
            exact ref_store hX0 hT1 hFL (by rw [HLL.out]; have := HQ1.out; omega) HB.out hL1)
          have HTV := hid (((HT.out.trans (Tch.of_below (F := F) hX1) (fun _ h => h) (fun _ _ h => h))).trans hT1 (fun _ h => h) (fun i _ e => by subst e; exact hX0.ol))
          clear hX0 hX1 hX hT1 hs1 hL1 hFL HX HT HS
          refine hN _ _ (fun h => by cases h) (wpOrd_done ?_)
          clear hN N
          go_wp2
          go_roundw
          case rel => exact ⟨n + 1, by omega, by go_num, HV, HTV⟩
          case measure => simp [intOf]; omega
    · have e : n = S.wait.length := by omega
      subst e
      have hl0 : ¬ (S.wait.length : Int) < (S.wait.length : Int) := by omega
      rw [List.take_length] at HX
      have hcl := cell_of_row wr p 1 _ _ _ HX.out.box
      have f1 : wr.frozen? ⟨p, 1, none⟩ = false := frozen_of_row wr p 1 _ _ HX.out.box
      have f3 : wr.frozen? ⟨p, 3, none⟩ = false := frozen_of_row wr p 3 _ _ HX.out.box
      have f4 : wr.frozen? ⟨p, 4, none⟩ = false := frozen_of_row wr p 4 _ _ HX.out.box
      have c3 : wr.cell? ⟨p, 3, none⟩ = some (.int .i64 S.armed) := (cell_of_row wr p 3 _ _ _ HX.out.box).trans rfl
      have c4 : wr.cell? ⟨p, 4, none⟩ = some (.bool S.off) := (cell_of_row wr p 4 _ _ _ HX.out.box).trans rfl
      have P1 := hid (heap_setCell_same wr p 1 _ 51 (.slice none 0 0) HX.out.box)
      have T1 := hid ((Tch.refl (· = p) wr).setCell (g := p) (i := 1) rfl (.slice none 0 0))
      have P4 := hid (heap_setCell_same _ p 4 _ 51 (.bool false) P1.out)
      have T4 := hid (T1.out.setCell (g := p) (i := 4) rfl (.bool false))
      have P3 := hid (heap_setCell_same _ p 3 _ 51 (.int .i64 0) P4.out)
      have T3 := hid (T4.out.setCell (g := p) (i := 3) rfl (.int .i64 0))
      clear hcl
      go_wp2
      refine bodyPost_end (results_none rfl _ _ _) rfl ⟨rfl, ?_, ?_⟩
      · have hpl := heap_ne HX.out.last HX.out.box (by decide)
        refine ⟨pl, .slice none 0 0, HX.out.op, HX.out.ol, fun g hg => by simp [Value.ownBlock] at hg, ?_, (T3.out.block pl (lt_of_heap HX.out.last) hpl).trans HX.out.last, rfl, .inl ⟨rfl, rfl⟩⟩
        exact P3.out.trans rfl
      · exact HT.out.trans T3.out (fun _ h => h) (fun i _ e => by subst e; exact HX.out.op)

set_option maxRecDepth 20000 in
set_option maxHeartbeats 400000 in
theorem rsync_down {p : Nat} {F : Nat → Prop} {S : DS} {w : World} (h : RefIn w p F S) (hoff : S.off = true) :
    Calls Try.prog 22 #[.pointer (some ⟨p, 0, none⟩)] w fun x w' => x = .returned (.int .i64 13) ∧ w = w' := by
  obtain ⟨pl, wv, h⟩ := h
  have c4 : w.cell? ⟨p, 4, none⟩ = some (.bool true) := (cell_of_row w p 4 _ _ _ h.box).trans (by rw [hoff]; rfl)
  clear h hoff
  go_enter Try.func22, Try.ntmps22
  go_wp2
  go_ret
  exact ⟨rfl, rfl⟩
theorem rsync_any {p : Nat} {F : Nat → Prop} {S : DS} {w : World} {N : Nat} (h : RefIn w p F S) (hok : S.Ok N) (hN : N ≤ 1000000) :
    Calls Try.prog 22 #[.pointer (some ⟨p, 0, none⟩)] w fun x w' => x = .returned (.int .i64 S.sync.2) ∧ RefIn w' p F S.sync.1 ∧ Tch F w w' := by
  cases ho : S.off
  · have HE : S.sync = (S.settle fun _ => true, 0) := by simp [DS.sync, ho]
    rw [HE]
    exact rsettle_sync h hok hN ho
  · have HE : S.sync = (S, 13) := by simp [DS.sync, ho]
    rw [HE]
    exact (rsync_down h ho).mono fun x w' ⟨hx, hw⟩ => by subst hw; exact ⟨hx, h, Tch.refl _ _⟩
end Go.Proofs.Ythmchbdhikakhaa
