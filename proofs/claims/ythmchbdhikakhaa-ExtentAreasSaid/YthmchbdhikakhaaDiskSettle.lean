/- The settling. -/
import Derived.Test.YthmchbdhikakhaaDiskWrite
import Derived.Test.YthmchbdhikakhaaDiskKept
namespace Go.Proofs.Ythmchbdhikakhaa
open Go.RowKit Go.Cu
@[go_sem ↓] theorem ldk106 (a : Act) (dst : Option Tmp) (x : Operand) (ty : TypeId) (pos : String) (after : Array Edge) (guard : Option (Nat × Bool)) :
      execOp a.eval { dst, op := .load 106 x, type := ty, pos, after, guard } = loadK 106 (a.eval x) := rfl

set_option maxRecDepth 20000 in
set_option maxHeartbeats 1000000 in
theorem settle_sync {p : Nat} {F : Nat → Prop} {S : DS} {w : World} {N : Nat} (h : DiskIn w p F S) (hok : S.Ok N) (hN : N ≤ 1000000) :
    Calls Try.prog 59 #[.pointer (some ⟨p, 0, none⟩), .func (.func 60) #[] #[]] w fun x w' => x = .returned (.tuple #[]) ∧ DiskIn w' p F (S.settle fun _ => true) ∧ Tch F w w' := by
  obtain ⟨pn, pl, wv, hat⟩ := h
  obtain ⟨A, c, rfl⟩ := own_slice hat.wait
  have hbig := hok.big
  have hfew := hok.few
  have H := hid hat
  have HOK := hid hok
  have c2 : w.cell? ⟨p, 2, none⟩ = some (.slice A S.wait.length c) := (cell_of_row w p 2 _ _ _ hat.box).trans rfl
  clear hat hok
  go_enter Try.func59, Try.ntmps59
  go_wp2_with fail
  clear c2
  go_loopw [13, 4, 5] (fun i _ _ X => ∃ n : Nat, n ≤ S.wait.length ∧ i = .int .i64 n ∧ Hid (DiskAt X p F { S with last := lastOf (fun _ => true) 0 (S.wait.take n) S.last } pn pl (.slice A S.wait.length c)) ∧ Hid (Tch F w X)) (fun i _ _ _ => S.wait.length - (intOf i).toNat)
  case atStart => exact ⟨0, by omega, rfl, H, hid (Tch.refl _ _)⟩
  case round =>
    obtain ⟨n, hn, rfl, HX, HT⟩ := hrel
    by_cases hlt : n < S.wait.length
    · obtain ⟨q, hq⟩ : ∃ q, S.wait[n]? = some q := ⟨_, List.getElem?_eq_getElem hlt⟩
      obtain ⟨hq1, hq2⟩ := HOK.out.wait q (List.mem_of_getElem? hq)
      have HQ := hid hq
      have HS := hid (lastOf_step (fun _ => true) hq S.last)
      have HFW : FullW S.wait := fun q hq => (HOK.out.wait q hq).2
      have hw := HX.out.wait
      obtain ⟨_, hw2⟩ := hw
      rcases hw2 with ⟨_, h0⟩ | ⟨gw, cap, cur, hv, _, hgw, hcap, hmax, hcs, htk⟩
      · exact absurd h0 (by show S.wait.length ≠ 0; omega)
      obtain ⟨rfl, rfl⟩ : A = some ⟨gw, 0, none⟩ ∧ c = cap := by
        injection hv with e1 e2 e3
        exact ⟨e1, e3⟩
      have hgwl := lt_of_heap hgw
      have LW : ∀ Y, Below wr.heap.size wr Y → (loadK 106 (.pointer (some ⟨gw, n * 129, none⟩))).run Try.prog Y = .ok (.value (.agg (putL q).toArray)) Y := fun Y hb =>
        run_loadK ((hb.block gw hgwl).trans hgw) Try.underlying106 rfl size106 (putL_size hq2) (fun j hj => by
          have hj2 : j < 129 := by rw [putL_size hq2] at hj; exact hj
          have h3 := waitL_get HFW hq j hj2
          rw [← htk, List.getElem?_take] at h3
          have hlen : n * 129 + j < S.wait.length * 129 := by omega
          rw [if_pos hlen] at h3
          simpa using h3)
      have HSZ := hid (putL_size hq2)
      have HONE := hid (putL_one q)
      have HZ := hid (putL_size (p := (0, zeroB)) zeroB_len)
      clear HFW hv hgw htk hcs hq
      have hXX : Below wr.heap.size wr wr := Below.refl _ _
      have hl0 : (n : Int) < (S.wait.length : Int) := by omega
      go_wp2_with (first | (refine wpList_alloc 106 rfl rfl zeroPut zero106 ?_; intro g5 X1 hg5 hl5 hge5 hX1) | (refine wpList_store_box 106 _ _ rfl g5 rfl rfl (putL q).toArray rfl 129 size106 HSZ.out HONE.out 106 _ hg5 HZ.out ?_; intro X2 hR2 hT2 hs2) | (go_at_call 60; refine (sync1_ok _ _).mono ?_; rintro x w' ⟨rfl, rfl⟩))
      have hW2 := hX1.trans (hT2.below hX1.size (fun i hi => by subst hi; exact hge5))
      have HX2 := hid (HX.out.below hW2)
      have hT2w := hid (HT.out.trans (Tch.of_below (F := F) hW2) (fun _ h => h) (fun _ _ h => h))
      have hg5X := lt_of_heap hR2
      have hpX := lt_of_heap HX2.out.box
      have HR := hid hR2
      have hqi : (q.1 : Int) < (S.now.length : Int) := by omega
      have HB := hid hq2
      have HSB := hid ((bv_size q.2).trans hq2)
      have HQ1 := hid hq1
      clear LW hXX hT2 hs2 hX1 hg5 hl5 hge5 hR2 hW2 hq1 hq2
      have hX : Below X2.heap.size X2 X2 := Below.refl _ _
      have L5 : ∀ Y, Below X2.heap.size X2 Y → Y.cell? ⟨g5, 0, none⟩ = some (.int .i64 q.1) := fun Y hb => (hb.cell (p := ⟨g5, 0, none⟩) hg5X).trans ((cell_of_row X2 g5 0 _ _ _ HR.out).trans rfl)
      have L1 : ∀ Y, Below X2.heap.size X2 Y → Y.cell? ⟨p, 1, none⟩ = some (.slice (some ⟨pl, 0, none⟩) S.now.length S.now.length) := fun Y hb => (hb.cell (p := ⟨p, 1, none⟩) hpX).trans ((cell_of_row X2 p 1 _ _ _ HX2.out.box).trans rfl)
      have LB : ∀ Y, Below X2.heap.size X2 Y → (loadK 33 (.pointer (some ⟨g5, 1, none⟩))).run Try.prog Y = .ok (.value (.agg (bv q.2))) Y := fun Y hb => run_loadK ((hb.block _ hg5X).trans HR.out) Try.underlying33 rfl size33 HSB.out (fun j hj => by
        simp [putL, bvL, bv, Nat.add_comm 1 j])
      refine wp_region_class_tail 9 (fun X => Below X2.heap.size X2 X) (by kernel_rfl) (by kernel_rfl) (Below.drew hX) ?_
      clear hX
      simp only [List.take_succ_cons, List.take_zero, List.drop_succ_cons, List.drop_zero]
      repeat (refine wpQuiet_exK rfl (fun K hK => ?_); apply Exists.intro; refine And.intro (fun X hX => ?_) ?_; (· go_simp; (try go_bits); first | exact rfl | exact ⟨rfl, rfl⟩ | (rw [if_pos (by omega)]; exact ⟨rfl, rfl⟩)); go_simp; refine hK _ ?_; clear hK K)
      refine wpQuiet_nil (fun X hX => ?_)
      have hX0 := HX2.out.below hX
      clear LB L1 L5
      have hFL : Full (lastOf (fun _ => true) 0 (S.wait.take n) S.last) := lastOf_full _ _ _ _ (fun p hp => (HOK.out.wait p (List.mem_of_mem_take hp)).2) HOK.out.last
      have hLL : (lastOf (fun _ => true) 0 (S.wait.take n) S.last).length = S.now.length := (lastOf_len _ _ _ _).trans HOK.out.len
      refine wpList_store_part 33 _ _ rfl pl (q.1 * 128) rfl rfl (.agg (bv q.2)) rfl 128 size33 HSB.out (bv_one _) 33 _ hX0.last (by rw [flat_size hFL, hLL]; have := HQ1.out; omega) ?_
      intro V1 hL1 hT1 hs1
      have HV := hid (show DiskAt V1 p F { S with last := lastOf (fun _ => true) 0 (S.wait.take (n + 1)) S.last } pn pl (.slice (some ⟨gw, 0, none⟩) S.wait.length c) from by
        have e1 := (hT1.block p (lt_of_heap hX0.box) (heap_ne hX0.box hX0.last (by decide))).trans hX0.box
        have e2 := (hT1.block pn (lt_of_heap hX0.now) hX0.ne).trans hX0.now
        refine ⟨hX0.op, hX0.on, hX0.ol, hX0.ow, hX0.ne, e1, e2, ?_, own_keep hX0.wait fun g hg => hT1.block g (own_lt hX0.wait hg) (fun e => own_ne hX0.wait hX0.last (by decide) (by rw [hg]; exact congrArg some e))⟩
        rw [hL1]
        have e3 := HS.out
        rw [if_pos trivial] at e3
        refine congrArg (fun c => some (Obj.cells c 33 (0, 0))) ((flat_put hFL (by rw [hLL]; exact HQ1.out) HB.out).trans ?_)
        exact congrArg flat e3.symm)
      have HTV := hid (((hT2w.out.trans (Tch.of_below (F := F) hX) (fun _ h => h) (fun _ _ h => h))).trans hT1 (fun _ h => h) (fun i _ e => by subst e; exact hX0.ol))
      clear hX0 hX hT1 hs1 hL1 hFL hLL HX2 HR hT2w HX HT HS
      go_wp2
      go_roundw
      case rel => exact ⟨n + 1, by omega, by go_num, HV, HTV⟩
      case measure => simp [intOf]; omega
    · have e : n = S.wait.length := by omega
      subst e
      have hl0 : ¬ (S.wait.length : Int) < (S.wait.length : Int) := by omega
      obtain ⟨L, hL⟩ : ∃ L, L = lastOf (fun _ => true) 0 S.wait S.last := ⟨_, rfl⟩
      rw [List.take_length, ← hL] at HX
      have HLD := hid hL
      have hLL := hid (show L.length = S.now.length from by rw [hL]; exact (lastOf_len _ _ _ _).trans HOK.out.len)
      have hFL := hid (show Full L from by rw [hL]; exact lastOf_full _ _ _ _ (fun p hp => (HOK.out.wait p hp).2) HOK.out.last)
      clear hL
      have c2 : wr.cell? ⟨p, 2, none⟩ = some (.slice A S.wait.length c) := (cell_of_row wr p 2 _ _ _ HX.out.box).trans rfl
      go_wp2_with fail
      clear c2
      go_loopw [36, 7] (fun i _ X => ∃ n : Nat, n ≤ S.wait.length ∧ i = .int .i64 n ∧ Hid (DiskAt X p F { S with last := L, now := nowOf L (S.wait.take n) S.now } pn pl (.slice A S.wait.length c)) ∧ Hid (Tch F w X)) (fun i _ _ => S.wait.length - (intOf i).toNat)
      case atStart => exact ⟨0, by omega, rfl, HX, HT⟩
      case round =>
        clear HX HT
        obtain ⟨n, hn, rfl, HX, HT⟩ := hrel
        by_cases hlt : n < S.wait.length
        · obtain ⟨q, hq⟩ : ∃ q, S.wait[n]? = some q := ⟨_, List.getElem?_eq_getElem hlt⟩
          obtain ⟨hq1, hq2⟩ := HOK.out.wait q (List.mem_of_getElem? hq)
          have HQ := hid hq
          have HS := hid (nowOf_step L hq S.now)
          have HFW : FullW S.wait := fun q hq => (HOK.out.wait q hq).2
          have hw := HX.out.wait
          obtain ⟨_, hw2⟩ := hw
          rcases hw2 with ⟨_, h0⟩ | ⟨gw, cap, cur, hv, _, hgw, hcap, hmax, hcs, htk⟩
          · exact absurd h0 (by show S.wait.length ≠ 0; omega)
          obtain ⟨rfl, rfl⟩ : A = some ⟨gw, 0, none⟩ ∧ c = cap := by
            injection hv with e1 e2 e3
            exact ⟨e1, e3⟩
          have hgwl := lt_of_heap hgw
          have LW : ∀ Y, Below wr.heap.size wr Y → (loadK 106 (.pointer (some ⟨gw, n * 129, none⟩))).run Try.prog Y = .ok (.value (.agg (putL q).toArray)) Y := fun Y hb =>
            run_loadK ((hb.block gw hgwl).trans hgw) Try.underlying106 rfl size106 (putL_size hq2) (fun j hj => by
              have hj2 : j < 129 := by rw [putL_size hq2] at hj; exact hj
              have h3 := waitL_get HFW hq j hj2
              rw [← htk, List.getElem?_take] at h3
              have hlen : n * 129 + j < S.wait.length * 129 := by omega
              rw [if_pos hlen] at h3
              simpa using h3)
          have HSZ := hid (putL_size hq2)
          have HONE := hid (putL_one q)
          have HZ := hid (putL_size (p := (0, zeroB)) zeroB_len)
          clear HFW hv hgw htk hcs hq
          have hXX : Below wr.heap.size wr wr := Below.refl _ _
          have hl0 : (n : Int) < (S.wait.length : Int) := by omega
          go_wp2_with (first | (refine wpList_alloc 106 rfl rfl zeroPut zero106 ?_; intro g5 X1 hg5 hl5 hge5 hX1) | (refine wpList_store_box 106 _ _ rfl g5 rfl rfl (putL q).toArray rfl 129 size106 HSZ.out HONE.out 106 _ hg5 HZ.out ?_; intro X2 hR2 hT2 hs2))
          have hW2 := hX1.trans (hT2.below hX1.size (fun i hi => by subst hi; exact hge5))
          have HX2 := hid (HX.out.below hW2)
          have hT2w := hid (HT.out.trans (Tch.of_below (F := F) hW2) (fun _ h => h) (fun _ _ h => h))
          have hg5X := lt_of_heap hR2
          have hpX := lt_of_heap HX2.out.box
          have HR := hid hR2
          have hqi : (q.1 : Int) < (S.now.length : Int) := by omega
          have HB := hid hq2
          have HSB := hid ((bv_size q.2).trans hq2)
          have HQ1 := hid hq1
          clear LW hXX hT2 hs2 hX1 hg5 hl5 hge5 hR2 hW2 hq1 hq2
          have hX : Below X2.heap.size X2 X2 := Below.refl _ _
          have hNL : (nowOf L (S.wait.take n) S.now).length = S.now.length := nowOf_len _ _ _
          have hFN : Full (nowOf L (S.wait.take n) S.now) := nowOf_full _ hFL.out _ _ HOK.out.now
          have hbox : X2.heap[p]? = some (.cells #[.slice (some ⟨pn, 0, none⟩) S.now.length S.now.length, .slice (some ⟨pl, 0, none⟩) S.now.length S.now.length, .slice (some ⟨gw, 0, none⟩) S.wait.length c, .int .i64 S.writes, .int .i64 S.armed, .bool S.off] 104 (0, 0)) := by
            have e0 := HX2.out.box
            dsimp only at e0
            rw [hNL] at e0
            exact e0
          have HBX := hid hbox
          have HNL := hid hNL
          have HFN := hid hFN
          have hplX := lt_of_heap HX2.out.last
          have HGL := hid (show L[q.1]? = some (L.getD q.1 zeroB) by rw [List.getD_eq_getElem?_getD, List.getElem?_eq_getElem (by have := HQ1.out; have := hLL.out; omega)]; rfl)
          have HB' := hid (full_getD hFL.out q.1)
          have HSG := hid ((bv_size (L.getD q.1 zeroB)).trans HB'.out)
          clear hbox hNL hFN
          have L5 : ∀ Y, Below X2.heap.size X2 Y → Y.cell? ⟨g5, 0, none⟩ = some (.int .i64 q.1) := fun Y hb => (hb.cell (p := ⟨g5, 0, none⟩) hg5X).trans ((cell_of_row X2 g5 0 _ _ _ HR.out).trans rfl)
          have L0 : ∀ Y, Below X2.heap.size X2 Y → Y.cell? ⟨p, 0, none⟩ = some (.slice (some ⟨pn, 0, none⟩) S.now.length S.now.length) := fun Y hb => (hb.cell (p := ⟨p, 0, none⟩) hpX).trans ((cell_of_row X2 p 0 _ _ _ HBX.out).trans rfl)
          have L1 : ∀ Y, Below X2.heap.size X2 Y → Y.cell? ⟨p, 1, none⟩ = some (.slice (some ⟨pl, 0, none⟩) S.now.length S.now.length) := fun Y hb => (hb.cell (p := ⟨p, 1, none⟩) hpX).trans ((cell_of_row X2 p 1 _ _ _ HBX.out).trans rfl)
          have LB : ∀ Y, Below X2.heap.size X2 Y → (loadK 33 (.pointer (some ⟨pl, q.1 * 128, none⟩))).run Try.prog Y = .ok (.value (.agg (bv (L.getD q.1 zeroB)))) Y := fun Y hb => run_loadK ((hb.block _ hplX).trans HX2.out.last) Try.underlying33 rfl size33 HSG.out (flat_get hFL.out HGL.out)
          refine wp_region_class_tail 15 (fun X => Below X2.heap.size X2 X) (by kernel_rfl) (by kernel_rfl) (Below.drew hX) ?_
          clear hX
          simp only [List.take_succ_cons, List.take_zero, List.drop_succ_cons, List.drop_zero]
          repeat (refine wpQuiet_exK rfl (fun K hK => ?_); apply Exists.intro; refine And.intro (fun X hX => ?_) ?_; (· go_simp; (try go_bits); first | exact rfl | exact ⟨rfl, rfl⟩ | (rw [if_pos (by omega)]; exact ⟨rfl, rfl⟩)); go_simp; refine hK _ ?_; clear hK K)
          refine wpQuiet_nil (fun X hX => ?_)
          have hX0 := HX2.out.below hX
          clear LB L1 L5 L0
          refine wpList_store_part 33 _ _ rfl pn (q.1 * 128) rfl rfl (.agg (bv (L.getD q.1 zeroB))) rfl 128 size33 HSG.out (bv_one _) 33 _ hX0.now (by rw [flat_size HFN.out, HNL.out]; have := HQ1.out; omega) ?_
          intro V1 hN1 hT1 hs1
          have HV := hid (show DiskAt V1 p F { S with last := L, now := nowOf L (S.wait.take (n + 1)) S.now } pn pl (.slice (some ⟨gw, 0, none⟩) S.wait.length c) from by
            have e1 := (hT1.block p (lt_of_heap hX0.box) (heap_ne hX0.box hX0.now (by decide))).trans ((hX.block p hpX).trans HBX.out)
            have e2 := (hT1.block pl (lt_of_heap hX0.last) hX0.ne.symm).trans hX0.last
            refine ⟨hX0.op, hX0.on, hX0.ol, hX0.ow, hX0.ne, ?_, ?_, e2, own_keep hX0.wait fun g hg => hT1.block g (own_lt hX0.wait hg) (fun e => own_ne hX0.wait hX0.now (by decide) (by rw [hg]; exact congrArg some e))⟩
            · dsimp only
              rw [nowOf_len]
              exact e1
            · rw [hN1]
              exact congrArg (fun c => some (Obj.cells c 33 (0, 0))) ((flat_put HFN.out (by rw [HNL.out]; exact HQ1.out) HB'.out).trans (congrArg flat HS.out.symm)))
          have HTV := hid (((hT2w.out.trans (Tch.of_below (F := F) hX) (fun _ h => h) (fun _ _ h => h))).trans hT1 (fun _ h => h) (fun i _ e => by subst e; exact hX0.on))
          clear hX0 hX hT1 hs1 hN1 HX2 HR hT2w HX HT HS HBX HNL HFN HGL
          go_wp2
          go_roundw
          case rel => exact ⟨n + 1, by omega, by go_num, HV, HTV⟩
          case measure => simp [intOf]; omega
        · have e : n = S.wait.length := by omega
          subst e
          have hl0 : ¬ (S.wait.length : Int) < (S.wait.length : Int) := by omega
          rw [List.take_length] at HX
          have HDS := hid (show S.settle (fun _ => true) = { S with last := L, now := nowOf L S.wait S.now, wait := [] } by unfold DS.settle; rw [← HLD.out])
          have f2 : wr.frozen? ⟨p, 2, none⟩ = false := frozen_of_row wr p 2 _ _ HX.out.box
          have c2 : wr.cell? ⟨p, 2, none⟩ = some (.slice A S.wait.length c) := (cell_of_row wr p 2 _ _ _ HX.out.box).trans rfl
          have P2 := hid (heap_setCell_same wr p 2 _ 104 (.slice none 0 0) HX.out.box)
          have T2 := hid ((Tch.refl (· = p) wr).setCell (g := p) (i := 2) rfl (.slice none 0 0))
          go_wp2
          refine bodyPost_end (results_none rfl _ _ _) rfl ⟨rfl, ?_, ?_⟩
          · rw [HDS.out]
            have hpn := heap_ne HX.out.now HX.out.box (by decide)
            have hpl := heap_ne HX.out.last HX.out.box (by decide)
            refine ⟨pn, pl, .slice none 0 0, HX.out.op, HX.out.on, HX.out.ol, fun g hg => by simp [Value.ownBlock] at hg, HX.out.ne, ?_, (T2.out.block pn (lt_of_heap HX.out.now) hpn).trans HX.out.now, (T2.out.block pl (lt_of_heap HX.out.last) hpl).trans HX.out.last, rfl, .inl ⟨rfl, rfl⟩⟩
            exact P2.out.trans rfl
          · exact HT.out.trans T2.out (fun _ h => h) (fun i _ e => by subst e; exact HX.out.op)
end Go.Proofs.Ythmchbdhikakhaa
