import Derived.Test.YthmchbdhikakhaaDiskRead
import Derived.Test.YthmchbdhikakhaaBuild
import Derived.Test.YthmchbdhikakhaaHold
namespace Go.Proofs.Ythmchbdhikakhaa
open Go.RowKit Go.Cu
theorem size3 : (Try.prog.info? 3).map (·.size) = some 1 := by kernel_rfl
theorem size102 : (Try.prog.info? 102).map (·.size) = some 1 := by kernel_rfl
theorem size106 : (Try.prog.info? 106).map (·.size) = some 129 := by kernel_rfl
def zeroPut : Value := .agg (putL (0, zeroB)).toArray
set_option maxRecDepth 20000 in
theorem zero106 (W : World) : (zeroValue 106).run Try.prog W = .ok zeroPut W := by kernel_rfl
set_option maxRecDepth 20000 in
theorem info106 : (Try.prog.info? 106).map (fun i => (i.zero, i.size, i.bytes)) = some (some zeroPut, 129, 136) := by kernel_rfl
@[go_sem ↓] theorem bdk106 (a : Act) (dst : Option Tmp) (ps : Array (Nat × Operand)) (ty : TypeId) (pos : String) (after : Array Edge) (guard : Option (Nat × Bool)) :
    execOp a.eval { dst, op := .build 106 ps, type := ty, pos, after, guard } = buildK 106 (ps.map fun (i, x) => (i, a.eval x)) := rfl
theorem build106 (n : Nat) (b : Bk) (hb : b.length = 128) (w : World) : (buildK 106 #[(0, .int .i64 n), (1, .agg (bv b))]).run Try.prog w = .ok (.value (.agg (putL (n, b)).toArray)) w := by
  refine (run_buildK (run_build2 (z := zeroPut) (s0 := 1) (s1 := 128) Try.underlying106 zero106 size3 size33 rfl rfl ?_ _ _ rfl ?_ w)).trans ?_
  · show (putL (0, zeroB)).toArray.size = 129
    exact putL_size zeroB_len
  · exact (bv_size b).trans hb
  · congr 3
    apply Array.ext'
    simp [Value.cells, putL, bvL, bv]

set_option maxRecDepth 20000 in
set_option maxHeartbeats 1000000 in
theorem write_ok {p : Nat} {F : Nat → Prop} {S : DS} {w : World} {N : Nat} (h : DiskIn w p F S) (hok : S.Ok N) (hN : N ≤ 1000000) {n : Nat} (hz : S.at_ (n : Int) = 0) {b : Bk} (hb : b.length = 128) :
    Calls Try.prog 15 #[.pointer (some ⟨p, 0, none⟩), .int .i64 n, .agg (bv b)] w fun x w' => x = .returned (.int .i64 ((S.put n b).tick).2) ∧ DiskIn w' p (fun g => F g ∨ w.heap.size ≤ g) ((S.put n b).tick).1 ∧ Tch F w w' := by
  have ha := hid fun w' (hb : Below w.heap.size w w') => at_any (w := w') (h.below hb) hok n
  rw [hz] at ha
  obtain ⟨_, _, hlt⟩ := DS.at_zero hz
  have hbig := hok.big
  have hfew := hok.few
  have hwr0 := hok.writes0
  have hwr := hok.writes
  have har0 := hok.armed0
  have har := hok.armed
  have HF := hid (show Full S.now from hok.now)
  have HB := hid hb
  have HSB := hid ((bv_size b).trans hb)
  have HFW := hid (show FullW S.wait from fun q hq => (hok.wait q hq).2)
  have hbd := build106 n b hb
  obtain ⟨pn, pl, wv, hat⟩ := h
  clear hok hz hb
  go_enter Try.func15, Try.ntmps15
  repeat (apply wp_seq_k; intro _ _)
  apply wp_region_lit
  refine wpList_box rfl 33 _ rfl (.agg (bv b)) rfl ?_
  intro gb V0 hG hgb hgeb hW
  have H0 := hid (hat.below hW)
  have hpl := lt_of_heap hat.box
  have hnl := lt_of_heap hat.now
  have hX : Below V0.heap.size V0 V0 := Below.refl _ _
  have LB : ∀ X, Below V0.heap.size V0 X → (loadK 33 (.pointer (some ⟨gb, 0, none⟩))).run Try.prog X = .ok (.value (.agg (bv b))) X := fun X hb => run_loadK_box ((hb.block _ hgb).trans hG) Try.underlying33 rfl size33 HSB.out
  have L0 : ∀ X, Below V0.heap.size V0 X → X.cell? ⟨p, 0, none⟩ = some (.slice (some ⟨pn, 0, none⟩) S.now.length S.now.length) := fun X hb => (hb.cell (p := ⟨p, 0, none⟩) (Nat.lt_of_lt_of_le hpl hW.size)).trans ((cell_of_row V0 p 0 _ _ _ H0.out.box).trans rfl)
  go_wp2_with (go_at_call 57; refine (ha.out _ hW).mono ?_; rintro x w' ⟨rfl, rfl⟩)
  refine wp_region_class_tail 7 (fun X => Below V0.heap.size V0 X) (by kernel_rfl) (by kernel_rfl) (Below.drew hX) ?_
  clear hX
  simp only [List.take_succ_cons, List.take_zero, List.drop_succ_cons, List.drop_zero]
  repeat (refine wpQuiet_exK rfl (fun K hK => ?_); apply Exists.intro; refine And.intro (fun X hX => ?_) ?_; (· go_simp; (try go_bits); first | exact rfl | exact ⟨rfl, rfl⟩ | (rw [if_pos (by omega)]; exact ⟨rfl, rfl⟩)); go_simp; refine hK _ ?_; clear hK K)
  refine wpQuiet_nil (fun X hX => ?_)
  have hX0 := H0.out.below hX
  clear LB L0
  refine wpList_store_part 33 _ _ rfl pn (n * 128) rfl rfl (.agg (bv b)) rfl 128 size33 HSB.out (bv_one _) 33 _ hX0.now (by rw [flat_size HF.out]; omega) ?_
  intro V1 hN1 hT1 hs1
  replace hN1 : V1.heap[pn]? = some (.cells (flat (S.now.set n b)) 33 (0, 0)) := by
    rw [hN1]
    exact congrArg (fun c => some (Obj.cells c 33 (0, 0))) (flat_put HF.out (by omega) HB.out)
  have hpn : p ≠ pn := heap_ne hX0.box hX0.now (by decide)
  have hP1 := (hT1.block p (lt_of_heap hX0.box) hpn).trans hX0.box
  have hL1 := (hT1.block pl (lt_of_heap hX0.last) hX0.ne.symm).trans hX0.last
  have hwn := own_ne hX0.wait hX0.now (by decide)
  have hO1 := own_keep (W' := V1) hX0.wait (fun g hg => hT1.block g (own_lt hX0.wait hg) (fun e => hwn (by rw [hg]; exact congrArg some e)))
  have hTw1 : Tch F w V1 := by
    refine (Tch.of_below (F := F) (hW.trans (hX.mono hW.size))).trans hT1 (fun _ h => h) (fun i _ e => ?_)
    subst e
    exact H0.out.on
  have hG1 : V1.heap[gb]? = some (.cells (bv b) 33 (0, 0)) := (hT1.block gb (Nat.lt_of_lt_of_le hgb hX.size) (by show gb ≠ pn; omega)).trans ((hX.block gb hgb).trans hG)
  have hg1 := lt_of_heap hG1
  have hp1 := lt_of_heap hP1
  have HO := hid hO1
  have HP := hid hP1
  have HL := hid hL1
  have HNn := hid hN1
  have hnl' : pn < V1.heap.size := lt_of_heap hN1
  have hne := H0.out.ne
  have HFo := hid (And.intro H0.out.op (And.intro H0.out.on (And.intro H0.out.ol H0.out.ow)))
  clear hX hX0 H0 hT1 hs1 hG hat ha hO1 hP1 hL1 hN1
  have hX : Below V1.heap.size V1 V1 := Below.refl _ _
  have LB : ∀ X, Below V1.heap.size V1 X → (loadK 33 (.pointer (some ⟨gb, 0, none⟩))).run Try.prog X = .ok (.value (.agg (bv b))) X := fun X hb => run_loadK_box ((hb.block _ hg1).trans hG1) Try.underlying33 rfl size33 HSB.out
  have L2 : ∀ X, Below V1.heap.size V1 X → X.cell? ⟨p, 2, none⟩ = some wv := fun X hb => (hb.cell (p := ⟨p, 2, none⟩) hp1).trans ((cell_of_row V1 p 2 _ _ _ HP.out).trans rfl)
  go_wp2
  refine wp_region_holdX 1 8 9 (fun X => Below V1.heap.size V1 X) (by kernel_rfl) (by kernel_rfl) (fun d _ c _ _ h => by cases d <;> exact h) (Below.drew hX) (fun X hX1 => ?_)
  replace hX := hX1
  clear hX1
  simp only [List.take_succ_cons, List.take_zero, List.drop_succ_cons, List.drop_zero]
  (refine wpHold_cons rfl (fun K hK => ?_); apply Exists.intro; refine And.intro (fun X' hX' => ?_) ?_; (· go_simp; (try go_bits); first | done | exact rfl | exact ⟨rfl, rfl⟩); go_simp; refine hK _ ?_; clear hK K)
  refine wpHold_nil ?_
  repeat (refine wpHold_cons rfl (fun K hK => ?_); apply Exists.intro; refine And.intro (fun X' hX' => ?_) ?_; (· go_simp; (try go_bits); first | done | exact rfl | exact ⟨rfl, rfl⟩); go_simp; refine hK _ ?_; clear hK K)
  refine wpHold_nil ?_
  clear LB L2
  refine wpTail_buildSlice1 _ rfl (.agg (putL (n, b)).toArray) (by simp [Act.eval]) rfl rfl rfl Try.underlying102 zero106 size106 (by decide) (by decide) (putL_size HB.out) ?_
  intro gs X1 hS hgs hges hX1
  refine ⟨hX.trans (hX1.mono hX.size), ?_⟩
  obtain ⟨i0, hi, hiz, his, hib⟩ := info_parts info106
  have hOX := own_keep (W' := X1) HO.out (fun g hg => (hX1.block g (Nat.lt_of_lt_of_le (own_lt HO.out hg) hX.size)).trans (hX.block g (own_lt HO.out hg)))
  refine wpList_append_at _ _ _ rfl wv rfl ⟨gs, 0, none⟩ 1 1 rfl rfl 106 i0 zeroPut 129 136 Try.underlying102 hi hiz his hib (putL_size zeroB_len) (by decide) S.wait.length (waitL S.wait) hOX (putL (n, b)) ((putL_len HB.out).trans rfl) ?_ (putL_one _) (by unfold maxLen; omega) (by omega) ?_
  · intro j u hu
    have e : (⟨gs, 0, none⟩ : Addr).add j = ⟨gs, j, none⟩ := by unfold Addr.add; split <;> simp_all
    rw [e, cell_of_row X1 gs j _ _ _ hS]
    simpa [Value.cells] using hu
  intro v' V2 hO2 hT2 hfr
  have hXX : Below V1.heap.size V1 X1 := hX.trans (hX1.mono hX.size)
  have hk : ∀ {g : Nat}, g < V1.heap.size → wv.ownBlock ≠ some g → V2.heap[g]? = V1.heap[g]? := fun {g} hg hn => (hT2.block g (Nat.lt_of_lt_of_le hg hXX.size) hn).trans (hXX.block g hg)
  have HP2 := hid ((hk hp1 (own_ne HO.out HP.out (by decide))).trans HP.out)
  have HN2 := hid ((hk hnl' (own_ne HO.out HNn.out (by decide))).trans HNn.out)
  have HL2 := hid ((hk (lt_of_heap HL.out) (own_ne HO.out HL.out (by decide))).trans HL.out)
  have hT02 : Tch F w V2 := (hTw1.trans (Tch.of_below (F := F) hXX) (fun _ h => h) (fun _ _ h => h)).trans hT2 (fun _ h => h) (fun i _ e => HFo.out.2.2.2 i e)
  have hvb : ∀ g, v'.ownBlock = some g → F g ∨ w.heap.size ≤ g := by
    intro g hg
    rcases hfr with e | e
    · exact .inl (HFo.out.2.2.2 g (e.symm.trans hg))
    · have : g = X1.heap.size := by rw [hg] at e; exact Option.some.inj e
      have h2 := hTw1.size
      have h3 := hXX.size
      exact .inr (by omega)
  obtain ⟨A', c', rfl⟩ : ∃ A c, v' = .slice A (S.wait.length + 1) c := by
    rcases hO2.2 with ⟨_, h0⟩ | ⟨g, cap, cur, h0, _⟩
    · omega
    · exact ⟨_, _, h0⟩
  have HO2 := hid hO2
  have HVB := hid hvb
  clear hO2 hfr hk hXX hX1 hOX hT2 hX hS hgs hges hi hiz his hib hvb hG1
  have FIN := hid fun (W' : World) (wr ar : Int) (off : Bool) (hp : W'.heap[p]? = some (.cells #[.slice (some ⟨pn, 0, none⟩) S.now.length S.now.length, .slice (some ⟨pl, 0, none⟩) S.now.length S.now.length, .slice A' (S.wait.length + 1) c', .int .i64 wr, .int .i64 ar, .bool off] 104 (0, 0))) (ht : Tch (· = p) V2 W') =>
    (show DiskIn W' p (fun g => F g ∨ w.heap.size ≤ g) { now := S.now.set n b, last := S.last, wait := S.wait ++ [(n, b)], writes := wr, armed := ar, off := off } ∧ Tch F w W' from by
      have hpn2 : pn ≠ p := heap_ne HN2.out HP2.out (by decide)
      have hpl2 : pl ≠ p := heap_ne HL2.out HP2.out (by decide)
      refine ⟨⟨pn, pl, .slice A' (S.wait.length + 1) c', .inl HFo.out.1, .inl HFo.out.2.1, .inl HFo.out.2.2.1, HVB.out, hne, ?_, ?_, ?_, ?_⟩, hT02.trans ht (fun _ h => h) (fun i _ e => by subst e; exact HFo.out.1)⟩
      · simpa using hp
      · exact (ht.block pn (lt_of_heap HN2.out) hpn2).trans HN2.out
      · exact (ht.block pl (lt_of_heap HL2.out) hpl2).trans HL2.out
      · simp only [List.length_append, List.length_singleton, waitL_snoc]
        exact own_keep HO2.out (fun g hg => ht.block g (own_lt HO2.out hg) (fun e => own_ne HO2.out HP2.out (by decide) (by rw [hg]; exact congrArg some e))))
  have c2 : V2.cell? ⟨p, 2, none⟩ = some wv := (cell_of_row V2 p 2 _ _ _ HP2.out).trans rfl
  have c3 : V2.cell? ⟨p, 3, none⟩ = some (.int .i64 S.writes) := (cell_of_row V2 p 3 _ _ _ HP2.out).trans rfl
  have c4 : V2.cell? ⟨p, 4, none⟩ = some (.int .i64 S.armed) := (cell_of_row V2 p 4 _ _ _ HP2.out).trans rfl
  have c5 : V2.cell? ⟨p, 5, none⟩ = some (.bool S.off) := (cell_of_row V2 p 5 _ _ _ HP2.out).trans rfl
  have f2 : V2.frozen? ⟨p, 2, none⟩ = false := frozen_of_row V2 p 2 _ _ HP2.out
  have f3 : V2.frozen? ⟨p, 3, none⟩ = false := frozen_of_row V2 p 3 _ _ HP2.out
  have f4 : V2.frozen? ⟨p, 4, none⟩ = false := frozen_of_row V2 p 4 _ _ HP2.out
  have f5 : V2.frozen? ⟨p, 5, none⟩ = false := frozen_of_row V2 p 5 _ _ HP2.out
  have P2 := hid (heap_setCell_same V2 p 2 _ 104 (.slice A' (S.wait.length + 1) c') HP2.out)
  have P3 := hid (heap_setCell_same _ p 3 _ 104 (.int .i64 (S.writes + 1)) P2.out)
  have T3 := hid (((Tch.refl (· = p) V2).setCell (g := p) (i := 2) rfl (.slice A' (S.wait.length + 1) c')).setCell (g := p) (i := 3) rfl (.int .i64 (S.writes + 1)))
  have P4 := hid (heap_setCell_same _ p 4 _ 104 (.int .i64 (S.armed - 1)) P3.out)
  have T4 := hid (T3.out.setCell (g := p) (i := 4) rfl (.int .i64 (S.armed - 1)))
  by_cases h0 : S.armed = 0
  · have b0 : (S.armed == 0) = true := by simpa using h0
    have HE := hid (DS.put_tick0 (n := n) (b := b) h0)
    clear h0 har0 har
    go_wp2
    go_ret
    rw [HE.out]
    exact ⟨rfl, FIN.out _ _ _ _ (P3.out.trans rfl) T3.out⟩
  · have b0 : (S.armed == 0) = false := by simpa using h0
    by_cases h1 : 0 < S.armed - 1
    · have HE := hid (DS.put_tick1 (n := n) (b := b) h0 h1)
      clear h0
      go_wp2
      go_ret
      rw [HE.out]
      exact ⟨rfl, FIN.out _ _ _ _ (P4.out.trans rfl) T4.out⟩
    · have HE := hid (DS.put_tick2 (n := n) (b := b) h0 h1)
      have h2 : S.armed = 1 := by omega
      have E := hid (show S.armed - 1 = 0 by omega)
      have P4 := hid (heap_setCell_same _ p 4 _ 104 (.int .i64 0) P3.out)
      have T4 := hid (T3.out.setCell (g := p) (i := 4) rfl (.int .i64 0))
      have P5 := hid (heap_setCell_same _ p 5 _ 104 (.bool true) P4.out)
      have T5 := hid (T4.out.setCell (g := p) (i := 5) rfl (.bool true))
      rw [h2] at c4 b0
      clear h0 h1 har0 har h2
      go_wp2
      go_ret
      rw [HE.out, E.out]
      exact ⟨rfl, FIN.out _ _ _ _ (P5.out.trans rfl) T5.out⟩
end Go.Proofs.Ythmchbdhikakhaa
