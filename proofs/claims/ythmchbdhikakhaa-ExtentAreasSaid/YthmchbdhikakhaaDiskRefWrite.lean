/- DocWrite. -/
import Derived.Test.YthmchbdhikakhaaDiskRefMem
namespace Go.Proofs.Ythmchbdhikakhaa
open Go.RowKit Go.Cu
set_option maxRecDepth 20000 in
set_option maxHeartbeats 1000000 in
theorem rwrite_in {p : Nat} {F : Nat → Prop} {S : DS} {w : World} {N : Nat} (h : RefIn w p F S) (hok : S.Ok N) (hNN : N ≤ 1000000) {n : Nat} (hz : S.at_ (n : Int) = 0) {b : Bk} (hb : b.length = 128) :
    Calls Try.prog 21 #[.pointer (some ⟨p, 0, none⟩), .int .i64 n, .agg (bv b)] w fun x w' => x = .returned (.int .i64 ((S.put n b).tick).2) ∧ RefIn w' p (fun g => F g ∨ w.heap.size ≤ g) ((S.put n b).tick).1 ∧ Tch F w w' := by
  obtain ⟨hoff, _, hlt⟩ := DS.at_zero hz
  have hlen := hok.len
  have hbig := hok.big
  have hfew := hok.few
  have hwr0 := hok.writes0
  have hwr := hok.writes
  have har0 := hok.armed0
  have har := hok.armed
  have HB := hid hb
  have HSB := hid ((bv_size b).trans hb)
  have HFW := hid (show FullW S.wait from fun q hq => (hok.wait q hq).2)
  have BP := build109 n b hb
  obtain ⟨pl, wv, hat⟩ := h
  have hnn : (n : Int) < (S.last.length : Int) := by omega
  have hn0 : ¬ (n : Int) < 0 := by omega
  clear hok hz hb
  go_enter Try.func21, Try.ntmps21
  repeat (apply wp_seq_k; intro _ _)
  apply wp_region_lit
  refine wpList_box rfl 32 _ rfl (.agg (bv b)) rfl ?_
  intro gb V1 hG1 hgb hgeb hW
  have H0 := hid (hat.below hW)
  have HO := hid H0.out.wait
  have HP := hid H0.out.box
  have HL := hid H0.out.last
  have hp1 := lt_of_heap H0.out.box
  have HFo := hid (And.intro H0.out.op (And.intro H0.out.ol H0.out.ow))
  have hX : Below V1.heap.size V1 V1 := Below.refl _ _
  have LB : ∀ X, Below V1.heap.size V1 X → (loadK 32 (.pointer (some ⟨gb, 0, none⟩))).run Try.prog X = .ok (.value (.agg (bv b))) X := fun X hb => run_loadK_box ((hb.block _ hgb).trans hG1) Try.underlying32 rfl size32 HSB.out
  have L0 : ∀ X, Below V1.heap.size V1 X → X.cell? ⟨p, 0, none⟩ = some (.slice (some ⟨pl, 0, none⟩) S.last.length S.last.length) := fun X hb => (hb.cell (p := ⟨p, 0, none⟩) hp1).trans ((cell_of_row V1 p 0 _ _ _ HP.out).trans rfl)
  have L1 : ∀ X, Below V1.heap.size V1 X → X.cell? ⟨p, 1, none⟩ = some wv := fun X hb => (hb.cell (p := ⟨p, 1, none⟩) hp1).trans ((cell_of_row V1 p 1 _ _ _ HP.out).trans rfl)
  have L4 : ∀ X, Below V1.heap.size V1 X → X.cell? ⟨p, 4, none⟩ = some (.bool false) := fun X hb => (hb.cell (p := ⟨p, 4, none⟩) hp1).trans ((cell_of_row V1 p 4 _ _ _ HP.out).trans (by rw [hoff]; rfl))
  clear hat hoff
  go_wp2
  refine wp_region_ord [0, 9, 10, 11, 12] [(0, 0), (1, 1), (2, 1), (3, 1), (4, 1), (5, 1), (6, 1), (7, 1), (8, 2), (9, 2), (10, 0), (11, 0), (12, 2)] (fun X => Below V1.heap.size V1 X) (by kernel_rfl) (by kernel_rfl) (fun d _ c _ _ h => by cases d <;> exact h) (Below.drew hX) (fun X hXe hX1 => ?_)
  clear hXe
  (apply wpOrd_pure; ((· first | (rw [List.getElem?_toArray, List.getElem?_cons_zero]; done) | (simp only [List.getElem?_toArray, List.getElem?_cons_succ, List.getElem?_cons_zero]; exact rfl))); (· exact rfl); intro K hK; apply Exists.intro; refine And.intro (fun X' => ?_) ?_; (· go_simp; (try go_bits); first | done | exact rfl | exact ⟨rfl, rfl⟩); go_simp; refine hK _ _ ?_; clear hK K)
  repeat (apply wpOrd_class; ((· first | (rw [List.getElem?_toArray, List.getElem?_cons_zero]; done) | (simp only [List.getElem?_toArray, List.getElem?_cons_succ, List.getElem?_cons_zero]; exact rfl))); (· exact rfl); intro K hK; apply Exists.intro; refine And.intro (fun X' hX' => ?_) ?_; (· go_simp; (try go_bits); first | done | exact rfl | exact ⟨rfl, rfl⟩); go_simp; refine hK _ _ ?_; clear hK K)
  (apply wpOrd_comes; ((· first | (rw [List.getElem?_toArray, List.getElem?_cons_zero]; done) | (simp only [List.getElem?_toArray, List.getElem?_cons_succ, List.getElem?_cons_zero]; exact rfl))); intro N hN)
  refine wpList_buildSlice1 _ rfl (.agg (putL (n, b)).toArray) (by simp [Act.eval]) rfl Try.underlying49 zero109 size109 (by decide) (by decide) (putL_size HB.out) ?_
  intro gs X1 hS hgs hges hX1b
  refine hN _ _ (fun _ => hX1.trans (hX1b.mono hX1.size)) ?_
  clear hN N
  (apply wpOrd_comes; ((· first | (rw [List.getElem?_toArray, List.getElem?_cons_zero]; done) | (simp only [List.getElem?_toArray, List.getElem?_cons_succ, List.getElem?_cons_zero]; exact rfl))); intro N hN)
  obtain ⟨i0, hi, hiz, his, hib⟩ := info_parts info109
  have hXX : Below V1.heap.size V1 X1 := hX1.trans (hX1b.mono hX1.size)
  have hOX := own_keep (W' := X1) HO.out (fun g hg => hXX.block g (own_lt HO.out hg))
  refine wpList_append_at _ _ _ rfl wv rfl ⟨gs, 0, none⟩ 1 1 rfl rfl 109 i0 zeroPut 129 136 Try.underlying49 hi hiz his hib (putL_size zeroB_len) (by decide) S.wait.length (waitL S.wait) hOX (putL (n, b)) ((putL_len HB.out).trans rfl) ?_ (putL_one _) (by unfold maxLen; omega) (by omega) ?_
  · intro j u hu
    have e : (⟨gs, 0, none⟩ : Addr).add j = ⟨gs, j, none⟩ := by unfold Addr.add; split <;> simp_all
    rw [e, cell_of_row X1 gs j _ _ _ hS]
    simpa [Value.cells] using hu
  intro v' V2 hO2 hT2 hfr
  refine hN _ _ (fun h => by cases h) ?_
  clear hN N
  have hk : ∀ {g : Nat}, g < V1.heap.size → wv.ownBlock ≠ some g → V2.heap[g]? = V1.heap[g]? := fun {g} hg hn => (hT2.block g (Nat.lt_of_lt_of_le hg hXX.size) hn).trans (hXX.block g hg)
  have HP2 := hid ((hk hp1 (own_ne HO.out HP.out (by decide))).trans HP.out)
  have HL2 := hid ((hk (lt_of_heap HL.out) (own_ne HO.out HL.out (by decide))).trans HL.out)
  have hT02 : Tch F w V2 := ((Tch.of_below (F := F) (hW.trans (hXX.mono hW.size)))).trans hT2 (fun _ h => h) (fun i _ e => HFo.out.2.2 i e)
  have hvb : ∀ g, v'.ownBlock = some g → F g ∨ w.heap.size ≤ g := by
    intro g hg
    rcases hfr with e | e
    · exact .inl (HFo.out.2.2 g (e.symm.trans hg))
    · have : g = X1.heap.size := by rw [hg] at e; exact Option.some.inj e
      have h2 := hW.size
      have h3 := hXX.size
      exact .inr (by omega)
  obtain ⟨A', c', rfl⟩ : ∃ A c, v' = .slice A (S.wait.length + 1) c := by
    rcases hO2.2 with ⟨_, h0⟩ | ⟨g, cap, cur, h0, _⟩
    · omega
    · exact ⟨_, _, h0⟩
  have HO2 := hid hO2
  have HVB := hid hvb
  have HT02 := hid hT02
  clear hO2 hfr hk hXX hX1 hX1b hOX hT2 hX hS hgs hges hi hiz his hib hvb hG1 hT02 hW H0 LB L0 L1 L4
  have FIN := hid fun (W' : World) (wr ar : Int) (off : Bool) (hp : W'.heap[p]? = some (.cells #[.slice (some ⟨pl, 0, none⟩) S.last.length S.last.length, .slice A' (S.wait.length + 1) c', .int .i64 wr, .int .i64 ar, .bool off] 51 (0, 0))) (ht : Tch (· = p) V2 W') =>
    (show RefIn W' p (fun g => F g ∨ w.heap.size ≤ g) { now := S.now.set n b, last := S.last, wait := S.wait ++ [(n, b)], writes := wr, armed := ar, off := off } ∧ Tch F w W' from by
      have hpl2 : pl ≠ p := heap_ne HL2.out HP2.out (by decide)
      refine ⟨⟨pl, .slice A' (S.wait.length + 1) c', .inl HFo.out.1, .inl HFo.out.2.1, HVB.out, ?_, ?_, ?_⟩, HT02.out.trans ht (fun _ h => h) (fun i _ e => by subst e; exact HFo.out.1)⟩
      · simpa using hp
      · exact (ht.block pl (lt_of_heap HL2.out) hpl2).trans HL2.out
      · simp only [List.length_append, List.length_singleton, waitL_snoc]
        exact own_keep HO2.out (fun g hg => ht.block g (own_lt HO2.out hg) (fun e => own_ne HO2.out HP2.out (by decide) (by rw [hg]; exact congrArg some e))))
  have c1 : V2.cell? ⟨p, 1, none⟩ = some wv := (cell_of_row V2 p 1 _ _ _ HP2.out).trans rfl
  have c2 : V2.cell? ⟨p, 2, none⟩ = some (.int .i64 S.writes) := (cell_of_row V2 p 2 _ _ _ HP2.out).trans rfl
  have c3 : V2.cell? ⟨p, 3, none⟩ = some (.int .i64 S.armed) := (cell_of_row V2 p 3 _ _ _ HP2.out).trans rfl
  have c4 : V2.cell? ⟨p, 4, none⟩ = some (.bool S.off) := (cell_of_row V2 p 4 _ _ _ HP2.out).trans rfl
  have f1 : V2.frozen? ⟨p, 1, none⟩ = false := frozen_of_row V2 p 1 _ _ HP2.out
  have f2 : V2.frozen? ⟨p, 2, none⟩ = false := frozen_of_row V2 p 2 _ _ HP2.out
  have f3 : V2.frozen? ⟨p, 3, none⟩ = false := frozen_of_row V2 p 3 _ _ HP2.out
  have f4 : V2.frozen? ⟨p, 4, none⟩ = false := frozen_of_row V2 p 4 _ _ HP2.out
  have P1 := hid (heap_setCell_same V2 p 1 _ 51 (.slice A' (S.wait.length + 1) c') HP2.out)
  have P2 := hid (heap_setCell_same _ p 2 _ 51 (.int .i64 (S.writes + 1)) P1.out)
  have T2 := hid (((Tch.refl (· = p) V2).setCell (g := p) (i := 1) rfl (.slice A' (S.wait.length + 1) c')).setCell (g := p) (i := 2) rfl (.int .i64 (S.writes + 1)))
  have P3 := hid (heap_setCell_same _ p 3 _ 51 (.int .i64 (S.armed - 1)) P2.out)
  have T3 := hid (T2.out.setCell (g := p) (i := 3) rfl (.int .i64 (S.armed - 1)))
  (apply wpOrd_pure; ((· first | (rw [List.getElem?_toArray, List.getElem?_cons_zero]; done) | (simp only [List.getElem?_toArray, List.getElem?_cons_succ, List.getElem?_cons_zero]; exact rfl))); (· exact rfl); intro K hK; apply Exists.intro; refine And.intro (fun X' => ?_) ?_; (· go_simp; (try go_bits); first | done | exact rfl | exact ⟨rfl, rfl⟩); go_simp; refine hK _ _ ?_; clear hK K)
  (apply wpOrd_pure; ((· first | (rw [List.getElem?_toArray, List.getElem?_cons_zero]; done) | (simp only [List.getElem?_toArray, List.getElem?_cons_succ, List.getElem?_cons_zero]; exact rfl))); (· exact rfl); intro K hK; apply Exists.intro; refine And.intro (fun X' => ?_) ?_; (· go_simp; (try go_bits); first | done | exact rfl | exact ⟨rfl, rfl⟩); go_simp; refine hK _ _ ?_; clear hK K)
  (apply wpOrd_comes; ((· first | (rw [List.getElem?_toArray, List.getElem?_cons_zero]; done) | (simp only [List.getElem?_toArray, List.getElem?_cons_succ, List.getElem?_cons_zero]; exact rfl))); intro N hN)
  go_wp2
  refine hN _ _ (fun h => by cases h) (wpOrd_done ?_)
  clear hN N
  by_cases h0 : S.armed = 0
  · have b0 : ¬ 0 < S.armed := by omega
    have HE := hid (DS.put_tick0 (n := n) (b := b) h0)
    clear h0 har0 har
    go_wp2
    go_ret
    rw [HE.out]
    exact ⟨rfl, FIN.out _ _ _ _ (P2.out.trans rfl) T2.out⟩
  · have b0 : 0 < S.armed := by omega
    by_cases h1 : 0 < S.armed - 1
    · have HE := hid (DS.put_tick1 (n := n) (b := b) h0 h1)
      have b1 : (S.armed - 1 == 0) = false := by rw [beq_eq_false_iff_ne]; omega
      clear h0
      go_wp2
      go_ret
      rw [HE.out]
      exact ⟨rfl, FIN.out _ _ _ _ (P3.out.trans rfl) T3.out⟩
    · have HE := hid (DS.put_tick2 (n := n) (b := b) h0 h1)
      have h2 : S.armed = 1 := by omega
      have E := hid (show S.armed - 1 = 0 by omega)
      have P3 := hid (heap_setCell_same _ p 3 _ 51 (.int .i64 0) P2.out)
      have T3 := hid (T2.out.setCell (g := p) (i := 3) rfl (.int .i64 0))
      have P4 := hid (heap_setCell_same _ p 4 _ 51 (.bool true) P3.out)
      have T4 := hid (T3.out.setCell (g := p) (i := 4) rfl (.bool true))
      rw [h2] at c3
      clear h0 h1 har0 har h2 b0
      go_wp2
      go_ret
      rw [HE.out, E.out]
      exact ⟨rfl, FIN.out _ _ _ _ (P4.out.trans rfl) T4.out⟩
set_option maxRecDepth 20000 in
set_option maxHeartbeats 400000 in
theorem rwrite_down {p : Nat} {F : Nat → Prop} {S : DS} {w : World} (h : RefIn w p F S) (hoff : S.off = true) (i : Int) (b : Bk) :
    Calls Try.prog 21 #[.pointer (some ⟨p, 0, none⟩), .int .i64 i, .agg (bv b)] w fun x w' => x = .returned (.int .i64 13) ∧ Below w.heap.size w w' := by
  obtain ⟨pl, wv, h⟩ := h
  have hp := lt_of_heap h.box
  have L4 : ∀ X, Below w.heap.size w X → X.cell? ⟨p, 4, none⟩ = some (.bool true) := fun X hb => (hb.cell (p := ⟨p, 4, none⟩) hp).trans ((cell_of_row w p 4 _ _ _ h.box).trans (by rw [hoff]; rfl))
  clear h hoff
  go_enter Try.func21, Try.ntmps21
  repeat (apply wp_seq_k; intro _ _)
  apply wp_region_lit
  refine wpList_box rfl 32 _ rfl (.agg (bv b)) rfl ?_
  intro gb V1 hG1 hgb hgeb hW
  clear hG1
  go_wp2
  go_ret
  exact ⟨rfl, hW⟩
set_option maxRecDepth 20000 in
set_option maxHeartbeats 400000 in
theorem rwrite_out {p : Nat} {F : Nat → Prop} {S : DS} {w : World} (h : RefIn w p F S) (hoff : S.off = false) (i : Int) (b : Bk) (hi : i < 0 ∨ (S.last.length : Int) ≤ i) :
    Calls Try.prog 21 #[.pointer (some ⟨p, 0, none⟩), .int .i64 i, .agg (bv b)] w fun x w' => x = .returned (.int .i64 1) ∧ Below w.heap.size w w' := by
  obtain ⟨pl, wv, h⟩ := h
  have hp := lt_of_heap h.box
  have L4 : ∀ X, Below w.heap.size w X → X.cell? ⟨p, 4, none⟩ = some (.bool false) := fun X hb => (hb.cell (p := ⟨p, 4, none⟩) hp).trans ((cell_of_row w p 4 _ _ _ h.box).trans (by rw [hoff]; rfl))
  have L0 : ∀ X, Below w.heap.size w X → X.cell? ⟨p, 0, none⟩ = some (.slice (some ⟨pl, 0, none⟩) S.last.length S.last.length) := fun X hb => (hb.cell (p := ⟨p, 0, none⟩) hp).trans ((cell_of_row w p 0 _ _ _ h.box).trans rfl)
  clear h hoff
  by_cases h1 : i < 0
  · clear hi
    go_enter Try.func21, Try.ntmps21
    repeat (apply wp_seq_k; intro _ _)
    apply wp_region_lit
    refine wpList_box rfl 32 _ rfl (.agg (bv b)) rfl ?_
    intro gb V1 hG1 hgb hgeb hW
    clear hG1
    go_wp2
    go_ret
    exact ⟨rfl, hW⟩
  · have h2 : (S.last.length : Int) ≤ i := by omega
    clear hi
    go_enter Try.func21, Try.ntmps21
    repeat (apply wp_seq_k; intro _ _)
    apply wp_region_lit
    refine wpList_box rfl 32 _ rfl (.agg (bv b)) rfl ?_
    intro gb V1 hG1 hgb hgeb hW
    clear hG1
    go_wp2
    go_ret
    exact ⟨rfl, hW⟩
/-- Where nothing is answered. -/
theorem at_why {S : DS} {i : Int} (hz : S.at_ i ≠ 0) : S.off = true ∧ S.at_ i = 13 ∨ S.off = false ∧ S.at_ i = 1 ∧ (i < 0 ∨ (S.now.length : Int) ≤ i) := by
  unfold DS.at_ at *
  cases ho : S.off
  · rw [ho] at hz
    simp only [Bool.false_eq_true, if_false] at hz ⊢
    have hi : i < 0 ∨ (S.now.length : Int) ≤ i := Decidable.byContradiction fun hc => hz (if_neg hc)
    exact .inr ⟨trivial, if_pos hi, hi⟩
  · exact .inl ⟨rfl, rfl⟩
theorem rwrite_any {p : Nat} {F : Nat → Prop} {S : DS} {w : World} {N : Nat} (h : RefIn w p F S) (hok : S.Ok N) (hN : N ≤ 1000000) (i : Int) {b : Bk} (hb : b.length = 128) :
    Calls Try.prog 21 #[.pointer (some ⟨p, 0, none⟩), .int .i64 i, .agg (bv b)] w fun x w' => x = .returned (.int .i64 (S.write i b).2) ∧ RefIn w' p (fun g => F g ∨ w.heap.size ≤ g) (S.write i b).1 ∧ Tch F w w' := by
  by_cases hz : S.at_ i = 0
  · obtain ⟨_, h0, _⟩ := DS.at_zero hz
    obtain ⟨n, rfl⟩ := Int.eq_ofNat_of_zero_le h0
    have e : S.write (n : Int) b = (S.put n b).tick := by unfold DS.write; rw [if_neg (by simpa using hz)]; simp
    rw [e]
    exact rwrite_in h hok hN hz hb
  · have e : S.write i b = (S, S.at_ i) := by unfold DS.write; rw [if_pos hz]
    rw [e]
    have fin : ∀ {x : Int}, (Calls Try.prog 21 #[.pointer (some ⟨p, 0, none⟩), .int .i64 i, .agg (bv b)] w fun y w' => y = .returned (.int .i64 x) ∧ Below w.heap.size w w') → S.at_ i = x →
        Calls Try.prog 21 #[.pointer (some ⟨p, 0, none⟩), .int .i64 i, .agg (bv b)] w fun y w' => y = .returned (.int .i64 (S.at_ i)) ∧ RefIn w' p (fun g => F g ∨ w.heap.size ≤ g) S ∧ Tch F w w' := fun hc hx =>
      hc.mono fun y w' hy => ⟨by rw [hx]; exact hy.1, (h.below hy.2).mono (fun g _ hf => .inl hf), Tch.of_below hy.2⟩
    rcases at_why hz with ⟨ho, he⟩ | ⟨ho, he, hi⟩
    · exact fin (rwrite_down h ho i b) he
    · exact fin (rwrite_out h ho i b (by rw [hok.len]; exact hi)) he
end Go.Proofs.Ythmchbdhikakhaa
