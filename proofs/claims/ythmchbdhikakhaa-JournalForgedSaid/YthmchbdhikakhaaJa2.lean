/- Part 2 of the texts below this law, put together: what each holds is said at its head. -/
import Derived.Test.YthmchbdhikakhaaJa1
/- DocWrite. -/
namespace Go.Proofs.Ythmchbdhikakhaa
open Go.RowKit Go.Cu
set_option maxRecDepth 20000 in
set_option maxHeartbeats 1000000 in
theorem rwrite_in {p : Nat} {F : Nat → Prop} {S : DS} {w : World} {N : Nat} (h : RefIn w p F S) (hok : S.Ok N) (hNN : N ≤ 1000000) {n : Nat} (hz : S.at_ (n : Int) = 0) {b : Bk} (hb : b.length = 128) :
    Calls Try.prog 21 #[.pointer (some ⟨p, 0, none⟩), .int .i64 n, .agg (bv b)] w fun x w' => x = .returned (.int .i64 ((S.put n b).tick).2) ∧ RefIn w' p (fun g => F g ∨ w.heap.size ≤ g) ((S.put n b).tick).1 ∧ Tch F w w' := by
  obtain ⟨hoff, _, hlt⟩ := DS.at_zero hz
  have hlen := hok.len
  have hbig := hok.big
  have hfew := hok.few
  have hwr0 := hok.writes0
  have hwr := hok.writes
  have har0 := hok.armed0
  have har := hok.armed
  have HB := hid hb
  have HSB := hid ((bv_size b).trans hb)
  have HFW := hid (show FullW S.wait from fun q hq => (hok.wait q hq).2)
  have BP := build109 n b hb
  obtain ⟨pl, wv, hat⟩ := h
  have hnn : (n : Int) < (S.last.length : Int) := by omega
  have hn0 : ¬ (n : Int) < 0 := by omega
  clear hok hz hb
  go_enter Try.func21, Try.ntmps21
  repeat (apply wp_seq_k; intro _ _)
  apply wp_region_lit
  refine wpList_box rfl 32 _ rfl (.agg (bv b)) rfl ?_
  intro gb V1 hG1 hgb hgeb hW
  have H0 := hid (hat.below hW)
  have HO := hid H0.out.wait
  have HP := hid H0.out.box
  have HL := hid H0.out.last
  have hp1 := lt_of_heap H0.out.box
  have HFo := hid (And.intro H0.out.op (And.intro H0.out.ol H0.out.ow))
  have hX : Below V1.heap.size V1 V1 := Below.refl _ _
  have LB : ∀ X, Below V1.heap.size V1 X → (loadK 32 (.pointer (some ⟨gb, 0, none⟩))).run Try.prog X = .ok (.value (.agg (bv b))) X := fun X hb => run_loadK_box ((hb.block _ hgb).trans hG1) Try.underlying32 rfl size32 HSB.out
  have L0 : ∀ X, Below V1.heap.size V1 X → X.cell? ⟨p, 0, none⟩ = some (.slice (some ⟨pl, 0, none⟩) S.last.length S.last.length) := fun X hb => (hb.cell (p := ⟨p, 0, none⟩) hp1).trans ((cell_of_row V1 p 0 _ _ _ HP.out).trans rfl)
  have L1 : ∀ X, Below V1.heap.size V1 X → X.cell? ⟨p, 1, none⟩ = some wv := fun X hb => (hb.cell (p := ⟨p, 1, none⟩) hp1).trans ((cell_of_row V1 p 1 _ _ _ HP.out).trans rfl)
  have L4 : ∀ X, Below V1.heap.size V1 X → X.cell? ⟨p, 4, none⟩ = some (.bool false) := fun X hb => (hb.cell (p := ⟨p, 4, none⟩) hp1).trans ((cell_of_row V1 p 4 _ _ _ HP.out).trans (by rw [hoff]; rfl))
  clear hat hoff
  go_wp2
  refine wp_region_ord [0, 9, 10, 11, 12] [(0, 0), (1, 1), (2, 1), (3, 1), (4, 1), (5, 1), (6, 1), (7, 1), (8, 2), (9, 2), (10, 0), (11, 0), (12, 2)] (fun X => Below V1.heap.size V1 X) (by kernel_rfl) (by kernel_rfl) (fun d _ c _ _ h => by cases d <;> exact h) (Below.drew hX) (fun X hXe hX1 => ?_)
  clear hXe
  (apply wpOrd_pure; ((· first | (rw [List.getElem?_toArray, List.getElem?_cons_zero]; done) | (simp only [List.getElem?_toArray, List.getElem?_cons_succ, List.getElem?_cons_zero]; exact rfl))); (· exact rfl); intro K hK; apply Exists.intro; refine And.intro (fun X' => ?_) ?_; (· go_simp; (try go_bits); first | done | exact rfl | exact ⟨rfl, rfl⟩); go_simp; refine hK _ _ ?_; clear hK K)
  repeat (apply wpOrd_class; ((· first | (rw [List.getElem?_toArray, List.getElem?_cons_zero]; done) | (simp only [List.getElem?_toArray, List.getElem?_cons_succ, List.getElem?_cons_zero]; exact rfl))); (· exact rfl); intro K hK; apply Exists.intro; refine And.intro (fun X' hX' => ?_) ?_; (· go_simp; (try go_bits); first | done | exact rfl | exact ⟨rfl, rfl⟩); go_simp; refine hK _ _ ?_; clear hK K)
  (apply wpOrd_comes; ((· first | (rw [List.getElem?_toArray, List.getElem?_cons_zero]; done) | (simp only [List.getElem?_toArray, List.getElem?_cons_succ, List.getElem?_cons_zero]; exact rfl))); intro N hN)
  refine wpList_buildSlice1 _ rfl (.agg (putL (n, b)).toArray) (by simp [Act.eval]) rfl Try.underlying49 zero109 size109 (by decide) (by decide) (putL_size HB.out) ?_
  intro gs X1 hS hgs hges hX1b
  refine hN _ _ (fun _ => hX1.trans (hX1b.mono hX1.size)) ?_
  clear hN N
  (apply wpOrd_comes; ((· first | (rw [List.getElem?_toArray, List.getElem?_cons_zero]; done) | (simp only [List.getElem?_toArray, List.getElem?_cons_succ, List.getElem?_cons_zero]; exact rfl))); intro N hN)
  obtain ⟨i0, hi, hiz, his, hib⟩ := info_parts info109
  have hXX : Below V1.heap.size V1 X1 := hX1.trans (hX1b.mono hX1.size)
  have hOX := own_keep (W' := X1) HO.out (fun g hg => hXX.block g (own_lt HO.out hg))
  refine wpList_append_at _ _ _ rfl wv rfl ⟨gs, 0, none⟩ 1 1 rfl rfl 109 i0 zeroPut 129 136 Try.underlying49 hi hiz his hib (putL_size zeroB_len) (by decide) S.wait.length (waitL S.wait) hOX (putL (n, b)) ((putL_len HB.out).trans rfl) ?_ (putL_one _) (by unfold maxLen; omega) (by omega) ?_
  · intro j u hu
    have e : (⟨gs, 0, none⟩ : Addr).add j = ⟨gs, j, none⟩ := by unfold Addr.add; split <;> simp_all
    rw [e, cell_of_row X1 gs j _ _ _ hS]
    simpa [Value.cells] using hu
  intro v' V2 hO2 hT2 hfr
  refine hN _ _ (fun h => by cases h) ?_
  clear hN N
  have hk : ∀ {g : Nat}, g < V1.heap.size → wv.ownBlock ≠ some g → V2.heap[g]? = V1.heap[g]? := fun {g} hg hn => (hT2.block g (Nat.lt_of_lt_of_le hg hXX.size) hn).trans (hXX.block g hg)
  have HP2 := hid ((hk hp1 (own_ne HO.out HP.out (by decide))).trans HP.out)
  have HL2 := hid ((hk (lt_of_heap HL.out) (own_ne HO.out HL.out (by decide))).trans HL.out)
  have hT02 : Tch F w V2 := ((Tch.of_below (F := F) (hW.trans (hXX.mono hW.size)))).trans hT2 (fun _ h => h) (fun i _ e => HFo.out.2.2 i e)
  have hvb : ∀ g, v'.ownBlock = some g → F g ∨ w.heap.size ≤ g := by
    intro g hg
    rcases hfr with e | e
    · exact .inl (HFo.out.2.2 g (e.symm.trans hg))
    · have : g = X1.heap.size := by rw [hg] at e; exact Option.some.inj e
      have h2 := hW.size
      have h3 := hXX.size
      exact .inr (by omega)
  obtain ⟨A', c', rfl⟩ : ∃ A c, v' = .slice A (S.wait.length + 1) c := by
    rcases hO2.2 with ⟨_, h0⟩ | ⟨g, cap, cur, h0, _⟩
    · omega
    · exact ⟨_, _, h0⟩
  have HO2 := hid hO2
  have HVB := hid hvb
  have HT02 := hid hT02
  clear hO2 hfr hk hXX hX1 hX1b hOX hT2 hX hS hgs hges hi hiz his hib hvb hG1 hT02 hW H0 LB L0 L1 L4
  have FIN := hid fun (W' : World) (wr ar : Int) (off : Bool) (hp : W'.heap[p]? = some (.cells #[.slice (some ⟨pl, 0, none⟩) S.last.length S.last.length, .slice A' (S.wait.length + 1) c', .int .i64 wr, .int .i64 ar, .bool off] 51 (0, 0))) (ht : Tch (· = p) V2 W') =>
    (show RefIn W' p (fun g => F g ∨ w.heap.size ≤ g) { now := S.now.set n b, last := S.last, wait := S.wait ++ [(n, b)], writes := wr, armed := ar, off := off } ∧ Tch F w W' from by
      have hpl2 : pl ≠ p := heap_ne HL2.out HP2.out (by decide)
      refine ⟨⟨pl, .slice A' (S.wait.length + 1) c', .inl HFo.out.1, .inl HFo.out.2.1, HVB.out, ?_, ?_, ?_⟩, HT02.out.trans ht (fun _ h => h) (fun i _ e => by subst e; exact HFo.out.1)⟩
      · simpa using hp
      · exact (ht.block pl (lt_of_heap HL2.out) hpl2).trans HL2.out
      · simp only [List.length_append, List.length_singleton, waitL_snoc]
        exact own_keep HO2.out (fun g hg => ht.block g (own_lt HO2.out hg) (fun e => own_ne HO2.out HP2.out (by decide) (by rw [hg]; exact congrArg some e))))
  have c1 : V2.cell? ⟨p, 1, none⟩ = some wv := (cell_of_row V2 p 1 _ _ _ HP2.out).trans rfl
  have c2 : V2.cell? ⟨p, 2, none⟩ = some (.int .i64 S.writes) := (cell_of_row V2 p 2 _ _ _ HP2.out).trans rfl
  have c3 : V2.cell? ⟨p, 3, none⟩ = some (.int .i64 S.armed) := (cell_of_row V2 p 3 _ _ _ HP2.out).trans rfl
  have c4 : V2.cell? ⟨p, 4, none⟩ = some (.bool S.off) := (cell_of_row V2 p 4 _ _ _ HP2.out).trans rfl
  have f1 : V2.frozen? ⟨p, 1, none⟩ = false := frozen_of_row V2 p 1 _ _ HP2.out
  have f2 : V2.frozen? ⟨p, 2, none⟩ = false := frozen_of_row V2 p 2 _ _ HP2.out
  have f3 : V2.frozen? ⟨p, 3, none⟩ = false := frozen_of_row V2 p 3 _ _ HP2.out
  have f4 : V2.frozen? ⟨p, 4, none⟩ = false := frozen_of_row V2 p 4 _ _ HP2.out
  have P1 := hid (heap_setCell_same V2 p 1 _ 51 (.slice A' (S.wait.length + 1) c') HP2.out)
  have P2 := hid (heap_setCell_same _ p 2 _ 51 (.int .i64 (S.writes + 1)) P1.out)
  have T2 := hid (((Tch.refl (· = p) V2).setCell (g := p) (i := 1) rfl (.slice A' (S.wait.length + 1) c')).setCell (g := p) (i := 2) rfl (.int .i64 (S.writes + 1)))
  have P3 := hid (heap_setCell_same _ p 3 _ 51 (.int .i64 (S.armed - 1)) P2.out)
  have T3 := hid (T2.out.setCell (g := p) (i := 3) rfl (.int .i64 (S.armed - 1)))
  (apply wpOrd_pure; ((· first | (rw [List.getElem?_toArray, List.getElem?_cons_zero]; done) | (simp only [List.getElem?_toArray, List.getElem?_cons_succ, List.getElem?_cons_zero]; exact rfl))); (· exact rfl); intro K hK; apply Exists.intro; refine And.intro (fun X' => ?_) ?_; (· go_simp; (try go_bits); first | done | exact rfl | exact ⟨rfl, rfl⟩); go_simp; refine hK _ _ ?_; clear hK K)
  (apply wpOrd_pure; ((· first | (rw [List.getElem?_toArray, List.getElem?_cons_zero]; done) | (simp only [List.getElem?_toArray, List.getElem?_cons_succ, List.getElem?_cons_zero]; exact rfl))); (· exact rfl); intro K hK; apply Exists.intro; refine And.intro (fun X' => ?_) ?_; (· go_simp; (try go_bits); first | done | exact rfl | exact ⟨rfl, rfl⟩); go_simp; refine hK _ _ ?_; clear hK K)
  (apply wpOrd_comes; ((· first | (rw [List.getElem?_toArray, List.getElem?_cons_zero]; done) | (simp only [List.getElem?_toArray, List.getElem?_cons_succ, List.getElem?_cons_zero]; exact rfl))); intro N hN)
  go_wp2
  refine hN _ _ (fun h => by cases h) (wpOrd_done ?_)
  clear hN N
  by_cases h0 : S.armed = 0
  · have b0 : ¬ 0 < S.armed := by omega
    have HE := hid (DS.put_tick0 (n := n) (b := b) h0)
    clear h0 har0 har
    go_wp2
    go_ret
    rw [HE.out]
    exact ⟨rfl, FIN.out _ _ _ _ (P2.out.trans rfl) T2.out⟩
  · have b0 : 0 < S.armed := by omega
    by_cases h1 : 0 < S.armed - 1
    · have HE := hid (DS.put_tick1 (n := n) (b := b) h0 h1)
      have b1 : (S.armed - 1 == 0) = false := by rw [beq_eq_false_iff_ne]; omega
      clear h0
      go_wp2
      go_ret
      rw [HE.out]
      exact ⟨rfl, FIN.out _ _ _ _ (P3.out.trans rfl) T3.out⟩
    · have HE := hid (DS.put_tick2 (n := n) (b := b) h0 h1)
      have h2 : S.armed = 1 := by omega
      have E := hid (show S.armed - 1 = 0 by omega)
      have P3 := hid (heap_setCell_same _ p 3 _ 51 (.int .i64 0) P2.out)
      have T3 := hid (T2.out.setCell (g := p) (i := 3) rfl (.int .i64 0))
      have P4 := hid (heap_setCell_same _ p 4 _ 51 (.bool true) P3.out)
      have T4 := hid (T3.out.setCell (g := p) (i := 4) rfl (.bool true))
      rw [h2] at c3
      clear h0 h1 har0 har h2 b0
      go_wp2
      go_ret
      rw [HE.out, E.out]
      exact ⟨rfl, FIN.out _ _ _ _ (P4.out.trans rfl) T4.out⟩
set_option maxRecDepth 20000 in
set_option maxHeartbeats 400000 in
theorem rwrite_down {p : Nat} {F : Nat → Prop} {S : DS} {w : World} (h : RefIn w p F S) (hoff : S.off = true) (i : Int) (b : Bk) :
    Calls Try.prog 21 #[.pointer (some ⟨p, 0, none⟩), .int .i64 i, .agg (bv b)] w fun x w' => x = .returned (.int .i64 13) ∧ Below w.heap.size w w' := by
  obtain ⟨pl, wv, h⟩ := h
  have hp := lt_of_heap h.box
  have L4 : ∀ X, Below w.heap.size w X → X.cell? ⟨p, 4, none⟩ = some (.bool true) := fun X hb => (hb.cell (p := ⟨p, 4, none⟩) hp).trans ((cell_of_row w p 4 _ _ _ h.box).trans (by rw [hoff]; rfl))
  clear h hoff
  go_enter Try.func21, Try.ntmps21
  repeat (apply wp_seq_k; intro _ _)
  apply wp_region_lit
  refine wpList_box rfl 32 _ rfl (.agg (bv b)) rfl ?_
  intro gb V1 hG1 hgb hgeb hW
  clear hG1
  go_wp2
  go_ret
  exact ⟨rfl, hW⟩
set_option maxRecDepth 20000 in
set_option maxHeartbeats 400000 in
theorem rwrite_out {p : Nat} {F : Nat → Prop} {S : DS} {w : World} (h : RefIn w p F S) (hoff : S.off = false) (i : Int) (b : Bk) (hi : i < 0 ∨ (S.last.length : Int) ≤ i) :
    Calls Try.prog 21 #[.pointer (some ⟨p, 0, none⟩), .int .i64 i, .agg (bv b)] w fun x w' => x = .returned (.int .i64 1) ∧ Below w.heap.size w w' := by
  obtain ⟨pl, wv, h⟩ := h
  have hp := lt_of_heap h.box
  have L4 : ∀ X, Below w.heap.size w X → X.cell? ⟨p, 4, none⟩ = some (.bool false) := fun X hb => (hb.cell (p := ⟨p, 4, none⟩) hp).trans ((cell_of_row w p 4 _ _ _ h.box).trans (by rw [hoff]; rfl))
  have L0 : ∀ X, Below w.heap.size w X → X.cell? ⟨p, 0, none⟩ = some (.slice (some ⟨pl, 0, none⟩) S.last.length S.last.length) := fun X hb => (hb.cell (p := ⟨p, 0, none⟩) hp).trans ((cell_of_row w p 0 _ _ _ h.box).trans rfl)
  clear h hoff
  by_cases h1 : i < 0
  · clear hi
    go_enter Try.func21, Try.ntmps21
    repeat (apply wp_seq_k; intro _ _)
    apply wp_region_lit
    refine wpList_box rfl 32 _ rfl (.agg (bv b)) rfl ?_
    intro gb V1 hG1 hgb hgeb hW
    clear hG1
    go_wp2
    go_ret
    exact ⟨rfl, hW⟩
  · have h2 : (S.last.length : Int) ≤ i := by omega
    clear hi
    go_enter Try.func21, Try.ntmps21
    repeat (apply wp_seq_k; intro _ _)
    apply wp_region_lit
    refine wpList_box rfl 32 _ rfl (.agg (bv b)) rfl ?_
    intro gb V1 hG1 hgb hgeb hW
    clear hG1
    go_wp2
    go_ret
    exact ⟨rfl, hW⟩
/-- Where nothing is answered. -/
theorem at_why {S : DS} {i : Int} (hz : S.at_ i ≠ 0) : S.off = true ∧ S.at_ i = 13 ∨ S.off = false ∧ S.at_ i = 1 ∧ (i < 0 ∨ (S.now.length : Int) ≤ i) := by
  unfold DS.at_ at *
  cases ho : S.off
  · rw [ho] at hz
    simp only [Bool.false_eq_true, if_false] at hz ⊢
    have hi : i < 0 ∨ (S.now.length : Int) ≤ i := Decidable.byContradiction fun hc => hz (if_neg hc)
    exact .inr ⟨trivial, if_pos hi, hi⟩
  · exact .inl ⟨rfl, rfl⟩
theorem rwrite_any {p : Nat} {F : Nat → Prop} {S : DS} {w : World} {N : Nat} (h : RefIn w p F S) (hok : S.Ok N) (hN : N ≤ 1000000) (i : Int) {b : Bk} (hb : b.length = 128) :
    Calls Try.prog 21 #[.pointer (some ⟨p, 0, none⟩), .int .i64 i, .agg (bv b)] w fun x w' => x = .returned (.int .i64 (S.write i b).2) ∧ RefIn w' p (fun g => F g ∨ w.heap.size ≤ g) (S.write i b).1 ∧ Tch F w w' := by
  by_cases hz : S.at_ i = 0
  · obtain ⟨_, h0, _⟩ := DS.at_zero hz
    obtain ⟨n, rfl⟩ := Int.eq_ofNat_of_zero_le h0
    have e : S.write (n : Int) b = (S.put n b).tick := by unfold DS.write; rw [if_neg (by simpa using hz)]; simp
    rw [e]
    exact rwrite_in h hok hN hz hb
  · have e : S.write i b = (S, S.at_ i) := by unfold DS.write; rw [if_pos hz]
    rw [e]
    have fin : ∀ {x : Int}, (Calls Try.prog 21 #[.pointer (some ⟨p, 0, none⟩), .int .i64 i, .agg (bv b)] w fun y w' => y = .returned (.int .i64 x) ∧ Below w.heap.size w w') → S.at_ i = x →
        Calls Try.prog 21 #[.pointer (some ⟨p, 0, none⟩), .int .i64 i, .agg (bv b)] w fun y w' => y = .returned (.int .i64 (S.at_ i)) ∧ RefIn w' p (fun g => F g ∨ w.heap.size ≤ g) S ∧ Tch F w w' := fun hc hx =>
      hc.mono fun y w' hy => ⟨by rw [hx]; exact hy.1, (h.below hy.2).mono (fun g _ hf => .inl hf), Tch.of_below hy.2⟩
    rcases at_why hz with ⟨ho, he⟩ | ⟨ho, he, hi⟩
    · exact fin (rwrite_down h ho i b) he
    · exact fin (rwrite_out h ho i b (by rw [hok.len]; exact hi)) he
end Go.Proofs.Ythmchbdhikakhaa
/- What the settling asks: is write k kept? -/
namespace Go.Proofs.Ythmchbdhikakhaa
open Go.RowKit Go.Cu

set_option maxHeartbeats 400000 in
theorem sync1_ok (k : Int) (w : World) : Calls Try.prog 60 #[.int .i64 k] w fun e w' => e = .returned (.bool true) ∧ w = w' := by
  go_enter Try.func60, Try.ntmps60
  go_wp2
  go_ret
  exact ⟨rfl, rfl⟩

/-- What Crash is handed lies in memory: the box g holds the slice, whose cells are the words of keep. -/
structure KeepAt (W : World) (g : Nat) (keep : List Bool) (A : Option Addr) (c : Nat) : Prop where
  box : W.cell? ⟨g, 0, none⟩ = some (.slice A keep.length c)
  row : ∀ j b, keep[j]? = some b → ∃ q, A = some q ∧ W.cell? (q.add j) = some (.bool b)
  big : keep.length ≤ 9223372036854775807

theorem lastOf_snoc (kept : Nat → Bool) (p : Nat × Blk8) : ∀ (l : List (Nat × Blk8)) (k : Nat) (L : List Blk8), lastOf kept k (l ++ [p]) L = if kept (k + l.length) then (lastOf kept k l L).set p.1 p.2 else lastOf kept k l L
  | [], k, L => by simp [lastOf]
  | q :: l, k, L => by
    simp only [List.cons_append, lastOf, List.length_cons]
    rw [lastOf_snoc kept p l]
    simp only [Nat.add_assoc, Nat.add_comm 1]
theorem nowOf_snoc (last : List Blk8) (p : Nat × Blk8) : ∀ (l : List (Nat × Blk8)) (N : List Blk8), nowOf last (l ++ [p]) N = (nowOf last l N).set p.1 (last.getD p.1 zeroB)
  | [], N => by simp [nowOf]
  | q :: l, N => by simp only [List.cons_append, nowOf]; rw [nowOf_snoc last p l]
theorem take_snoc {α : Type} {l : List α} {i : Nat} {x : α} (h : l[i]? = some x) : l.take (i + 1) = l.take i ++ [x] := by
  rw [List.take_add_one, h]
  rfl
theorem lastOf_step (kept : Nat → Bool) {l : List (Nat × Blk8)} {i : Nat} {p : Nat × Blk8} (h : l[i]? = some p) (L : List Blk8) :
    lastOf kept 0 (l.take (i + 1)) L = if kept i then (lastOf kept 0 (l.take i) L).set p.1 p.2 else lastOf kept 0 (l.take i) L := by
  have hlt := (List.getElem?_eq_some_iff.1 h).1
  rw [take_snoc h, lastOf_snoc, List.length_take, Nat.zero_add, Nat.min_eq_left (by omega)]
theorem nowOf_step (last : List Blk8) {l : List (Nat × Blk8)} {i : Nat} {p : Nat × Blk8} (h : l[i]? = some p) (N : List Blk8) :
    nowOf last (l.take (i + 1)) N = (nowOf last (l.take i) N).set p.1 (last.getD p.1 zeroB) := by
  rw [take_snoc h, nowOf_snoc]

set_option maxHeartbeats 400000 in
theorem crash1_in {W : World} {g : Nat} {keep : List Bool} {A : Option Addr} {c : Nat} (h : KeepAt W g keep A c) {k : Nat} {b : Bool} (hk : keep[k]? = some b) :
    Calls Try.prog 61 #[.int .i64 k, .pointer (some ⟨g, 0, none⟩)] W fun e w' => e = .returned (.bool b) ∧ W = w' := by
  obtain ⟨q, rfl, hq⟩ := h.row k b hk
  have h0 := h.box
  have hbig := h.big
  have hlt : k < keep.length := (List.getElem?_eq_some_iff.1 hk).1
  clear h hk
  go_enter Try.func61, Try.ntmps61
  go_wp2
  go_ret
  exact ⟨rfl, rfl⟩
set_option maxHeartbeats 400000 in
theorem crash1_past {W : World} {g : Nat} {keep : List Bool} {A : Option Addr} {c : Nat} (h : KeepAt W g keep A c) {k : Nat} (hk : keep[k]? = none) :
    Calls Try.prog 61 #[.int .i64 k, .pointer (some ⟨g, 0, none⟩)] W fun e w' => e = .returned (.bool false) ∧ W = w' := by
  have h0 := h.box
  have hbig := h.big
  have hlt : ¬ k < keep.length := by simpa using hk
  clear h hk
  go_enter Try.func61, Try.ntmps61
  go_wp2
  go_ret
  exact ⟨rfl, rfl⟩
theorem crash1_ok {W : World} {g : Nat} {keep : List Bool} {A : Option Addr} {c : Nat} (h : KeepAt W g keep A c) {k : Nat} :
    Calls Try.prog 61 #[.int .i64 k, .pointer (some ⟨g, 0, none⟩)] W fun e w' => e = .returned (.bool (keep.getD k false)) ∧ W = w' := by
  rw [List.getD_eq_getElem?_getD]
  cases hk : keep[k]? with
  | none => exact crash1_past h hk
  | some b => exact crash1_in h hk
end Go.Proofs.Ythmchbdhikakhaa
/- The settling. -/
namespace Go.Proofs.Ythmchbdhikakhaa
open Go.RowKit Go.Cu
@[go_sem ↓] theorem ldk106 (a : Act) (dst : Option Tmp) (x : Operand) (ty : TypeId) (pos : String) (after : Array Edge) (guard : Option (Nat × Bool)) :
      execOp a.eval { dst, op := .load 106 x, type := ty, pos, after, guard } = loadK 106 (a.eval x) := rfl

set_option maxRecDepth 20000 in
set_option maxHeartbeats 1000000 in
theorem settle_sync {p : Nat} {F : Nat → Prop} {S : DS} {w : World} {N : Nat} (h : DiskIn w p F S) (hok : S.Ok N) (hN : N ≤ 1000000) :
    Calls Try.prog 59 #[.pointer (some ⟨p, 0, none⟩), .func (.func 60) #[] #[]] w fun x w' => x = .returned (.tuple #[]) ∧ DiskIn w' p F (S.settle fun _ => true) ∧ Tch F w w' := by
  obtain ⟨pn, pl, wv, hat⟩ := h
  obtain ⟨A, c, rfl⟩ := own_slice hat.wait
  have hbig := hok.big
  have hfew := hok.few
  have H := hid hat
  have HOK := hid hok
  have c2 : w.cell? ⟨p, 2, none⟩ = some (.slice A S.wait.length c) := (cell_of_row w p 2 _ _ _ hat.box).trans rfl
  clear hat hok
  go_enter Try.func59, Try.ntmps59
  go_wp2_with fail
  clear c2
  go_loopw [13, 4, 5] (fun i _ _ X => ∃ n : Nat, n ≤ S.wait.length ∧ i = .int .i64 n ∧ Hid (DiskAt X p F { S with last := lastOf (fun _ => true) 0 (S.wait.take n) S.last } pn pl (.slice A S.wait.length c)) ∧ Hid (Tch F w X)) (fun i _ _ _ => S.wait.length - (intOf i).toNat)
  case atStart => exact ⟨0, by omega, rfl, H, hid (Tch.refl _ _)⟩
  case round =>
    obtain ⟨n, hn, rfl, HX, HT⟩ := hrel
    by_cases hlt : n < S.wait.length
    · obtain ⟨q, hq⟩ : ∃ q, S.wait[n]? = some q := ⟨_, List.getElem?_eq_getElem hlt⟩
      obtain ⟨hq1, hq2⟩ := HOK.out.wait q (List.mem_of_getElem? hq)
      have HQ := hid hq
      have HS := hid (lastOf_step (fun _ => true) hq S.last)
      have HFW : FullW S.wait := fun q hq => (HOK.out.wait q hq).2
      have hw := HX.out.wait
      obtain ⟨_, hw2⟩ := hw
      rcases hw2 with ⟨_, h0⟩ | ⟨gw, cap, cur, hv, _, hgw, hcap, hmax, hcs, htk⟩
      · exact absurd h0 (by show S.wait.length ≠ 0; omega)
      obtain ⟨rfl, rfl⟩ : A = some ⟨gw, 0, none⟩ ∧ c = cap := by
        injection hv with e1 e2 e3
        exact ⟨e1, e3⟩
      have hgwl := lt_of_heap hgw
      have LW : ∀ Y, Below wr.heap.size wr Y → (loadK 106 (.pointer (some ⟨gw, n * 129, none⟩))).run Try.prog Y = .ok (.value (.agg (putL q).toArray)) Y := fun Y hb =>
        run_loadK ((hb.block gw hgwl).trans hgw) Try.underlying106 rfl size106 (putL_size hq2) (fun j hj => by
          have hj2 : j < 129 := by rw [putL_size hq2] at hj; exact hj
          have h3 := waitL_get HFW hq j hj2
          rw [← htk, List.getElem?_take] at h3
          have hlen : n * 129 + j < S.wait.length * 129 := by omega
          rw [if_pos hlen] at h3
          simpa using h3)
      have HSZ := hid (putL_size hq2)
      have HONE := hid (putL_one q)
      have HZ := hid (putL_size (p := (0, zeroB)) zeroB_len)
      clear HFW hv hgw htk hcs hq
      have hXX : Below wr.heap.size wr wr := Below.refl _ _
      have hl0 : (n : Int) < (S.wait.length : Int) := by omega
      go_wp2_with (first | (refine wpList_alloc 106 rfl rfl zeroPut zero106 ?_; intro g5 X1 hg5 hl5 hge5 hX1) | (refine wpList_store_box 106 _ _ rfl g5 rfl rfl (putL q).toArray rfl 129 size106 HSZ.out HONE.out 106 _ hg5 HZ.out ?_; intro X2 hR2 hT2 hs2) | (go_at_call 60; refine (sync1_ok _ _).mono ?_; rintro x w' ⟨rfl, rfl⟩))
      have hW2 := hX1.trans (hT2.below hX1.size (fun i hi => by subst hi; exact hge5))
      have HX2 := hid (HX.out.below hW2)
      have hT2w := hid (HT.out.trans (Tch.of_below (F := F) hW2) (fun _ h => h) (fun _ _ h => h))
      have hg5X := lt_of_heap hR2
      have hpX := lt_of_heap HX2.out.box
      have HR := hid hR2
      have hqi : (q.1 : Int) < (S.now.length : Int) := by omega
      have HB := hid hq2
      have HSB := hid ((bv_size q.2).trans hq2)
      have HQ1 := hid hq1
      clear LW hXX hT2 hs2 hX1 hg5 hl5 hge5 hR2 hW2 hq1 hq2
      have hX : Below X2.heap.size X2 X2 := Below.refl _ _
      have L5 : ∀ Y, Below X2.heap.size X2 Y → Y.cell? ⟨g5, 0, none⟩ = some (.int .i64 q.1) := fun Y hb => (hb.cell (p := ⟨g5, 0, none⟩) hg5X).trans ((cell_of_row X2 g5 0 _ _ _ HR.out).trans rfl)
      have L1 : ∀ Y, Below X2.heap.size X2 Y → Y.cell? ⟨p, 1, none⟩ = some (.slice (some ⟨pl, 0, none⟩) S.now.length S.now.length) := fun Y hb => (hb.cell (p := ⟨p, 1, none⟩) hpX).trans ((cell_of_row X2 p 1 _ _ _ HX2.out.box).trans rfl)
      have LB : ∀ Y, Below X2.heap.size X2 Y → (loadK 33 (.pointer (some ⟨g5, 1, none⟩))).run Try.prog Y = .ok (.value (.agg (bv q.2))) Y := fun Y hb => run_loadK ((hb.block _ hg5X).trans HR.out) Try.underlying33 rfl size33 HSB.out (fun j hj => by
        simp [putL, bvL, bv, Nat.add_comm 1 j])
      refine wp_region_class_tail 9 (fun X => Below X2.heap.size X2 X) (by kernel_rfl) (by kernel_rfl) (Below.drew hX) ?_
      clear hX
      simp only [List.take_succ_cons, List.take_zero, List.drop_succ_cons, List.drop_zero]
      repeat (refine wpQuiet_exK rfl (fun K hK => ?_); apply Exists.intro; refine And.intro (fun X hX => ?_) ?_; (· go_simp; (try go_bits); first | exact rfl | exact ⟨rfl, rfl⟩ | (rw [if_pos (by omega)]; exact ⟨rfl, rfl⟩)); go_simp; refine hK _ ?_; clear hK K)
      refine wpQuiet_nil (fun X hX => ?_)
      have hX0 := HX2.out.below hX
      clear LB L1 L5
      have hFL : Full (lastOf (fun _ => true) 0 (S.wait.take n) S.last) := lastOf_full _ _ _ _ (fun p hp => (HOK.out.wait p (List.mem_of_mem_take hp)).2) HOK.out.last
      have hLL : (lastOf (fun _ => true) 0 (S.wait.take n) S.last).length = S.now.length := (lastOf_len _ _ _ _).trans HOK.out.len
      refine wpList_store_part 33 _ _ rfl pl (q.1 * 128) rfl rfl (.agg (bv q.2)) rfl 128 size33 HSB.out (bv_one _) 33 _ hX0.last (by rw [flat_size hFL, hLL]; have := HQ1.out; omega) ?_
      intro V1 hL1 hT1 hs1
      have HV := hid (show DiskAt V1 p F { S with last := lastOf (fun _ => true) 0 (S.wait.take (n + 1)) S.last } pn pl (.slice (some ⟨gw, 0, none⟩) S.wait.length c) from by
        have e1 := (hT1.block p (lt_of_heap hX0.box) (heap_ne hX0.box hX0.last (by decide))).trans hX0.box
        have e2 := (hT1.block pn (lt_of_heap hX0.now) hX0.ne).trans hX0.now
        refine ⟨hX0.op, hX0.on, hX0.ol, hX0.ow, hX0.ne, e1, e2, ?_, own_keep hX0.wait fun g hg => hT1.block g (own_lt hX0.wait hg) (fun e => own_ne hX0.wait hX0.last (by decide) (by rw [hg]; exact congrArg some e))⟩
        rw [hL1]
        have e3 := HS.out
        rw [if_pos trivial] at e3
        refine congrArg (fun c => some (Obj.cells c 33 (0, 0))) ((flat_put hFL (by rw [hLL]; exact HQ1.out) HB.out).trans ?_)
        exact congrArg flat e3.symm)
      have HTV := hid (((hT2w.out.trans (Tch.of_below (F := F) hX) (fun _ h => h) (fun _ _ h => h))).trans hT1 (fun _ h => h) (fun i _ e => by subst e; exact hX0.ol))
      clear hX0 hX hT1 hs1 hL1 hFL hLL HX2 HR hT2w HX HT HS
      go_wp2
      go_roundw
      case rel => exact ⟨n + 1, by omega, by go_num, HV, HTV⟩
      case measure => simp [intOf]; omega
    · have e : n = S.wait.length := by omega
      subst e
      have hl0 : ¬ (S.wait.length : Int) < (S.wait.length : Int) := by omega
      obtain ⟨L, hL⟩ : ∃ L, L = lastOf (fun _ => true) 0 S.wait S.last := ⟨_, rfl⟩
      rw [List.take_length, ← hL] at HX
      have HLD := hid hL
      have hLL := hid (show L.length = S.now.length from by rw [hL]; exact (lastOf_len _ _ _ _).trans HOK.out.len)
      have hFL := hid (show Full L from by rw [hL]; exact lastOf_full _ _ _ _ (fun p hp => (HOK.out.wait p hp).2) HOK.out.last)
      clear hL
      have c2 : wr.cell? ⟨p, 2, none⟩ = some (.slice A S.wait.length c) := (cell_of_row wr p 2 _ _ _ HX.out.box).trans rfl
      go_wp2_with fail
      clear c2
      go_loopw [36, 7] (fun i _ X => ∃ n : Nat, n ≤ S.wait.length ∧ i = .int .i64 n ∧ Hid (DiskAt X p F { S with last := L, now := nowOf L (S.wait.take n) S.now } pn pl (.slice A S.wait.length c)) ∧ Hid (Tch F w X)) (fun i _ _ => S.wait.length - (intOf i).toNat)
      case atStart => exact ⟨0, by omega, rfl, HX, HT⟩
      case round =>
        clear HX HT
        obtain ⟨n, hn, rfl, HX, HT⟩ := hrel
        by_cases hlt : n < S.wait.length
        · obtain ⟨q, hq⟩ : ∃ q, S.wait[n]? = some q := ⟨_, List.getElem?_eq_getElem hlt⟩
          obtain ⟨hq1, hq2⟩ := HOK.out.wait q (List.mem_of_getElem? hq)
          have HQ := hid hq
          have HS := hid (nowOf_step L hq S.now)
          have HFW : FullW S.wait := fun q hq => (HOK.out.wait q hq).2
          have hw := HX.out.wait
          obtain ⟨_, hw2⟩ := hw
          rcases hw2 with ⟨_, h0⟩ | ⟨gw, cap, cur, hv, _, hgw, hcap, hmax, hcs, htk⟩
          · exact absurd h0 (by show S.wait.length ≠ 0; omega)
          obtain ⟨rfl, rfl⟩ : A = some ⟨gw, 0, none⟩ ∧ c = cap := by
            injection hv with e1 e2 e3
            exact ⟨e1, e3⟩
          have hgwl := lt_of_heap hgw
          have LW : ∀ Y, Below wr.heap.size wr Y → (loadK 106 (.pointer (some ⟨gw, n * 129, none⟩))).run Try.prog Y = .ok (.value (.agg (putL q).toArray)) Y := fun Y hb =>
            run_loadK ((hb.block gw hgwl).trans hgw) Try.underlying106 rfl size106 (putL_size hq2) (fun j hj => by
              have hj2 : j < 129 := by rw [putL_size hq2] at hj; exact hj
              have h3 := waitL_get HFW hq j hj2
              rw [← htk, List.getElem?_take] at h3
              have hlen : n * 129 + j < S.wait.length * 129 := by omega
              rw [if_pos hlen] at h3
              simpa using h3)
          have HSZ := hid (putL_size hq2)
          have HONE := hid (putL_one q)
          have HZ := hid (putL_size (p := (0, zeroB)) zeroB_len)
          clear HFW hv hgw htk hcs hq
          have hXX : Below wr.heap.size wr wr := Below.refl _ _
          have hl0 : (n : Int) < (S.wait.length : Int) := by omega
          go_wp2_with (first | (refine wpList_alloc 106 rfl rfl zeroPut zero106 ?_; intro g5 X1 hg5 hl5 hge5 hX1) | (refine wpList_store_box 106 _ _ rfl g5 rfl rfl (putL q).toArray rfl 129 size106 HSZ.out HONE.out 106 _ hg5 HZ.out ?_; intro X2 hR2 hT2 hs2))
          have hW2 := hX1.trans (hT2.below hX1.size (fun i hi => by subst hi; exact hge5))
          have HX2 := hid (HX.out.below hW2)
          have hT2w := hid (HT.out.trans (Tch.of_below (F := F) hW2) (fun _ h => h) (fun _ _ h => h))
          have hg5X := lt_of_heap hR2
          have hpX := lt_of_heap HX2.out.box
          have HR := hid hR2
          have hqi : (q.1 : Int) < (S.now.length : Int) := by omega
          have HB := hid hq2
          have HSB := hid ((bv_size q.2).trans hq2)
          have HQ1 := hid hq1
          clear LW hXX hT2 hs2 hX1 hg5 hl5 hge5 hR2 hW2 hq1 hq2
          have hX : Below X2.heap.size X2 X2 := Below.refl _ _
          have hNL : (nowOf L (S.wait.take n) S.now).length = S.now.length := nowOf_len _ _ _
          have hFN : Full (nowOf L (S.wait.take n) S.now) := nowOf_full _ hFL.out _ _ HOK.out.now
          have hbox : X2.heap[p]? = some (.cells #[.slice (some ⟨pn, 0, none⟩) S.now.length S.now.length, .slice (some ⟨pl, 0, none⟩) S.now.length S.now.length, .slice (some ⟨gw, 0, none⟩) S.wait.length c, .int .i64 S.writes, .int .i64 S.armed, .bool S.off] 104 (0, 0)) := by
            have e0 := HX2.out.box
            dsimp only at e0
            rw [hNL] at e0
            exact e0
          have HBX := hid hbox
          have HNL := hid hNL
          have HFN := hid hFN
          have hplX := lt_of_heap HX2.out.last
          have HGL := hid (show L[q.1]? = some (L.getD q.1 zeroB) by rw [List.getD_eq_getElem?_getD, List.getElem?_eq_getElem (by have := HQ1.out; have := hLL.out; omega)]; rfl)
          have HB' := hid (full_getD hFL.out q.1)
          have HSG := hid ((bv_size (L.getD q.1 zeroB)).trans HB'.out)
          clear hbox hNL hFN
          have L5 : ∀ Y, Below X2.heap.size X2 Y → Y.cell? ⟨g5, 0, none⟩ = some (.int .i64 q.1) := fun Y hb => (hb.cell (p := ⟨g5, 0, none⟩) hg5X).trans ((cell_of_row X2 g5 0 _ _ _ HR.out).trans rfl)
          have L0 : ∀ Y, Below X2.heap.size X2 Y → Y.cell? ⟨p, 0, none⟩ = some (.slice (some ⟨pn, 0, none⟩) S.now.length S.now.length) := fun Y hb => (hb.cell (p := ⟨p, 0, none⟩) hpX).trans ((cell_of_row X2 p 0 _ _ _ HBX.out).trans rfl)
          have L1 : ∀ Y, Below X2.heap.size X2 Y → Y.cell? ⟨p, 1, none⟩ = some (.slice (some ⟨pl, 0, none⟩) S.now.length S.now.length) := fun Y hb => (hb.cell (p := ⟨p, 1, none⟩) hpX).trans ((cell_of_row X2 p 1 _ _ _ HBX.out).trans rfl)
          have LB : ∀ Y, Below X2.heap.size X2 Y → (loadK 33 (.pointer (some ⟨pl, q.1 * 128, none⟩))).run Try.prog Y = .ok (.value (.agg (bv (L.getD q.1 zeroB)))) Y := fun Y hb => run_loadK ((hb.block _ hplX).trans HX2.out.last) Try.underlying33 rfl size33 HSG.out (flat_get hFL.out HGL.out)
          refine wp_region_class_tail 15 (fun X => Below X2.heap.size X2 X) (by kernel_rfl) (by kernel_rfl) (Below.drew hX) ?_
          clear hX
          simp only [List.take_succ_cons, List.take_zero, List.drop_succ_cons, List.drop_zero]
          repeat (refine wpQuiet_exK rfl (fun K hK => ?_); apply Exists.intro; refine And.intro (fun X hX => ?_) ?_; (· go_simp; (try go_bits); first | exact rfl | exact ⟨rfl, rfl⟩ | (rw [if_pos (by omega)]; exact ⟨rfl, rfl⟩)); go_simp; refine hK _ ?_; clear hK K)
          refine wpQuiet_nil (fun X hX => ?_)
          have hX0 := HX2.out.below hX
          clear LB L1 L5 L0
          refine wpList_store_part 33 _ _ rfl pn (q.1 * 128) rfl rfl (.agg (bv (L.getD q.1 zeroB))) rfl 128 size33 HSG.out (bv_one _) 33 _ hX0.now (by rw [flat_size HFN.out, HNL.out]; have := HQ1.out; omega) ?_
          intro V1 hN1 hT1 hs1
          have HV := hid (show DiskAt V1 p F { S with last := L, now := nowOf L (S.wait.take (n + 1)) S.now } pn pl (.slice (some ⟨gw, 0, none⟩) S.wait.length c) from by
            have e1 := (hT1.block p (lt_of_heap hX0.box) (heap_ne hX0.box hX0.now (by decide))).trans ((hX.block p hpX).trans HBX.out)
            have e2 := (hT1.block pl (lt_of_heap hX0.last) hX0.ne.symm).trans hX0.last
            refine ⟨hX0.op, hX0.on, hX0.ol, hX0.ow, hX0.ne, ?_, ?_, e2, own_keep hX0.wait fun g hg => hT1.block g (own_lt hX0.wait hg) (fun e => own_ne hX0.wait hX0.now (by decide) (by rw [hg]; exact congrArg some e))⟩
            · dsimp only
              rw [nowOf_len]
              exact e1
            · rw [hN1]
              exact congrArg (fun c => some (Obj.cells c 33 (0, 0))) ((flat_put HFN.out (by rw [HNL.out]; exact HQ1.out) HB'.out).trans (congrArg flat HS.out.symm)))
          have HTV := hid (((hT2w.out.trans (Tch.of_below (F := F) hX) (fun _ h => h) (fun _ _ h => h))).trans hT1 (fun _ h => h) (fun i _ e => by subst e; exact hX0.on))
          clear hX0 hX hT1 hs1 hN1 HX2 HR hT2w HX HT HS HBX HNL HFN HGL
          go_wp2
          go_roundw
          case rel => exact ⟨n + 1, by omega, by go_num, HV, HTV⟩
          case measure => simp [intOf]; omega
        · have e : n = S.wait.length := by omega
          subst e
          have hl0 : ¬ (S.wait.length : Int) < (S.wait.length : Int) := by omega
          rw [List.take_length] at HX
          have HDS := hid (show S.settle (fun _ => true) = { S with last := L, now := nowOf L S.wait S.now, wait := [] } by unfold DS.settle; rw [← HLD.out])
          have f2 : wr.frozen? ⟨p, 2, none⟩ = false := frozen_of_row wr p 2 _ _ HX.out.box
          have c2 : wr.cell? ⟨p, 2, none⟩ = some (.slice A S.wait.length c) := (cell_of_row wr p 2 _ _ _ HX.out.box).trans rfl
          have P2 := hid (heap_setCell_same wr p 2 _ 104 (.slice none 0 0) HX.out.box)
          have T2 := hid ((Tch.refl (· = p) wr).setCell (g := p) (i := 2) rfl (.slice none 0 0))
          go_wp2
          refine bodyPost_end (results_none rfl _ _ _) rfl ⟨rfl, ?_, ?_⟩
          · rw [HDS.out]
            have hpn := heap_ne HX.out.now HX.out.box (by decide)
            have hpl := heap_ne HX.out.last HX.out.box (by decide)
            refine ⟨pn, pl, .slice none 0 0, HX.out.op, HX.out.on, HX.out.ol, fun g hg => by simp [Value.ownBlock] at hg, HX.out.ne, ?_, (T2.out.block pn (lt_of_heap HX.out.now) hpn).trans HX.out.now, (T2.out.block pl (lt_of_heap HX.out.last) hpl).trans HX.out.last, rfl, .inl ⟨rfl, rfl⟩⟩
            exact P2.out.trans rfl
          · exact HT.out.trans T2.out (fun _ h => h) (fun i _ e => by subst e; exact HX.out.op)
end Go.Proofs.Ythmchbdhikakhaa
/- The settling behind a crash. -/
namespace Go.Proofs.Ythmchbdhikakhaa
open Go.RowKit Go.Cu
set_option maxRecDepth 20000 in
set_option maxHeartbeats 1000000 in
theorem settle_crash {p : Nat} {F : Nat → Prop} {S : DS} {w : World} {N : Nat} (h : DiskIn w p F S) (hok : S.Ok N) (hN : N ≤ 1000000) (gk : Nat) (kept : Nat → Bool) (hk : ∀ (k : Nat) (Y : World), k ≤ 1000000 → Tch F w Y → Calls Try.prog 61 #[.int .i64 k, .pointer (some ⟨gk, 0, none⟩)] Y fun e w' => e = .returned (.bool (kept k)) ∧ Y = w') :
    Calls Try.prog 59 #[.pointer (some ⟨p, 0, none⟩), .func (.func 61) #[] #[.pointer (some ⟨gk, 0, none⟩)]] w fun x w' => x = .returned (.tuple #[]) ∧ DiskIn w' p F (S.settle kept) ∧ Tch F w w' := by
  obtain ⟨pn, pl, wv, hat⟩ := h
  obtain ⟨A, c, rfl⟩ := own_slice hat.wait
  have hbig := hok.big
  have hfew := hok.few
  have H := hid hat
  have HOK := hid hok
  have HK := hid hk
  have c2 : w.cell? ⟨p, 2, none⟩ = some (.slice A S.wait.length c) := (cell_of_row w p 2 _ _ _ hat.box).trans rfl
  clear hat hok hk
  go_enter Try.func59, Try.ntmps59
  go_wp2_with fail
  clear c2
  go_loopw [13, 4, 5] (fun i _ _ X => ∃ n : Nat, n ≤ S.wait.length ∧ i = .int .i64 n ∧ Hid (DiskAt X p F { S with last := lastOf kept 0 (S.wait.take n) S.last } pn pl (.slice A S.wait.length c)) ∧ Hid (Tch F w X)) (fun i _ _ _ => S.wait.length - (intOf i).toNat)
  case atStart => exact ⟨0, by omega, rfl, H, hid (Tch.refl _ _)⟩
  case round =>
    obtain ⟨n, hn, rfl, HX, HT⟩ := hrel
    by_cases hlt : n < S.wait.length
    · obtain ⟨q, hq⟩ : ∃ q, S.wait[n]? = some q := ⟨_, List.getElem?_eq_getElem hlt⟩
      obtain ⟨hq1, hq2⟩ := HOK.out.wait q (List.mem_of_getElem? hq)
      have HQ := hid hq
      have HS := hid (lastOf_step kept hq S.last)
      have HFW : FullW S.wait := fun q hq => (HOK.out.wait q hq).2
      have hw := HX.out.wait
      obtain ⟨_, hw2⟩ := hw
      rcases hw2 with ⟨_, h0⟩ | ⟨gw, cap, cur, hv, _, hgw, hcap, hmax, hcs, htk⟩
      · exact absurd h0 (by show S.wait.length ≠ 0; omega)
      obtain ⟨rfl, rfl⟩ : A = some ⟨gw, 0, none⟩ ∧ c = cap := by
        injection hv with e1 e2 e3
        exact ⟨e1, e3⟩
      have hgwl := lt_of_heap hgw
      have LW : ∀ Y, Below wr.heap.size wr Y → (loadK 106 (.pointer (some ⟨gw, n * 129, none⟩))).run Try.prog Y = .ok (.value (.agg (putL q).toArray)) Y := fun Y hb =>
        run_loadK ((hb.block gw hgwl).trans hgw) Try.underlying106 rfl size106 (putL_size hq2) (fun j hj => by
          have hj2 : j < 129 := by rw [putL_size hq2] at hj; exact hj
          have h3 := waitL_get HFW hq j hj2
          rw [← htk, List.getElem?_take] at h3
          have hlen : n * 129 + j < S.wait.length * 129 := by omega
          rw [if_pos hlen] at h3
          simpa using h3)
      have HSZ := hid (putL_size hq2)
      have HONE := hid (putL_one q)
      have HZ := hid (putL_size (p := (0, zeroB)) zeroB_len)
      clear HFW hv hgw htk hcs hq
      have hXX : Below wr.heap.size wr wr := Below.refl _ _
      have hl0 : (n : Int) < (S.wait.length : Int) := by omega
      have HC := hid fun (Y : World) (hb : Below wr.heap.size wr Y) => HK.out n Y (by omega) (HT.out.trans (Tch.of_below (F := F) hb) (fun _ h => h) (fun _ _ h => h))
      cases hkn : kept n
      · rw [hkn] at HS HC
        clear hkn
        go_wp2_with (first | (refine wpList_alloc 106 rfl rfl zeroPut zero106 ?_; intro g5 X1 hg5 hl5 hge5 hX1) | (refine wpList_store_box 106 _ _ rfl g5 rfl rfl (putL q).toArray rfl 129 size106 HSZ.out HONE.out 106 _ hg5 HZ.out ?_; intro X2 hR2 hT2 hs2) | (go_at_call 61; refine (HC.out _ (hX1.trans (hT2.below hX1.size (fun i hi => by subst hi; exact hge5)))).mono ?_; rintro x w' ⟨rfl, rfl⟩))
        have hW2 := hX1.trans (hT2.below hX1.size (fun i hi => by subst hi; exact hge5))
        have HX2 := hid (HX.out.below hW2)
        have hT2w := hid (HT.out.trans (Tch.of_below (F := F) hW2) (fun _ h => h) (fun _ _ h => h))
        have e3 := HS.out
        rw [if_neg (by decide)] at e3
        rw [← e3] at HX2
        clear e3 LW hXX hT2 hs2 hX1 hg5 hl5 hge5 hR2 hW2 hq1 hq2 HX HT HS HC
        go_wp2
        go_roundw
        case rel => exact ⟨n + 1, by omega, by go_num, HX2, hT2w⟩
        case measure => simp [intOf]; omega
      · rw [hkn] at HS HC
        clear hkn
        go_wp2_with (first | (refine wpList_alloc 106 rfl rfl zeroPut zero106 ?_; intro g5 X1 hg5 hl5 hge5 hX1) | (refine wpList_store_box 106 _ _ rfl g5 rfl rfl (putL q).toArray rfl 129 size106 HSZ.out HONE.out 106 _ hg5 HZ.out ?_; intro X2 hR2 hT2 hs2) | (go_at_call 61; refine (HC.out _ (hX1.trans (hT2.below hX1.size (fun i hi => by subst hi; exact hge5)))).mono ?_; rintro x w' ⟨rfl, rfl⟩))
        have hW2 := hX1.trans (hT2.below hX1.size (fun i hi => by subst hi; exact hge5))
        have HX2 := hid (HX.out.below hW2)
        have hT2w := hid (HT.out.trans (Tch.of_below (F := F) hW2) (fun _ h => h) (fun _ _ h => h))
        have hg5X := lt_of_heap hR2
        have hpX := lt_of_heap HX2.out.box
        have HR := hid hR2
        have hqi : (q.1 : Int) < (S.now.length : Int) := by omega
        have HB := hid hq2
        have HSB := hid ((bv_size q.2).trans hq2)
        have HQ1 := hid hq1
        clear LW hXX hT2 hs2 hX1 hg5 hl5 hge5 hR2 hW2 hq1 hq2
        have hX : Below X2.heap.size X2 X2 := Below.refl _ _
        have L5 : ∀ Y, Below X2.heap.size X2 Y → Y.cell? ⟨g5, 0, none⟩ = some (.int .i64 q.1) := fun Y hb => (hb.cell (p := ⟨g5, 0, none⟩) hg5X).trans ((cell_of_row X2 g5 0 _ _ _ HR.out).trans rfl)
        have L1 : ∀ Y, Below X2.heap.size X2 Y → Y.cell? ⟨p, 1, none⟩ = some (.slice (some ⟨pl, 0, none⟩) S.now.length S.now.length) := fun Y hb => (hb.cell (p := ⟨p, 1, none⟩) hpX).trans ((cell_of_row X2 p 1 _ _ _ HX2.out.box).trans rfl)
        have LB : ∀ Y, Below X2.heap.size X2 Y → (loadK 33 (.pointer (some ⟨g5, 1, none⟩))).run Try.prog Y = .ok (.value (.agg (bv q.2))) Y := fun Y hb => run_loadK ((hb.block _ hg5X).trans HR.out) Try.underlying33 rfl size33 HSB.out (fun j hj => by
          simp [putL, bvL, bv, Nat.add_comm 1 j])
        refine wp_region_class_tail 9 (fun X => Below X2.heap.size X2 X) (by kernel_rfl) (by kernel_rfl) (Below.drew hX) ?_
        clear hX
        simp only [List.take_succ_cons, List.take_zero, List.drop_succ_cons, List.drop_zero]
        repeat (refine wpQuiet_exK rfl (fun K hK => ?_); apply Exists.intro; refine And.intro (fun X hX => ?_) ?_; (· go_simp; (try go_bits); first | exact rfl | exact ⟨rfl, rfl⟩ | (rw [if_pos (by omega)]; exact ⟨rfl, rfl⟩)); go_simp; refine hK _ ?_; clear hK K)
        refine wpQuiet_nil (fun X hX => ?_)
        have hX0 := HX2.out.below hX
        clear LB L1 L5
        have hFL : Full (lastOf kept 0 (S.wait.take n) S.last) := lastOf_full _ _ _ _ (fun p hp => (HOK.out.wait p (List.mem_of_mem_take hp)).2) HOK.out.last
        have hLL : (lastOf kept 0 (S.wait.take n) S.last).length = S.now.length := (lastOf_len _ _ _ _).trans HOK.out.len
        refine wpList_store_part 33 _ _ rfl pl (q.1 * 128) rfl rfl (.agg (bv q.2)) rfl 128 size33 HSB.out (bv_one _) 33 _ hX0.last (by rw [flat_size hFL, hLL]; have := HQ1.out; omega) ?_
        intro V1 hL1 hT1 hs1
        have HV := hid (show DiskAt V1 p F { S with last := lastOf kept 0 (S.wait.take (n + 1)) S.last } pn pl (.slice (some ⟨gw, 0, none⟩) S.wait.length c) from by
          have e1 := (hT1.block p (lt_of_heap hX0.box) (heap_ne hX0.box hX0.last (by decide))).trans hX0.box
          have e2 := (hT1.block pn (lt_of_heap hX0.now) hX0.ne).trans hX0.now
          refine ⟨hX0.op, hX0.on, hX0.ol, hX0.ow, hX0.ne, e1, e2, ?_, own_keep hX0.wait fun g hg => hT1.block g (own_lt hX0.wait hg) (fun e => own_ne hX0.wait hX0.last (by decide) (by rw [hg]; exact congrArg some e))⟩
          rw [hL1]
          have e3 := HS.out
          rw [if_pos trivial] at e3
          refine congrArg (fun c => some (Obj.cells c 33 (0, 0))) ((flat_put hFL (by rw [hLL]; exact HQ1.out) HB.out).trans ?_)
          exact congrArg flat e3.symm)
        have HTV := hid (((hT2w.out.trans (Tch.of_below (F := F) hX) (fun _ h => h) (fun _ _ h => h))).trans hT1 (fun _ h => h) (fun i _ e => by subst e; exact hX0.ol))
        clear hX0 hX hT1 hs1 hL1 hFL hLL HX2 HR hT2w HX HT HS
        go_wp2
        go_roundw
        case rel => exact ⟨n + 1, by omega, by go_num, HV, HTV⟩
        case measure => simp [intOf]; omega
    · have e : n = S.wait.length := by omega
      subst e
      have hl0 : ¬ (S.wait.length : Int) < (S.wait.length : Int) := by omega
      obtain ⟨L, hL⟩ : ∃ L, L = lastOf kept 0 S.wait S.last := ⟨_, rfl⟩
      rw [List.take_length, ← hL] at HX
      have HLD := hid hL
      have hLL := hid (show L.length = S.now.length from by rw [hL]; exact (lastOf_len _ _ _ _).trans HOK.out.len)
      have hFL := hid (show Full L from by rw [hL]; exact lastOf_full _ _ _ _ (fun p hp => (HOK.out.wait p hp).2) HOK.out.last)
      clear hL
      have c2 : wr.cell? ⟨p, 2, none⟩ = some (.slice A S.wait.length c) := (cell_of_row wr p 2 _ _ _ HX.out.box).trans rfl
      go_wp2_with fail
      clear c2
      go_loopw [36, 7] (fun i _ X => ∃ n : Nat, n ≤ S.wait.length ∧ i = .int .i64 n ∧ Hid (DiskAt X p F { S with last := L, now := nowOf L (S.wait.take n) S.now } pn pl (.slice A S.wait.length c)) ∧ Hid (Tch F w X)) (fun i _ _ => S.wait.length - (intOf i).toNat)
      case atStart => exact ⟨0, by omega, rfl, HX, HT⟩
      case round =>
        clear HX HT
        obtain ⟨n, hn, rfl, HX, HT⟩ := hrel
        by_cases hlt : n < S.wait.length
        · obtain ⟨q, hq⟩ : ∃ q, S.wait[n]? = some q := ⟨_, List.getElem?_eq_getElem hlt⟩
          obtain ⟨hq1, hq2⟩ := HOK.out.wait q (List.mem_of_getElem? hq)
          have HQ := hid hq
          have HS := hid (nowOf_step L hq S.now)
          have HFW : FullW S.wait := fun q hq => (HOK.out.wait q hq).2
          have hw := HX.out.wait
          obtain ⟨_, hw2⟩ := hw
          rcases hw2 with ⟨_, h0⟩ | ⟨gw, cap, cur, hv, _, hgw, hcap, hmax, hcs, htk⟩
          · exact absurd h0 (by show S.wait.length ≠ 0; omega)
          obtain ⟨rfl, rfl⟩ : A = some ⟨gw, 0, none⟩ ∧ c = cap := by
            injection hv with e1 e2 e3
            exact ⟨e1, e3⟩
          have hgwl := lt_of_heap hgw
          have LW : ∀ Y, Below wr.heap.size wr Y → (loadK 106 (.pointer (some ⟨gw, n * 129, none⟩))).run Try.prog Y = .ok (.value (.agg (putL q).toArray)) Y := fun Y hb =>
            run_loadK ((hb.block gw hgwl).trans hgw) Try.underlying106 rfl size106 (putL_size hq2) (fun j hj => by
              have hj2 : j < 129 := by rw [putL_size hq2] at hj; exact hj
              have h3 := waitL_get HFW hq j hj2
              rw [← htk, List.getElem?_take] at h3
              have hlen : n * 129 + j < S.wait.length * 129 := by omega
              rw [if_pos hlen] at h3
              simpa using h3)
          have HSZ := hid (putL_size hq2)
          have HONE := hid (putL_one q)
          have HZ := hid (putL_size (p := (0, zeroB)) zeroB_len)
          clear HFW hv hgw htk hcs hq
          have hXX : Below wr.heap.size wr wr := Below.refl _ _
          have hl0 : (n : Int) < (S.wait.length : Int) := by omega
          go_wp2_with (first | (refine wpList_alloc 106 rfl rfl zeroPut zero106 ?_; intro g5 X1 hg5 hl5 hge5 hX1) | (refine wpList_store_box 106 _ _ rfl g5 rfl rfl (putL q).toArray rfl 129 size106 HSZ.out HONE.out 106 _ hg5 HZ.out ?_; intro X2 hR2 hT2 hs2))
          have hW2 := hX1.trans (hT2.below hX1.size (fun i hi => by subst hi; exact hge5))
          have HX2 := hid (HX.out.below hW2)
          have hT2w := hid (HT.out.trans (Tch.of_below (F := F) hW2) (fun _ h => h) (fun _ _ h => h))
          have hg5X := lt_of_heap hR2
          have hpX := lt_of_heap HX2.out.box
          have HR := hid hR2
          have hqi : (q.1 : Int) < (S.now.length : Int) := by omega
          have HB := hid hq2
          have HSB := hid ((bv_size q.2).trans hq2)
          have HQ1 := hid hq1
          clear LW hXX hT2 hs2 hX1 hg5 hl5 hge5 hR2 hW2 hq1 hq2
          have hX : Below X2.heap.size X2 X2 := Below.refl _ _
          have hNL : (nowOf L (S.wait.take n) S.now).length = S.now.length := nowOf_len _ _ _
          have hFN : Full (nowOf L (S.wait.take n) S.now) := nowOf_full _ hFL.out _ _ HOK.out.now
          have hbox : X2.heap[p]? = some (.cells #[.slice (some ⟨pn, 0, none⟩) S.now.length S.now.length, .slice (some ⟨pl, 0, none⟩) S.now.length S.now.length, .slice (some ⟨gw, 0, none⟩) S.wait.length c, .int .i64 S.writes, .int .i64 S.armed, .bool S.off] 104 (0, 0)) := by
            have e0 := HX2.out.box
            dsimp only at e0
            rw [hNL] at e0
            exact e0
          have HBX := hid hbox
          have HNL := hid hNL
          have HFN := hid hFN
          have hplX := lt_of_heap HX2.out.last
          have HGL := hid (show L[q.1]? = some (L.getD q.1 zeroB) by rw [List.getD_eq_getElem?_getD, List.getElem?_eq_getElem (by have := HQ1.out; have := hLL.out; omega)]; rfl)
          have HB' := hid (full_getD hFL.out q.1)
          have HSG := hid ((bv_size (L.getD q.1 zeroB)).trans HB'.out)
          clear hbox hNL hFN
          have L5 : ∀ Y, Below X2.heap.size X2 Y → Y.cell? ⟨g5, 0, none⟩ = some (.int .i64 q.1) := fun Y hb => (hb.cell (p := ⟨g5, 0, none⟩) hg5X).trans ((cell_of_row X2 g5 0 _ _ _ HR.out).trans rfl)
          have L0 : ∀ Y, Below X2.heap.size X2 Y → Y.cell? ⟨p, 0, none⟩ = some (.slice (some ⟨pn, 0, none⟩) S.now.length S.now.length) := fun Y hb => (hb.cell (p := ⟨p, 0, none⟩) hpX).trans ((cell_of_row X2 p 0 _ _ _ HBX.out).trans rfl)
          have L1 : ∀ Y, Below X2.heap.size X2 Y → Y.cell? ⟨p, 1, none⟩ = some (.slice (some ⟨pl, 0, none⟩) S.now.length S.now.length) := fun Y hb => (hb.cell (p := ⟨p, 1, none⟩) hpX).trans ((cell_of_row X2 p 1 _ _ _ HBX.out).trans rfl)
          have LB : ∀ Y, Below X2.heap.size X2 Y → (loadK 33 (.pointer (some ⟨pl, q.1 * 128, none⟩))).run Try.prog Y = .ok (.value (.agg (bv (L.getD q.1 zeroB)))) Y := fun Y hb => run_loadK ((hb.block _ hplX).trans HX2.out.last) Try.underlying33 rfl size33 HSG.out (flat_get hFL.out HGL.out)
          refine wp_region_class_tail 15 (fun X => Below X2.heap.size X2 X) (by kernel_rfl) (by kernel_rfl) (Below.drew hX) ?_
          clear hX
          simp only [List.take_succ_cons, List.take_zero, List.drop_succ_cons, List.drop_zero]
          repeat (refine wpQuiet_exK rfl (fun K hK => ?_); apply Exists.intro; refine And.intro (fun X hX => ?_) ?_; (· go_simp; (try go_bits); first | exact rfl | exact ⟨rfl, rfl⟩ | (rw [if_pos (by omega)]; exact ⟨rfl, rfl⟩)); go_simp; refine hK _ ?_; clear hK K)
          refine wpQuiet_nil (fun X hX => ?_)
          have hX0 := HX2.out.below hX
          clear LB L1 L5 L0
          refine wpList_store_part 33 _ _ rfl pn (q.1 * 128) rfl rfl (.agg (bv (L.getD q.1 zeroB))) rfl 128 size33 HSG.out (bv_one _) 33 _ hX0.now (by rw [flat_size HFN.out, HNL.out]; have := HQ1.out; omega) ?_
          intro V1 hN1 hT1 hs1
          have HV := hid (show DiskAt V1 p F { S with last := L, now := nowOf L (S.wait.take (n + 1)) S.now } pn pl (.slice (some ⟨gw, 0, none⟩) S.wait.length c) from by
            have e1 := (hT1.block p (lt_of_heap hX0.box) (heap_ne hX0.box hX0.now (by decide))).trans ((hX.block p hpX).trans HBX.out)
            have e2 := (hT1.block pl (lt_of_heap hX0.last) hX0.ne.symm).trans hX0.last
            refine ⟨hX0.op, hX0.on, hX0.ol, hX0.ow, hX0.ne, ?_, ?_, e2, own_keep hX0.wait fun g hg => hT1.block g (own_lt hX0.wait hg) (fun e => own_ne hX0.wait hX0.now (by decide) (by rw [hg]; exact congrArg some e))⟩
            · dsimp only
              rw [nowOf_len]
              exact e1
            · rw [hN1]
              exact congrArg (fun c => some (Obj.cells c 33 (0, 0))) ((flat_put HFN.out (by rw [HNL.out]; exact HQ1.out) HB'.out).trans (congrArg flat HS.out.symm)))
          have HTV := hid (((hT2w.out.trans (Tch.of_below (F := F) hX) (fun _ h => h) (fun _ _ h => h))).trans hT1 (fun _ h => h) (fun i _ e => by subst e; exact hX0.on))
          clear hX0 hX hT1 hs1 hN1 HX2 HR hT2w HX HT HS HBX HNL HFN HGL
          go_wp2
          go_roundw
          case rel => exact ⟨n + 1, by omega, by go_num, HV, HTV⟩
          case measure => simp [intOf]; omega
        · have e : n = S.wait.length := by omega
          subst e
          have hl0 : ¬ (S.wait.length : Int) < (S.wait.length : Int) := by omega
          rw [List.take_length] at HX
          have HDS := hid (show S.settle kept = { S with last := L, now := nowOf L S.wait S.now, wait := [] } by unfold DS.settle; rw [← HLD.out])
          have f2 : wr.frozen? ⟨p, 2, none⟩ = false := frozen_of_row wr p 2 _ _ HX.out.box
          have c2 : wr.cell? ⟨p, 2, none⟩ = some (.slice A S.wait.length c) := (cell_of_row wr p 2 _ _ _ HX.out.box).trans rfl
          have P2 := hid (heap_setCell_same wr p 2 _ 104 (.slice none 0 0) HX.out.box)
          have T2 := hid ((Tch.refl (· = p) wr).setCell (g := p) (i := 2) rfl (.slice none 0 0))
          go_wp2
          refine bodyPost_end (results_none rfl _ _ _) rfl ⟨rfl, ?_, ?_⟩
          · rw [HDS.out]
            have hpn := heap_ne HX.out.now HX.out.box (by decide)
            have hpl := heap_ne HX.out.last HX.out.box (by decide)
            refine ⟨pn, pl, .slice none 0 0, HX.out.op, HX.out.on, HX.out.ol, fun g hg => by simp [Value.ownBlock] at hg, HX.out.ne, ?_, (T2.out.block pn (lt_of_heap HX.out.now) hpn).trans HX.out.now, (T2.out.block pl (lt_of_heap HX.out.last) hpl).trans HX.out.last, rfl, .inl ⟨rfl, rfl⟩⟩
            exact P2.out.trans rfl
          · exact HT.out.trans T2.out (fun _ h => h) (fun i _ e => by subst e; exact HX.out.op)
end Go.Proofs.Ythmchbdhikakhaa
/- Crash. -/
namespace Go.Proofs.Ythmchbdhikakhaa
open Go.RowKit Go.Cu

theorem cell_same {W W' : World} {q : Addr} (h : W'.heap[q.block]? = W.heap[q.block]?) : W'.cell? q = W.cell? q := by
  unfold World.cell?
  rw [h]
theorem tch_cell {F : Nat → Prop} {W W' : World} (h : Tch F W W') {q : Addr} (hq : q.block < W.heap.size) (hn : ¬ F q.block) : W'.cell? q = W.cell? q := cell_same (h.block _ hq hn)
set_option maxHeartbeats 400000 in
theorem crash_nil {v : Value} (w : World) : Calls Try.prog 17 #[.pointer none, v] w fun e w' => e = .returned (.tuple #[]) ∧ Below w.heap.size w w' := by
  go_enter Try.func17, Try.ntmps17
  repeat (apply wp_seq_k; intro _ _)
  apply wp_region_lit
  refine wpList_box rfl 24 _ rfl v rfl ?_
  intro gb W0 hG hgb hgeb hW
  go_wp2
  refine bodyPost_ret (results_none rfl _ _ _) rfl ⟨rfl, hW⟩
set_option maxRecDepth 20000 in
set_option maxHeartbeats 400000 in
theorem crash_any {p : Nat} {F : Nat → Prop} {S : DS} {w : World} {N : Nat} (h : DiskIn w p F S) (hok : S.Ok N) (hN : N ≤ 1000000) {keep : List Bool} {A : Option Addr} {c : Nat} (hk : keep.length ≤ 9223372036854775807)
    (hrow : ∀ j b, keep[j]? = some b → ∃ q, A = some q ∧ (q.add j).block < w.heap.size ∧ ¬ F (q.add j).block ∧ w.cell? (q.add j) = some (.bool b)) :
    Calls Try.prog 17 #[.pointer (some ⟨p, 0, none⟩), .slice A keep.length c] w fun x w' => x = .returned (.tuple #[]) ∧ DiskIn w' p F (S.crash keep) ∧ Tch F w w' := by
  have HD := hid (h.mono (G := fun g => F g ∧ g < w.heap.size) (fun g hg hf => ⟨hf, hg⟩))
  have HR := hid hrow
  have HOK := hid hok
  clear h hrow hok
  go_enter Try.func17, Try.ntmps17
  repeat (apply wp_seq_k; intro _ _)
  apply wp_region_lit
  refine wpList_box rfl 24 _ rfl (.slice A keep.length c) rfl ?_
  intro gb W0 hG hgb hgeb hW
  have HK := hid fun (k : Nat) (Y : World) (_ : k ≤ 1000000) (ht : Tch (fun g => F g ∧ g < w.heap.size) W0 Y) => crash1_ok (W := Y) (g := gb) (keep := keep) (A := A) (c := c) (k := k) ⟨by
      rw [tch_cell ht (q := ⟨gb, 0, none⟩) hgb (fun hf => by have h2 : gb < w.heap.size := hf.2; omega)]
      exact (cell_of_row W0 gb 0 _ _ _ hG).trans rfl, fun j b hj => by
      obtain ⟨q, hq, hl, hn, hc⟩ := HR.out j b hj
      refine ⟨q, hq, ?_⟩
      rw [tch_cell ht (Nat.lt_of_lt_of_le hl hW.size) (fun hf => hn hf.1), hW.cell hl]
      exact hc, hk⟩
  have HS := hid (settle_crash (HD.out.below hW) HOK.out hN gb (fun k => keep.getD k false) HK.out)
  have HW := hid hW
  clear HK HR hG
  go_wp2_with (go_at_call 59; refine HS.out.mono ?_; rintro e w1 ⟨rfl, ⟨pn, pl, wv, hat⟩, ht⟩; have f5 := frozen_of_row w1 p 5 _ _ hat.box; have f4 := frozen_of_row w1 p 4 _ _ hat.box; have c5 := (cell_of_row w1 p 5 _ _ _ hat.box).trans rfl; have c4 := (cell_of_row w1 p 4 _ _ _ hat.box).trans rfl; have HA := hid hat; have HT := hid ht; clear hat ht)
  have P5 := hid (heap_setCell_same w1 p 5 _ 104 (.bool false) HA.out.box)
  have T5 := hid ((Tch.refl (· = p) w1).setCell (g := p) (i := 5) rfl (.bool false))
  have P4 := hid (heap_setCell_same _ p 4 _ 104 (.int .i64 0) P5.out)
  have T4 := hid (T5.out.setCell (g := p) (i := 4) rfl (.int .i64 0))
  refine bodyPost_end (results_none rfl _ _ _) rfl ⟨rfl, ?_, ?_⟩
  · have hpn := heap_ne HA.out.now HA.out.box (by decide)
    have hpl := heap_ne HA.out.last HA.out.box (by decide)
    refine ⟨pn, pl, wv, HA.out.op.1, HA.out.on.1, HA.out.ol.1, fun g hg => (HA.out.ow g hg).1, HA.out.ne, P4.out.trans rfl, (T4.out.block pn (lt_of_heap HA.out.now) hpn).trans HA.out.now, (T4.out.block pl (lt_of_heap HA.out.last) hpl).trans HA.out.last, ?_⟩
    exact own_keep HA.out.wait (fun g hg => T4.out.block g (own_lt HA.out.wait hg) (fun e => own_ne HA.out.wait HA.out.box (by decide) (by rw [hg]; exact congrArg some e)))
  · exact (((Tch.of_below (F := F) HW.out).trans HT.out (fun _ h => h) (fun _ _ h => h.1))).trans T4.out (fun _ h => h) (fun i _ e => by subst e; exact HA.out.op.1)
end Go.Proofs.Ythmchbdhikakhaa
/- Write where nothing is answered; a new disk. -/
namespace Go.Proofs.Ythmchbdhikakhaa
open Go.RowKit Go.Cu
set_option maxRecDepth 20000 in
set_option maxHeartbeats 400000 in
theorem write_bad {v : Value} {e : Int} {w : World} {i : Int} {b : Bk} (he : e ≠ 0) (ha : Hid (∀ w', Below w.heap.size w w' → Calls Try.prog 57 #[v, .int .i64 i] w' fun x w'' => x = .returned (.int .i64 e) ∧ w' = w'')) :
    Calls Try.prog 15 #[v, .int .i64 i, .agg (bv b)] w fun x w' => x = .returned (.int .i64 e) ∧ Below w.heap.size w w' := by
  have hne : (e != 0) = true := by simpa using he
  clear he
  go_enter Try.func15, Try.ntmps15
  repeat (apply wp_seq_k; intro _ _)
  apply wp_region_lit
  refine wpList_box rfl 33 _ rfl (.agg (bv b)) rfl ?_
  intro gb V0 hG hgb hgeb hW
  clear hG
  go_wp2_with (go_at_call 57; refine (ha.out _ hW).mono ?_; rintro x w' ⟨rfl, rfl⟩)
  go_ret
  exact ⟨rfl, hW⟩
set_option maxHeartbeats 400000 in
theorem new_bad {n : Int} (w : World) (hn : n < 1 ∨ 8192 < n) : Calls Try.prog 13 #[.int .i64 n] w fun x w' => x = .returned (.tuple #[.pointer none, .int .i64 1]) ∧ w = w' := by
  by_cases h1 : n < 1
  · clear hn
    go_enter Try.func13, Try.ntmps13
    go_wp2
    go_ret2
    exact ⟨rfl, rfl⟩
  · have h2 : 8192 < n := by omega
    clear hn
    go_enter Try.func13, Try.ntmps13
    go_wp2
    go_ret2
    exact ⟨rfl, rfl⟩
end Go.Proofs.Ythmchbdhikakhaa
/- A new disk. -/
namespace Go.Proofs.Ythmchbdhikakhaa
open Go.RowKit Go.Cu
set_option maxRecDepth 20000 in
theorem info33 : (Try.prog.info? 33).map (fun i => (i.zero, i.size, i.bytes)) = some (some (.agg (bv zeroB)), 128, 128) := by kernel_rfl
theorem full_zero (n : Nat) : Full (List.replicate n zeroB) := fun b hb => by rw [List.eq_of_mem_replicate hb]; exact zeroB_len
theorem made_flat (n : Nat) : madeCells (bv zeroB) (n * 128) = flat (List.replicate n zeroB) := by
  apply Array.ext
  · rw [size_madeCells, flat_size (full_zero n), List.length_replicate]
  · intro j h1 h2
    rw [size_madeCells] at h1
    have hj : j % 128 < 128 := Nat.mod_lt _ (by decide)
    have hi : j / 128 < n := by omega
    have h3 := flat_get (full_zero n) (i := j / 128) (b := zeroB) (by rw [List.getElem?_replicate, if_pos hi]) (j % 128) (by rw [bv_size, zeroB_len]; exact hj)
    rw [show j / 128 * 128 + j % 128 = j by omega, Array.getElem?_eq_getElem h2] at h3
    have h4 : (bv zeroB)[j % 128]? = some (bv zeroB)[j % 128]! := by
      rw [getElem!_def, Array.getElem?_eq_getElem (by rw [bv_size, zeroB_len]; exact hj)]
    rw [h4] at h3
    have h5 : (madeCells (bv zeroB) (n * 128))[j] = (bv zeroB)[j % (bv zeroB).size]! := by simp [madeCells]
    rw [h5, bv_size, zeroB_len]
    exact (Option.some.inj h3).symm
theorem make101 (n : Nat) (hn : n ≤ 8192) (W : World) : (Instr.makeSlice 101 (.int .i64 n) (.int .i64 n)).run Try.prog W = .ok (.slice (some ⟨W.heap.size, 0, none⟩) n n) (W.alloc (.cells (flat (List.replicate n zeroB)) 33)) := by
  obtain ⟨i0, hi, hiz, his, hib⟩ := info_parts info33
  have h := run_make (P := Try.prog) W 101 33 i0 _ Try.underlying101 hi hiz .i64 .i64 n n (by omega) (Int.le_refl _) (by rw [hib]; omega) (by omega)
  rw [his] at h
  simp only [Int.toNat_natCast] at h
  rw [show (Value.agg (bv zeroB)).cells = bv zeroB from rfl, made_flat] at h
  exact h
def makeK (t : TypeId) (u v : Value) : Sem Next := do pure (.value (← Instr.makeSlice t u v))
@[go_sem ↓] theorem mkk101 (a : Act) (dst : Option Tmp) (x y : Operand) (ty : TypeId) (pos : String) (after : Array Edge) (guard : Option (Nat × Bool)) :
    execOp a.eval { dst, op := .makeSlice 101 x y, type := ty, pos, after, guard } = makeK 101 (a.eval x) (a.eval y) := rfl
theorem new_world (n : Nat) (w : World) (a b : Nat) (hab : a = w.heap.size ∧ b = w.heap.size + 1 ∨ a = w.heap.size + 1 ∧ b = w.heap.size) (W : World)
    (hW : W = (((w.alloc (Obj.cells (flat (List.replicate n zeroB)) 33)).alloc (Obj.cells (flat (List.replicate n zeroB)) 33)).alloc (Obj.cells #[.slice (some ⟨a, 0, none⟩) n n, .slice (some ⟨b, 0, none⟩) n n, .slice none 0 0, .int .i64 0, .int .i64 0, .bool false] 104)).drew) :
    DiskIn W (w.heap.size + 1 + 1) (fun g => w.heap.size ≤ g) (DS.new n) ∧ Below w.heap.size w W := by
  subst hW
  have e0 : ((w.alloc (Obj.cells (flat (List.replicate n zeroB)) 33)).alloc (Obj.cells (flat (List.replicate n zeroB)) 33)).heap[w.heap.size]? = some (.cells (flat (List.replicate n zeroB)) 33 (0, 0)) := by
    rw [heap_alloc_past _ _ (by simp)]
    exact heap_alloc_at _ _ rfl
  have e1 : ((w.alloc (Obj.cells (flat (List.replicate n zeroB)) 33)).alloc (Obj.cells (flat (List.replicate n zeroB)) 33)).heap[w.heap.size + 1]? = some (.cells (flat (List.replicate n zeroB)) 33 (0, 0)) := heap_alloc_at _ _ (by simp)
  have hl : (List.replicate n zeroB).length = n := List.length_replicate
  refine ⟨⟨a, b, .slice none 0 0, by omega, by show w.heap.size ≤ a; omega, by show w.heap.size ≤ b; omega, fun g hg => by simp [Value.ownBlock] at hg, by omega, ?_, ?_, ?_, by simp [DS.new, waitL], .inl ⟨rfl, rfl⟩⟩, ?_⟩
  · simp only [DS.new, hl]
    exact heap_alloc_at _ _ (by simp)
  · refine (heap_alloc_past _ _ (by simp; omega)).trans ?_
    rcases hab with ⟨rfl, rfl⟩ | ⟨rfl, rfl⟩
    · exact e0
    · exact e1
  · refine (heap_alloc_past _ _ (by simp; omega)).trans ?_
    rcases hab with ⟨rfl, rfl⟩ | ⟨rfl, rfl⟩
    · exact e1
    · exact e0
  · exact ((((Below.refl _ _).alloc (Nat.le_refl _) _).alloc (by simp) _).alloc (by simp; omega) _).drew
set_option maxRecDepth 20000 in
set_option maxHeartbeats 1000000 in
theorem new_ok {n : Nat} (h1 : 1 ≤ n) (h2 : n ≤ 8192) (w : World) : Calls Try.prog 13 #[.int .i64 n] w fun x w' => ∃ p, x = .returned (.tuple #[.pointer (some ⟨p, 0, none⟩), .int .i64 0]) ∧ w.heap.size ≤ p ∧ DiskIn w' p (fun g => w.heap.size ≤ g) (DS.new n) ∧ Below w.heap.size w w' := by
  have HM : ∀ W, (makeK 101 (.int .i64 n) (.int .i64 n)).run Try.prog W = .ok (.value (.slice (some ⟨W.heap.size, 0, none⟩) n n)) (W.alloc (.cells (flat (List.replicate n zeroB)) 33)) := fun W => by
    simp only [makeK, Sem.run_bind, make101 n h2 W, Result.andThen_ok, Sem.run_pure]
  have g1 : ¬ (n : Int) < 1 := by omega
  have g2 : ¬ (8192 : Int) < (n : Int) := by omega
  clear h1 h2
  go_enter Try.func13, Try.ntmps13
  go_wp2_with fail
  go_region
  · go_wp2
    go_ret2
    have h := new_world n w _ _ (.inl ⟨rfl, rfl⟩) _ rfl
    exact ⟨_, rfl, by omega, h.1, h.2⟩
  · go_wp2
    go_ret2
    have h := new_world n w _ _ (.inr ⟨rfl, rfl⟩) _ rfl
    exact ⟨_, rfl, by omega, h.1, h.2⟩
end Go.Proofs.Ythmchbdhikakhaa
/- DocSync and DocCrash; the document's new disk. -/
namespace Go.Proofs.Ythmchbdhikakhaa
open Go.RowKit Go.Cu
/-- One round's store: the cells of the k-th write, laid over what lasts. -/
theorem ref_store {X V1 : World} {p : Nat} {F : Nat → Prop} {S : DS} {pl : Nat} {wv : Value} {L : List Blk8} {q : Nat × Blk8} (hX0 : RefAt X p F { S with last := L } pl wv) (hT1 : Tch (· = pl) X V1)
    (hFL : Full L) (hq1 : q.1 < L.length) (hq2 : q.2.length = 128) (hL1 : V1.heap[pl]? = some (.cells (putAt (flat L) (q.1 * 128) (Value.agg (bv q.2)).cells.toList) 32 (0, 0))) :
    RefAt V1 p F { S with last := L.set q.1 q.2 } pl wv := by
  have e1 := (hT1.block p (lt_of_heap hX0.box) (heap_ne hX0.box hX0.last (by decide))).trans hX0.box
  refine ⟨hX0.op, hX0.ol, hX0.ow, ?_, ?_, own_keep hX0.wait fun g hg => hT1.block g (own_lt hX0.wait hg) (fun e => own_ne hX0.wait hX0.last (by decide) (by rw [hg]; exact congrArg some e))⟩
  · rw [e1]
    simp only [List.length_set]
  · rw [hL1]
    exact congrArg (fun c => some (Obj.cells c 32 (0, 0))) (flat_put hFL hq1 hq2)
set_option maxRecDepth 20000 in
set_option maxHeartbeats 1000000 in
theorem rsettle_sync {p : Nat} {F : Nat → Prop} {S : DS} {w : World} {N : Nat} (h : RefIn w p F S) (hok : S.Ok N) (hN : N ≤ 1000000) (hoff : S.off = false) :
    Calls Try.prog 22 #[.pointer (some ⟨p, 0, none⟩)] w fun x w' => x = .returned (.int .i64 0) ∧ RefIn w' p F (S.settle fun _ => true) ∧ Tch F w w' := by
  obtain ⟨pl, wv, hat⟩ := h
  obtain ⟨A, c, rfl⟩ := own_slice hat.wait
  have hbig := hok.big
  have hfew := hok.few
  have hlen := hok.len
  have H := hid hat
  have HOK := hid hok
  have c1 : w.cell? ⟨p, 1, none⟩ = some (.slice A S.wait.length c) := (cell_of_row w p 1 _ _ _ hat.box).trans rfl
  have c4 : w.cell? ⟨p, 4, none⟩ = some (.bool false) := (cell_of_row w p 4 _ _ _ hat.box).trans (by rw [hoff]; rfl)
  clear hoff
  clear hat hok
  go_enter Try.func22, Try.ntmps22
  go_wp2_with fail
  clear c1 c4
  go_loopw [3] (fun i X => ∃ n : Nat, n ≤ S.wait.length ∧ i = .int .i64 n ∧ Hid (RefAt X p F { S with last := lastOf (fun _ => true) 0 (S.wait.take n) S.last } pl (.slice A S.wait.length c)) ∧ Hid (Tch F w X)) (fun i _ => S.wait.length - (intOf i).toNat)
  case atStart => exact ⟨0, by omega, rfl, H, hid (Tch.refl _ _)⟩
  case round =>
    obtain ⟨n, hn, rfl, HX, HT⟩ := hrel
    have c1 : wr.cell? ⟨p, 1, none⟩ = some (.slice A S.wait.length c) := (cell_of_row wr p 1 _ _ _ HX.out.box).trans rfl
    by_cases hlt : n < S.wait.length
    · obtain ⟨q, hq⟩ : ∃ q, S.wait[n]? = some q := ⟨_, List.getElem?_eq_getElem hlt⟩
      obtain ⟨hq1, hq2⟩ := HOK.out.wait q (List.mem_of_getElem? hq)
      have HS := hid (lastOf_step (fun _ => true) hq S.last)
      have HFW : FullW S.wait := fun q hq => (HOK.out.wait q hq).2
      have hw := HX.out.wait
      obtain ⟨_, hw2⟩ := hw
      rcases hw2 with ⟨_, h0⟩ | ⟨gw, cap, cur, hv, _, hgw, hcap, hmax, hcs, htk⟩
      · exact absurd h0 (by show S.wait.length ≠ 0; omega)
      obtain ⟨rfl, rfl⟩ : A = some ⟨gw, 0, none⟩ ∧ c = cap := by
        injection hv with e1 e2 e3
        exact ⟨e1, e3⟩
      have hgwl := lt_of_heap hgw
      have hcell : ∀ i, i < 129 → cur[n * 129 + i]? = (putL q)[i]? := fun i hi => by
        have h3 := waitL_get HFW hq i hi
        rw [← htk, List.getElem?_take] at h3
        have hlen : n * 129 + i < S.wait.length * 129 := by omega
        rw [if_pos hlen] at h3
        simpa using h3
      have LQ0 : ∀ Y, Below wr.heap.size wr Y → Y.cell? ⟨gw, n * 129, none⟩ = some (.int .i64 q.1) := fun Y hb => by
        rw [hb.cell (p := ⟨gw, n * 129, none⟩) hgwl, cell_of_row wr gw (n * 129) _ _ _ hgw]
        have := hcell 0 (by omega)
        simpa [putL] using this
      have HSB := hid ((bv_size q.2).trans hq2)
      have LB : ∀ Y, Below wr.heap.size wr Y → (loadK 32 (.pointer (some ⟨gw, n * 129 + 1, none⟩))).run Try.prog Y = .ok (.value (.agg (bv q.2))) Y := fun Y hb => run_loadK ((hb.block gw hgwl).trans hgw) Try.underlying32 rfl size32 HSB.out (fun i hi => by
        rw [HSB.out] at hi
        rw [show n * 129 + 1 + i = n * 129 + (i + 1) by omega, hcell (i + 1) (by omega)]
        simp [putL, bvL, bv])
      have hpX := lt_of_heap HX.out.box
      have L1 : ∀ Y, Below wr.heap.size wr Y → Y.cell? ⟨p, 1, none⟩ = some (.slice (some ⟨gw, 0, none⟩) S.wait.length c) := fun Y hb => (hb.cell (p := ⟨p, 1, none⟩) hpX).trans c1
      have hLLn : (lastOf (fun _ => true) 0 (S.wait.take n) S.last).length = S.last.length := lastOf_len _ _ _ _
      have HLL := hid hLLn
      have L0 : ∀ Y, Below wr.heap.size wr Y → Y.cell? ⟨p, 0, none⟩ = some (.slice (some ⟨pl, 0, none⟩) S.last.length S.last.length) := fun Y hb => (hb.cell (p := ⟨p, 0, none⟩) hpX).trans ((cell_of_row wr p 0 _ _ _ HX.out.box).trans (by dsimp only; rw [hLLn]; rfl))
      have HB := hid hq2
      have HQ1 := hid hq1
      have hqi : (q.1 : Int) < (S.last.length : Int) := by omega
      have hl0 : (n : Int) < (S.wait.length : Int) := by omega
      clear HFW hv hgw htk hcs hcell hq hLLn
      have HS := hid (HS.out.trans (if_pos rfl))
      have hX : Below wr.heap.size wr wr := Below.refl _ _
      go_wp2
      refine wp_region_ord [21] [(0, 1), (1, 1), (2, 1), (3, 1), (4, 1), (5, 1), (6, 1), (7, 1), (8, 1), (9, 1), (10, 1), (11, 1), (12, 1), (13, 1), (14, 1), (15, 1), (16, 1), (17, 1), (18, 1), (19, 1), (20, 1), (21, 2)] (fun X => Below wr.heap.size wr X) (by kernel_rfl) (by kernel_rfl) (fun d _ c _ _ h => by cases d <;> exact h) (Below.drew hX) (fun X hXe hX1 => ?_)
      clear hXe
      repeat (apply wpOrd_class; ((· first | (rw [List.getElem?_toArray, List.getElem?_cons_zero]; done) | (simp only [List.getElem?_toArray, List.getElem?_cons_succ, List.getElem?_cons_zero]; exact rfl))); (· exact rfl); intro K hK; apply Exists.intro; refine And.intro (fun X' hX' => ?_) ?_; (· go_simp; (try go_bits); first | done | exact rfl | exact ⟨rfl, rfl⟩); go_simp; refine hK _ _ ?_; clear hK K)
      (apply wpOrd_comes; ((· first | (rw [List.getElem?_toArray, List.getElem?_cons_zero]; done) | (simp only [List.getElem?_toArray, List.getElem?_cons_succ, List.getElem?_cons_zero]; exact rfl))); intro N hN)
      have hX0 := HX.out.below hX1
      clear LB L0 L1 LQ0
      have hFL : Full (lastOf (fun _ => true) 0 (S.wait.take n) S.last) := lastOf_full _ _ _ _ (fun p hp => (HOK.out.wait p (List.mem_of_mem_take hp)).2) HOK.out.last
      refine wpList_store_part 32 _ _ rfl pl (q.1 * 128) rfl rfl (.agg (bv q.2)) rfl 128 size32 HSB.out (bv_one _) 32 _ hX0.last (by rw [flat_size hFL, HLL.out]; have := HQ1.out; omega) ?_
      intro V1 hL1 hT1 hs1
      have HV := hid (show RefAt V1 p F { S with last := lastOf (fun _ => true) 0 (S.wait.take (n + 1)) S.last } pl (.slice (some ⟨gw, 0, none⟩) S.wait.length c) from by
        rw [HS.out]
        exact ref_store hX0 hT1 hFL (by rw [HLL.out]; have := HQ1.out; omega) HB.out hL1)
      have HTV := hid (((HT.out.trans (Tch.of_below (F := F) hX1) (fun _ h => h) (fun _ _ h => h))).trans hT1 (fun _ h => h) (fun i _ e => by subst e; exact hX0.ol))
      clear hX0 hX1 hX hT1 hs1 hL1 hFL HX HT HS
      refine hN _ _ (fun h => by cases h) (wpOrd_done ?_)
      clear hN N
      go_wp2
      go_roundw
      case rel => exact ⟨n + 1, by omega, by go_num, HV, HTV⟩
      case measure => simp [intOf]; omega
    · have e : n = S.wait.length := by omega
      subst e
      have hl0 : ¬ (S.wait.length : Int) < (S.wait.length : Int) := by omega
      rw [List.take_length] at HX
      have hcl := cell_of_row wr p 1 _ _ _ HX.out.box
      have f1 : wr.frozen? ⟨p, 1, none⟩ = false := frozen_of_row wr p 1 _ _ HX.out.box
      have P1 := hid (heap_setCell_same wr p 1 _ 51 (.slice none 0 0) HX.out.box)
      have T1 := hid ((Tch.refl (· = p) wr).setCell (g := p) (i := 1) rfl (.slice none 0 0))
      clear hcl
      go_wp2
      go_ret
      refine ⟨rfl, ?_, ?_⟩
      · have hpl := heap_ne HX.out.last HX.out.box (by decide)
        refine ⟨pl, .slice none 0 0, HX.out.op, HX.out.ol, fun g hg => by simp [Value.ownBlock] at hg, ?_, (T1.out.block pl (lt_of_heap HX.out.last) hpl).trans HX.out.last, rfl, .inl ⟨rfl, rfl⟩⟩
        exact P1.out.trans rfl
      · exact HT.out.trans T1.out (fun _ h => h) (fun i _ e => by subst e; exact HX.out.op)
set_option maxRecDepth 20000 in
set_option maxHeartbeats 1000000 in
theorem rcrash_any {p : Nat} {F : Nat → Prop} {S : DS} {w : World} {N : Nat} (h : RefIn w p F S) (hok : S.Ok N) (hN : N ≤ 1000000) {keep : List Bool} {Ak : Option Addr} {ck0 : Nat} (hk : keep.length ≤ 9223372036854775807)
    (hrow : ∀ j b, keep[j]? = some b → ∃ q, Ak = some q ∧ (q.add j).block < w.heap.size ∧ ¬ F (q.add j).block ∧ w.cell? (q.add j) = some (.bool b)) :
    Calls Try.prog 24 #[.pointer (some ⟨p, 0, none⟩), .slice Ak keep.length ck0] w fun x w' => x = .returned (.tuple #[]) ∧ RefIn w' p F (S.crash keep) ∧ Tch F w w' := by
  obtain ⟨pl, wv, hat⟩ := h
  obtain ⟨A, c, rfl⟩ := own_slice hat.wait
  have hbig := hok.big
  have hfew := hok.few
  have hlen := hok.len
  have H := hid hat
  have HOK := hid hok
  have HR := hid hrow
  have c1 : w.cell? ⟨p, 1, none⟩ = some (.slice A S.wait.length c) := (cell_of_row w p 1 _ _ _ hat.box).trans rfl
  clear hrow
  clear hat hok
  go_enter Try.func24, Try.ntmps24
  go_wp2_with fail
  clear c1
  go_loopw [4] (fun i X => ∃ n : Nat, n ≤ S.wait.length ∧ i = .int .i64 n ∧ Hid (RefAt X p F { S with last := lastOf (fun k => keep.getD k false) 0 (S.wait.take n) S.last } pl (.slice A S.wait.length c)) ∧ Hid (Tch F w X)) (fun i _ => S.wait.length - (intOf i).toNat)
  case atStart => exact ⟨0, by omega, rfl, H, hid (Tch.refl _ _)⟩
  case round =>
    obtain ⟨n, hn, rfl, HX, HT⟩ := hrel
    have c1 : wr.cell? ⟨p, 1, none⟩ = some (.slice A S.wait.length c) := (cell_of_row wr p 1 _ _ _ HX.out.box).trans rfl
    by_cases hlt : n < S.wait.length
    · obtain ⟨q, hq⟩ : ∃ q, S.wait[n]? = some q := ⟨_, List.getElem?_eq_getElem hlt⟩
      obtain ⟨hq1, hq2⟩ := HOK.out.wait q (List.mem_of_getElem? hq)
      have HS := hid (lastOf_step (fun k => keep.getD k false) hq S.last)
      have HFW : FullW S.wait := fun q hq => (HOK.out.wait q hq).2
      have hw := HX.out.wait
      obtain ⟨_, hw2⟩ := hw
      rcases hw2 with ⟨_, h0⟩ | ⟨gw, cap, cur, hv, _, hgw, hcap, hmax, hcs, htk⟩
      · exact absurd h0 (by show S.wait.length ≠ 0; omega)
      obtain ⟨rfl, rfl⟩ : A = some ⟨gw, 0, none⟩ ∧ c = cap := by
        injection hv with e1 e2 e3
        exact ⟨e1, e3⟩
      have hgwl := lt_of_heap hgw
      have hcell : ∀ i, i < 129 → cur[n * 129 + i]? = (putL q)[i]? := fun i hi => by
        have h3 := waitL_get HFW hq i hi
        rw [← htk, List.getElem?_take] at h3
        have hlen : n * 129 + i < S.wait.length * 129 := by omega
        rw [if_pos hlen] at h3
        simpa using h3
      have LQ0 : ∀ Y, Below wr.heap.size wr Y → Y.cell? ⟨gw, n * 129, none⟩ = some (.int .i64 q.1) := fun Y hb => by
        rw [hb.cell (p := ⟨gw, n * 129, none⟩) hgwl, cell_of_row wr gw (n * 129) _ _ _ hgw]
        have := hcell 0 (by omega)
        simpa [putL] using this
      have HSB := hid ((bv_size q.2).trans hq2)
      have LB : ∀ Y, Below wr.heap.size wr Y → (loadK 32 (.pointer (some ⟨gw, n * 129 + 1, none⟩))).run Try.prog Y = .ok (.value (.agg (bv q.2))) Y := fun Y hb => run_loadK ((hb.block gw hgwl).trans hgw) Try.underlying32 rfl size32 HSB.out (fun i hi => by
        rw [HSB.out] at hi
        rw [show n * 129 + 1 + i = n * 129 + (i + 1) by omega, hcell (i + 1) (by omega)]
        simp [putL, bvL, bv])
      have hpX := lt_of_heap HX.out.box
      have L1 : ∀ Y, Below wr.heap.size wr Y → Y.cell? ⟨p, 1, none⟩ = some (.slice (some ⟨gw, 0, none⟩) S.wait.length c) := fun Y hb => (hb.cell (p := ⟨p, 1, none⟩) hpX).trans c1
      have hLLn : (lastOf (fun k => keep.getD k false) 0 (S.wait.take n) S.last).length = S.last.length := lastOf_len _ _ _ _
      have HLL := hid hLLn
      have L0 : ∀ Y, Below wr.heap.size wr Y → Y.cell? ⟨p, 0, none⟩ = some (.slice (some ⟨pl, 0, none⟩) S.last.length S.last.length) := fun Y hb => (hb.cell (p := ⟨p, 0, none⟩) hpX).trans ((cell_of_row wr p 0 _ _ _ HX.out.box).trans (by dsimp only; rw [hLLn]; rfl))
      have HB := hid hq2
      have HQ1 := hid hq1
      have hqi : (q.1 : Int) < (S.last.length : Int) := by omega
      have hl0 : (n : Int) < (S.wait.length : Int) := by omega
      clear HFW hv hgw htk hcs hcell hq hLLn
      cases hb : keep.getD n false
      · have HS := hid (HS.out.trans (if_neg (by rw [hb]; decide)))
        clear LB L0 L1 LQ0
        rw [List.getD_eq_getElem?_getD] at hb
        cases hkn : keep[n]? with
        | none =>
          have hge : ¬ n < keep.length := by simpa using hkn
          have hge' : ¬ (n : Int) < (keep.length : Int) := by omega
          clear hkn hb
          go_wp2
          go_roundw
          case rel => exact ⟨n + 1, by omega, by go_num, by rw [HS.out]; exact HX, HT⟩
          case measure => simp [intOf]; omega
        | some b =>
          obtain rfl : b = false := by rw [hkn] at hb; exact hb
          have hltk : (n : Int) < (keep.length : Int) := by have := (List.getElem?_eq_some_iff.1 hkn).1; omega
          obtain ⟨q0, hA0, hl0', hn0, hc0⟩ := HR.out n false hkn
          subst hA0
          have ck : wr.cell? (q0.add n) = some (.bool false) := (tch_cell HT.out hl0' hn0).trans hc0
          clear hkn hb hc0 hn0 hl0'
          go_wp2
          go_roundw
          case rel => exact ⟨n + 1, by omega, by go_num, by rw [HS.out]; exact HX, HT⟩
          case measure => simp [intOf]; omega
      · have HS := hid (HS.out.trans (if_pos hb))
        rw [List.getD_eq_getElem?_getD] at hb
        cases hkn : keep[n]? with
        | none => rw [hkn] at hb; cases hb
        | some b =>
          obtain rfl : b = true := by rw [hkn] at hb; exact hb
          have hltk : (n : Int) < (keep.length : Int) := by have := (List.getElem?_eq_some_iff.1 hkn).1; omega
          obtain ⟨q0, hA0, hl0', hn0, hc0⟩ := HR.out n true hkn
          subst hA0
          have ck : wr.cell? (q0.add n) = some (.bool true) := (tch_cell HT.out hl0' hn0).trans hc0
          clear hkn hb hc0 hn0 hl0'
          have hX : Below wr.heap.size wr wr := Below.refl _ _
          go_wp2
          refine wp_region_ord [21] [(0, 1), (1, 1), (2, 1), (3, 1), (4, 1), (5, 1), (6, 1), (7, 1), (8, 1), (9, 1), (10, 1), (11, 1), (12, 1), (13, 1), (14, 1), (15, 1), (16, 1), (17, 1), (18, 1), (19, 1), (20, 1), (21, 2)] (fun X => Below wr.heap.size wr X) (by kernel_rfl) (by kernel_rfl) (fun d _ c _ _ h => by cases d <;> exact h) (Below.drew hX) (fun X hXe hX1 => ?_)
          clear hXe
          repeat (apply wpOrd_class; ((· first | (rw [List.getElem?_toArray, List.getElem?_cons_zero]; done) | (simp only [List.getElem?_toArray, List.getElem?_cons_succ, List.getElem?_cons_zero]; exact rfl))); (· exact rfl); intro K hK; apply Exists.intro; refine And.intro (fun X' hX' => ?_) ?_; (· go_simp; (try go_bits); first | done | exact rfl | exact ⟨rfl, rfl⟩); go_simp; refine hK _ _ ?_; clear hK K)
          (apply wpOrd_comes; ((· first | (rw [List.getElem?_toArray, List.getElem?_cons_zero]; done) | (simp only [List.getElem?_toArray, List.getElem?_cons_succ, List.getElem?_cons_zero]; exact rfl))); intro N hN)
          have hX0 := HX.out.below hX1
          clear LB L0 L1 LQ0
          have hFL : Full (lastOf (fun k => keep.getD k false) 0 (S.wait.take n) S.last) := lastOf_full _ _ _ _ (fun p hp => (HOK.out.wait p (List.mem_of_mem_take hp)).2) HOK.out.last
          refine wpList_store_part 32 _ _ rfl pl (q.1 * 128) rfl rfl (.agg (bv q.2)) rfl 128 size32 HSB.out (bv_one _) 32 _ hX0.last (by rw [flat_size hFL, HLL.out]; have := HQ1.out; omega) ?_
          intro V1 hL1 hT1 hs1
          have HV := hid (show RefAt V1 p F { S with last := lastOf (fun k => keep.getD k false) 0 (S.wait.take (n + 1)) S.last } pl (.slice (some ⟨gw, 0, none⟩) S.wait.length c) from by
            rw [HS.out]
            exact ref_store hX0 hT1 hFL (by rw [HLL.out]; have := HQ1.out; omega) HB.out hL1)
          have HTV := hid (((HT.out.trans (Tch.of_below (F := F) hX1) (fun _ h => h) (fun _ _ h => h))).trans hT1 (fun _ h => h) (fun i _ e => by subst e; exact hX0.ol))
          clear hX0 hX1 hX hT1 hs1 hL1 hFL HX HT HS
          refine hN _ _ (fun h => by cases h) (wpOrd_done ?_)
          clear hN N
          go_wp2
          go_roundw
          case rel => exact ⟨n + 1, by omega, by go_num, HV, HTV⟩
          case measure => simp [intOf]; omega
    · have e : n = S.wait.length := by omega
      subst e
      have hl0 : ¬ (S.wait.length : Int) < (S.wait.length : Int) := by omega
      rw [List.take_length] at HX
      have hcl := cell_of_row wr p 1 _ _ _ HX.out.box
      have f1 : wr.frozen? ⟨p, 1, none⟩ = false := frozen_of_row wr p 1 _ _ HX.out.box
      have f3 : wr.frozen? ⟨p, 3, none⟩ = false := frozen_of_row wr p 3 _ _ HX.out.box
      have f4 : wr.frozen? ⟨p, 4, none⟩ = false := frozen_of_row wr p 4 _ _ HX.out.box
      have c3 : wr.cell? ⟨p, 3, none⟩ = some (.int .i64 S.armed) := (cell_of_row wr p 3 _ _ _ HX.out.box).trans rfl
      have c4 : wr.cell? ⟨p, 4, none⟩ = some (.bool S.off) := (cell_of_row wr p 4 _ _ _ HX.out.box).trans rfl
      have P1 := hid (heap_setCell_same wr p 1 _ 51 (.slice none 0 0) HX.out.box)
      have T1 := hid ((Tch.refl (· = p) wr).setCell (g := p) (i := 1) rfl (.slice none 0 0))
      have P4 := hid (heap_setCell_same _ p 4 _ 51 (.bool false) P1.out)
      have T4 := hid (T1.out.setCell (g := p) (i := 4) rfl (.bool false))
      have P3 := hid (heap_setCell_same _ p 3 _ 51 (.int .i64 0) P4.out)
      have T3 := hid (T4.out.setCell (g := p) (i := 3) rfl (.int .i64 0))
      clear hcl
      go_wp2
      refine bodyPost_end (results_none rfl _ _ _) rfl ⟨rfl, ?_, ?_⟩
      · have hpl := heap_ne HX.out.last HX.out.box (by decide)
        refine ⟨pl, .slice none 0 0, HX.out.op, HX.out.ol, fun g hg => by simp [Value.ownBlock] at hg, ?_, (T3.out.block pl (lt_of_heap HX.out.last) hpl).trans HX.out.last, rfl, .inl ⟨rfl, rfl⟩⟩
        exact P3.out.trans rfl
      · exact HT.out.trans T3.out (fun _ h => h) (fun i _ e => by subst e; exact HX.out.op)

set_option maxRecDepth 20000 in
set_option maxHeartbeats 400000 in
theorem rsync_down {p : Nat} {F : Nat → Prop} {S : DS} {w : World} (h : RefIn w p F S) (hoff : S.off = true) :
    Calls Try.prog 22 #[.pointer (some ⟨p, 0, none⟩)] w fun x w' => x = .returned (.int .i64 13) ∧ w = w' := by
  obtain ⟨pl, wv, h⟩ := h
  have c4 : w.cell? ⟨p, 4, none⟩ = some (.bool true) := (cell_of_row w p 4 _ _ _ h.box).trans (by rw [hoff]; rfl)
  clear h hoff
  go_enter Try.func22, Try.ntmps22
  go_wp2
  go_ret
  exact ⟨rfl, rfl⟩
theorem rsync_any {p : Nat} {F : Nat → Prop} {S : DS} {w : World} {N : Nat} (h : RefIn w p F S) (hok : S.Ok N) (hN : N ≤ 1000000) :
    Calls Try.prog 22 #[.pointer (some ⟨p, 0, none⟩)] w fun x w' => x = .returned (.int .i64 S.sync.2) ∧ RefIn w' p F S.sync.1 ∧ Tch F w w' := by
  cases ho : S.off
  · have HE : S.sync = (S.settle fun _ => true, 0) := by simp [DS.sync, ho]
    rw [HE]
    exact rsettle_sync h hok hN ho
  · have HE : S.sync = (S, 13) := by simp [DS.sync, ho]
    rw [HE]
    exact (rsync_down h ho).mono fun x w' ⟨hx, hw⟩ => by subst hw; exact ⟨hx, h, Tch.refl _ _⟩
end Go.Proofs.Ythmchbdhikakhaa
/- DocRead. -/
namespace Go.Proofs.Ythmchbdhikakhaa
open Go.RowKit Go.Cu
set_option maxRecDepth 20000 in
set_option maxHeartbeats 400000 in
theorem rread_down {p : Nat} {F : Nat → Prop} {S : DS} {w : World} (h : RefIn w p F S) (hoff : S.off = true) (i : Int) :
    Calls Try.prog 20 #[.pointer (some ⟨p, 0, none⟩), .int .i64 i] w fun x w' => x = .returned (.tuple #[.agg (bv zeroB), .int .i64 13]) ∧ Below w.heap.size w w' := by
  obtain ⟨pl, wv, h⟩ := h
  have hp := lt_of_heap h.box
  have L4 : ∀ X, Below w.heap.size w X → X.cell? ⟨p, 4, none⟩ = some (.bool true) := fun X hb => (hb.cell (p := ⟨p, 4, none⟩) hp).trans ((cell_of_row w p 4 _ _ _ h.box).trans (by rw [hoff]; rfl))
  have BZ := fun W => run_buildK (build32 W)
  clear h hoff
  go_enter Try.func20, Try.ntmps20
  go_wp2_with (first | (refine wpList_alloc 32 rfl rfl (.agg (bv zeroB)) zero32 ?_; intro gr W0 hR hr hgr hW) | (refine wpList_buildv 32 _ rfl rfl #[] ?_ (.agg (bv zeroB)) build32 ?_; (· simp [Act.eval])) | (refine wpList_store_box 32 _ _ rfl gr rfl rfl (bv zeroB) rfl 128 size32 bvz (bv_one _) 32 _ hR bvz ?_; intro X2 hR2 hT2 hs2))
  refine bodyPost_ret (results_cell_tmp rfl _ _ _ gr 32 (bv zeroB) (0, 0) rfl hR2 Try.underlying32 (by rw [bvz]; exact size32)) rfl ⟨rfl, ?_⟩
  exact hW.trans (hT2.below hW.size (fun i hi => by subst hi; exact hgr))
set_option maxRecDepth 20000 in
set_option maxHeartbeats 400000 in
theorem rread_out {p : Nat} {F : Nat → Prop} {S : DS} {w : World} (h : RefIn w p F S) (hoff : S.off = false) (i : Int) (hi : i < 0 ∨ (S.last.length : Int) ≤ i) :
    Calls Try.prog 20 #[.pointer (some ⟨p, 0, none⟩), .int .i64 i] w fun x w' => x = .returned (.tuple #[.agg (bv zeroB), .int .i64 1]) ∧ Below w.heap.size w w' := by
  obtain ⟨pl, wv, h⟩ := h
  have hp := lt_of_heap h.box
  have L4 : ∀ X, Below w.heap.size w X → X.cell? ⟨p, 4, none⟩ = some (.bool false) := fun X hb => (hb.cell (p := ⟨p, 4, none⟩) hp).trans ((cell_of_row w p 4 _ _ _ h.box).trans (by rw [hoff]; rfl))
  have L0 : ∀ X, Below w.heap.size w X → X.cell? ⟨p, 0, none⟩ = some (.slice (some ⟨pl, 0, none⟩) S.last.length S.last.length) := fun X hb => (hb.cell (p := ⟨p, 0, none⟩) hp).trans ((cell_of_row w p 0 _ _ _ h.box).trans rfl)
  clear h hoff
  by_cases h1 : i < 0
  · clear hi
    go_enter Try.func20, Try.ntmps20
    go_wp2_with (first | (refine wpList_alloc 32 rfl rfl (.agg (bv zeroB)) zero32 ?_; intro gr W0 hR hr hgr hW) | (refine wpList_buildv 32 _ rfl rfl #[] ?_ (.agg (bv zeroB)) build32 ?_; (· simp [Act.eval])) | (refine wpList_store_box 32 _ _ rfl gr rfl rfl (bv zeroB) rfl 128 size32 bvz (bv_one _) 32 _ hR bvz ?_; intro X2 hR2 hT2 hs2))
    refine bodyPost_ret (results_cell_tmp rfl _ _ _ gr 32 (bv zeroB) (0, 0) rfl hR2 Try.underlying32 (by rw [bvz]; exact size32)) rfl ⟨rfl, ?_⟩
    exact hW.trans (hT2.below hW.size (fun i hi => by subst hi; exact hgr))
  · have h2 : (S.last.length : Int) ≤ i := by omega
    clear hi
    go_enter Try.func20, Try.ntmps20
    go_wp2_with (first | (refine wpList_alloc 32 rfl rfl (.agg (bv zeroB)) zero32 ?_; intro gr W0 hR hr hgr hW) | (refine wpList_buildv 32 _ rfl rfl #[] ?_ (.agg (bv zeroB)) build32 ?_; (· simp [Act.eval])) | (refine wpList_store_box 32 _ _ rfl gr rfl rfl (bv zeroB) rfl 128 size32 bvz (bv_one _) 32 _ hR bvz ?_; intro X2 hR2 hT2 hs2))
    refine bodyPost_ret (results_cell_tmp rfl _ _ _ gr 32 (bv zeroB) (0, 0) rfl hR2 Try.underlying32 (by rw [bvz]; exact size32)) rfl ⟨rfl, ?_⟩
    exact hW.trans (hT2.below hW.size (fun i hi => by subst hi; exact hgr))
set_option maxRecDepth 20000 in
set_option maxHeartbeats 1000000 in
theorem rread_in {p : Nat} {F : Nat → Prop} {S : DS} {w : World} {N : Nat} (h : RefIn w p F S) (hok : S.Ok N) (htd : S.Tied) (hN : N ≤ 1000000) {n : Nat} (hz : S.at_ (n : Int) = 0) :
    Calls Try.prog 20 #[.pointer (some ⟨p, 0, none⟩), .int .i64 n] w fun x w' => x = .returned (.tuple #[.agg (bv (S.now.getD n zeroB)), .int .i64 0]) ∧ Below w.heap.size w w' := by
  obtain ⟨pl, wv, hat⟩ := h
  obtain ⟨A, c, rfl⟩ := own_slice hat.wait
  obtain ⟨hoff, _, hlt⟩ := DS.at_zero hz
  have hlen := hok.len
  have hbig := hok.big
  have hfew := hok.few
  have HG := hid (show S.last[n]? = some (S.last.getD n zeroB) by rw [List.getD_eq_getElem?_getD, List.getElem?_eq_getElem (by omega)]; rfl)
  have hl0 := full_getD hok.last n
  have HSZ := hid ((bv_size _).trans hl0)
  have HF := hid (show Full S.last from hok.last)
  have hp := lt_of_heap hat.box
  have hpl := lt_of_heap hat.last
  have HAT := hid hat
  have HOK := hid hok
  have HTD := hid htd
  have hn : (n : Int) < (S.last.length : Int) := by omega
  have L4 : ∀ X, Below w.heap.size w X → X.cell? ⟨p, 4, none⟩ = some (.bool false) := fun X hb => (hb.cell (p := ⟨p, 4, none⟩) hp).trans ((cell_of_row w p 4 _ _ _ hat.box).trans (by rw [hoff]; rfl))
  have L0 : ∀ X, Below w.heap.size w X → X.cell? ⟨p, 0, none⟩ = some (.slice (some ⟨pl, 0, none⟩) S.last.length S.last.length) := fun X hb => (hb.cell (p := ⟨p, 0, none⟩) hp).trans ((cell_of_row w p 0 _ _ _ hat.box).trans rfl)
  have L1 : ∀ X, Below w.heap.size w X → X.cell? ⟨p, 1, none⟩ = some (.slice A S.wait.length c) := fun X hb => (hb.cell (p := ⟨p, 1, none⟩) hp).trans ((cell_of_row w p 1 _ _ _ hat.box).trans rfl)
  have LN : ∀ X, Below w.heap.size w X → (loadK 32 (.pointer (some ⟨pl, n * 128, none⟩))).run Try.prog X = .ok (.value (.agg (bv (S.last.getD n zeroB)))) X := fun X hb =>
    run_loadK ((hb.block pl hpl).trans HAT.out.last) Try.underlying32 rfl size32 HSZ.out (flat_get HF.out HG.out)
  clear hat hok htd hz hoff
  have HL1 := hid L1
  have tok1 : True := trivial
  go_enter Try.func20, Try.ntmps20
  go_wp2_with (first | (have _t := tok1; refine wpList_alloc 32 rfl rfl (.agg (bv zeroB)) zero32 ?_; intro gr W0 hR hr hgr hW; clear tok1) | (refine wpList_alloc 32 rfl rfl (.agg (bv zeroB)) zero32 ?_; intro gb W1 hB hb hgb hW1) | (refine wpList_store_box 32 _ _ rfl gb rfl rfl (bv (S.last.getD n zeroB)) rfl 128 size32 HSZ.out (bv_one _) 32 _ hB bvz ?_; intro W2 hB2 hT2 hs2))
  have h0 : St w [Blk gb (bv (S.last.getD n zeroB)) 32, Blk gr (bv zeroB) 32] W2 := (((St.start w).newBlk hW hgr hR).newBlk hW1 hgb hB).put hB2 hT2
  have HS := hid h0
  clear hB2 hT2 hs2 hB hb hgb hW1 hR hr hgr L0 L4 LN hW h0 L1
  go_loopw [7] (fun k X => ∃ j : Nat, j ≤ S.wait.length ∧ k = .int .i64 j ∧ Hid (St w [Blk gb (bv ((over (S.wait.take j) S.last).getD n zeroB)) 32, Blk gr (bv zeroB) 32] X)) (fun k _ => S.wait.length - (intOf k).toNat)
  case atStart => exact ⟨0, by omega, rfl, HS⟩
  case round =>
    clear HS
    obtain ⟨j, hj, rfl, HX⟩ := hrel
    have hbw := HX.out.below
    have c1 := HL1.out wr hbw
    have HBW := hid hbw
    clear hbw
    by_cases hlt : j < S.wait.length
    · have e1 : (j : Int) < (S.wait.length : Int) := by omega
      obtain ⟨q, hq⟩ : ∃ q, S.wait[j]? = some q := ⟨_, List.getElem?_eq_getElem hlt⟩
      obtain ⟨hq1, hq2⟩ := HOK.out.wait q (List.mem_of_getElem? hq)
      have HST := hid (over_step hq S.last n (by omega))
      have HFW : FullW S.wait := fun q hq => (HOK.out.wait q hq).2
      have hw := HAT.out.wait
      obtain ⟨_, hw2⟩ := hw
      rcases hw2 with ⟨_, h0⟩ | ⟨gw, cap, cur, hv, _, hgw, hcap, hmax, hcs, htk⟩
      · exact absurd h0 (by show S.wait.length ≠ 0; omega)
      obtain ⟨rfl, rfl⟩ : A = some ⟨gw, 0, none⟩ ∧ c = cap := by
        injection hv with e1 e2 e3
        exact ⟨e1, e3⟩
      have hgwl := lt_of_heap hgw
      have hcell : ∀ i, i < 129 → cur[j * 129 + i]? = (putL q)[i]? := fun i hi => by
        have h3 := waitL_get HFW hq i hi
        rw [← htk, List.getElem?_take] at h3
        have hlen : j * 129 + i < S.wait.length * 129 := by omega
        rw [if_pos hlen] at h3
        simpa using h3
      have cq : wr.cell? ⟨gw, j * 129, none⟩ = some (.int .i64 q.1) := by
        rw [HBW.out.cell (p := ⟨gw, j * 129, none⟩) hgwl, cell_of_row w gw (j * 129) _ _ _ hgw]
        have := hcell 0 (by omega)
        simpa [putL] using this
      have HSQ := hid ((bv_size q.2).trans hq2)
      have LQ : (loadK 32 (.pointer (some ⟨gw, j * 129 + 1, none⟩))).run Try.prog wr = .ok (.value (.agg (bv q.2))) wr := run_loadK ((HBW.out.block gw hgwl).trans hgw) Try.underlying32 rfl size32 HSQ.out (fun i hi => by
        rw [HSQ.out] at hi
        rw [show j * 129 + 1 + i = j * 129 + (i + 1) by omega, hcell (i + 1) (by omega)]
        simp [putL, bvL, bv])
      have HQ := hid hq
      clear HFW hv hgw htk hcs hcell hq hq2
      by_cases he : q.1 = n
      · have e2 : ((q.1 : Nat) : Int) = (n : Int) := by omega
        have e3 : ((q.1 : Int) == (n : Int)) = true := by simpa using e2
        have hgb := HX.out.blk
        clear e2
        rw [he] at cq HST
        have HST := hid (HST.out.trans (if_pos rfl))
        clear he e3
        have HZ := hid (show (bv ((over (S.wait.take j) S.last).getD n zeroB)).size = 128 by rw [bv_size]; exact full_getD (lastOf_full _ _ _ _ (fun p hp => (HOK.out.wait p (List.mem_of_mem_take hp)).2) HOK.out.last) _)
        have HGB := hid hgb
        clear hgb
        go_wp2_with (refine wpList_store_box 32 _ _ rfl gb rfl rfl (bv q.2) rfl 128 size32 HSQ.out (bv_one _) 32 _ HGB.out HZ.out ?_; intro X2 hB2 hT2 hs2)
        go_roundw
        case rel =>
          refine ⟨j + 1, by omega, by go_num, ?_⟩
          rw [HST.out]
          exact hid (HX.out.put hB2 hT2)
        case measure => simp [intOf]; omega
      · have e3 : ((q.1 : Int) == (n : Int)) = false := by
          rw [beq_eq_false_iff_ne]; omega
        have HST := hid (HST.out.trans (if_neg he))
        clear he
        go_wp2
        go_roundw
        case rel =>
          refine ⟨j + 1, by omega, by go_num, ?_⟩
          rw [HST.out]
          exact HX
        case measure => simp [intOf]; omega
    · have e : j = S.wait.length := by omega
      subst e
      have e1 : ¬ (S.wait.length : Int) < (S.wait.length : Int) := by omega
      have HE := hid (show (over (S.wait.take S.wait.length) S.last).getD n zeroB = S.now.getD n zeroB by rw [List.take_length, ← HTD.out.now])
      have hgb := HX.out.blk
      have hgr := HX.out.at2.blk
      have hne := HX.out.blk_ne
      rw [HE.out] at hgb
      have HSN := hid ((bv_size (S.now.getD n zeroB)).trans (full_getD HOK.out.now n))
      have LB : (loadK 32 (.pointer (some ⟨gb, 0, none⟩))).run Try.prog wr = .ok (.value (.agg (bv (S.now.getD n zeroB)))) wr := run_loadK_box hgb Try.underlying32 rfl size32 HSN.out
      have HGR := hid hgr
      clear hgr hgb
      go_wp2_with (refine wpList_store_box 32 _ _ rfl gr rfl rfl (bv (S.now.getD n zeroB)) rfl 128 size32 HSN.out (bv_one _) 32 _ HGR.out bvz ?_; intro X2 hB2 hT2 hs2)
      refine bodyPost_ret (results_cell_tmp rfl _ _ _ gr 32 (bv _) (0, 0) rfl hB2 Try.underlying32 (by rw [HSN.out]; exact size32)) rfl ⟨rfl, ?_⟩
      exact (HX.out.at2.put hB2 hT2).below
theorem rread_any {p : Nat} {F : Nat → Prop} {S : DS} {w : World} {N : Nat} (h : RefIn w p F S) (hok : S.Ok N) (htd : S.Tied) (hN : N ≤ 1000000) (i : Int) :
    Calls Try.prog 20 #[.pointer (some ⟨p, 0, none⟩), .int .i64 i] w fun x w' => x = .returned (.tuple #[.agg (bv (if S.at_ i = 0 then S.now.getD i.toNat zeroB else zeroB)), .int .i64 (S.at_ i)]) ∧ Below w.heap.size w w' := by
  by_cases hz : S.at_ i = 0
  · obtain ⟨_, h0, _⟩ := DS.at_zero hz
    obtain ⟨n, rfl⟩ := Int.eq_ofNat_of_zero_le h0
    rw [if_pos hz, hz]
    exact rread_in h hok htd hN hz
  · rw [if_neg hz]
    cases ho : S.off
    · have hi : i < 0 ∨ (S.last.length : Int) ≤ i := by
        rw [hok.len]
        unfold DS.at_ at hz
        rw [ho] at hz
        simp only [Bool.false_eq_true, if_false] at hz
        exact Decidable.byContradiction fun hc => hz (if_neg hc)
      have e : S.at_ i = 1 := by
        unfold DS.at_
        rw [ho]
        simp only [Bool.false_eq_true, if_false]
        rw [if_pos (by rw [← hok.len]; exact hi)]
      rw [e]
      exact rread_out h ho i hi
    · have e : S.at_ i = 13 := by unfold DS.at_; rw [ho]; rfl
      rw [e]
      exact rread_down h ho i
end Go.Proofs.Ythmchbdhikakhaa
/- Read and Write of a disk at any place; of no disk. -/
namespace Go.Proofs.Ythmchbdhikakhaa
open Go.RowKit Go.Cu
theorem at_ok_nat {S : DS} {i : Int} (h : S.at_ i = 0) : ∃ n : Nat, i = n := by
  obtain ⟨_, h0, _⟩ := DS.at_zero h
  exact ⟨i.toNat, by omega⟩
theorem write_any {p : Nat} {F : Nat → Prop} {S : DS} {w : World} {N : Nat} (h : DiskIn w p F S) (hok : S.Ok N) (hN : N ≤ 1000000) (i : Int) {b : Bk} (hb : b.length = 128) :
    Calls Try.prog 15 #[.pointer (some ⟨p, 0, none⟩), .int .i64 i, .agg (bv b)] w fun x w' => x = .returned (.int .i64 (S.write i b).2) ∧ DiskIn w' p (fun g => F g ∨ w.heap.size ≤ g) (S.write i b).1 ∧ Tch F w w' := by
  by_cases hz : S.at_ i = 0
  · obtain ⟨n, rfl⟩ := at_ok_nat hz
    have e : S.write (n : Int) b = (S.put n b).tick := by unfold DS.write; rw [if_neg (by simpa using hz)]; simp
    rw [e]
    exact write_ok h hok hN hz hb
  · have e : S.write i b = (S, S.at_ i) := by unfold DS.write; rw [if_pos hz]
    rw [e]
    exact (write_bad hz (hid fun w' hb => at_any (h.below hb) hok i)).mono fun x w' hx => ⟨hx.1, (h.below hx.2).mono (fun g _ hf => .inl hf), Tch.of_below hx.2⟩
theorem write_nil (w : World) (i : Int) (b : Bk) : Calls Try.prog 15 #[.pointer none, .int .i64 i, .agg (bv b)] w fun x w' => x = .returned (.int .i64 1) ∧ Below w.heap.size w w' :=
  write_bad (by decide) (hid fun w' _ => at_nil i w')
theorem read_any {p : Nat} {F : Nat → Prop} {S : DS} {w : World} {N : Nat} (h : DiskIn w p F S) (hok : S.Ok N) (i : Int) :
    Calls Try.prog 18 #[.pointer (some ⟨p, 0, none⟩), .int .i64 i] w fun x w' => x = .returned (.tuple #[.agg (bv (if S.at_ i = 0 then S.now.getD i.toNat zeroB else zeroB)), .int .i64 (S.at_ i)]) ∧ Below w.heap.size w w' := by
  by_cases hz : S.at_ i = 0
  · obtain ⟨n, rfl⟩ := at_ok_nat hz
    rw [if_pos hz, hz]
    exact read_ok h hok hz
  · rw [if_neg hz]
    exact read_bad hz (hid fun w' hb => at_any (h.below hb) hok i)
theorem read_nil (w : World) (i : Int) : Calls Try.prog 18 #[.pointer none, .int .i64 i] w fun x w' => x = .returned (.tuple #[.agg (bv zeroB), .int .i64 1]) ∧ Below w.heap.size w w' :=
  read_bad (by decide) (hid fun w' _ => at_nil i w')
set_option maxHeartbeats 400000 in
theorem none_ok (w : World) : Calls Try.prog 28 #[] w fun x w' => x = .returned (.pointer none) ∧ w = w' := by
  go_enter Try.func28, Try.ntmps28
  go_wp2
  go_ret
  exact ⟨rfl, rfl⟩
/-- A block of which only the first byte is set. -/
def oneB (k : UInt8) : Bk := k :: List.replicate 127 0
theorem oneB_len (k : UInt8) : (oneB k).length = 128 := by simp [oneB]
set_option maxRecDepth 20000 in
theorem build33_1 (W : World) : (Instr.build 33 #[(0, .int .u8 1)]).run Try.prog W = .ok (.agg (bv (oneB 1))) W := by kernel_rfl
set_option maxRecDepth 20000 in
theorem build33_2 (W : World) : (Instr.build 33 #[(0, .int .u8 2)]).run Try.prog W = .ok (.agg (bv (oneB 2))) W := by kernel_rfl
set_option maxRecDepth 20000 in
theorem build33_3 (W : World) : (Instr.build 33 #[(0, .int .u8 3)]).run Try.prog W = .ok (.agg (bv (oneB 3))) W := by kernel_rfl
end Go.Proofs.Ythmchbdhikakhaa
/- Sync. -/
namespace Go.Proofs.Ythmchbdhikakhaa
open Go.RowKit Go.Cu

set_option maxHeartbeats 400000 in
theorem sync_nil (w : World) : Calls Try.prog 16 #[.pointer none] w fun e w' => e = .returned (.int .i64 1) ∧ w = w' := by
  go_enter Try.func16, Try.ntmps16
  go_wp2_with (go_at_call 58; refine (may_nil _).mono ?_; rintro e w' ⟨rfl, rfl⟩)
  go_ret
  exact ⟨rfl, rfl⟩
set_option maxHeartbeats 400000 in
theorem sync_ok {p : Nat} {F : Nat → Prop} {S : DS} {w : World} {N : Nat} (h : DiskIn w p F S) (hok : S.Ok N) (hN : N ≤ 1000000) :
    Calls Try.prog 16 #[.pointer (some ⟨p, 0, none⟩)] w fun x w' => x = .returned (.int .i64 S.sync.2) ∧ DiskIn w' p F S.sync.1 ∧ Tch F w w' := by
  have hm := hid (may_any h)
  have hs := hid (settle_sync h hok hN)
  cases ho : S.off
  · have hmay : S.may = 0 := by simp [DS.may, ho]
    rw [hmay] at hm
    have HE := hid (show S.sync = (S.settle fun _ => true, 0) by simp [DS.sync, ho])
    clear hmay ho h hok hN
    go_enter Try.func16, Try.ntmps16
    go_wp2_with (first | (go_at_call 58; refine hm.out.mono ?_; rintro e w' ⟨rfl, rfl⟩) | (go_at_call 59; refine hs.out.mono ?_; rintro e w1 ⟨rfl, hd, ht⟩; have HD := hid hd; have HT := hid ht; clear hd ht))
    go_ret
    rw [HE.out]
    exact ⟨rfl, HD.out, HT.out⟩
  · have hmay : S.may = 13 := by simp [DS.may, ho]
    rw [hmay] at hm
    have HE := hid (show S.sync = (S, 13) by simp [DS.sync, ho])
    have HD := hid h
    clear hmay ho h hok hN hs
    go_enter Try.func16, Try.ntmps16
    go_wp2_with (go_at_call 58; refine hm.out.mono ?_; rintro e w' ⟨rfl, rfl⟩)
    go_ret
    rw [HE.out]
    exact ⟨rfl, HD.out, Tch.refl _ _⟩
end Go.Proofs.Ythmchbdhikakhaa
/- The document's new disk; the contracts of both disks, over things side by side. -/
namespace Go.Proofs.Ythmchbdhikakhaa
open Go.RowKit Go.Cu
theorem make48 (n : Nat) (hn : n ≤ 8192) (W : World) : (Instr.makeSlice 48 (.int .i64 n) (.int .i64 n)).run Try.prog W = .ok (.slice (some ⟨W.heap.size, 0, none⟩) n n) (W.alloc (.cells (flat (List.replicate n zeroB)) 32)) := by
  obtain ⟨i0, hi, hiz, his, hib⟩ := info_parts info32
  have h := run_make (P := Try.prog) W 48 32 i0 _ Try.underlying48 hi hiz .i64 .i64 n n (by omega) (Int.le_refl _) (by rw [hib]; omega) (by omega)
  rw [his] at h
  simp only [Int.toNat_natCast] at h
  rw [show (Value.agg (bv zeroB)).cells = bv zeroB from rfl, made_flat] at h
  exact h
@[go_sem ↓] theorem mkk48 (a : Act) (dst : Option Tmp) (x y : Operand) (ty : TypeId) (pos : String) (after : Array Edge) (guard : Option (Nat × Bool)) :
    execOp a.eval { dst, op := .makeSlice 48 x y, type := ty, pos, after, guard } = makeK 48 (a.eval x) (a.eval y) := rfl
set_option maxRecDepth 20000 in
set_option maxHeartbeats 1000000 in
theorem rnew_any {n : Nat} (h2 : n ≤ 8192) (w : World) : Calls Try.prog 19 #[.int .i64 n] w fun x w' => ∃ p, x = .returned (.pointer (some ⟨p, 0, none⟩)) ∧ RefIn w' p (fun g => w.heap.size ≤ g) (DS.new n) ∧ Below w.heap.size w w' := by
  have HM : ∀ W, (makeK 48 (.int .i64 n) (.int .i64 n)).run Try.prog W = .ok (.value (.slice (some ⟨W.heap.size, 0, none⟩) n n)) (W.alloc (.cells (flat (List.replicate n zeroB)) 32)) := fun W => by
    simp only [makeK, Sem.run_bind, make48 n h2 W, Result.andThen_ok, Sem.run_pure]
  clear h2
  go_enter Try.func19, Try.ntmps19
  go_wp2
  go_ret
  have hl : (List.replicate n zeroB).length = n := List.length_replicate
  refine ⟨_, rfl, ⟨w.heap.size, .slice none 0 0, by show w.heap.size ≤ w.heap.size + 1; omega, Nat.le_refl _, fun g hg => by simp [Value.ownBlock] at hg, ?_, ?_, by simp [DS.new, waitL], .inl ⟨rfl, rfl⟩⟩, ?_⟩
  · simp only [DS.new, hl]
    exact heap_alloc_at _ _ (by simp)
  · exact (heap_alloc_past _ _ (by simp)).trans (heap_alloc_at _ _ rfl)
  · exact (((Below.refl _ _).alloc (Nat.le_refl _) _).alloc (by simp) _)

section
variable {W0 W : World} {L : List Atm} {p : Nat} {S : DS} {N : Nat}
theorem new_st (h : St W0 L W) {n : Nat} (h1 : 1 ≤ n) (h2 : n ≤ 8192) : Calls Try.prog 13 #[.int .i64 n] W fun x W' => ∃ p, x = .returned (.tuple #[.pointer (some ⟨p, 0, none⟩), .int .i64 0]) ∧ St W0 (Disk p (DS.new n) :: L) W' :=
  (new_ok h1 h2 W).mono fun _ _ ⟨p, hx, _, hd, hb⟩ => ⟨p, hx, h.push hb hd⟩
theorem write_st (h : St W0 (Disk p S :: L) W) (hok : S.Ok N) (hN : N ≤ 1000000) (i : Int) {b : Bk} (hb : b.length = 128) :
    Calls Try.prog 15 #[.pointer (some ⟨p, 0, none⟩), .int .i64 i, .agg (bv b)] W fun x W' => x = .returned (.int .i64 (S.write i b).2) ∧ St W0 (Disk p (S.write i b).1 :: L) W' := by
  obtain ⟨F, hd, _, hr⟩ := h.first
  exact (write_any hd hok hN i hb).mono fun _ _ ⟨hx, hd', ht⟩ => ⟨hx, hr _ _ hd' ht⟩
theorem sync_st (h : St W0 (Disk p S :: L) W) (hok : S.Ok N) (hN : N ≤ 1000000) :
    Calls Try.prog 16 #[.pointer (some ⟨p, 0, none⟩)] W fun x W' => x = .returned (.int .i64 S.sync.2) ∧ St W0 (Disk p S.sync.1 :: L) W' := by
  obtain ⟨F, hd, _, hr⟩ := h.first
  exact (sync_ok hd hok hN).mono fun _ _ ⟨hx, hd', ht⟩ => ⟨hx, hr _ _ (DiskIn.mono hd' fun _ _ h => .inl h) ht⟩
theorem read_st (h : St W0 (Disk p S :: L) W) (hok : S.Ok N) (i : Int) :
    Calls Try.prog 18 #[.pointer (some ⟨p, 0, none⟩), .int .i64 i] W fun x W' => x = .returned (.tuple #[.agg (bv (if S.at_ i = 0 then S.now.getD i.toNat zeroB else zeroB)), .int .i64 (S.at_ i)]) ∧ St W0 (Disk p S :: L) W' ∧ Below W.heap.size W W' := by
  obtain ⟨F, hd, _, hr⟩ := h.first
  exact (read_any hd hok i).mono fun _ _ ⟨hx, hb⟩ => ⟨hx, h.turn hb, hb⟩
/-- The words of keep lie in memory that the caller had. -/
def KeepIn (W : World) (A : Option Addr) (keep : List Bool) : Prop := ∀ j b, keep[j]? = some b → ∃ q, A = some q ∧ (q.add j).block < W.heap.size ∧ W.cell? (q.add j) = some (.bool b)
theorem keep_for (h : St W0 L W) {A : Option Addr} {keep : List Bool} (hk : KeepIn W0 A keep) {F : Nat → Prop} (hF : ∀ g, F g → W0.heap.size ≤ g) :
    ∀ j b, keep[j]? = some b → ∃ q, A = some q ∧ (q.add j).block < W.heap.size ∧ ¬ F (q.add j).block ∧ W.cell? (q.add j) = some (.bool b) := fun j b hj => by
  obtain ⟨q, hq, hl, hc⟩ := hk j b hj
  exact ⟨q, hq, Nat.lt_of_lt_of_le hl h.size, fun hf => by have := hF _ hf; omega, (h.below.cell hl).trans hc⟩
theorem crash_st (h : St W0 (Disk p S :: L) W) (hok : S.Ok N) (hN : N ≤ 1000000) {A : Option Addr} {c : Nat} {keep : List Bool} (hlen : keep.length ≤ 9223372036854775807) (hk : KeepIn W0 A keep) :
    Calls Try.prog 17 #[.pointer (some ⟨p, 0, none⟩), .slice A keep.length c] W fun x W' => x = .returned (.tuple #[]) ∧ St W0 (Disk p (S.crash keep) :: L) W' := by
  obtain ⟨F, hd, hF, hr⟩ := h.first
  exact (crash_any hd hok hN hlen (keep_for h hk fun g hg => (hF g hg).1)).mono fun _ _ ⟨hx, hd', ht⟩ => ⟨hx, hr _ _ (DiskIn.mono hd' fun _ _ h => .inl h) ht⟩
theorem arm_st (h : St W0 (Disk p S :: L) W) (i : Int) :
    Calls Try.prog 23 #[.pointer (some ⟨p, 0, none⟩), .int .i64 i] W fun x W' => x = .returned (.tuple #[]) ∧ St W0 (Disk p (S.arm i) :: L) W' := by
  obtain ⟨F, hd, _, hr⟩ := h.first
  exact (arm_any hd i).mono fun _ _ ⟨hx, hd', ht⟩ => ⟨hx, hr _ _ (DiskIn.mono hd' fun _ _ h => .inl h) ht⟩
theorem down_st (h : St W0 (Disk p S :: L) W) : Calls Try.prog 25 #[.pointer (some ⟨p, 0, none⟩)] W fun x W' => x = .returned (.bool S.off) ∧ W = W' := by
  obtain ⟨F, hd, _, _⟩ := h.first
  exact down_any hd
theorem writes_st (h : St W0 (Disk p S :: L) W) : Calls Try.prog 26 #[.pointer (some ⟨p, 0, none⟩)] W fun x W' => x = .returned (.int .i64 S.writes) ∧ W = W' := by
  obtain ⟨F, hd, _, _⟩ := h.first
  exact writes_any hd
theorem waiting_st (h : St W0 (Disk p S :: L) W) : Calls Try.prog 27 #[.pointer (some ⟨p, 0, none⟩)] W fun x W' => x = .returned (.int .i64 S.wait.length) ∧ W = W' := by
  obtain ⟨F, hd, _, _⟩ := h.first
  exact waiting_any hd
theorem size_st (h : St W0 (Disk p S :: L) W) : Calls Try.prog 29 #[.pointer (some ⟨p, 0, none⟩)] W fun x W' => x = .returned (.int .i64 S.now.length) ∧ W = W' := by
  obtain ⟨F, hd, _, _⟩ := h.first
  exact size_any hd
theorem rnew_st (h : St W0 L W) {n : Nat} (h2 : n ≤ 8192) : Calls Try.prog 19 #[.int .i64 n] W fun x W' => ∃ p, x = .returned (.pointer (some ⟨p, 0, none⟩)) ∧ St W0 (Ref p (DS.new n) :: L) W' :=
  (rnew_any h2 W).mono fun _ _ ⟨p, hx, hd, hb⟩ => ⟨p, hx, h.push hb hd⟩
theorem rwrite_st (h : St W0 (Ref p S :: L) W) (hok : S.Ok N) (hN : N ≤ 1000000) (i : Int) {b : Bk} (hb : b.length = 128) :
    Calls Try.prog 21 #[.pointer (some ⟨p, 0, none⟩), .int .i64 i, .agg (bv b)] W fun x W' => x = .returned (.int .i64 (S.write i b).2) ∧ St W0 (Ref p (S.write i b).1 :: L) W' := by
  obtain ⟨F, hd, _, hr⟩ := h.first
  exact (rwrite_any hd hok hN i hb).mono fun _ _ ⟨hx, hd', ht⟩ => ⟨hx, hr _ _ hd' ht⟩
theorem rsync_st (h : St W0 (Ref p S :: L) W) (hok : S.Ok N) (hN : N ≤ 1000000) :
    Calls Try.prog 22 #[.pointer (some ⟨p, 0, none⟩)] W fun x W' => x = .returned (.int .i64 S.sync.2) ∧ St W0 (Ref p S.sync.1 :: L) W' := by
  obtain ⟨F, hd, _, hr⟩ := h.first
  exact (rsync_any hd hok hN).mono fun _ _ ⟨hx, hd', ht⟩ => ⟨hx, hr _ _ (RefIn.mono hd' fun _ _ h => .inl h) ht⟩
theorem rread_st (h : St W0 (Ref p S :: L) W) (hok : S.Ok N) (htd : S.Tied) (hN : N ≤ 1000000) (i : Int) :
    Calls Try.prog 20 #[.pointer (some ⟨p, 0, none⟩), .int .i64 i] W fun x W' => x = .returned (.tuple #[.agg (bv (if S.at_ i = 0 then S.now.getD i.toNat zeroB else zeroB)), .int .i64 (S.at_ i)]) ∧ St W0 (Ref p S :: L) W' ∧ Below W.heap.size W W' := by
  obtain ⟨F, hd, _, hr⟩ := h.first
  exact (rread_any hd hok htd hN i).mono fun _ _ ⟨hx, hb⟩ => ⟨hx, h.turn hb, hb⟩
theorem rcrash_st (h : St W0 (Ref p S :: L) W) (hok : S.Ok N) (hN : N ≤ 1000000) {A : Option Addr} {c : Nat} {keep : List Bool} (hlen : keep.length ≤ 9223372036854775807) (hk : KeepIn W0 A keep) :
    Calls Try.prog 24 #[.pointer (some ⟨p, 0, none⟩), .slice A keep.length c] W fun x W' => x = .returned (.tuple #[]) ∧ St W0 (Ref p (S.crash keep) :: L) W' := by
  obtain ⟨F, hd, hF, hr⟩ := h.first
  exact (rcrash_any hd hok hN hlen (keep_for h hk fun g hg => (hF g hg).1)).mono fun _ _ ⟨hx, hd', ht⟩ => ⟨hx, hr _ _ (RefIn.mono hd' fun _ _ h => .inl h) ht⟩
end
end Go.Proofs.Ythmchbdhikakhaa
/- Extents over a disk, plainly. No program. -/
namespace Go.Cu
structure Ex where
  first : Nat
  count : Nat
  size : Nat
structure Ex.Ok (e : Ex) (n : Nat) : Prop where
  c1 : 1 ≤ e.count
  s1 : 1 ≤ e.size
  c2 : e.count ≤ n
  s2 : e.size ≤ n
  fits : e.first + e.count * e.size ≤ n
  big : n ≤ 8192
theorem Ex.Ok.within {e : Ex} {n : Nat} (h : e.Ok n) {i : Nat} (hi : i < e.count) : e.first + i * e.size + e.size ≤ n := by
  have h1 := h.fits
  have h2 : (i + 1) * e.size ≤ e.count * e.size := Nat.mul_le_mul_right _ hi
  rw [Nat.succ_mul] at h2
  omega
def Ex.of (e : Ex) (b : Int) : Int := if b < e.first ∨ (e.first : Int) + (e.count * e.size : Nat) ≤ b then -1 else (b - e.first) / e.size

/-- One block: noughts are written there, unless it is of noughts. -/
def DS.zstep (S : DS) (p : Nat) : DS × Int := if S.at_ p ≠ 0 then (S, S.at_ p) else if S.now.getD p zeroB = zeroB then (S, 0) else S.write p zeroB
def DS.zeros : Nat → Nat → DS → DS × Int
  | 0, _, S => S.sync
  | n + 1, p, S => if (S.zstep p).2 ≠ 0 then S.zstep p else DS.zeros n (p + 1) (S.zstep p).1
def DS.clear (S : DS) (p n : Nat) : Bool := (List.range n).all fun i => S.now.getD (p + i) zeroB == zeroB
theorem clear_iff {S : DS} {p n : Nat} : S.clear p n = true ↔ ∀ i, i < n → S.now.getD (p + i) zeroB = zeroB := by
  simp [DS.clear]

theorem write_len' (S : DS) (i : Int) (b : Blk8) : (S.write i b).1.now.length = S.now.length := by
  unfold DS.write
  split
  · rfl
  · unfold DS.tick
    split
    · simp [DS.put]
    · split <;> simp [DS.put]
theorem zstep_len (S : DS) (p : Nat) : (S.zstep p).1.now.length = S.now.length := by
  unfold DS.zstep
  split
  · rfl
  · split
    · rfl
    · exact write_len' _ _ _
theorem zstep_ok {S : DS} {N : Nat} (h : S.Ok N) (p : Nat) : (S.zstep p).1.Ok (N + 1) := by
  unfold DS.zstep
  split
  · exact h.mono (Nat.le_succ _)
  · split
    · exact h.mono (Nat.le_succ _)
    · exact h.write _ zeroB_len
theorem zstep_tied {S : DS} (h : S.Tied) (p : Nat) : (S.zstep p).1.Tied := by
  unfold DS.zstep
  split
  · exact h
  · split
    · exact h
    · exact h.write _ _
theorem zeros_ok : ∀ {n p : Nat} {S : DS} {N : Nat}, S.Ok N → (S.zeros n p).1.Ok (N + n)
  | 0, _, _, _, h => h.sync
  | n + 1, p, S, N, h => by
    unfold DS.zeros
    split
    · exact (zstep_ok h p).mono (by omega)
    · exact (zeros_ok (zstep_ok h p)).mono (by omega)
theorem sync_len' (S : DS) : S.sync.1.now.length = S.now.length := by
  unfold DS.sync
  split
  · rfl
  · exact nowOf_len _ _ _
theorem zeros_len : ∀ (n p : Nat) (S : DS), (S.zeros n p).1.now.length = S.now.length
  | 0, _, S => sync_len' S
  | n + 1, p, S => by
    unfold DS.zeros
    split
    · exact zstep_len _ _
    · rw [zeros_len n, zstep_len]
theorem zeros_tied : ∀ {n p : Nat} {S : DS} {N : Nat}, S.Ok N → S.Tied → (S.zeros n p).1.Tied
  | 0, _, _, _, h, ht => ht.sync h.len
  | n + 1, p, S, N, h, ht => by
    unfold DS.zeros
    split
    · exact zstep_tied ht p
    · exact zeros_tied (zstep_ok h p) (zstep_tied ht p)

theorem at_in {S : DS} {p : Nat} (hp : p < S.now.length) : S.at_ p = if S.off then 13 else 0 := by
  unfold DS.at_
  cases S.off
  · simp only [Bool.false_eq_true, if_false]
    rw [if_neg (by omega)]
  · rfl
/-- What a write does that is answered or falls. -/
theorem write_in {S : DS} (ho : S.off = false) {p : Nat} (hp : p < S.now.length) (b : Blk8) :
    (S.write p b).1.now = S.now.set p b ∧ (S.write p b).1.last = S.last ∧ (S.write p b).1.wait = S.wait ++ [(p, b)] ∧
      (((S.write p b).2 = 0 ∧ (S.write p b).1.off = false) ∨ ((S.write p b).2 = 13 ∧ (S.write p b).1.off = true)) ∧ (S.armed = 0 → (S.write p b).2 = 0 ∧ (S.write p b).1.armed = 0) := by
  have hz : S.at_ (p : Int) = 0 := by rw [at_in hp, ho]; rfl
  have e : S.write (p : Int) b = (S.put p b).tick := by unfold DS.write; rw [if_neg (by simpa using hz)]; simp
  rw [e]
  by_cases h0 : S.armed = 0
  · rw [DS.put_tick0 h0]
    exact ⟨rfl, rfl, rfl, .inl ⟨rfl, ho⟩, fun _ => ⟨rfl, h0⟩⟩
  · by_cases h1 : 0 < S.armed - 1
    · rw [DS.put_tick1 h0 h1]
      exact ⟨rfl, rfl, rfl, .inl ⟨rfl, ho⟩, fun h => absurd h h0⟩
    · rw [DS.put_tick2 h0 h1]
      exact ⟨rfl, rfl, rfl, .inr ⟨rfl, rfl⟩, fun h => absurd h h0⟩

/-- What may have become of blocks L, of which those of p to p + n may be noughts. -/
structure Cut (L : List Blk8) (p n : Nat) (S : DS) : Prop where
  len : S.now.length = L.length
  now : ∀ i, i < L.length → S.now.getD i zeroB = L.getD i zeroB ∨ (p ≤ i ∧ i < p + n ∧ S.now.getD i zeroB = zeroB)
  last : ∀ i, i < L.length → S.last.getD i zeroB = L.getD i zeroB ∨ (p ≤ i ∧ i < p + n ∧ S.last.getD i zeroB = zeroB)
  wait : ∀ q ∈ S.wait, p ≤ q.1 ∧ q.1 < p + n ∧ q.2 = zeroB
theorem getD_set {L : List Blk8} {p i : Nat} {b : Blk8} (hi : i < L.length) : (L.set p b).getD i zeroB = if p = i then b else L.getD i zeroB := by
  rw [List.getD_eq_getElem?_getD]
  split
  · rename_i e; subst e; rw [List.getElem?_set_self hi]; rfl
  · rename_i e; rw [List.getElem?_set_ne e, List.getD_eq_getElem?_getD]
theorem lastOf_cut {L : List Blk8} {p n : Nat} (kept : Nat → Bool) : ∀ (l : List (Nat × Blk8)) (k : Nat) (M : List Blk8), (∀ q ∈ l, p ≤ q.1 ∧ q.1 < p + n ∧ q.2 = zeroB) → M.length = L.length →
    (∀ i, i < L.length → M.getD i zeroB = L.getD i zeroB ∨ (p ≤ i ∧ i < p + n ∧ M.getD i zeroB = zeroB)) →
    ∀ i, i < L.length → (lastOf kept k l M).getD i zeroB = L.getD i zeroB ∨ (p ≤ i ∧ i < p + n ∧ (lastOf kept k l M).getD i zeroB = zeroB)
  | [], _, _, _, _, h => h
  | q :: l, k, M, hl, hM, h => by
    rw [lastOf]
    refine lastOf_cut kept l (k + 1) _ (fun r hr => hl r (by simp [hr])) (by split <;> simp [hM]) ?_
    split
    · intro i hi
      rw [getD_set (by omega)]
      obtain ⟨h1, h2, h3⟩ := hl q (by simp)
      split
      · rename_i e; exact .inr ⟨by omega, by omega, h3⟩
      · exact h i hi
    · exact h
theorem Cut.settle {L : List Blk8} {p n : Nat} {S : DS} (h : Cut L p n S) (ht : S.Tied) (hlen : S.last.length = S.now.length) (kept : Nat → Bool) : Cut L p n (S.settle kept) := by
  have e := settle_now ht hlen kept
  have hl : ∀ i, i < L.length → (S.settle kept).last.getD i zeroB = L.getD i zeroB ∨ (p ≤ i ∧ i < p + n ∧ (S.settle kept).last.getD i zeroB = zeroB) :=
    lastOf_cut kept S.wait 0 S.last h.wait (by rw [hlen]; exact h.len) h.last
  exact ⟨(nowOf_len _ _ _).trans h.len, by rw [e]; exact hl, hl, fun q hq => by simp [DS.settle] at hq⟩
theorem Cut.zstep {L : List Blk8} {p n : Nat} {S : DS} (h : Cut L p n S) {k : Nat} (hk : k < n) (hn : p + n ≤ L.length) : Cut L p n (S.zstep (p + k)).1 := by
  have hp : p + k < S.now.length := by rw [h.len]; omega
  unfold DS.zstep
  split
  · exact h
  · split
    · exact h
    · rename_i h0 _
      have ho : S.off = false := by
        rw [at_in hp] at h0
        cases hoff : S.off
        · rfl
        · rw [hoff] at h0; simp at h0
      obtain ⟨w1, w2, w3, _, _⟩ := write_in ho hp zeroB
      refine ⟨by rw [w1]; simpa using h.len, fun i hi => ?_, by rw [w2]; exact h.last, fun q hq => ?_⟩
      · rw [w1, getD_set (by rw [h.len]; exact hi)]
        split
        · rename_i e; exact .inr ⟨by omega, by omega, rfl⟩
        · exact h.now i hi
      · rw [w3] at hq
        simp only [List.mem_append, List.mem_singleton] at hq
        rcases hq with hq | rfl
        · exact h.wait q hq
        · exact ⟨by show p ≤ p + k; omega, by show p + k < p + n; omega, rfl⟩
/-- A zeroing in its rounds: what is cut, and what is answered. -/
theorem zeros_cut {L : List Blk8} {p n : Nat} (hn : p + n ≤ L.length) : ∀ (m k : Nat) (S : DS) (N : Nat), k + m = n → S.Ok N → S.Tied → Cut L p n S → S.off = false → (∀ i, i < k → S.now.getD (p + i) zeroB = zeroB) →
    Cut L p n (S.zeros m (p + k)).1 ∧
      (((S.zeros m (p + k)).2 = 0 ∧ (S.zeros m (p + k)).1.off = false ∧ (S.zeros m (p + k)).1.wait = [] ∧ (∀ i, i < n → (S.zeros m (p + k)).1.now.getD (p + i) zeroB = zeroB)) ∨
        ((S.zeros m (p + k)).2 = 13 ∧ (S.zeros m (p + k)).1.off = true)) ∧ (S.armed = 0 → (S.zeros m (p + k)).2 = 0 ∧ (S.zeros m (p + k)).1.armed = 0)
  | 0, k, S, N, hk, hok, ht, hc, ho, hz => by
    have e : S.sync = (S.settle fun _ => true, 0) := by simp [DS.sync, ho]
    have e1 : (S.settle fun _ => true).now = S.now := (settle_now ht hok.len _).trans (by show lastOf _ 0 S.wait S.last = S.now; exact ht.now.symm)
    show Cut L p n S.sync.1 ∧ _
    unfold DS.zeros
    rw [e]
    refine ⟨hc.settle ht hok.len _, .inl ⟨rfl, ho, rfl, fun i hi => ?_⟩, fun h => ⟨rfl, h⟩⟩
    show (S.settle fun _ => true).now.getD (p + i) zeroB = zeroB
    rw [e1]
    exact hz i (by omega)
  | m + 1, k, S, N, hk, hok, ht, hc, ho, hz => by
    have hp : p + k < S.now.length := by rw [hc.len]; omega
    have h0 : S.at_ ((p + k : Nat) : Int) = 0 := by rw [at_in hp, ho]; rfl
    have hcs := hc.zstep (show k < n by omega) hn
    have hoks := zstep_ok hok (p + k)
    have hts := zstep_tied ht (p + k)
    unfold DS.zeros
    by_cases hb : S.now.getD (p + k) zeroB = zeroB
    · have e : S.zstep (p + k) = (S, 0) := by unfold DS.zstep; rw [if_neg (by simpa using h0), if_pos hb]
      rw [e] at hcs hoks hts ⊢
      rw [if_neg (by simp)]
      exact zeros_cut hn m (k + 1) S _ (by omega) hoks hts hcs ho (fun i hi => by
        by_cases h1 : i < k
        · exact hz i h1
        · have : i = k := by omega
          subst this; exact hb)
    · have e : S.zstep (p + k) = S.write ((p + k : Nat) : Int) zeroB := by unfold DS.zstep; rw [if_neg (by simpa using h0), if_neg hb]
      obtain ⟨w1, w2, w3, w4, w5⟩ := write_in ho hp zeroB
      rw [e] at hcs hoks hts ⊢
      rcases w4 with ⟨a, b⟩ | ⟨a, b⟩
      · rw [if_neg (by rw [a]; decide)]
        have ih := zeros_cut hn m (k + 1) _ _ (by omega) hoks hts hcs b (fun i hi => by
          rw [w1, getD_set (by rw [hc.len]; omega)]
          split
          · rfl
          · exact hz i (by omega))
        exact ⟨ih.1, ih.2.1, fun h => ih.2.2 (w5 h).2⟩
      · rw [if_pos (by rw [a]; decide)]
        exact ⟨hcs, .inr ⟨a, b⟩, fun h => by have := (w5 h).1; rw [a] at this; cases this⟩
theorem Cut.crash {L : List Blk8} {p n : Nat} {S : DS} (h : Cut L p n S) (ht : S.Tied) (hlen : S.last.length = S.now.length) (keep : List Bool) : Cut L p n (S.crash keep) :=
  let h' := h.settle ht hlen (fun k => keep.getD k false)
  ⟨h'.len, h'.now, h'.last, h'.wait⟩
end Go.Cu
/- Extents in memory: what only reads them. -/
namespace Go.Proofs.Ythmchbdhikakhaa
open Go.RowKit Go.Cu
/-- The cells of extents. -/
def extV (p : Nat) (e : Ex) : Array Value := #[.pointer (some ⟨p, 0, none⟩), .int .i64 e.first, .int .i64 e.count, .int .i64 e.size]
theorem ext_cells {W : World} {x p : Nat} {e : Ex} (h : W.heap[x]? = some (.cells (extV p e) 111 (0, 0))) :
    W.cell? ⟨x, 0, none⟩ = some (.pointer (some ⟨p, 0, none⟩)) ∧ W.cell? ⟨x, 1, none⟩ = some (.int .i64 e.first) ∧ W.cell? ⟨x, 2, none⟩ = some (.int .i64 e.count) ∧ W.cell? ⟨x, 3, none⟩ = some (.int .i64 e.size) :=
  ⟨(cell_of_row W x 0 _ _ _ h).trans rfl, (cell_of_row W x 1 _ _ _ h).trans rfl, (cell_of_row W x 2 _ _ _ h).trans rfl, (cell_of_row W x 3 _ _ _ h).trans rfl⟩
set_option maxHeartbeats 400000 in
theorem area_nil (i : Int) (w : World) : Calls Try.prog 35 #[.pointer none, .int .i64 i] w fun r w' => r = .returned (.tuple #[.int .i64 0, .int .i64 0, .int .i64 1]) ∧ w = w' := by
  go_enter Try.func35, Try.ntmps35
  go_wp2
  go_ret3
  exact ⟨rfl, rfl⟩
set_option maxHeartbeats 400000 in
theorem area_out {w : World} {x p : Nat} {e : Ex} {n : Nat} (h : w.heap[x]? = some (.cells (extV p e) 111 (0, 0))) (he : e.Ok n) {i : Int} (hi : i < 0 ∨ (e.count : Int) ≤ i) :
    Calls Try.prog 35 #[.pointer (some ⟨x, 0, none⟩), .int .i64 i] w fun r w' => r = .returned (.tuple #[.int .i64 0, .int .i64 0, .int .i64 1]) ∧ w = w' := by
  obtain ⟨c0, c1, c2, c3⟩ := ext_cells h
  have hb := he.big
  have hc := he.c2
  clear h he
  by_cases h0 : i < 0
  · clear hi
    go_enter Try.func35, Try.ntmps35
    go_wp2
    go_ret3
    exact ⟨rfl, rfl⟩
  · have h1 : (e.count : Int) ≤ i := by omega
    clear hi
    go_enter Try.func35, Try.ntmps35
    go_wp2
    go_ret3
    exact ⟨rfl, rfl⟩
set_option maxHeartbeats 400000 in
theorem area_in {w : World} {x p : Nat} {e : Ex} {n : Nat} (h : w.heap[x]? = some (.cells (extV p e) 111 (0, 0))) (he : e.Ok n) {i : Nat} (hi : i < e.count) :
    Calls Try.prog 35 #[.pointer (some ⟨x, 0, none⟩), .int .i64 i] w fun r w' => r = .returned (.tuple #[.int .i64 (e.first + i * e.size : Nat), .int .i64 e.size, .int .i64 0]) ∧ Below w.heap.size w w' := by
  obtain ⟨c0, c1, c2, c3⟩ := ext_cells h
  have hb := he.big
  have hc := he.c2
  have hs := he.s2
  have hin := he.within hi
  obtain ⟨m, hm⟩ : ∃ m : Nat, m = i * e.size := ⟨_, rfl⟩
  have em : (i : Int) * (e.size : Int) = (m : Int) := by rw [hm]; simp
  rw [← hm] at hin ⊢
  have h0 : ¬ (i : Int) < 0 := by omega
  have h1 : (i : Int) < (e.count : Int) := by omega
  have hm1 : (m : Int) ≤ 8192 := by omega
  have hf1 : (e.first : Int) ≤ 8192 := by omega
  clear h he hi hm hin
  go_enter Try.func35, Try.ntmps35
  go_wp2_with fail
  refine wp_region_ord [] [(0, 1), (1, 1), (2, 1), (3, 1), (4, 1), (5, 1), (6, 1), (7, 1), (8, 1), (9, 1), (10, 1), (11, 1), (12, 1), (13, 1), (14, 1), (15, 1), (16, 1), (17, 1)] (fun X => X = World.drew w) (by kernel_rfl) (by kernel_rfl) (fun d _ c _ _ h => by cases d <;> exact h) rfl (fun X hXe _ => ?_)
  subst hXe
  repeat (apply wpOrd_class; ((· first | (rw [List.getElem?_toArray, List.getElem?_cons_zero]; done) | (simp only [List.getElem?_toArray, List.getElem?_cons_succ, List.getElem?_cons_zero]; exact rfl))); (· exact rfl); intro K hK; apply Exists.intro; refine And.intro (fun X' hX' => ?_) ?_; (· go_simp; (try go_bits); first | done | exact rfl | exact ⟨rfl, rfl⟩); go_simp; refine hK _ _ ?_; clear hK K)
  refine wpOrd_done ?_
  go_wp2
  go_ret3
  exact ⟨rfl, Below.drew (Below.refl _ _)⟩
set_option maxHeartbeats 400000 in
theorem of_nil (i : Int) (w : World) : Calls Try.prog 38 #[.pointer none, .int .i64 i] w fun r w' => r = .returned (.int .i64 (-1)) ∧ Below w.heap.size w w' := by
  go_enter Try.func38, Try.ntmps38
  go_wp2_with fail
  refine wp_region_ord [] [(0, 1), (1, 1), (2, 1), (3, 1), (4, 1), (5, 1), (6, 1), (7, 1), (8, 1), (9, 1), (10, 1), (11, 1), (12, 1), (13, 1), (14, 1), (15, 1), (16, 1), (17, 1), (18, 1), (19, 1), (20, 1), (21, 1), (22, 1), (23, 1), (24, 1), (25, 1), (26, 1), (27, 1)] (fun X => X = World.drew w) (by kernel_rfl) (by kernel_rfl) (fun d _ c _ _ h => by cases d <;> exact h) rfl (fun X hXe _ => ?_)
  subst hXe
  repeat (first | (apply wpOrd_class; ((· first | (rw [List.getElem?_toArray, List.getElem?_cons_zero]; done) | (simp only [List.getElem?_toArray, List.getElem?_cons_succ, List.getElem?_cons_zero]; exact rfl))); (· exact rfl); intro K hK; apply Exists.intro; refine And.intro (fun X' hX' => ?_) ?_; (· go_simp; (try go_bits); first | done | exact rfl | exact ⟨rfl, rfl⟩); go_simp; refine hK _ _ ?_; clear hK K) | (apply wpOrd_skip1; ((· first | (rw [List.getElem?_toArray, List.getElem?_cons_zero]; done) | (simp only [List.getElem?_toArray, List.getElem?_cons_succ, List.getElem?_cons_zero]; exact rfl))); (· exact rfl); intro K hK; go_simp; refine hK _ _ ?_; clear hK K))
  refine wpOrd_done ?_
  go_wp2
  go_ret
  exact ⟨rfl, Below.drew (Below.refl _ _)⟩
set_option maxHeartbeats 400000 in
theorem of_low {w : World} {x p : Nat} {e : Ex} (h : w.heap[x]? = some (.cells (extV p e) 111 (0, 0))) {b : Int} (hlt : b < e.first) :
    Calls Try.prog 38 #[.pointer (some ⟨x, 0, none⟩), .int .i64 b] w fun r w' => r = .returned (.int .i64 (-1)) ∧ Below w.heap.size w w' := by
  obtain ⟨c0, c1, c2, c3⟩ := ext_cells h
  clear h
  go_enter Try.func38, Try.ntmps38
  go_wp2_with fail
  refine wp_region_ord [] [(0, 1), (1, 1), (2, 1), (3, 1), (4, 1), (5, 1), (6, 1), (7, 1), (8, 1), (9, 1), (10, 1), (11, 1), (12, 1), (13, 1), (14, 1), (15, 1), (16, 1), (17, 1), (18, 1), (19, 1), (20, 1), (21, 1), (22, 1), (23, 1), (24, 1), (25, 1), (26, 1), (27, 1)] (fun X => X = World.drew w) (by kernel_rfl) (by kernel_rfl) (fun d _ c _ _ h => by cases d <;> exact h) rfl (fun X hXe _ => ?_)
  subst hXe
  repeat (first | (apply wpOrd_class; ((· first | (rw [List.getElem?_toArray, List.getElem?_cons_zero]; done) | (simp only [List.getElem?_toArray, List.getElem?_cons_succ, List.getElem?_cons_zero]; exact rfl))); (· exact rfl); intro K hK; apply Exists.intro; refine And.intro (fun X' hX' => ?_) ?_; (· go_simp; (try go_bits); first | done | exact rfl | exact ⟨rfl, rfl⟩); go_simp; refine hK _ _ ?_; clear hK K) | (apply wpOrd_skip1; ((· first | (rw [List.getElem?_toArray, List.getElem?_cons_zero]; done) | (simp only [List.getElem?_toArray, List.getElem?_cons_succ, List.getElem?_cons_zero]; exact rfl))); (· exact rfl); intro K hK; go_simp; refine hK _ _ ?_; clear hK K))
  refine wpOrd_done ?_
  go_wp2
  go_ret
  exact ⟨rfl, Below.drew (Below.refl _ _)⟩
set_option maxHeartbeats 400000 in
theorem of_high {w : World} {x p : Nat} {e : Ex} {n : Nat} (h : w.heap[x]? = some (.cells (extV p e) 111 (0, 0))) (he : e.Ok n) {b : Int} (hge : (e.first : Int) + (e.count * e.size : Nat) ≤ b) :
    Calls Try.prog 38 #[.pointer (some ⟨x, 0, none⟩), .int .i64 b] w fun r w' => r = .returned (.int .i64 (-1)) ∧ Below w.heap.size w w' := by
  obtain ⟨c0, c1, c2, c3⟩ := ext_cells h
  have hb := he.big
  have hfit := he.fits
  have hc1 := he.c1
  have hs1 := he.s1
  have hc := he.c2
  have hs := he.s2
  obtain ⟨m, hm⟩ : ∃ m : Nat, m = e.count * e.size := ⟨_, rfl⟩
  have em : (e.count : Int) * (e.size : Int) = (m : Int) := by rw [hm]; simp
  rw [← hm] at hfit hge
  have hm1 : (m : Int) ≤ 8192 := by omega
  have hf1 : (e.first : Int) ≤ 8192 := by omega
  have hl : ¬ b < (e.first : Int) := by omega
  clear h he hm hfit
  go_enter Try.func38, Try.ntmps38
  go_wp2_with fail
  have hdl : decide (b < (e.first : Int)) = false := decide_eq_false (by omega)
  have hdg : decide ((e.first : Int) + (m : Int) ≤ b) = true := decide_eq_true (by omega)
  refine wp_region_ord [] [(0, 1), (1, 1), (2, 1), (3, 1), (4, 1), (5, 1), (6, 1), (7, 1), (8, 1), (9, 1), (10, 1), (11, 1), (12, 1), (13, 1), (14, 1), (15, 1), (16, 1), (17, 1), (18, 1), (19, 1), (20, 1), (21, 1), (22, 1), (23, 1), (24, 1), (25, 1), (26, 1), (27, 1)] (fun X => X = World.drew w) (by kernel_rfl) (by kernel_rfl) (fun d _ c _ _ h => by cases d <;> exact h) rfl (fun X hXe _ => ?_)
  subst hXe
  repeat (first | (apply wpOrd_class; ((· first | (rw [List.getElem?_toArray, List.getElem?_cons_zero]; done) | (simp only [List.getElem?_toArray, List.getElem?_cons_succ, List.getElem?_cons_zero]; exact rfl))); (· exact rfl); intro K hK; apply Exists.intro; refine And.intro (fun X' hX' => ?_) ?_; (· go_simp; (try go_bits); first | done | exact rfl | exact ⟨rfl, rfl⟩); go_simp; refine hK _ _ ?_; clear hK K) | (apply wpOrd_skip1; ((· first | (rw [List.getElem?_toArray, List.getElem?_cons_zero]; done) | (simp only [List.getElem?_toArray, List.getElem?_cons_succ, List.getElem?_cons_zero]; exact rfl))); (· exact rfl); intro K hK; go_simp; refine hK _ _ ?_; clear hK K))
  refine wpOrd_done ?_
  clear hdl hdg
  go_wp2
  go_ret
  exact ⟨rfl, Below.drew (Below.refl _ _)⟩
set_option maxHeartbeats 400000 in
theorem of_in {w : World} {x p : Nat} {e : Ex} {n : Nat} (h : w.heap[x]? = some (.cells (extV p e) 111 (0, 0))) (he : e.Ok n) {b : Int} (hl : (e.first : Int) ≤ b) (hge : b < (e.first : Int) + (e.count * e.size : Nat)) :
    Calls Try.prog 38 #[.pointer (some ⟨x, 0, none⟩), .int .i64 b] w fun r w' => r = .returned (.int .i64 ((b - e.first) / e.size)) ∧ Below w.heap.size w w' := by
  obtain ⟨c0, c1, c2, c3⟩ := ext_cells h
  have hb := he.big
  have hfit := he.fits
  have hc1 := he.c1
  have hs1 := he.s1
  have hc := he.c2
  have hs := he.s2
  obtain ⟨m, hm⟩ : ∃ m : Nat, m = e.count * e.size := ⟨_, rfl⟩
  have em : (e.count : Int) * (e.size : Int) = (m : Int) := by rw [hm]; simp
  rw [← hm] at hfit hge
  have hm1 : (m : Int) ≤ 8192 := by omega
  have hf1 : (e.first : Int) ≤ 8192 := by omega
  have hb1 : b ≤ 16384 := by omega
  have hb0 : 0 ≤ b - (e.first : Int) := by omega
  have hl0 : ¬ b < (e.first : Int) := by omega
  have hs0 : (1 : Int) ≤ (e.size : Int) := by omega
  have hsn : ((e.size : Int) == 0) = false := by rw [beq_eq_false_iff_ne]; omega
  have hg0 : ¬ (e.first : Int) + (m : Int) ≤ b := by omega
  have hd0 : 0 ≤ (b - (e.first : Int)) / (e.size : Int) := Int.ediv_nonneg hb0 (by omega)
  have hd1 : (b - (e.first : Int)) / (e.size : Int) ≤ 16384 := by
    have := Int.ediv_le_self (e.size : Int) hb0
    omega
  clear h he hm hfit
  go_enter Try.func38, Try.ntmps38
  go_wp2_with fail
  have hdl : decide (b < (e.first : Int)) = false := decide_eq_false (by omega)
  have hdg : decide ((e.first : Int) + (m : Int) ≤ b) = false := decide_eq_false (by omega)
  refine wp_region_ord [] [(0, 1), (1, 1), (2, 1), (3, 1), (4, 1), (5, 1), (6, 1), (7, 1), (8, 1), (9, 1), (10, 1), (11, 1), (12, 1), (13, 1), (14, 1), (15, 1), (16, 1), (17, 1), (18, 1), (19, 1), (20, 1), (21, 1), (22, 1), (23, 1), (24, 1), (25, 1), (26, 1), (27, 1)] (fun X => X = World.drew w) (by kernel_rfl) (by kernel_rfl) (fun d _ c _ _ h => by cases d <;> exact h) rfl (fun X hXe _ => ?_)
  subst hXe
  repeat (first | (apply wpOrd_class; ((· first | (rw [List.getElem?_toArray, List.getElem?_cons_zero]; done) | (simp only [List.getElem?_toArray, List.getElem?_cons_succ, List.getElem?_cons_zero]; exact rfl))); (· exact rfl); intro K hK; apply Exists.intro; refine And.intro (fun X' hX' => ?_) ?_; (· go_simp; (try go_bits); first | done | exact rfl | exact ⟨rfl, rfl⟩); go_simp; refine hK _ _ ?_; clear hK K) | (apply wpOrd_skip1; ((· first | (rw [List.getElem?_toArray, List.getElem?_cons_zero]; done) | (simp only [List.getElem?_toArray, List.getElem?_cons_succ, List.getElem?_cons_zero]; exact rfl))); (· exact rfl); intro K hK; go_simp; refine hK _ _ ?_; clear hK K))
  refine wpOrd_done ?_
  clear hdl hdg
  go_wp2_with fail
  have hsz : ¬ e.size = 0 := by omega
  have htd := Int.tdiv_eq_ediv_of_nonneg (b := (e.size : Int)) hb0
  have hwd : IntKind.i64.wrap ((b - (e.first : Int)) / (e.size : Int)) = (b - (e.first : Int)) / (e.size : Int) := IntWalk.i64_in _ ⟨by omega, by omega⟩
  refine wp_region_ord [] [(0, 1), (1, 1), (2, 1), (3, 1), (4, 1), (5, 1), (6, 1), (7, 1), (8, 1), (9, 1), (10, 1), (11, 1)] (fun X => X = World.drew w.drew) (by kernel_rfl) (by kernel_rfl) (fun d _ c _ _ h => by cases d <;> exact h) rfl (fun X hXe _ => ?_)
  subst hXe
  repeat (first | (apply wpOrd_class; ((· first | (rw [List.getElem?_toArray, List.getElem?_cons_zero]; done) | (simp only [List.getElem?_toArray, List.getElem?_cons_succ, List.getElem?_cons_zero]; exact rfl))); (· exact rfl); intro K hK; apply Exists.intro; refine And.intro (fun X' hX' => ?_) ?_; (· go_simp; (try go_bits); first | done | exact rfl | exact ⟨rfl, rfl⟩); go_simp; refine hK _ _ ?_; clear hK K) | (apply wpOrd_skip1; ((· first | (rw [List.getElem?_toArray, List.getElem?_cons_zero]; done) | (simp only [List.getElem?_toArray, List.getElem?_cons_succ, List.getElem?_cons_zero]; exact rfl))); (· exact rfl); intro K hK; go_simp; refine hK _ _ ?_; clear hK K))
  refine wpOrd_done ?_
  go_wp2
  go_ret
  exact ⟨rfl, Below.drew (Below.drew (Below.refl _ _))⟩
theorem of_any {w : World} {x p : Nat} {e : Ex} {n : Nat} (h : w.heap[x]? = some (.cells (extV p e) 111 (0, 0))) (he : e.Ok n) (b : Int) :
    Calls Try.prog 38 #[.pointer (some ⟨x, 0, none⟩), .int .i64 b] w fun r w' => r = .returned (.int .i64 (e.of b)) ∧ Below w.heap.size w w' := by
  unfold Ex.of
  by_cases h1 : b < e.first
  · rw [if_pos (.inl h1)]
    exact of_low h h1
  · by_cases h2 : (e.first : Int) + (e.count * e.size : Nat) ≤ b
    · rw [if_pos (.inr h2)]
      exact of_high h he h2
    · rw [if_neg (by omega)]
      exact of_in h he (by omega) (by omega)
set_option maxHeartbeats 400000 in
theorem xnone_ok (w : World) : Calls Try.prog 34 #[] w fun x w' => x = .returned (.pointer none) ∧ w = w' := by
  go_enter Try.func34, Try.ntmps34
  go_wp2
  go_ret
  exact ⟨rfl, rfl⟩
set_option maxHeartbeats 400000 in
theorem count_nil (w : World) : Calls Try.prog 37 #[.pointer none] w fun x w' => x = .returned (.int .i64 0) ∧ w = w' := by
  go_enter Try.func37, Try.ntmps37
  go_wp2
  go_ret
  exact ⟨rfl, rfl⟩
set_option maxHeartbeats 400000 in
theorem count_any {w : World} {x p : Nat} {e : Ex} (h : w.heap[x]? = some (.cells (extV p e) 111 (0, 0))) : Calls Try.prog 37 #[.pointer (some ⟨x, 0, none⟩)] w fun r w' => r = .returned (.int .i64 e.count) ∧ w = w' := by
  obtain ⟨c0, c1, c2, c3⟩ := ext_cells h
  clear h
  go_enter Try.func37, Try.ntmps37
  go_wp2
  go_ret
  exact ⟨rfl, rfl⟩
end Go.Proofs.Ythmchbdhikakhaa
/- The fixed disk story: disks. -/
namespace Go.Proofs.Ythmchbdhikakhaa
open Go.RowKit Go.Cu
def T0 : DS := DS.new 2
def T1 : DS := (T0.write 0 (oneB 1)).1
def T2 : DS := T1.sync.1
def T3 : DS := (T2.write 0 (oneB 2)).1
def T4 : DS := (T3.write 1 (oneB 3)).1
def T5 : DS := T4.crash [false, true]
theorem T0_ok : T0.Ok 0 := DS.Ok.new (by decide)
theorem T1_ok : T1.Ok 1 := (T0_ok.put (i := 0) (by decide) (oneB_len 1))
theorem T2_ok : T2.Ok 1 := (T1_ok.settle _)
theorem T3_ok : T3.Ok 2 := (T2_ok.put (i := 0) (by decide) (oneB_len 2))
theorem T4_ok : T4.Ok 3 := (T3_ok.put (i := 1) (by decide) (oneB_len 3))
theorem T1_e : (T0.write 0 (oneB 1)).2 = 0 := rfl
theorem T2_e : T1.sync.2 = 0 := rfl
theorem T5_0 : (if T5.at_ 0 = 0 then T5.now.getD (0 : Int).toNat zeroB else zeroB) = oneB 1 := rfl
theorem T5_1 : (if T5.at_ 1 = 0 then T5.now.getD (1 : Int).toNat zeroB else zeroB) = oneB 3 := rfl
theorem T5_e0 : T5.at_ 0 = 0 := rfl
theorem T5_e1 : T5.at_ 1 = 0 := rfl
theorem T5_ok : T5.Ok 3 := T4_ok.crash _
theorem keep_row (W : World) (F : Nat → Prop) (hF : ∀ g, F g → g < W.heap.size) : ∀ j b, [false, true][j]? = some b → ∃ q, some (⟨W.heap.size, 0, none⟩ : Addr) = some q ∧ (q.add j).block < (W.alloc (Obj.cells #[Value.bool false, Value.bool true] 4)).heap.size ∧ ¬ F (q.add j).block ∧ (W.alloc (Obj.cells #[Value.bool false, Value.bool true] 4)).cell? (q.add j) = some (.bool b) := by
  intro j b hj
  have e : (⟨W.heap.size, 0, none⟩ : Addr).add j = ⟨W.heap.size, j, none⟩ := by unfold Addr.add; split <;> simp_all
  refine ⟨_, rfl, ?_⟩
  rw [e]
  refine ⟨by simp, fun h => Nat.lt_irrefl _ (hF _ h), ?_⟩
  rw [cell_of_row _ W.heap.size j #[Value.bool false, Value.bool true] 4 (0, 0) (heap_alloc_at _ _ rfl)]
  match j, hj with
  | 0, hj => cases hj; rfl
  | 1, hj => cases hj; rfl
@[go_sem ↓] theorem bdk33 (a : Act) (dst : Option Tmp) (ps : Array (Nat × Operand)) (ty : TypeId) (pos : String) (after : Array Edge) (guard : Option (Nat × Bool)) :
    execOp a.eval { dst, op := .build 33 ps, type := ty, pos, after, guard } = buildK 33 (ps.map fun (i, x) => (i, a.eval x)) := rfl
set_option maxRecDepth 20000 in
set_option maxHeartbeats 1000000 in
theorem disks_ok (w : World) : Calls Try.prog 14 #[] w fun x w' => x = .returned (.bool true) ∧ Below w.heap.size w w' := by
  have HN : ∀ W, Calls Try.prog 13 #[.int .i64 2] W fun x w' => ∃ p, x = .returned (.tuple #[.pointer (some ⟨p, 0, none⟩), .int .i64 0]) ∧ W.heap.size ≤ p ∧ DiskIn w' p (fun g => W.heap.size ≤ g) T0 ∧ Below W.heap.size W w' := fun W => new_ok (n := 2) (by decide) (by decide) W
  have HNh := hid HN
  clear HN
  have B1 := fun W => run_buildK (build33_1 W)
  have B2 := fun W => run_buildK (build33_2 W)
  have B3 := fun W => run_buildK (build33_3 W)
  go_enter Try.func14, Try.ntmps14
  go_wp2_with (go_at_call 13; refine (HNh.out _).mono ?_; rintro x w1 ⟨p, rfl, hp, hd, hb⟩; have D1 := hid hd; have hB1 := hid hb; have s1 := hb.size; clear hd hb)
  with_reducible refine (write_any D1.out T0_ok (by decide) 0 (oneB_len 1)).mono ?_
  rintro x w2 ⟨hx, hd, ht⟩
  replace hx : x = .returned (.int .i64 0) := hx
  subst hx
  have D2 := hid (DiskIn.mono (G := fun g => w.heap.size ≤ g) (show DiskIn w2 p _ T1 from hd) (fun g _ hf => hf.elim id (fun h => Nat.le_trans s1 h)))
  have s2 := Nat.le_trans s1 ht.size
  have H2 := hid ht
  clear hd ht
  go_wp2_with (go_at_call 16; refine (sync_ok D2.out T1_ok (by decide)).mono ?_; rintro x w3 ⟨hx, hd, ht⟩; replace hx : x = .returned (.int .i64 0) := hx; subst hx; have D3 := hid (show DiskIn w3 p _ T2 from hd); have H3 := hid ht; have s3 := Nat.le_trans s2 ht.size; clear hd ht)
  with_reducible refine (write_any D3.out T2_ok (by decide) 0 (oneB_len 2)).mono ?_
  rintro x w4 ⟨hx, hd, ht⟩
  replace hx : x = .returned (.int .i64 0) := hx
  subst hx
  have D4 := hid (DiskIn.mono (G := fun g => w.heap.size ≤ g) (show DiskIn w4 p _ T3 from hd) (fun g _ hf => hf.elim id (fun h => Nat.le_trans s3 h)))
  have s4 := Nat.le_trans s3 ht.size
  have H4 := hid ht
  clear hd ht
  go_wp2_with fail
  with_reducible refine (write_any D4.out T3_ok (by decide) 1 (oneB_len 3)).mono ?_
  rintro x w5 ⟨hx, hd, ht⟩
  replace hx : x = .returned (.int .i64 0) := hx
  subst hx
  have D5 := hid (DiskIn.mono (G := fun g => w.heap.size ≤ g) (show DiskIn w5 p _ T4 from hd) (fun g _ hf => hf.elim id (fun h => Nat.le_trans s4 h)))
  have s5 := Nat.le_trans s4 ht.size
  have H5 := hid ht
  clear hd ht
  go_wp2_with fail
  have D5' := hid ((D5.out.mono (G := fun g => w.heap.size ≤ g ∧ g < w5.heap.size) (fun g hg hf => ⟨hf, hg⟩)).below ((Below.refl _ _).alloc (Nat.le_refl _) (Obj.cells #[Value.bool false, Value.bool true] 4)))
  have HC := crash_any (keep := [false, true]) (c := 2) D5'.out T4_ok (by decide) (by decide) (keep_row w5 (fun g => w.heap.size ≤ g ∧ g < w5.heap.size) (fun g h => h.2))
  change Calls Try.prog 17 #[.pointer (some ⟨p, 0, none⟩), .slice (some ⟨w5.heap.size, 0, none⟩) 2 2] _ _ at HC
  with_reducible refine HC.mono ?_
  clear HC
  rintro x w6 ⟨rfl, hd, ht⟩
  have D6 := hid (show DiskIn w6 p _ T5 from hd)
  have s6 := Nat.le_trans s5 (Nat.le_trans ((Below.refl w5.heap.size w5).alloc (Nat.le_refl _) (Obj.cells #[Value.bool false, Value.bool true] 4)).size ht.size)
  have H6 := hid (((Tch.of_below (F := fun g => w.heap.size ≤ g) ((Below.refl w5.heap.size w5).alloc (Nat.le_refl _) (Obj.cells #[Value.bool false, Value.bool true] 4)))).trans ht (fun _ h => h) (fun _ _ h => h.1))
  clear hd ht
  go_wp2_with fail
  with_reducible refine (read_any D6.out T5_ok 0).mono ?_
  rintro x w7 ⟨hx, hb7⟩
  replace hx : x = .returned (.tuple #[.agg (bv (oneB 1)), .int .i64 0]) := hx
  subst hx
  have D7 := hid (D6.out.below hb7)
  have HB7 := hid hb7
  have s7 := Nat.le_trans s6 hb7.size
  have HS1 := hid ((bv_size (oneB 1)).trans (oneB_len 1))
  have HS3 := hid ((bv_size (oneB 3)).trans (oneB_len 3))
  clear hb7
  go_wp2_with (first | (refine wpList_alloc 33 rfl rfl (.agg (bv zeroB)) zero33 ?_; intro g5 X1 hg5 hl5 hge5 hX1) | (refine wpList_store_box 33 _ _ rfl g5 rfl rfl (bv (oneB 1)) rfl 128 size33 HS1.out (bv_one _) 33 _ hg5 bvz ?_; intro X2 hR2 hT2 hs2))
  have hb8 := hX1.trans (hT2.below hX1.size (fun i hi => by subst hi; exact hge5))
  have D8 := hid (D7.out.below hb8)
  have HB8 := hid hb8
  have s8 := Nat.le_trans s7 hb8.size
  have HR5 := hid hR2
  have hg5l := lt_of_heap hR2
  clear hb8 hX1 hT2 hR2 hg5 hs2 hl5
  with_reducible refine (read_any D8.out T5_ok 1).mono ?_
  rintro x w8 ⟨hx, hb9⟩
  replace hx : x = .returned (.tuple #[.agg (bv (oneB 3)), .int .i64 0]) := hx
  subst hx
  have HR6 := hid ((hb9.block g5 hg5l).trans HR5.out)
  have HB9 := hid hb9
  have s9 := Nat.le_trans s8 hb9.size
  have hg5w := lt_of_heap HR6.out
  clear hb9
  go_wp2_with (first | (refine wpList_alloc 33 rfl rfl (.agg (bv zeroB)) zero33 ?_; intro g7 X3 hg7 hl7 hge7 hX3) | (refine wpList_store_box 33 _ _ rfl g7 rfl rfl (bv (oneB 3)) rfl 128 size33 HS3.out (bv_one _) 33 _ hg7 bvz ?_; intro X4 hR4 hT4 hs4; have c7 : X4.cell? ⟨g7, 0, none⟩ = some (.int .u8 3) := (cell_of_row X4 g7 0 _ _ _ hR4).trans rfl; have c5 : X4.cell? ⟨g5, 0, none⟩ = some (.int .u8 1) := (cell_of_row X4 g5 0 _ _ _ (((hX3.trans (hT4.below hX3.size (fun i hi => by subst hi; exact hge7))).block g5 hg5w).trans HR6.out)).trans rfl))
  go_ret
  refine ⟨rfl, ?_⟩
  have B1' := (hB1.out.trans (H2.out.below s1 (fun _ h => h)))
  have B2' := ((B1'.trans (H3.out.below s2 (fun _ h => h))).trans (H4.out.below s3 (fun _ h => h))).trans (H5.out.below s4 (fun _ h => h))
  have B3' := ((B2'.trans (H6.out.below s5 (fun _ h => h))).trans (HB7.out.mono s6)).trans (HB8.out.mono s7)
  exact (B3'.trans (HB9.out.mono s8)).trans ((hX3.trans (hT4.below hX3.size (fun i hi => by subst hi; exact hge7))).mono s9)
end Go.Proofs.Ythmchbdhikakhaa
/- DiskJobs: the walk. -/
namespace Go.Proofs.Ythmchbdhikakhaa
open Go.RowKit Go.Cu
structure JobD where
  what : Int
  at_ : Int
  by_ : UInt8
  keep : List Bool
/-- A row of jobs lies in memory. -/
def JobsIn (W : World) (A : Option Addr) (row : List JobD) : Prop := ∀ i j, row[i]? = some j → ∃ g o Ak ck, A = some ⟨g, o, none⟩ ∧ g < W.heap.size ∧ KeepIn W Ak j.keep ∧ j.keep.length ≤ 9223372036854775807 ∧
  -9223372036854775808 ≤ j.what ∧ j.what ≤ 9223372036854775807 ∧ -9223372036854775808 ≤ j.at_ ∧ j.at_ ≤ 9223372036854775807 ∧
  W.cell? ⟨g, o + i * 4, none⟩ = some (.int .i64 j.what) ∧ W.cell? ⟨g, o + i * 4 + 1, none⟩ = some (.int .i64 j.at_) ∧ W.cell? ⟨g, o + i * 4 + 2, none⟩ = some (.int .u8 j.by_.toNat) ∧ W.cell? ⟨g, o + i * 4 + 3, none⟩ = some (.slice Ak j.keep.length ck)
theorem u64_rem (n : Int) (d : Nat) (hd : 0 < d) : ∃ m : Nat, (IntKind.u64.wrap n).tmod d = m ∧ m < d := by
  have h0 : 0 ≤ IntKind.u64.wrap n := by simp [IntKind.wrap, IntKind.signed, IntKind.bits]; omega
  rw [Int.tmod_eq_emod_of_nonneg h0]
  have h1 := Int.emod_nonneg (IntKind.u64.wrap n) (show (d : Int) ≠ 0 by omega)
  have h2 := Int.emod_lt_of_pos (IntKind.u64.wrap n) (show (0 : Int) < d by omega)
  exact ⟨(IntKind.u64.wrap n % d).toNat, by omega, by omega⟩
section
variable {W0 W : World} {L : List Atm}
theorem new_sti (h : St W0 L W) {m : Int} {n : Nat} (e : m = n) (h1 : 1 ≤ n) (h2 : n ≤ 8192) : Calls Try.prog 13 #[.int .i64 m] W fun x W' => ∃ p, x = .returned (.tuple #[.pointer (some ⟨p, 0, none⟩), .int .i64 0]) ∧ St W0 (Disk p (DS.new n) :: L) W' := by
  subst e; exact new_st h h1 h2
theorem rnew_sti (h : St W0 L W) {m : Int} {n : Nat} (e : m = n) (h2 : n ≤ 8192) : Calls Try.prog 19 #[.int .i64 m] W fun x W' => ∃ p, x = .returned (.pointer (some ⟨p, 0, none⟩)) ∧ St W0 (Ref p (DS.new n) :: L) W' := by
  subst e; exact rnew_st h h2
theorem disks_st (h : St W0 L W) : Calls Try.prog 14 #[] W fun x W' => x = .returned (.bool true) ∧ St W0 L W' :=
  (disks_ok W).mono fun _ _ ⟨hx, hb⟩ => ⟨hx, h.turn hb⟩
end
theorem size37 : (Try.prog.info? 37).map (·.size) = some 4 := by kernel_rfl
def zero37v : Value := .agg #[.int .i64 0, .int .i64 0, .int .u8 0, .slice none 0 0]
theorem zero37 (W : World) : (zeroValue 37).run Try.prog W = .ok zero37v W := by kernel_rfl
/-- A job's block. -/
def jobV (j : JobD) (Ak : Option Addr) (ck : Nat) : Array Value := #[.int .i64 j.what, .int .i64 j.at_, .int .u8 j.by_.toNat, .slice Ak j.keep.length ck]
theorem jobV_one (j : JobD) (Ak : Option Addr) (ck : Nat) : ∀ u ∈ (jobV j Ak ck).toList, u.oneCell' = true := by
  intro u hu
  simp only [jobV, List.mem_cons, List.not_mem_nil, or_false] at hu
  rcases hu with rfl | rfl | rfl | rfl <;> rfl
/-- What is written: a byte, and the round's number at the end. -/
def twoB (b : UInt8) (k : Nat) : Bk := b :: List.replicate 126 0 ++ [UInt8.ofNat k]
theorem twoB_len (b : UInt8) (k : Nat) : (twoB b k).length = 128 := by simp [twoB]
set_option maxRecDepth 20000 in
theorem build33_two (b : UInt8) (k : Nat) (W : World) : (Instr.build 33 #[(0, .int .u8 b.toNat), (127, .int .u8 (UInt8.ofNat k).toNat)]).run Try.prog W = .ok (.agg (bv (twoB b k))) W := by
  kernel_rfl
theorem u8_k {k : Nat} (h : k < 256) : ((UInt8.ofNat k).toNat : Int) = (k : Int) := by
  rw [UInt8.toNat_ofNat', Nat.mod_eq_of_lt h]
/-- What is read at a place. -/
def _root_.Go.Cu.DS.rd (S : DS) (i : Int) : Bk := if S.at_ i = 0 then S.now.getD i.toNat zeroB else zeroB
theorem rd_len {S : DS} {N : Nat} (h : S.Ok N) (i : Int) : (S.rd i).length = 128 := by
  unfold DS.rd
  split
  · exact full_getD h.now _
  · exact zeroB_len
theorem write_len (S : DS) (i : Int) (b : Bk) : (S.write i b).1.now.length = S.now.length := by
  unfold DS.write
  split
  · rfl
  · unfold DS.tick
    split
    · simp [DS.put]
    · split <;> simp [DS.put]
theorem settle_len (S : DS) (kept : Nat → Bool) : (S.settle kept).now.length = S.now.length := nowOf_len _ _ _
theorem sync_len (S : DS) : S.sync.1.now.length = S.now.length := by
  unfold DS.sync
  split
  · rfl
  · exact settle_len _ _
theorem crash_len (S : DS) (keep : List Bool) : (S.crash keep).now.length = S.now.length := settle_len _ _
section
variable {W0 W : World} {L : List Atm} {p q : Nat} {S : DS}
theorem read_rd {N : Nat} (h : St W0 (Disk p S :: L) W) (hok : S.Ok N) (i : Int) :
    Calls Try.prog 18 #[.pointer (some ⟨p, 0, none⟩), .int .i64 i] W fun x W' => x = .returned (.tuple #[.agg (bv (S.rd i)), .int .i64 (S.at_ i)]) ∧ St W0 (Disk p S :: L) W' :=
  (read_st h hok i).mono fun _ _ hx => ⟨hx.1, hx.2.1⟩
theorem rread_rd {N : Nat} (h : St W0 (Ref p S :: L) W) (hok : S.Ok N) (htd : S.Tied) (hN : N ≤ 1000000) (i : Int) :
    Calls Try.prog 20 #[.pointer (some ⟨p, 0, none⟩), .int .i64 i] W fun x W' => x = .returned (.tuple #[.agg (bv (S.rd i)), .int .i64 (S.at_ i)]) ∧ St W0 (Ref p S :: L) W' :=
  (rread_st h hok htd hN i).mono fun _ _ hx => ⟨hx.1, hx.2.1⟩
theorem ref_cells (h : St W0 (Ref q S :: L) W) : ∃ (_ : Nat) (A : Option Addr) (c : Nat), W.cell? ⟨q, 1, none⟩ = some (.slice A S.wait.length c) ∧ W.cell? ⟨q, 2, none⟩ = some (.int .i64 S.writes) ∧ W.cell? ⟨q, 3, none⟩ = some (.int .i64 S.armed) ∧
    W.cell? ⟨q, 4, none⟩ = some (.bool S.off) ∧ W.frozen? ⟨q, 3, none⟩ = false := by
  obtain ⟨F, ⟨pl, wv, h⟩, _, _⟩ := h.first
  obtain ⟨A, c, rfl⟩ := own_slice h.wait
  exact ⟨pl, A, c, (cell_of_row W q 1 _ _ _ h.box).trans rfl, (cell_of_row W q 2 _ _ _ h.box).trans rfl, (cell_of_row W q 3 _ _ _ h.box).trans rfl, (cell_of_row W q 4 _ _ _ h.box).trans rfl, frozen_of_row W q 3 _ _ h.box⟩
theorem ref_arm (h : St W0 (Ref q S :: L) W) (n : Int) : St W0 (Ref q (S.arm n) :: L) (W.setCell ⟨q, 3, none⟩ (.int .i64 (max n 0))) := by
  obtain ⟨F, ⟨pl, wv, h⟩, _, hr⟩ := h.first
  have ht := (Tch.refl (· = q) W).setCell (g := q) (i := 3) rfl (.int .i64 (max n 0))
  refine hr _ _ ⟨pl, wv, .inl h.op, .inl h.ol, fun g hg => .inl (h.ow g hg), ?_, ?_, ?_⟩ (ht.mono fun i _ e => by subst e; exact h.op)
  · exact (heap_setCell_same W q 3 _ 51 (.int .i64 (max n 0)) h.box).trans rfl
  · exact (ht.block pl (lt_of_heap h.last) (heap_ne h.last h.box (by decide))).trans h.last
  · exact own_keep h.wait fun g hg => ht.block g (own_lt h.wait hg) (fun e => own_ne h.wait h.box (by decide) (by rw [hg]; exact congrArg some e))
theorem _root_.Go.Cu.St.firsts {a b : Atm} (h : St W0 (a :: b :: L) W) : St W0 [a, b] W := ⟨h.below, let ⟨G, ha, G', hb, _⟩ := h.star; ⟨G, ha, G', hb, trivial⟩⟩
theorem blk_cell {g : Nat} {cs : Array Value} {t : TypeId} (h : St W0 (Blk g cs t :: L) W) (i : Nat) : W.cell? ⟨g, i, none⟩ = cs[i]? := cell_of_row W g i _ _ _ h.blk
end
set_option maxRecDepth 20000 in
set_option maxHeartbeats 8000000 in
theorem jobs_walk {n : Int} {row : List JobD} {A : Option Addr} {c : Nat} (w : World) (hr : JobsIn w A row) :
    Calls Try.prog 4 #[.int .i64 n, .slice A row.length c] w fun x w' => x = .returned (.bool true) ∧ Below w.heap.size w w' := by
  have HR := hid hr
  obtain ⟨m, em, hm⟩ := u64_rem n 6 (by decide)
  simp only [Int.cast_ofNat_Int] at em
  clear hr
  go_enter Try.func4, Try.ntmps4
  go_wp2_with (first | (go_at_call 13; (with_reducible refine (new_sti (St.start w) (n := m + 1) (by omega) (by omega) (by omega)).mono ?_); rintro x w1 ⟨p, rfl, hs1⟩) | (go_at_call 19; (with_reducible refine (rnew_sti hs1 (n := m + 1) (by omega) (by omega)).mono ?_); rintro x w2 ⟨q, rfl, hs2⟩) | (go_at_call 14; (with_reducible refine (disks_st hs2).mono ?_); rintro x w3 ⟨rfl, hs3⟩))
  have HS := hid hs3.at2
  clear hs1 hs2 hs3 em
  go_loopw [8] (fun i X => ∃ k : Nat, k ≤ 60 ∧ i = .int .i64 k ∧ ∃ S : DS, Hid (S.Ok k) ∧ Hid S.Tied ∧ Hid (S.now.length = m + 1) ∧ Hid (St w [Disk p S, Ref q S] X)) (fun i _ => 60 - (intOf i).toNat)
  case atStart => exact ⟨0, by omega, rfl, DS.new (m + 1), hid (DS.Ok.new (by omega)), hid (DS.Tied.new _), hid (by simp [DS.new]), HS⟩
  case round =>
    clear HS
    obtain ⟨k, hk, rfl, S, HOK, HTD, HLN, HS⟩ := hrel
    by_cases hlt : (k : Int) < (row.length : Int) ∧ k < 60
    · obtain ⟨hlt, hk6⟩ := hlt
      obtain ⟨j, hj⟩ : ∃ j, row[k]? = some j := ⟨_, List.getElem?_eq_getElem (by omega)⟩
      obtain ⟨ga, oa, Ak, ck, rfl, hab, hkeep, hkl, b1, b2, b3, b4, c0, c1, c2, c3⟩ := HR.out k j hj
      have d0 := (HS.out.below.cell (p := ⟨ga, oa + k * 4, none⟩) hab).trans c0
      have d1 := (HS.out.below.cell (p := ⟨ga, oa + k * 4 + 1, none⟩) hab).trans c1
      have d2 := (HS.out.below.cell (p := ⟨ga, oa + k * 4 + 2, none⟩) hab).trans c2
      have d3 := (HS.out.below.cell (p := ⟨ga, oa + k * 4 + 3, none⟩) hab).trans c3
      have HK := hid hkeep
      obtain ⟨r, er, hr6⟩ := u64_rem j.what 6 (by decide)
      simp only [Int.cast_ofNat_Int] at er
      have hk60 : (k : Int) < 60 := by omega
      clear c0 c1 c2 c3 hkeep hj hab
      match r, hr6 with
      | 0, _ =>
        go_wp2_with (first | (refine wpList_alloc 37 rfl rfl zero37v zero37 ?_; intro gj W1 hJ hjl hjg hW1) | (refine wpList_store_box 37 _ _ rfl gj rfl rfl (jobV j Ak ck) rfl 4 size37 rfl (jobV_one j Ak ck) 37 _ hJ rfl ?_; intro W2 hJ2 hT2 hs2; have e0 : W2.cell? ⟨gj, 0, none⟩ = some (.int .i64 j.what) := (cell_of_row W2 gj 0 _ _ _ hJ2).trans rfl; have H2 := hid ((HS.out.newBlk hW1 hjg hJ).put hJ2 hT2).back3))
        obtain ⟨S', HOK', HTD', HLN', HT⟩ : ∃ S' : DS, Hid (S'.Ok (k + 1)) ∧ Hid S'.Tied ∧ Hid (S'.now.length = m + 1) ∧ Hid (∃ L, St w (Disk p S' :: Ref q S' :: L) W2) := ⟨S, hid (HOK.out.mono (by omega)), hid HTD.out, hid HLN.out, hid ⟨_, H2.out⟩⟩
        obtain ⟨LL, T0⟩ := HT.out
        obtain ⟨_, AT, cT, r1, r2, _, r4, _⟩ := ref_cells T0.at2
        have HT1 := hid (T0.turn (Below.drew (Below.refl _ _)))
        clear T0
        refine wp_region_ord [] [(0, 1), (2, 1), (3, 1), (4, 1), (5, 1), (1, 2), (6, 1), (7, 1), (8, 1), (10, 1), (11, 1), (12, 1), (13, 1), (9, 2), (14, 1), (15, 1), (16, 1), (17, 1), (19, 1), (20, 1), (21, 1), (22, 1), (23, 1), (18, 2), (24, 1), (25, 1)] (fun X => X = World.drew W2) (by kernel_rfl) (by kernel_rfl) (fun d _ c _ _ h => by cases d <;> exact h) rfl (fun X hXe _ => ?_)
        subst hXe
        repeat (apply wpOrd_class; ((· first | (rw [List.getElem?_toArray, List.getElem?_cons_zero]; done) | (simp only [List.getElem?_toArray, List.getElem?_cons_succ, List.getElem?_cons_zero]; exact rfl))); (· exact rfl); intro K hK; apply Exists.intro; refine And.intro (fun X' hX' => ?_) ?_; (· go_simp; (try go_bits); first | done | exact rfl | exact ⟨rfl, rfl⟩); go_simp; refine hK _ _ ?_; clear hK K)
        (apply wpOrd_comes; ((· first | (rw [List.getElem?_toArray, List.getElem?_cons_zero]; done) | (simp only [List.getElem?_toArray, List.getElem?_cons_succ, List.getElem?_cons_zero]; exact rfl))); intro N hN)
        go_wp2_with (go_at_call 25; (with_reducible refine (down_st HT1.out).mono ?_); rintro x w' ⟨rfl, rfl⟩)
        refine hN _ _ (fun _ => rfl) ?_
        clear hN N
        repeat (apply wpOrd_class; ((· first | (rw [List.getElem?_toArray, List.getElem?_cons_zero]; done) | (simp only [List.getElem?_toArray, List.getElem?_cons_succ, List.getElem?_cons_zero]; exact rfl))); (· exact rfl); intro K hK; apply Exists.intro; refine And.intro (fun X' hX' => ?_) ?_; (· go_simp; (try go_bits); first | done | exact rfl | exact ⟨rfl, rfl⟩); go_simp; refine hK _ _ ?_; clear hK K)
        (apply wpOrd_comes; ((· first | (rw [List.getElem?_toArray, List.getElem?_cons_zero]; done) | (simp only [List.getElem?_toArray, List.getElem?_cons_succ, List.getElem?_cons_zero]; exact rfl))); intro N hN)
        go_wp2_with (go_at_call 26; (with_reducible refine (writes_st HT1.out).mono ?_); rintro x w' ⟨rfl, rfl⟩)
        refine hN _ _ (fun _ => rfl) ?_
        clear hN N
        repeat (apply wpOrd_class; ((· first | (rw [List.getElem?_toArray, List.getElem?_cons_zero]; done) | (simp only [List.getElem?_toArray, List.getElem?_cons_succ, List.getElem?_cons_zero]; exact rfl))); (· exact rfl); intro K hK; apply Exists.intro; refine And.intro (fun X' hX' => ?_) ?_; (· go_simp; (try go_bits); first | done | exact rfl | exact ⟨rfl, rfl⟩); go_simp; refine hK _ _ ?_; clear hK K)
        (apply wpOrd_comes; ((· first | (rw [List.getElem?_toArray, List.getElem?_cons_zero]; done) | (simp only [List.getElem?_toArray, List.getElem?_cons_succ, List.getElem?_cons_zero]; exact rfl))); intro N hN)
        go_wp2_with (go_at_call 27; (with_reducible refine (waiting_st HT1.out).mono ?_); rintro x w' ⟨rfl, rfl⟩)
        refine hN _ _ (fun _ => rfl) ?_
        clear hN N
        repeat (apply wpOrd_class; ((· first | (rw [List.getElem?_toArray, List.getElem?_cons_zero]; done) | (simp only [List.getElem?_toArray, List.getElem?_cons_succ, List.getElem?_cons_zero]; exact rfl))); (· exact rfl); intro K hK; apply Exists.intro; refine And.intro (fun X' hX' => ?_) ?_; (· go_simp; (try go_bits); first | done | exact rfl | exact ⟨rfl, rfl⟩); go_simp; refine hK _ _ ?_; clear hK K)
        refine wpOrd_done ?_
        clear r1 r2 r4
        go_wp2
        go_roundw
        case rel => exact ⟨k + 1, by omega, by go_num, S', HOK', HTD', HLN', hid (HT1.out.firsts)⟩
        case measure => simp [intOf]; omega
      | 1, _ =>
        have HRL := hid (rd_len HOK.out j.at_)
        have HRZ := hid ((bv_size _).trans HRL.out)
        have CM := fun (x y : Operand) (W : World) => run_cmpK_neq (P := Try.prog) guard32 Try.underlying32 be5 cells5 HRL.out HRL.out x y W
        simp only [decide_true, Bool.not_true] at CM
        go_wp2_with (first | (refine wpList_alloc 37 rfl rfl zero37v zero37 ?_; intro gj W1 hJ hjl hjg hW1) | (refine wpList_store_box 37 _ _ rfl gj rfl rfl (jobV j Ak ck) rfl 4 size37 rfl (jobV_one j Ak ck) 37 _ hJ rfl ?_; intro W2 hJ2 hT2 hs2; have e0 : W2.cell? ⟨gj, 0, none⟩ = some (.int .i64 j.what) := (cell_of_row W2 gj 0 _ _ _ hJ2).trans rfl; have e1 : W2.cell? ⟨gj, 1, none⟩ = some (.int .i64 j.at_) := (cell_of_row W2 gj 1 _ _ _ hJ2).trans rfl; have H2 := hid ((HS.out.newBlk hW1 hjg hJ).put hJ2 hT2).back3) | (go_at_call 18; (with_reducible refine (read_rd H2.out HOK.out _).mono ?_); rintro x W3 ⟨rfl, hS3⟩; have H3 := hid hS3; clear hS3) | (refine wpList_alloc 33 rfl rfl (.agg (bv zeroB)) zero33 ?_; intro gA W4 hA hal hag hW4) | (refine wpList_store_box 33 _ _ rfl gA rfl rfl (bv (S.rd j.at_)) rfl 128 size33 HRZ.out (bv_one _) 33 _ hA bvz ?_; intro W5 hA5 hT5 hs5; have H5 := hid ((H3.out.newBlk hW4 hag hA).put hA5 hT5).back3; have g1 : W5.cell? ⟨gj, 1, none⟩ = some (.int .i64 j.at_) := (blk_cell H5.out.at4 1).trans rfl) | (go_at_call 20; (with_reducible refine (rread_rd H5.out.at2 HOK.out HTD.out (by omega) _).mono ?_); rintro x W6 ⟨rfl, hS6⟩; have H6 := hid hS6; clear hS6) | (refine wpList_alloc 32 rfl rfl (.agg (bv zeroB)) zero32 ?_; intro gB W7 hB hbl hbg hW7) | (refine wpList_store_box 32 _ _ rfl gB rfl rfl (bv (S.rd j.at_)) rfl 128 size32 HRZ.out (bv_one _) 32 _ hB bvz ?_; intro W8 hB8 hT8 hs8; have H8 := hid ((H6.out.newBlk hW7 hbg hB).put hB8 hT8).back3.at2; have LA : (loadK 33 (.pointer (some ⟨gA, 0, none⟩))).run Try.prog W8 = .ok (.value (.agg (bv (S.rd j.at_)))) W8 := run_loadK_box H8.out.at4.blk Try.underlying33 rfl size33 HRZ.out; have LB : (loadK 32 (.pointer (some ⟨gB, 0, none⟩))).run Try.prog W8 = .ok (.value (.agg (bv (S.rd j.at_)))) W8 := run_loadK_box hB8 Try.underlying32 rfl size32 HRZ.out))
        clear LA LB CM hB8 g1
        obtain ⟨S', HOK', HTD', HLN', HT⟩ : ∃ S' : DS, Hid (S'.Ok (k + 1)) ∧ Hid S'.Tied ∧ Hid (S'.now.length = m + 1) ∧ Hid (∃ L, St w (Disk p S' :: Ref q S' :: L) W8) := ⟨S, hid (HOK.out.mono (by omega)), hid HTD.out, hid HLN.out, hid ⟨_, H8.out⟩⟩
        obtain ⟨LL, T0⟩ := HT.out
        obtain ⟨_, AT, cT, r1, r2, _, r4, _⟩ := ref_cells T0.at2
        have HT1 := hid (T0.turn (Below.drew (Below.refl _ _)))
        clear T0
        refine wp_region_ord [] [(0, 1), (2, 1), (3, 1), (4, 1), (5, 1), (1, 2), (6, 1), (7, 1), (8, 1), (10, 1), (11, 1), (12, 1), (13, 1), (9, 2), (14, 1), (15, 1), (16, 1), (17, 1), (19, 1), (20, 1), (21, 1), (22, 1), (23, 1), (18, 2), (24, 1), (25, 1)] (fun X => X = World.drew W8) (by kernel_rfl) (by kernel_rfl) (fun d _ c _ _ h => by cases d <;> exact h) rfl (fun X hXe _ => ?_)
        subst hXe
        repeat (apply wpOrd_class; ((· first | (rw [List.getElem?_toArray, List.getElem?_cons_zero]; done) | (simp only [List.getElem?_toArray, List.getElem?_cons_succ, List.getElem?_cons_zero]; exact rfl))); (· exact rfl); intro K hK; apply Exists.intro; refine And.intro (fun X' hX' => ?_) ?_; (· go_simp; (try go_bits); first | done | exact rfl | exact ⟨rfl, rfl⟩); go_simp; refine hK _ _ ?_; clear hK K)
        (apply wpOrd_comes; ((· first | (rw [List.getElem?_toArray, List.getElem?_cons_zero]; done) | (simp only [List.getElem?_toArray, List.getElem?_cons_succ, List.getElem?_cons_zero]; exact rfl))); intro N hN)
        go_wp2_with (go_at_call 25; (with_reducible refine (down_st HT1.out).mono ?_); rintro x w' ⟨rfl, rfl⟩)
        refine hN _ _ (fun _ => rfl) ?_
        clear hN N
        repeat (apply wpOrd_class; ((· first | (rw [List.getElem?_toArray, List.getElem?_cons_zero]; done) | (simp only [List.getElem?_toArray, List.getElem?_cons_succ, List.getElem?_cons_zero]; exact rfl))); (· exact rfl); intro K hK; apply Exists.intro; refine And.intro (fun X' hX' => ?_) ?_; (· go_simp; (try go_bits); first | done | exact rfl | exact ⟨rfl, rfl⟩); go_simp; refine hK _ _ ?_; clear hK K)
        (apply wpOrd_comes; ((· first | (rw [List.getElem?_toArray, List.getElem?_cons_zero]; done) | (simp only [List.getElem?_toArray, List.getElem?_cons_succ, List.getElem?_cons_zero]; exact rfl))); intro N hN)
        go_wp2_with (go_at_call 26; (with_reducible refine (writes_st HT1.out).mono ?_); rintro x w' ⟨rfl, rfl⟩)
        refine hN _ _ (fun _ => rfl) ?_
        clear hN N
        repeat (apply wpOrd_class; ((· first | (rw [List.getElem?_toArray, List.getElem?_cons_zero]; done) | (simp only [List.getElem?_toArray, List.getElem?_cons_succ, List.getElem?_cons_zero]; exact rfl))); (· exact rfl); intro K hK; apply Exists.intro; refine And.intro (fun X' hX' => ?_) ?_; (· go_simp; (try go_bits); first | done | exact rfl | exact ⟨rfl, rfl⟩); go_simp; refine hK _ _ ?_; clear hK K)
        (apply wpOrd_comes; ((· first | (rw [List.getElem?_toArray, List.getElem?_cons_zero]; done) | (simp only [List.getElem?_toArray, List.getElem?_cons_succ, List.getElem?_cons_zero]; exact rfl))); intro N hN)
        go_wp2_with (go_at_call 27; (with_reducible refine (waiting_st HT1.out).mono ?_); rintro x w' ⟨rfl, rfl⟩)
        refine hN _ _ (fun _ => rfl) ?_
        clear hN N
        repeat (apply wpOrd_class; ((· first | (rw [List.getElem?_toArray, List.getElem?_cons_zero]; done) | (simp only [List.getElem?_toArray, List.getElem?_cons_succ, List.getElem?_cons_zero]; exact rfl))); (· exact rfl); intro K hK; apply Exists.intro; refine And.intro (fun X' hX' => ?_) ?_; (· go_simp; (try go_bits); first | done | exact rfl | exact ⟨rfl, rfl⟩); go_simp; refine hK _ _ ?_; clear hK K)
        refine wpOrd_done ?_
        clear r1 r2 r4
        go_wp2
        go_roundw
        case rel => exact ⟨k + 1, by omega, by go_num, S', HOK', HTD', HLN', hid (HT1.out.firsts)⟩
        case measure => simp [intOf]; omega
      | 2, _ =>
        have HRZ := hid ((bv_size _).trans (twoB_len j.by_ k))
        have BB := fun W => run_buildK (build33_two j.by_ k W)
        rw [u8_k (show k < 256 by omega)] at BB
        go_wp2_with (first | (refine wpList_alloc 37 rfl rfl zero37v zero37 ?_; intro gj W1 hJ hjl hjg hW1) | (refine wpList_store_box 37 _ _ rfl gj rfl rfl (jobV j Ak ck) rfl 4 size37 rfl (jobV_one j Ak ck) 37 _ hJ rfl ?_; intro W2 hJ2 hT2 hs2; have e0 : W2.cell? ⟨gj, 0, none⟩ = some (.int .i64 j.what) := (cell_of_row W2 gj 0 _ _ _ hJ2).trans rfl; have e1 : W2.cell? ⟨gj, 1, none⟩ = some (.int .i64 j.at_) := (cell_of_row W2 gj 1 _ _ _ hJ2).trans rfl; have e2 : W2.cell? ⟨gj, 2, none⟩ = some (.int .u8 j.by_.toNat) := (cell_of_row W2 gj 2 _ _ _ hJ2).trans rfl; have H2 := hid ((HS.out.newBlk hW1 hjg hJ).put hJ2 hT2).back3) | (refine wpList_alloc 33 rfl rfl (.agg (bv zeroB)) zero33 ?_; intro gA W4 hA hal hag hW4) | (refine wpList_store_box 33 _ _ rfl gA rfl rfl (bv (twoB j.by_ k)) rfl 128 size33 HRZ.out (bv_one _) 33 _ hA bvz ?_; intro W5 hA5 hT5 hs5; have H5 := hid ((H2.out.newBlk hW4 hag hA).put hA5 hT5).back3))
        clear BB
        have H5' := hid (H5.out.turn (Below.drew (Below.refl _ _)))
        refine wp_region_ord [] [(0, 1), (1, 1), (2, 1), (3, 1), (5, 1), (6, 1), (7, 1), (8, 1), (4, 2), (9, 2), (10, 1)] (fun X => X.cell? ⟨gj, 1, none⟩ = some (.int .i64 j.at_) ∧ (loadK 33 (.pointer (some ⟨gA, 0, none⟩))).run Try.prog X = .ok (.value (.agg (bv (twoB j.by_ k)))) X) (by kernel_rfl) (by kernel_rfl) (fun d _ c _ _ h => by cases d <;> exact h) ⟨(blk_cell H5'.out.at4 1).trans rfl, run_loadK_box H5'.out.at3.blk Try.underlying33 rfl size33 HRZ.out⟩ (fun X hXe _ => ?_)
        subst hXe
        repeat (apply wpOrd_class; ((· first | (rw [List.getElem?_toArray, List.getElem?_cons_zero]; done) | (simp only [List.getElem?_toArray, List.getElem?_cons_succ, List.getElem?_cons_zero]; exact rfl))); (· exact rfl); intro K hK; apply Exists.intro; refine And.intro (fun X' hX' => ?_) ?_; (· have hX1 := hX'.1; have hX2 := hX'.2; clear hX'; go_simp; (try go_bits); first | done | exact rfl | exact ⟨rfl, rfl⟩); go_simp; refine hK _ _ ?_; clear hK K)
        (apply wpOrd_comes; ((· first | (rw [List.getElem?_toArray, List.getElem?_cons_zero]; done) | (simp only [List.getElem?_toArray, List.getElem?_cons_succ, List.getElem?_cons_zero]; exact rfl))); intro N hN)
        go_wp2_with (go_at_call 15; (with_reducible refine (write_st H5'.out HOK.out (by omega) _ (twoB_len j.by_ k)).mono ?_); rintro x W6 ⟨rfl, hS6⟩; have H6 := hid hS6; clear hS6)
        refine hN _ _ (fun _ => ⟨(blk_cell H6.out.at4 1).trans rfl, run_loadK_box H6.out.at3.blk Try.underlying33 rfl size33 HRZ.out⟩) ?_
        clear hN N
        (apply wpOrd_comes; ((· first | (rw [List.getElem?_toArray, List.getElem?_cons_zero]; done) | (simp only [List.getElem?_toArray, List.getElem?_cons_succ, List.getElem?_cons_zero]; exact rfl))); intro N hN)
        go_wp2_with (go_at_call 21; (with_reducible refine (rwrite_st H6.out.at2 HOK.out (by omega) _ (twoB_len j.by_ k)).mono ?_); rintro x W7 ⟨rfl, hS7⟩; have H7 := hid hS7.at2; clear hS7)
        refine hN _ _ (fun _ => ⟨(blk_cell H7.out.at4 1).trans rfl, run_loadK_box H7.out.at3.blk Try.underlying33 rfl size33 HRZ.out⟩) ?_
        clear hN N
        repeat (apply wpOrd_class; ((· first | (rw [List.getElem?_toArray, List.getElem?_cons_zero]; done) | (simp only [List.getElem?_toArray, List.getElem?_cons_succ, List.getElem?_cons_zero]; exact rfl))); (· exact rfl); intro K hK; apply Exists.intro; refine And.intro (fun X' hX' => ?_) ?_; (· have hX1 := hX'.1; have hX2 := hX'.2; clear hX'; go_simp; (try go_bits); first | done | exact rfl | exact ⟨rfl, rfl⟩); go_simp; refine hK _ _ ?_; clear hK K)
        refine wpOrd_done ?_
        go_wp2_with fail
        obtain ⟨S', HOK', HTD', HLN', HT⟩ : ∃ S' : DS, Hid (S'.Ok (k + 1)) ∧ Hid S'.Tied ∧ Hid (S'.now.length = m + 1) ∧ Hid (∃ L, St w (Disk p S' :: Ref q S' :: L) W7) := ⟨(S.write j.at_ (twoB j.by_ k)).1, hid (HOK.out.write _ (twoB_len j.by_ k)), hid (HTD.out.write _ _), hid ((write_len S _ _).trans HLN.out), hid ⟨_, H7.out⟩⟩
        obtain ⟨LL, T0⟩ := HT.out
        obtain ⟨_, AT, cT, r1, r2, _, r4, _⟩ := ref_cells T0.at2
        have HT1 := hid (T0.turn (Below.drew (Below.refl _ _)))
        clear T0
        refine wp_region_ord [] [(0, 1), (2, 1), (3, 1), (4, 1), (5, 1), (1, 2), (6, 1), (7, 1), (8, 1), (10, 1), (11, 1), (12, 1), (13, 1), (9, 2), (14, 1), (15, 1), (16, 1), (17, 1), (19, 1), (20, 1), (21, 1), (22, 1), (23, 1), (18, 2), (24, 1), (25, 1)] (fun X => X = World.drew W7) (by kernel_rfl) (by kernel_rfl) (fun d _ c _ _ h => by cases d <;> exact h) rfl (fun X hXe _ => ?_)
        subst hXe
        repeat (apply wpOrd_class; ((· first | (rw [List.getElem?_toArray, List.getElem?_cons_zero]; done) | (simp only [List.getElem?_toArray, List.getElem?_cons_succ, List.getElem?_cons_zero]; exact rfl))); (· exact rfl); intro K hK; apply Exists.intro; refine And.intro (fun X' hX' => ?_) ?_; (· go_simp; (try go_bits); first | done | exact rfl | exact ⟨rfl, rfl⟩); go_simp; refine hK _ _ ?_; clear hK K)
        (apply wpOrd_comes; ((· first | (rw [List.getElem?_toArray, List.getElem?_cons_zero]; done) | (simp only [List.getElem?_toArray, List.getElem?_cons_succ, List.getElem?_cons_zero]; exact rfl))); intro N hN)
        go_wp2_with (go_at_call 25; (with_reducible refine (down_st HT1.out).mono ?_); rintro x w' ⟨rfl, rfl⟩)
        refine hN _ _ (fun _ => rfl) ?_
        clear hN N
        repeat (apply wpOrd_class; ((· first | (rw [List.getElem?_toArray, List.getElem?_cons_zero]; done) | (simp only [List.getElem?_toArray, List.getElem?_cons_succ, List.getElem?_cons_zero]; exact rfl))); (· exact rfl); intro K hK; apply Exists.intro; refine And.intro (fun X' hX' => ?_) ?_; (· go_simp; (try go_bits); first | done | exact rfl | exact ⟨rfl, rfl⟩); go_simp; refine hK _ _ ?_; clear hK K)
        (apply wpOrd_comes; ((· first | (rw [List.getElem?_toArray, List.getElem?_cons_zero]; done) | (simp only [List.getElem?_toArray, List.getElem?_cons_succ, List.getElem?_cons_zero]; exact rfl))); intro N hN)
        go_wp2_with (go_at_call 26; (with_reducible refine (writes_st HT1.out).mono ?_); rintro x w' ⟨rfl, rfl⟩)
        refine hN _ _ (fun _ => rfl) ?_
        clear hN N
        repeat (apply wpOrd_class; ((· first | (rw [List.getElem?_toArray, List.getElem?_cons_zero]; done) | (simp only [List.getElem?_toArray, List.getElem?_cons_succ, List.getElem?_cons_zero]; exact rfl))); (· exact rfl); intro K hK; apply Exists.intro; refine And.intro (fun X' hX' => ?_) ?_; (· go_simp; (try go_bits); first | done | exact rfl | exact ⟨rfl, rfl⟩); go_simp; refine hK _ _ ?_; clear hK K)
        (apply wpOrd_comes; ((· first | (rw [List.getElem?_toArray, List.getElem?_cons_zero]; done) | (simp only [List.getElem?_toArray, List.getElem?_cons_succ, List.getElem?_cons_zero]; exact rfl))); intro N hN)
        go_wp2_with (go_at_call 27; (with_reducible refine (waiting_st HT1.out).mono ?_); rintro x w' ⟨rfl, rfl⟩)
        refine hN _ _ (fun _ => rfl) ?_
        clear hN N
        repeat (apply wpOrd_class; ((· first | (rw [List.getElem?_toArray, List.getElem?_cons_zero]; done) | (simp only [List.getElem?_toArray, List.getElem?_cons_succ, List.getElem?_cons_zero]; exact rfl))); (· exact rfl); intro K hK; apply Exists.intro; refine And.intro (fun X' hX' => ?_) ?_; (· go_simp; (try go_bits); first | done | exact rfl | exact ⟨rfl, rfl⟩); go_simp; refine hK _ _ ?_; clear hK K)
        refine wpOrd_done ?_
        clear r1 r2 r4
        go_wp2
        go_roundw
        case rel => exact ⟨k + 1, by omega, by go_num, S', HOK', HTD', HLN', hid (HT1.out.firsts)⟩
        case measure => simp [intOf]; omega
      | 3, _ =>
        go_wp2_with (first | (refine wpList_alloc 37 rfl rfl zero37v zero37 ?_; intro gj W1 hJ hjl hjg hW1) | (refine wpList_store_box 37 _ _ rfl gj rfl rfl (jobV j Ak ck) rfl 4 size37 rfl (jobV_one j Ak ck) 37 _ hJ rfl ?_; intro W2 hJ2 hT2 hs2; have e0 : W2.cell? ⟨gj, 0, none⟩ = some (.int .i64 j.what) := (cell_of_row W2 gj 0 _ _ _ hJ2).trans rfl; have H2 := hid ((HS.out.newBlk hW1 hjg hJ).put hJ2 hT2).back3) | (go_at_call 16; (with_reducible refine (sync_st H2.out HOK.out (by omega)).mono ?_); rintro x W3 ⟨rfl, hS3⟩; have H3 := hid hS3; clear hS3) | (go_at_call 22; (with_reducible refine (rsync_st H3.out.at2 HOK.out (by omega)).mono ?_); rintro x W4 ⟨rfl, hS4⟩; have H4 := hid hS4.at2; clear hS4))
        obtain ⟨S', HOK', HTD', HLN', HT⟩ : ∃ S' : DS, Hid (S'.Ok (k + 1)) ∧ Hid S'.Tied ∧ Hid (S'.now.length = m + 1) ∧ Hid (∃ L, St w (Disk p S' :: Ref q S' :: L) W4) := ⟨S.sync.1, hid (HOK.out.sync.mono (by omega)), hid (HTD.out.sync HOK.out.len), hid ((sync_len S).trans HLN.out), hid ⟨_, H4.out⟩⟩
        obtain ⟨LL, T0⟩ := HT.out
        obtain ⟨_, AT, cT, r1, r2, _, r4, _⟩ := ref_cells T0.at2
        have HT1 := hid (T0.turn (Below.drew (Below.refl _ _)))
        clear T0
        refine wp_region_ord [] [(0, 1), (2, 1), (3, 1), (4, 1), (5, 1), (1, 2), (6, 1), (7, 1), (8, 1), (10, 1), (11, 1), (12, 1), (13, 1), (9, 2), (14, 1), (15, 1), (16, 1), (17, 1), (19, 1), (20, 1), (21, 1), (22, 1), (23, 1), (18, 2), (24, 1), (25, 1)] (fun X => X = World.drew W4) (by kernel_rfl) (by kernel_rfl) (fun d _ c _ _ h => by cases d <;> exact h) rfl (fun X hXe _ => ?_)
        subst hXe
        repeat (apply wpOrd_class; ((· first | (rw [List.getElem?_toArray, List.getElem?_cons_zero]; done) | (simp only [List.getElem?_toArray, List.getElem?_cons_succ, List.getElem?_cons_zero]; exact rfl))); (· exact rfl); intro K hK; apply Exists.intro; refine And.intro (fun X' hX' => ?_) ?_; (· go_simp; (try go_bits); first | done | exact rfl | exact ⟨rfl, rfl⟩); go_simp; refine hK _ _ ?_; clear hK K)
        (apply wpOrd_comes; ((· first | (rw [List.getElem?_toArray, List.getElem?_cons_zero]; done) | (simp only [List.getElem?_toArray, List.getElem?_cons_succ, List.getElem?_cons_zero]; exact rfl))); intro N hN)
        go_wp2_with (go_at_call 25; (with_reducible refine (down_st HT1.out).mono ?_); rintro x w' ⟨rfl, rfl⟩)
        refine hN _ _ (fun _ => rfl) ?_
        clear hN N
        repeat (apply wpOrd_class; ((· first | (rw [List.getElem?_toArray, List.getElem?_cons_zero]; done) | (simp only [List.getElem?_toArray, List.getElem?_cons_succ, List.getElem?_cons_zero]; exact rfl))); (· exact rfl); intro K hK; apply Exists.intro; refine And.intro (fun X' hX' => ?_) ?_; (· go_simp; (try go_bits); first | done | exact rfl | exact ⟨rfl, rfl⟩); go_simp; refine hK _ _ ?_; clear hK K)
        (apply wpOrd_comes; ((· first | (rw [List.getElem?_toArray, List.getElem?_cons_zero]; done) | (simp only [List.getElem?_toArray, List.getElem?_cons_succ, List.getElem?_cons_zero]; exact rfl))); intro N hN)
        go_wp2_with (go_at_call 26; (with_reducible refine (writes_st HT1.out).mono ?_); rintro x w' ⟨rfl, rfl⟩)
        refine hN _ _ (fun _ => rfl) ?_
        clear hN N
        repeat (apply wpOrd_class; ((· first | (rw [List.getElem?_toArray, List.getElem?_cons_zero]; done) | (simp only [List.getElem?_toArray, List.getElem?_cons_succ, List.getElem?_cons_zero]; exact rfl))); (· exact rfl); intro K hK; apply Exists.intro; refine And.intro (fun X' hX' => ?_) ?_; (· go_simp; (try go_bits); first | done | exact rfl | exact ⟨rfl, rfl⟩); go_simp; refine hK _ _ ?_; clear hK K)
        (apply wpOrd_comes; ((· first | (rw [List.getElem?_toArray, List.getElem?_cons_zero]; done) | (simp only [List.getElem?_toArray, List.getElem?_cons_succ, List.getElem?_cons_zero]; exact rfl))); intro N hN)
        go_wp2_with (go_at_call 27; (with_reducible refine (waiting_st HT1.out).mono ?_); rintro x w' ⟨rfl, rfl⟩)
        refine hN _ _ (fun _ => rfl) ?_
        clear hN N
        repeat (apply wpOrd_class; ((· first | (rw [List.getElem?_toArray, List.getElem?_cons_zero]; done) | (simp only [List.getElem?_toArray, List.getElem?_cons_succ, List.getElem?_cons_zero]; exact rfl))); (· exact rfl); intro K hK; apply Exists.intro; refine And.intro (fun X' hX' => ?_) ?_; (· go_simp; (try go_bits); first | done | exact rfl | exact ⟨rfl, rfl⟩); go_simp; refine hK _ _ ?_; clear hK K)
        refine wpOrd_done ?_
        clear r1 r2 r4
        go_wp2
        go_roundw
        case rel => exact ⟨k + 1, by omega, by go_num, S', HOK', HTD', HLN', hid (HT1.out.firsts)⟩
        case measure => simp [intOf]; omega
      | 4, _ =>
        by_cases hpos : 0 ≤ j.at_
        · have hmax : max j.at_ 0 = j.at_ := by omega
          go_wp2_with (first | (refine wpList_alloc 37 rfl rfl zero37v zero37 ?_; intro gj W1 hJ hjl hjg hW1) | (refine wpList_store_box 37 _ _ rfl gj rfl rfl (jobV j Ak ck) rfl 4 size37 rfl (jobV_one j Ak ck) 37 _ hJ rfl ?_; intro W2 hJ2 hT2 hs2; have e0 : W2.cell? ⟨gj, 0, none⟩ = some (.int .i64 j.what) := (cell_of_row W2 gj 0 _ _ _ hJ2).trans rfl; have e1 : W2.cell? ⟨gj, 1, none⟩ = some (.int .i64 j.at_) := (cell_of_row W2 gj 1 _ _ _ hJ2).trans rfl; have H2 := hid ((HS.out.newBlk hW1 hjg hJ).put hJ2 hT2).back3) | (go_at_call 23; (with_reducible refine (arm_st H2.out _).mono ?_); rintro x W3 ⟨rfl, hS3⟩; obtain ⟨_, _, _, _, _, c3, _, f3⟩ := ref_cells hS3.at2; have g1 : W3.cell? ⟨gj, 1, none⟩ = some (.int .i64 j.at_) := (blk_cell hS3.at3 1).trans rfl; have H3 := hid hS3; clear hS3))
          have hS4 := (ref_arm H3.out.at2 j.at_).at2
          rw [hmax] at hS4
          have H4 := hid hS4
          clear hS4 c3 f3 g1
          obtain ⟨W4, hW4⟩ : ∃ W4, W4 = W3.setCell ⟨q, 3, none⟩ (.int .i64 j.at_) := ⟨_, rfl⟩
          rw [← hW4] at H4 ⊢
          clear hW4
          obtain ⟨S', HOK', HTD', HLN', HT⟩ : ∃ S' : DS, Hid (S'.Ok (k + 1)) ∧ Hid S'.Tied ∧ Hid (S'.now.length = m + 1) ∧ Hid (∃ L, St w (Disk p S' :: Ref q S' :: L) W4) := ⟨(S.arm j.at_), hid ((HOK.out.arm b4).mono (by omega)), hid (HTD.out.arm _), hid HLN.out, hid ⟨_, H4.out⟩⟩
          obtain ⟨LL, T0⟩ := HT.out
          obtain ⟨_, AT, cT, r1, r2, _, r4, _⟩ := ref_cells T0.at2
          have HT1 := hid (T0.turn (Below.drew (Below.refl _ _)))
          clear T0
          refine wp_region_ord [] [(0, 1), (2, 1), (3, 1), (4, 1), (5, 1), (1, 2), (6, 1), (7, 1), (8, 1), (10, 1), (11, 1), (12, 1), (13, 1), (9, 2), (14, 1), (15, 1), (16, 1), (17, 1), (19, 1), (20, 1), (21, 1), (22, 1), (23, 1), (18, 2), (24, 1), (25, 1)] (fun X => X = World.drew W4) (by kernel_rfl) (by kernel_rfl) (fun d _ c _ _ h => by cases d <;> exact h) rfl (fun X hXe _ => ?_)
          subst hXe
          repeat (apply wpOrd_class; ((· first | (rw [List.getElem?_toArray, List.getElem?_cons_zero]; done) | (simp only [List.getElem?_toArray, List.getElem?_cons_succ, List.getElem?_cons_zero]; exact rfl))); (· exact rfl); intro K hK; apply Exists.intro; refine And.intro (fun X' hX' => ?_) ?_; (· go_simp; (try go_bits); first | done | exact rfl | exact ⟨rfl, rfl⟩); go_simp; refine hK _ _ ?_; clear hK K)
          (apply wpOrd_comes; ((· first | (rw [List.getElem?_toArray, List.getElem?_cons_zero]; done) | (simp only [List.getElem?_toArray, List.getElem?_cons_succ, List.getElem?_cons_zero]; exact rfl))); intro N hN)
          go_wp2_with (go_at_call 25; (with_reducible refine (down_st HT1.out).mono ?_); rintro x w' ⟨rfl, rfl⟩)
          refine hN _ _ (fun _ => rfl) ?_
          clear hN N
          repeat (apply wpOrd_class; ((· first | (rw [List.getElem?_toArray, List.getElem?_cons_zero]; done) | (simp only [List.getElem?_toArray, List.getElem?_cons_succ, List.getElem?_cons_zero]; exact rfl))); (· exact rfl); intro K hK; apply Exists.intro; refine And.intro (fun X' hX' => ?_) ?_; (· go_simp; (try go_bits); first | done | exact rfl | exact ⟨rfl, rfl⟩); go_simp; refine hK _ _ ?_; clear hK K)
          (apply wpOrd_comes; ((· first | (rw [List.getElem?_toArray, List.getElem?_cons_zero]; done) | (simp only [List.getElem?_toArray, List.getElem?_cons_succ, List.getElem?_cons_zero]; exact rfl))); intro N hN)
          go_wp2_with (go_at_call 26; (with_reducible refine (writes_st HT1.out).mono ?_); rintro x w' ⟨rfl, rfl⟩)
          refine hN _ _ (fun _ => rfl) ?_
          clear hN N
          repeat (apply wpOrd_class; ((· first | (rw [List.getElem?_toArray, List.getElem?_cons_zero]; done) | (simp only [List.getElem?_toArray, List.getElem?_cons_succ, List.getElem?_cons_zero]; exact rfl))); (· exact rfl); intro K hK; apply Exists.intro; refine And.intro (fun X' hX' => ?_) ?_; (· go_simp; (try go_bits); first | done | exact rfl | exact ⟨rfl, rfl⟩); go_simp; refine hK _ _ ?_; clear hK K)
          (apply wpOrd_comes; ((· first | (rw [List.getElem?_toArray, List.getElem?_cons_zero]; done) | (simp only [List.getElem?_toArray, List.getElem?_cons_succ, List.getElem?_cons_zero]; exact rfl))); intro N hN)
          go_wp2_with (go_at_call 27; (with_reducible refine (waiting_st HT1.out).mono ?_); rintro x w' ⟨rfl, rfl⟩)
          refine hN _ _ (fun _ => rfl) ?_
          clear hN N
          repeat (apply wpOrd_class; ((· first | (rw [List.getElem?_toArray, List.getElem?_cons_zero]; done) | (simp only [List.getElem?_toArray, List.getElem?_cons_succ, List.getElem?_cons_zero]; exact rfl))); (· exact rfl); intro K hK; apply Exists.intro; refine And.intro (fun X' hX' => ?_) ?_; (· go_simp; (try go_bits); first | done | exact rfl | exact ⟨rfl, rfl⟩); go_simp; refine hK _ _ ?_; clear hK K)
          refine wpOrd_done ?_
          clear r1 r2 r4
          go_wp2
          go_roundw
          case rel => exact ⟨k + 1, by omega, by go_num, S', HOK', HTD', HLN', hid (HT1.out.firsts)⟩
          case measure => simp [intOf]; omega
        · have hmax : max j.at_ 0 = 0 := by omega
          go_wp2_with (first | (refine wpList_alloc 37 rfl rfl zero37v zero37 ?_; intro gj W1 hJ hjl hjg hW1) | (refine wpList_store_box 37 _ _ rfl gj rfl rfl (jobV j Ak ck) rfl 4 size37 rfl (jobV_one j Ak ck) 37 _ hJ rfl ?_; intro W2 hJ2 hT2 hs2; have e0 : W2.cell? ⟨gj, 0, none⟩ = some (.int .i64 j.what) := (cell_of_row W2 gj 0 _ _ _ hJ2).trans rfl; have e1 : W2.cell? ⟨gj, 1, none⟩ = some (.int .i64 j.at_) := (cell_of_row W2 gj 1 _ _ _ hJ2).trans rfl; have H2 := hid ((HS.out.newBlk hW1 hjg hJ).put hJ2 hT2).back3) | (go_at_call 23; (with_reducible refine (arm_st H2.out _).mono ?_); rintro x W3 ⟨rfl, hS3⟩; obtain ⟨_, _, _, _, _, c3, _, f3⟩ := ref_cells hS3.at2; have g1 : W3.cell? ⟨gj, 1, none⟩ = some (.int .i64 j.at_) := (blk_cell hS3.at3 1).trans rfl; have H3 := hid hS3; clear hS3))
          have hS4 := (ref_arm H3.out.at2 j.at_).at2
          rw [hmax] at hS4
          have H4 := hid hS4
          clear hS4 c3 f3 g1
          obtain ⟨W4, hW4⟩ : ∃ W4, W4 = W3.setCell ⟨q, 3, none⟩ (.int .i64 0) := ⟨_, rfl⟩
          rw [← hW4] at H4 ⊢
          clear hW4
          obtain ⟨S', HOK', HTD', HLN', HT⟩ : ∃ S' : DS, Hid (S'.Ok (k + 1)) ∧ Hid S'.Tied ∧ Hid (S'.now.length = m + 1) ∧ Hid (∃ L, St w (Disk p S' :: Ref q S' :: L) W4) := ⟨(S.arm j.at_), hid ((HOK.out.arm b4).mono (by omega)), hid (HTD.out.arm _), hid HLN.out, hid ⟨_, H4.out⟩⟩
          obtain ⟨LL, T0⟩ := HT.out
          obtain ⟨_, AT, cT, r1, r2, _, r4, _⟩ := ref_cells T0.at2
          have HT1 := hid (T0.turn (Below.drew (Below.refl _ _)))
          clear T0
          refine wp_region_ord [] [(0, 1), (2, 1), (3, 1), (4, 1), (5, 1), (1, 2), (6, 1), (7, 1), (8, 1), (10, 1), (11, 1), (12, 1), (13, 1), (9, 2), (14, 1), (15, 1), (16, 1), (17, 1), (19, 1), (20, 1), (21, 1), (22, 1), (23, 1), (18, 2), (24, 1), (25, 1)] (fun X => X = World.drew W4) (by kernel_rfl) (by kernel_rfl) (fun d _ c _ _ h => by cases d <;> exact h) rfl (fun X hXe _ => ?_)
          subst hXe
          repeat (apply wpOrd_class; ((· first | (rw [List.getElem?_toArray, List.getElem?_cons_zero]; done) | (simp only [List.getElem?_toArray, List.getElem?_cons_succ, List.getElem?_cons_zero]; exact rfl))); (· exact rfl); intro K hK; apply Exists.intro; refine And.intro (fun X' hX' => ?_) ?_; (· go_simp; (try go_bits); first | done | exact rfl | exact ⟨rfl, rfl⟩); go_simp; refine hK _ _ ?_; clear hK K)
          (apply wpOrd_comes; ((· first | (rw [List.getElem?_toArray, List.getElem?_cons_zero]; done) | (simp only [List.getElem?_toArray, List.getElem?_cons_succ, List.getElem?_cons_zero]; exact rfl))); intro N hN)
          go_wp2_with (go_at_call 25; (with_reducible refine (down_st HT1.out).mono ?_); rintro x w' ⟨rfl, rfl⟩)
          refine hN _ _ (fun _ => rfl) ?_
          clear hN N
          repeat (apply wpOrd_class; ((· first | (rw [List.getElem?_toArray, List.getElem?_cons_zero]; done) | (simp only [List.getElem?_toArray, List.getElem?_cons_succ, List.getElem?_cons_zero]; exact rfl))); (· exact rfl); intro K hK; apply Exists.intro; refine And.intro (fun X' hX' => ?_) ?_; (· go_simp; (try go_bits); first | done | exact rfl | exact ⟨rfl, rfl⟩); go_simp; refine hK _ _ ?_; clear hK K)
          (apply wpOrd_comes; ((· first | (rw [List.getElem?_toArray, List.getElem?_cons_zero]; done) | (simp only [List.getElem?_toArray, List.getElem?_cons_succ, List.getElem?_cons_zero]; exact rfl))); intro N hN)
          go_wp2_with (go_at_call 26; (with_reducible refine (writes_st HT1.out).mono ?_); rintro x w' ⟨rfl, rfl⟩)
          refine hN _ _ (fun _ => rfl) ?_
          clear hN N
          repeat (apply wpOrd_class; ((· first | (rw [List.getElem?_toArray, List.getElem?_cons_zero]; done) | (simp only [List.getElem?_toArray, List.getElem?_cons_succ, List.getElem?_cons_zero]; exact rfl))); (· exact rfl); intro K hK; apply Exists.intro; refine And.intro (fun X' hX' => ?_) ?_; (· go_simp; (try go_bits); first | done | exact rfl | exact ⟨rfl, rfl⟩); go_simp; refine hK _ _ ?_; clear hK K)
          (apply wpOrd_comes; ((· first | (rw [List.getElem?_toArray, List.getElem?_cons_zero]; done) | (simp only [List.getElem?_toArray, List.getElem?_cons_succ, List.getElem?_cons_zero]; exact rfl))); intro N hN)
          go_wp2_with (go_at_call 27; (with_reducible refine (waiting_st HT1.out).mono ?_); rintro x w' ⟨rfl, rfl⟩)
          refine hN _ _ (fun _ => rfl) ?_
          clear hN N
          repeat (apply wpOrd_class; ((· first | (rw [List.getElem?_toArray, List.getElem?_cons_zero]; done) | (simp only [List.getElem?_toArray, List.getElem?_cons_succ, List.getElem?_cons_zero]; exact rfl))); (· exact rfl); intro K hK; apply Exists.intro; refine And.intro (fun X' hX' => ?_) ?_; (· go_simp; (try go_bits); first | done | exact rfl | exact ⟨rfl, rfl⟩); go_simp; refine hK _ _ ?_; clear hK K)
          refine wpOrd_done ?_
          clear r1 r2 r4
          go_wp2
          go_roundw
          case rel => exact ⟨k + 1, by omega, by go_num, S', HOK', HTD', HLN', hid (HT1.out.firsts)⟩
          case measure => simp [intOf]; omega
      | 5, _ =>
        go_wp2_with (first | (refine wpList_alloc 37 rfl rfl zero37v zero37 ?_; intro gj W1 hJ hjl hjg hW1) | (refine wpList_store_box 37 _ _ rfl gj rfl rfl (jobV j Ak ck) rfl 4 size37 rfl (jobV_one j Ak ck) 37 _ hJ rfl ?_; intro W2 hJ2 hT2 hs2; have e0 : W2.cell? ⟨gj, 0, none⟩ = some (.int .i64 j.what) := (cell_of_row W2 gj 0 _ _ _ hJ2).trans rfl; have e3 : W2.cell? ⟨gj, 3, none⟩ = some (.slice Ak j.keep.length ck) := (cell_of_row W2 gj 3 _ _ _ hJ2).trans rfl; have H2 := hid ((HS.out.newBlk hW1 hjg hJ).put hJ2 hT2).back3) | (go_at_call 17; (with_reducible refine (crash_st H2.out HOK.out (by omega) hkl HK.out).mono ?_); rintro x W3 ⟨rfl, hS3⟩; have g3 : W3.cell? ⟨gj, 3, none⟩ = some (.slice Ak j.keep.length ck) := (blk_cell hS3.at3 3).trans rfl; have H3 := hid hS3; clear hS3) | (go_at_call 24; (with_reducible refine (rcrash_st H3.out.at2 HOK.out (by omega) hkl HK.out).mono ?_); rintro x W4 ⟨rfl, hS4⟩; have H4 := hid hS4.at2; clear hS4))
        obtain ⟨S', HOK', HTD', HLN', HT⟩ : ∃ S' : DS, Hid (S'.Ok (k + 1)) ∧ Hid S'.Tied ∧ Hid (S'.now.length = m + 1) ∧ Hid (∃ L, St w (Disk p S' :: Ref q S' :: L) W4) := ⟨(S.crash j.keep), hid ((HOK.out.crash _).mono (by omega)), hid (HTD.out.crash HOK.out.len _), hid ((crash_len S _).trans HLN.out), hid ⟨_, H4.out⟩⟩
        obtain ⟨LL, T0⟩ := HT.out
        obtain ⟨_, AT, cT, r1, r2, _, r4, _⟩ := ref_cells T0.at2
        have HT1 := hid (T0.turn (Below.drew (Below.refl _ _)))
        clear T0
        refine wp_region_ord [] [(0, 1), (2, 1), (3, 1), (4, 1), (5, 1), (1, 2), (6, 1), (7, 1), (8, 1), (10, 1), (11, 1), (12, 1), (13, 1), (9, 2), (14, 1), (15, 1), (16, 1), (17, 1), (19, 1), (20, 1), (21, 1), (22, 1), (23, 1), (18, 2), (24, 1), (25, 1)] (fun X => X = World.drew W4) (by kernel_rfl) (by kernel_rfl) (fun d _ c _ _ h => by cases d <;> exact h) rfl (fun X hXe _ => ?_)
        subst hXe
        repeat (apply wpOrd_class; ((· first | (rw [List.getElem?_toArray, List.getElem?_cons_zero]; done) | (simp only [List.getElem?_toArray, List.getElem?_cons_succ, List.getElem?_cons_zero]; exact rfl))); (· exact rfl); intro K hK; apply Exists.intro; refine And.intro (fun X' hX' => ?_) ?_; (· go_simp; (try go_bits); first | done | exact rfl | exact ⟨rfl, rfl⟩); go_simp; refine hK _ _ ?_; clear hK K)
        (apply wpOrd_comes; ((· first | (rw [List.getElem?_toArray, List.getElem?_cons_zero]; done) | (simp only [List.getElem?_toArray, List.getElem?_cons_succ, List.getElem?_cons_zero]; exact rfl))); intro N hN)
        go_wp2_with (go_at_call 25; (with_reducible refine (down_st HT1.out).mono ?_); rintro x w' ⟨rfl, rfl⟩)
        refine hN _ _ (fun _ => rfl) ?_
        clear hN N
        repeat (apply wpOrd_class; ((· first | (rw [List.getElem?_toArray, List.getElem?_cons_zero]; done) | (simp only [List.getElem?_toArray, List.getElem?_cons_succ, List.getElem?_cons_zero]; exact rfl))); (· exact rfl); intro K hK; apply Exists.intro; refine And.intro (fun X' hX' => ?_) ?_; (· go_simp; (try go_bits); first | done | exact rfl | exact ⟨rfl, rfl⟩); go_simp; refine hK _ _ ?_; clear hK K)
        (apply wpOrd_comes; ((· first | (rw [List.getElem?_toArray, List.getElem?_cons_zero]; done) | (simp only [List.getElem?_toArray, List.getElem?_cons_succ, List.getElem?_cons_zero]; exact rfl))); intro N hN)
        go_wp2_with (go_at_call 26; (with_reducible refine (writes_st HT1.out).mono ?_); rintro x w' ⟨rfl, rfl⟩)
        refine hN _ _ (fun _ => rfl) ?_
        clear hN N
        repeat (apply wpOrd_class; ((· first | (rw [List.getElem?_toArray, List.getElem?_cons_zero]; done) | (simp only [List.getElem?_toArray, List.getElem?_cons_succ, List.getElem?_cons_zero]; exact rfl))); (· exact rfl); intro K hK; apply Exists.intro; refine And.intro (fun X' hX' => ?_) ?_; (· go_simp; (try go_bits); first | done | exact rfl | exact ⟨rfl, rfl⟩); go_simp; refine hK _ _ ?_; clear hK K)
        (apply wpOrd_comes; ((· first | (rw [List.getElem?_toArray, List.getElem?_cons_zero]; done) | (simp only [List.getElem?_toArray, List.getElem?_cons_succ, List.getElem?_cons_zero]; exact rfl))); intro N hN)
        go_wp2_with (go_at_call 27; (with_reducible refine (waiting_st HT1.out).mono ?_); rintro x w' ⟨rfl, rfl⟩)
        refine hN _ _ (fun _ => rfl) ?_
        clear hN N
        repeat (apply wpOrd_class; ((· first | (rw [List.getElem?_toArray, List.getElem?_cons_zero]; done) | (simp only [List.getElem?_toArray, List.getElem?_cons_succ, List.getElem?_cons_zero]; exact rfl))); (· exact rfl); intro K hK; apply Exists.intro; refine And.intro (fun X' hX' => ?_) ?_; (· go_simp; (try go_bits); first | done | exact rfl | exact ⟨rfl, rfl⟩); go_simp; refine hK _ _ ?_; clear hK K)
        refine wpOrd_done ?_
        clear r1 r2 r4
        go_wp2
        go_roundw
        case rel => exact ⟨k + 1, by omega, by go_num, S', HOK', HTD', HLN', hid (HT1.out.firsts)⟩
        case measure => simp [intOf]; omega
      | _ + 6, h => omega
    · by_cases hl : (k : Int) < (row.length : Int)
      · have h60 : ¬ (k : Int) < 60 := by omega
        clear hlt
        go_wp2_with fail
        go_loopw [15] (fun i X => ∃ k2 : Nat, k2 ≤ m + 1 ∧ i = .int .i64 k2 ∧ Hid (St w [Disk p S, Ref q S] X)) (fun i _ => m + 1 - (intOf i).toNat)
        case atStart => exact ⟨0, by omega, rfl, HS⟩
        case round =>
          clear HS
          obtain ⟨k2, hk2, rfl, HS2⟩ := hrel
          by_cases hlt2 : k2 < m + 1
          · have hlt3 : (k2 : Int) < 1 + (m : Int) := by omega
            obtain ⟨i, hi⟩ : ∃ i : Int, i = (k2 : Int) := ⟨_, rfl⟩
            have HRL := hid (rd_len HOK.out i)
            have HRZ := hid ((bv_size _).trans HRL.out)
            have CM := fun (x y : Operand) (W : World) => run_cmpK_neq (P := Try.prog) guard32 Try.underlying32 be5 cells5 HRL.out HRL.out x y W
            simp only [decide_true, Bool.not_true] at CM
            have hi1 : i < 1 + (m : Int) := by omega
            have hi0 : 0 ≤ i := by omega
            have hi6 : m ≤ 5 := by omega
            rw [← hi]
            have HI := hid hi
            clear hi hlt3
            go_wp2_with (first | (go_at_call 18; (with_reducible refine (read_rd HS2.out HOK.out _).mono ?_); rintro x W3 ⟨rfl, hS3⟩; have H3 := hid hS3; clear hS3) | (refine wpList_alloc 33 rfl rfl (.agg (bv zeroB)) zero33 ?_; intro gA W4 hA hal hag hW4) | (refine wpList_store_box 33 _ _ rfl gA rfl rfl (bv (S.rd i)) rfl 128 size33 HRZ.out (bv_one _) 33 _ hA bvz ?_; intro W5 hA5 hT5 hs5; have H5 := hid ((H3.out.newBlk hW4 hag hA).put hA5 hT5).back3) | (go_at_call 20; (with_reducible refine (rread_rd H5.out.at2 HOK.out HTD.out (by omega) _).mono ?_); rintro x W6 ⟨rfl, hS6⟩; have H6 := hid hS6; clear hS6) | (refine wpList_alloc 32 rfl rfl (.agg (bv zeroB)) zero32 ?_; intro gB W7 hB hbl hbg hW7) | (refine wpList_store_box 32 _ _ rfl gB rfl rfl (bv (S.rd i)) rfl 128 size32 HRZ.out (bv_one _) 32 _ hB bvz ?_; intro W8 hB8 hT8 hs8; have H8 := hid ((H6.out.newBlk hW7 hbg hB).put hB8 hT8).back3.at2; have LA : (loadK 33 (.pointer (some ⟨gA, 0, none⟩))).run Try.prog W8 = .ok (.value (.agg (bv (S.rd i)))) W8 := run_loadK_box H8.out.at4.blk Try.underlying33 rfl size33 HRZ.out; have LB : (loadK 32 (.pointer (some ⟨gB, 0, none⟩))).run Try.prog W8 = .ok (.value (.agg (bv (S.rd i)))) W8 := run_loadK_box hB8 Try.underlying32 rfl size32 HRZ.out))
            clear LA LB CM hB8
            go_roundw
            case rel => exact ⟨k2 + 1, by omega, by rw [HI.out]; go_num, hid (H8.out.firsts)⟩
            case measure => have := HI.out; simp [intOf]; omega
          · have hlt3 : ¬ (k2 : Int) < 1 + (m : Int) := by omega
            go_wp2
            go_ret
            exact ⟨rfl, HS2.out.below⟩
      · clear hlt
        go_wp2_with fail
        go_loopw [15] (fun i X => ∃ k2 : Nat, k2 ≤ m + 1 ∧ i = .int .i64 k2 ∧ Hid (St w [Disk p S, Ref q S] X)) (fun i _ => m + 1 - (intOf i).toNat)
        case atStart => exact ⟨0, by omega, rfl, HS⟩
        case round =>
          clear HS
          obtain ⟨k2, hk2, rfl, HS2⟩ := hrel
          by_cases hlt2 : k2 < m + 1
          · have hlt3 : (k2 : Int) < 1 + (m : Int) := by omega
            obtain ⟨i, hi⟩ : ∃ i : Int, i = (k2 : Int) := ⟨_, rfl⟩
            have HRL := hid (rd_len HOK.out i)
            have HRZ := hid ((bv_size _).trans HRL.out)
            have CM := fun (x y : Operand) (W : World) => run_cmpK_neq (P := Try.prog) guard32 Try.underlying32 be5 cells5 HRL.out HRL.out x y W
            simp only [decide_true, Bool.not_true] at CM
            have hi1 : i < 1 + (m : Int) := by omega
            have hi0 : 0 ≤ i := by omega
            have hi6 : m ≤ 5 := by omega
            rw [← hi]
            have HI := hid hi
            clear hi hlt3
            go_wp2_with (first | (go_at_call 18; (with_reducible refine (read_rd HS2.out HOK.out _).mono ?_); rintro x W3 ⟨rfl, hS3⟩; have H3 := hid hS3; clear hS3) | (refine wpList_alloc 33 rfl rfl (.agg (bv zeroB)) zero33 ?_; intro gA W4 hA hal hag hW4) | (refine wpList_store_box 33 _ _ rfl gA rfl rfl (bv (S.rd i)) rfl 128 size33 HRZ.out (bv_one _) 33 _ hA bvz ?_; intro W5 hA5 hT5 hs5; have H5 := hid ((H3.out.newBlk hW4 hag hA).put hA5 hT5).back3) | (go_at_call 20; (with_reducible refine (rread_rd H5.out.at2 HOK.out HTD.out (by omega) _).mono ?_); rintro x W6 ⟨rfl, hS6⟩; have H6 := hid hS6; clear hS6) | (refine wpList_alloc 32 rfl rfl (.agg (bv zeroB)) zero32 ?_; intro gB W7 hB hbl hbg hW7) | (refine wpList_store_box 32 _ _ rfl gB rfl rfl (bv (S.rd i)) rfl 128 size32 HRZ.out (bv_one _) 32 _ hB bvz ?_; intro W8 hB8 hT8 hs8; have H8 := hid ((H6.out.newBlk hW7 hbg hB).put hB8 hT8).back3.at2; have LA : (loadK 33 (.pointer (some ⟨gA, 0, none⟩))).run Try.prog W8 = .ok (.value (.agg (bv (S.rd i)))) W8 := run_loadK_box H8.out.at4.blk Try.underlying33 rfl size33 HRZ.out; have LB : (loadK 32 (.pointer (some ⟨gB, 0, none⟩))).run Try.prog W8 = .ok (.value (.agg (bv (S.rd i)))) W8 := run_loadK_box hB8 Try.underlying32 rfl size32 HRZ.out))
            clear LA LB CM hB8
            go_roundw
            case rel => exact ⟨k2 + 1, by omega, by rw [HI.out]; go_num, hid (H8.out.firsts)⟩
            case measure => have := HI.out; simp [intOf]; omega
          · have hlt3 : ¬ (k2 : Int) < 1 + (m : Int) := by omega
            go_wp2
            go_ret
            exact ⟨rfl, HS2.out.below⟩
end Go.Proofs.Ythmchbdhikakhaa
