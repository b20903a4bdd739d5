/- Marks by a key. -/
import Derived.Test.YtnakbdgoaepehaaDoorHmPad
import Derived.Test.YtnakbdgoaepehaaDoorShaStands
namespace Go.Cu
open Go Go.RowKit
section
variable {P : Program} {t e : TypeId}
/-- A new slice of two elements. -/
theorem run_buildSlice2 {z : Value} {s : Nat} (ht : P.underlying t = some (.slice e)) (hz : ∀ W, (zeroValue e).run P W = .ok z W) (hi : (P.info? e).map (·.size) = some s) (h0 : 0 < s) (h24 : 2 * s ≤ 2 ^ 24)
    (a b : Value) (ha : a.cells.size = s) (hb : b.cells.size = s) (w : World) :
    (Instr.buildSlice t 2 #[(0, a), (1, b)]).run P w = .ok (.slice (some ⟨w.heap.size, 0, none⟩) 2 2) (w.alloc (.cells (a.cells ++ b.cells) e)) := by
  have hfill : ∀ c : Array Value, c.size = 2 * s → Instr.fill (fun i => some (i * s, s)) c [(0, a), (1, b)] = some (a.cells ++ b.cells) := by
    intro c hc
    rw [fill_one _ _ 0 0 s a _ (by simp) ha (by omega), fill_one _ _ 1 s s b _ (by simp) hb (by rw [putAt_size _ _ _ (by simp; omega)]; omega), Instr.fill]
    congr 1
    apply Array.ext'
    unfold putAt
    simp only [List.take_zero, List.nil_append, Nat.zero_add, Array.length_toList, Array.toList_append]
    rw [List.take_append_of_le_length (by simp; omega), List.take_of_length_le (by simp; omega), List.drop_of_length_le (by simp; omega), List.append_nil]
  unfold Instr.buildSlice
  have h1 : ¬ (2 * s > 2 ^ 24) := by omega
  have h2 : ¬ (2 * s = 0) := by omega
  simp only [Sem.run_bind, run_underlying ht, Result.andThen_ok, run_sizeOf hi]
  rw [if_neg h1, if_neg h2]
  simp only [Sem.run_bind, hz, Result.andThen_ok, Sem.run_pure]
  rw [hfill _ (by simp)]
  rfl
theorem wpList_buildSlice2 {ops : Array Oper} {rest : List Oper} {o : Oper} {a : Act} {w : World} {Q : Exit → Act → World → Prop} (ps : Array (Nat × Operand)) (ho : o.op = .buildSlice t 2 ps) (x y : Value) (hvs : (ps.map fun (i, y) => (i, a.eval y)) = #[(0, x), (1, y)])
    (hw : Region.wanted o (yielded ops a.tmps) = true) {z : Value} {s : Nat} (ht : P.underlying t = some (.slice e)) (hz : ∀ W, (zeroValue e).run P W = .ok z W) (hi : (P.info? e).map (·.size) = some s) (h0 : 0 < s) (h24 : 2 * s ≤ 2 ^ 24) (hx : x.cells.size = s) (hy : y.cells.size = s)
    (h : ∀ (g : Nat) (W : World), W.heap[g]? = some (.cells (x.cells ++ y.cells) e (0, 0)) → g < W.heap.size → w.heap.size ≤ g → Below w.heap.size w W → wpList P ops Q rest (a.put o.dst (.slice (some ⟨g, 0, none⟩) 2 2)) W) : wpList P ops Q (o :: rest) a w := by
  refine wpList_wanted hw fun K hK => ?_
  have hrun : (execOp a.eval o).run P w = .ok (.value (.slice (some ⟨w.heap.size, 0, none⟩) 2 2)) (w.alloc (.cells (x.cells ++ y.cells) e)) := by
    unfold execOp
    simp only [ho, hvs, Sem.run_bind, run_buildSlice2 ht hz hi h0 h24 x y hx hy w, Result.andThen_ok, Sem.run_pure]
  unfold Oper.wp
  rw [hrun]
  exact hK _ _ (h w.heap.size _ (heap_alloc_at _ _ rfl) (by simp) (Nat.le_refl _) ((Below.refl _ _).alloc (Nat.le_refl _) _))
end
section
variable {W0 W : World} {L : List Atm}
/-- A part: bytes that lie wherever L holds. -/
def Part (W0 : World) (L : List Atm) (v : Value) (b : List UInt8) : Prop := ∃ B cb, v = .slice B b.length cb ∧ b.length ≤ cb ∧ cb ≤ maxLen ∧ ∀ X, St W0 L X → BytesIn X B b
theorem Part.sub {v : Value} {b : List UInt8} {M : List Atm} (h : Part W0 L v b) (hs : ∀ X, St W0 M X → St W0 L X) : Part W0 M v b := by
  obtain ⟨B, cb, h1, h2, h3, h4⟩ := h
  exact ⟨B, cb, h1, h2, h3, fun X hX => h4 X (hs X hX)⟩
theorem Part.cons {v : Value} {b : List UInt8} {M : Atm} (h : Part W0 L v b) : Part W0 (M :: L) v b := h.sub fun _ hX => hX.drop
theorem parts1 {gs : Nat} {t : TypeId} {v : Value} {b : List UInt8} (h : Part W0 L v b) : PartsIn W0 (Blk gs #[v] t :: L) (some ⟨gs, 0, none⟩) [b] := fun i r hi => by
  match i with
  | i + 1 => cases hi
  | 0 =>
    obtain rfl : b = r := by simpa using hi
    obtain ⟨B, cb, rfl, h2, h3, h4⟩ := h
    exact ⟨gs, 0, B, cb, rfl, h2, h3, fun Y hY => ⟨(cell_of_row Y gs 0 _ _ _ hY.blk).trans rfl, h4 Y hY.drop⟩⟩
theorem parts2 {gs : Nat} {t : TypeId} {v v' : Value} {b b' : List UInt8} (h : Part W0 L v b) (h' : Part W0 L v' b') : PartsIn W0 (Blk gs (#[v] ++ #[v']) t :: L) (some ⟨gs, 0, none⟩) [b, b'] := fun i r hi => by
  match i with
  | i + 2 => cases hi
  | 0 =>
    obtain rfl : b = r := by simpa using hi
    obtain ⟨B, cb, rfl, h2, h3, h4⟩ := h
    exact ⟨gs, 0, B, cb, rfl, h2, h3, fun Y hY => ⟨(cell_of_row Y gs 0 _ _ _ hY.blk).trans rfl, h4 Y hY.drop⟩⟩
  | 1 =>
    obtain rfl : b' = r := by simpa using hi
    obtain ⟨B, cb, rfl, h2, h3, h4⟩ := h'
    exact ⟨gs, 0, B, cb, rfl, h2, h3, fun Y hY => ⟨(cell_of_row Y gs 1 _ _ _ hY.blk).trans rfl, h4 Y hY.drop⟩⟩
theorem blk_bytes {g : Nat} {r : List UInt8} {t : TypeId} (h : St W0 (Blk g (bv r) t :: L) W) : BytesIn W (some ⟨g, 0, none⟩) r := fun i b hi => by
  refine ⟨g, 0, rfl, heap_lt h.blk, ?_⟩
  rw [Nat.zero_add, cell_of_row W g i _ _ _ h.blk, bv_eq, List.getElem?_toArray]
  unfold bvL
  rw [List.getElem?_map, hi]
  rfl
theorem part_blk {g n : Nat} {r : List UInt8} {t : TypeId} (hn : r.length = n) (hm : n ≤ maxLen) : Part W0 (Blk g (bv r) t :: L) (.slice (some ⟨g, 0, none⟩) n n) r := by
  subst hn
  exact ⟨_, _, rfl, Nat.le_refl _, hm, fun X hX => blk_bytes hX⟩
end
/-- A mark of bytes by a key. -/
def hmacL (k d : List UInt8) : List UInt8 := sumL (padL k 0x5C ++ sumL (padL k 0x36 ++ d))
theorem padL_len {k : List UInt8} (h : k.length ≤ 64) (b : UInt8) : (padL k b).length = 64 := by
  unfold padL
  rw [List.length_map, fill64_len h]
end Go.Cu
namespace Go.Proofs.YtnakbdgoaepehaaDoor
open Go.RowKit Go.Cu
section
variable {W0 W : World} {L : List Atm}
set_option maxRecDepth 20000 in
set_option maxHeartbeats 8000000 in
theorem hof_st (h : St W0 L W) (hG : Glob W0) {K : Option Addr} {kc : Nat} {k : List UInt8} (hk : ∀ X, St W0 L X → BytesIn X K k) (hkl : k.length ≤ 64) {A : Option Addr} {c : Nat} {ps : List (List UInt8)} (hp : PartsIn W0 L A ps) (hps : ps.length ≤ 1000000) (hm : ps.flatten.length ≤ 100000000000) :
    Calls Tryd.prog 21 #[.slice K k.length kc, .slice A ps.length c] W fun x w' => x = .returned (.agg (bv (hmacL k ps.flatten))) ∧ St W0 L w' := by
  have HH := hid h
  have HP := hid hp
  have hki : ¬ (64 : Int) < (k.length : Int) := by omega
  have HN := hid (fun X (M : List Atm) (hX : St W0 M X) => hnew_st hX hG)
  have HPI := hid (fun X (M : List Atm) (hM : ∀ Y, St W0 M Y → St W0 L Y) (hX : St W0 M X) => show Calls Tryd.prog 43 #[.slice K k.length kc, .int .u8 54] X fun x w' => ∃ g, x = .returned (.slice (some ⟨g, 0, none⟩) 64 64) ∧ St W0 (Blk g (bv (padL k 0x36)) 5 :: M) w' from pad_st hX (fun Y hY => hk Y (hM Y hY)) hkl 0x36)
  have HPO := hid (fun X (M : List Atm) (hM : ∀ Y, St W0 M Y → St W0 L Y) (hX : St W0 M X) => show Calls Tryd.prog 43 #[.slice K k.length kc, .int .u8 92] X fun x w' => ∃ g, x = .returned (.slice (some ⟨g, 0, none⟩) 64 64) ∧ St W0 (Blk g (bv (padL k 0x5C)) 5 :: M) w' from pad_st hX (fun Y hY => hk Y (hM Y hY)) hkl 0x5C)
  have HPL := hid (padL_len hkl 0x36)
  have HPL2 := hid (padL_len hkl 0x5C)
  have HW := hid (fun X (M : List Atm) (g : Nat) (A1 : Option Addr) (c1 : Nat) (m : List UInt8) (hX : St W0 (Hashed g A1 c1 m M) X) (B : Option Addr) (n cb : Nat) (b : List UInt8) (hn : n = b.length) (hb : ∀ Y, St W0 M Y → BytesIn Y B b) (h1 : b.length ≤ cb) (h2 : cb ≤ maxLen) (h3 : m.length + b.length ≤ 1000000000000) => show Calls Tryd.prog 39 #[.pointer (some ⟨g, 0, none⟩), .slice B n cb] X fun x w' => x = .returned (.tuple #[]) ∧ ∃ A' c', St W0 (Hashed g A' c' (m ++ b) M) w' from hn ▸ hwrite_st hX hG hb h1 h2 h3)
  obtain ⟨s, hs⟩ : ∃ s, s = sumL (padL k 0x36 ++ ps.flatten) := ⟨_, rfl⟩
  have HSL := hid (show s.length = 32 by rw [hs]; exact sumL_len _)
  have HS := hid (fun X (M : List Atm) (g : Nat) (A1 : Option Addr) (c1 : Nat) (hX : St W0 (Hashed g A1 c1 (padL k 0x36 ++ ps.flatten) M) X) => show Calls Tryd.prog 40 #[.pointer (some ⟨g, 0, none⟩)] X fun x w' => x = .returned (.agg (bv s)) ∧ St W0 (Hashed g A1 c1 (padL k 0x36 ++ ps.flatten) M) w' from hs ▸ hsum_st hX hG (by rw [List.length_append, HPL.out]; omega))
  have HSH := hid (fun X (M : List Atm) (gs gq g9 : Nat) (hX : St W0 (Blk gs (#[.slice (some ⟨gq, 0, none⟩) 64 64] ++ #[.slice (some ⟨g9, 0, none⟩) 32 32]) 42 :: Blk gq (bv (padL k 0x5C)) 5 :: Blk g9 (bv s) 23 :: M) X) => show Calls Tryd.prog 16 #[.slice (some ⟨gs, 0, none⟩) 2 2] X fun x w' => x = .returned (.agg (bv (hmacL k ps.flatten))) ∧ St W0 (Blk gs (#[.slice (some ⟨gq, 0, none⟩) 64 64] ++ #[.slice (some ⟨g9, 0, none⟩) 32 32]) 42 :: Blk gq (bv (padL k 0x5C)) 5 :: Blk g9 (bv s) 23 :: M) w' from by
    have h1 := sha_st hX hG (c := 2) (parts2 (part_blk HPL2.out (by decide)) (part_blk HSL.out (by decide)).cons) (by simp) (by simp [HPL2.out, HSL.out])
    rw [show [padL k 0x5C, s].flatten = padL k 0x5C ++ s by simp] at h1
    unfold hmacL
    rw [← hs]
    exact h1)
  have HSZ := hid (show (bv s).size = 32 by rw [bv_size]; exact HSL.out)
  have HHZ := hid (show (bv (hmacL k ps.flatten)).size = 32 by rw [bv_size]; exact sumL_len _)
  have HZ32 := hid (show (bv (List.replicate 32 0)).size = 32 by rw [bv_size, List.length_replicate])
  clear h hG hk hp hs
  go_enter Tryd.func21, Tryd.ntmps21
  go_wp2_with (first | (refine wpList_alloc 23 rfl rfl (.agg (bv (List.replicate 32 0))) zero54s ?_; intro go W1 h1 hl1 hg1 hW1; have H1 := hid (HH.out.newBlk hW1 hg1 h1); clear h1 hl1 hg1 hW1) | (go_at_call 38; (with_reducible refine (HN.out _ _ H1.out).mono ?_); rintro x W2 ⟨g, rfl, h2⟩; have H2 := hid h2; clear h2) | (go_at_call 43; (with_reducible refine (HPI.out _ _ (fun _ hY => hY.drop.drop.drop) H2.out).mono ?_); rintro x W3 ⟨gp, rfl, h3⟩; have H3 := hid h3.back3; clear h3) | (go_at_call 39; (with_reducible refine (HW.out _ _ g _ _ _ H3.out _ _ _ (padL k 0x36) HPL.out.symm (fun _ hY => blk_bytes hY) (by rw [HPL.out]; exact Nat.le_refl _) (by decide) (by rw [HPL.out]; decide)).mono ?_); rintro x W4 ⟨rfl, A4, c4, h4⟩; rw [List.nil_append] at h4; have H4 := hid h4; clear h4))
  go_loopw [24, 8] (fun kv _ X => ∃ (i : Nat) (A1 : Option Addr) (c1 : Nat), i ≤ ps.length ∧ kv = .int .i64 i ∧ Hid (St W0 (Hashed g A1 c1 (padL k 0x36 ++ (ps.take i).flatten) (Blk gp (bv (padL k 0x36)) 5 :: Blk go (bv (List.replicate 32 0)) 23 :: L)) X)) (fun kv _ _ => ps.length - (intOf kv).toNat)
  case atStart => exact ⟨0, A4, c4, Nat.zero_le _, rfl, hid (by rw [List.take_zero, List.flatten_nil, List.append_nil]; exact H4.out)⟩
  case round =>
    clear H1 H2 H3 H4 HH
    obtain ⟨i, A1, c1, hi, rfl, HR⟩ := hrel
    have e0 : (0 : Int) ≤ (i : Int) := by omega
    by_cases hlt : i < ps.length
    · have e1 : (i : Int) < (ps.length : Int) := by omega
      obtain ⟨b, hb⟩ : ∃ b, ps[i]? = some b := ⟨_, List.getElem?_eq_getElem hlt⟩
      have HTF := hid (take_flat_step hb)
      have htl := take_flat_le ps (i + 1)
      rw [← HTF.out, List.length_append] at htl
      obtain ⟨ga, oa, B, cb, rfl, hc1, hc2, hX3⟩ := HP.out i b hb
      have cx := (hX3 _ HR.out.drop.drop.drop.drop).1
      have HX3 := hid (fun X hX => (hX3 X hX).2)
      clear hb hX3
      go_wp2_with (go_at_call 39; (with_reducible refine (HW.out _ _ g _ _ _ HR.out _ _ _ b rfl (fun _ hY => HX3.out _ hY.drop.drop) hc1 hc2 (by rw [List.length_append, HPL.out]; omega)).mono ?_); rintro x W4 ⟨rfl, A5, c5, h5⟩; rw [List.append_assoc, HTF.out] at h5; have H5 := hid h5; clear h5)
      go_roundw
      case rel => exact ⟨i + 1, A5, c5, by omega, by go_num, H5⟩
      case measure => (simp [intOf] <;> omega)
    · have e1 : ¬ (i : Int) < (ps.length : Int) := by omega
      obtain rfl : i = ps.length := by omega
      rw [List.take_length] at HR
      go_wp2_with (first | (go_at_call 40; (with_reducible refine (HS.out _ _ g A1 c1 HR.out).mono ?_); rintro x W5 ⟨rfl, h5⟩; have H5 := hid h5.drop.drop.drop; clear h5) | (refine wpList_alloc 23 rfl rfl (.agg (bv (List.replicate 32 0))) zero54s ?_; intro g9 W6 h1 hl1 hg1 hW1; have H6 := hid (H5.out.newBlk hW1 hg1 h1); clear h1 hl1 hg1 hW1) | (refine wpList_store_box 23 _ _ rfl g9 rfl rfl (bv s) rfl 32 size54s HSZ.out (bv_one _) 23 _ H6.out.blk HZ32.out ?_; intro W7 hB7 hT7 hs7; have H7 := hid (H6.out.put hB7 hT7); clear hB7 hT7 hs7))
      refine wp_region_ord [5] [(0, 1), (2, 1), (1, 2), (3, 2), (4, 2), (5, 2)] (fun X => St W0 (Blk g9 (bv s) 23 :: Blk go (bv (List.replicate 32 0)) 23 :: L) X) (by kernel_rfl) (by kernel_rfl) (fun d _ c _ _ h => by cases d <;> exact h) (H7.out.turn (Below.drew (Below.refl _ _))) (fun X hXe hX => ?_)
      clear hXe H5 H6 H7 HR
      repeat (first | (apply wpOrd_class; ((· first | (rw [List.getElem?_toArray, List.getElem?_cons_zero]; done) | (simp only [List.getElem?_toArray, List.getElem?_cons_succ, List.getElem?_cons_zero]; exact rfl))); (· exact rfl); intro K hK; apply Exists.intro; refine And.intro (fun X' hX' => ?_) ?_; (· go_simp; (try go_bits); first | done | exact rfl | exact ⟨rfl, rfl⟩); go_simp; refine hK _ _ ?_; clear hK K) | (apply wpOrd_skip1; ((· first | (rw [List.getElem?_toArray, List.getElem?_cons_zero]; done) | (simp only [List.getElem?_toArray, List.getElem?_cons_succ, List.getElem?_cons_zero]; exact rfl))); (· exact rfl); intro K hK; go_simp; refine hK _ _ ?_; clear hK K))
      (apply wpOrd_comes; ((· first | (rw [List.getElem?_toArray, List.getElem?_cons_zero]; done) | (simp only [List.getElem?_toArray, List.getElem?_cons_succ, List.getElem?_cons_zero]; exact rfl))); intro N hN)
      go_wp2_with (go_at_call 43; (with_reducible refine (HPO.out _ _ (fun _ hY => hY.drop.drop) hX).mono ?_); rintro x X1 ⟨gq, rfl, h1⟩)
      refine hN _ _ (fun _ => h1.drop) ?_
      clear hN N hX
      (apply wpOrd_comes; ((· first | (rw [List.getElem?_toArray, List.getElem?_cons_zero]; done) | (simp only [List.getElem?_toArray, List.getElem?_cons_succ, List.getElem?_cons_zero]; exact rfl))); intro N hN)
      go_wp2_with (refine wpList_buildSlice2 _ rfl (.slice (some ⟨gq, 0, none⟩) 64 64) (.slice (some ⟨g9, 0, none⟩) 32 32) (by simp [Act.eval]) rfl Tryd.underlying80 zeroBYs sizeBYs (by decide) (by decide) rfl rfl ?_; intro gs X4 hS hgs hges hX1b; have H4 := hid (show St W0 (Blk gs (#[.slice (some ⟨gq, 0, none⟩) 64 64] ++ #[.slice (some ⟨g9, 0, none⟩) 32 32]) 42 :: Blk gq (bv (padL k 0x5C)) 5 :: Blk g9 (bv s) 23 :: Blk go (bv (List.replicate 32 0)) 23 :: L) X4 from h1.newBlk hX1b hges hS); clear hS hgs hges hX1b h1)
      refine hN _ _ (fun _ => H4.out.drop.drop) ?_
      clear hN N
      (apply wpOrd_comes; ((· first | (rw [List.getElem?_toArray, List.getElem?_cons_zero]; done) | (simp only [List.getElem?_toArray, List.getElem?_cons_succ, List.getElem?_cons_zero]; exact rfl))); intro N hN)
      go_wp2_with (go_at_call 16; (with_reducible refine (HSH.out _ _ gs gq g9 H4.out).mono ?_); rintro x X5 ⟨rfl, h5⟩)
      refine hN _ _ (fun _ => h5.drop.drop) ?_
      clear hN N H4
      have H5 := hid h5.drop.drop.drop
      clear h5
      (apply wpOrd_comes; ((· first | (rw [List.getElem?_toArray, List.getElem?_cons_zero]; done) | (simp only [List.getElem?_toArray, List.getElem?_cons_succ, List.getElem?_cons_zero]; exact rfl))); intro N hN)
      go_wp2_with (refine wpList_store_box 23 _ _ rfl go rfl rfl (bv (hmacL k ps.flatten)) rfl 32 size54s HHZ.out (bv_one _) 23 _ H5.out.blk HZ32.out ?_; intro W7 hB7 hT7 hs7; have H7 := hid (H5.out.put hB7 hT7))
      refine hN _ _ (fun e => by cases e) ?_
      clear hN N
      refine wpOrd_done ?_
      go_wp2
      exact bodyPost_ret (results_cell rfl _ _ _ go 23 (bv _) (0, 0) rfl hB7 Tryd.underlying23 (by rw [HHZ.out]; exact size54s)) rfl ⟨rfl, H7.out.drop⟩
end
end Go.Proofs.YtnakbdgoaepehaaDoor
