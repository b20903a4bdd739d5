/- CustumalMarks: the walk. -/
import Derived.Test.YtnakbdgoaepehaaDoorMarksNow
import Derived.Test.YtnakbdgoaepehaaDoorCodRead
import Derived.Test.YtnakbdgoaepehaaDoorBulk
import Derived.Test.YtnakbdgoaepehaaDoorMarksLib
import Derived.Test.YtnakbdgoaepehaaDoorSegs
namespace Go.Proofs.YtnakbdgoaepehaaDoor
open Go.RowKit Go.Cu
theorem buildWriter (W : World) : (Instr.build 45 #[]).run Tryd.prog W = .ok (.agg #[.slice none 0 0, .bool false]) W := by kernel_rfl
@[go_sem ↓] theorem bdktWRITER (a : Act) (dst : Option Tmp) (ps : Array (Nat × Operand)) (ty : TypeId) (pos : String) (after : Array Edge) (guard : Option (Nat × Bool)) :
    execOp a.eval { dst, op := .build 45 ps, type := ty, pos, after, guard } = buildK 45 (ps.map fun (i, x) => (i, a.eval x)) := rfl
theorem guard23 : Tryd.prog.eqGuardType Tryd.prog.depth 23 = false := by kernel_rfl
theorem cells5 : Tryd.prog.cellsOf 5 = 1 := by kernel_rfl
@[go_sem ↓] theorem eqk23 (a : Act) (dst : Option Tmp) (x y : Operand) (t' ty : TypeId) (pos : String) (after : Array Edge) (guard : Option (Nat × Bool)) :
      execOp a.eval { dst, op := .binOp .eql 23 x y t', type := ty, pos, after, guard } = cmpK .eql 23 x y (a.eval x) (a.eval y) := rfl
theorem wpList_val {P : Program} {ops : Array Oper} {Q : Exit → Act → World → Prop} {N : Act → World → Prop} {o : Oper} {a : Act} {w : World} {v : Value} (hw : Region.wanted o (yielded ops a.tmps) = true) (hrun : (execOp a.eval o).run P w = .ok (.value v) w) (h : N (a.put o.dst v) w) : wpList P ops (Qn Q N) [o] a w := by
  refine wpList_wanted hw fun K hK => ?_
  unfold Oper.wp
  rw [hrun]
  exact hK _ _ (wpList_then h)
/-- The block of one that came. -/
def optB (d : Bool) (g : Nat) : List Atm := if d then [Blk g (bv (List.replicate 64 0)) 5] else []
theorem St.optIn {W0 W W' : World} {L : List Atm} {d : Bool} {g g' : Nat} (h : St W0 (optB d g ++ L) W) (hb : Below W.heap.size W W') (hg : W.heap.size ≤ g') (hc : W'.heap[g']? = some (.cells (bv (List.replicate 64 0)) 5 (0, 0))) : St W0 (optB d g ++ (Blk g' (bv (List.replicate 64 0)) 5 :: L)) W' := by
  have h1 := h.newBlk hb hg hc
  cases d
  · exact h1
  · exact h1.at2
set_option maxRecDepth 20000 in
set_option maxHeartbeats 8000000 in
theorem marks_walk {A : Option Addr} {c : Nat} {key bytes : List UInt8} {n : Int} (w : World) (hG : Glob w) (hG5 : Glob5 w) (hk : key.length = 32) (hb : BytesIn w A bytes) (hbc : bytes.length ≤ c) (hn1 : -9223372036854775808 ≤ n) (hn2 : n ≤ 9223372036854775807) :
    Calls Tryd.prog 4 #[.agg (bv key), .slice A bytes.length c, .int .i64 n] w fun x w' => x = .returned (.bool true) ∧ Below w.heap.size w w' := by
  obtain ⟨m, hm⟩ : ∃ m, m = min bytes.length 300 := ⟨_, rfl⟩
  obtain ⟨a, ha⟩ : ∃ a, a = bytes.take m := ⟨_, rfl⟩
  have HAL := hid (show a.length = m by rw [ha, List.length_take]; omega)
  have HAB := hid (show BytesIn w A a by rw [ha]; exact hb.take m)
  have hm300 : m ≤ 300 := by omega
  have hmc : m ≤ c := by omega
  have hmci : (m : Int) ≤ (c : Int) := by omega
  have m0 : (0 : Int) ≤ (m : Int) := by omega
  have hmin : (if (300 : Int) < (bytes.length : Int) then 300 else (bytes.length : Int)) = (m : Int) := by split <;> omega
  obtain ⟨nb, hnb⟩ : ∃ nb, nb = bytes.length := ⟨_, rfl⟩
  rw [← hnb] at hmin ⊢
  have HKS := hid ((bv_size key).trans hk)
  have BB := fun W => run_buildK (buildWriter W)
  have HWT := hid (fun X (L : List Atm) g (hX : St w (Wrt 45 g none 0 [] L) X) (hL : ∀ Y, St w L Y → BytesIn Y A a) => show Calls Tryd.prog 13 #[.pointer (some ⟨g, 0, none⟩), .slice A m c] X fun x w' => x = .returned (.tuple #[]) ∧ ∃ A' c', St w (Wrt 45 g A' c' (UInt8.ofNat (a.length / 256) :: UInt8.ofNat a.length :: a) L) w' from by
    have h1 := wtext_st (cb := c) hX (by simp) hL (by rw [HAL.out]; omega)
    rw [HAL.out] at h1 ⊢
    exact h1)
  obtain ⟨tx, htx⟩ : ∃ tx, tx = UInt8.ofNat (a.length / 256) :: UInt8.ofNat a.length :: a := ⟨_, rfl⟩
  rw [← htx] at HWT
  have HTL := hid (show tx.length = m + 2 by rw [htx, List.length_cons, List.length_cons, HAL.out])
  obtain ⟨all, hall⟩ : ∃ all, all = tx ++ num8 n := ⟨_, rfl⟩
  have HN8 := hid (be8_len (IntKind.u64.wrap n).toNat)
  have HALL := hid (show all.length = m + 10 by rw [hall, List.length_append, HTL.out]; show m + 2 + (be8 _).length = _; rw [HN8.out])
  have HWN := hid (fun X (L : List Atm) g A' c' (hX : St w (Wrt 45 g A' c' tx L) X) => show Calls Tryd.prog 14 #[.pointer (some ⟨g, 0, none⟩), .int .i64 n] X fun x w' => x = .returned (.tuple #[]) ∧ ∃ A' c', St w (Wrt 45 g A' c' all L) w' from by
    have h1 := wnum_st hX (by rw [HTL.out]; omega) n
    rw [← hall] at h1
    exact h1)
  have HWB := hid (fun X (L : List Atm) g A' c' (hX : St w (Wrt 45 g A' c' all L) X) => show Calls Tryd.prog 15 #[.pointer (some ⟨g, 0, none⟩)] X fun x w' => ∃ D d, x = .returned (.tuple #[.slice (some ⟨D, 0, none⟩) (m + 10) d, .int .i64 0]) ∧ m + 10 ≤ d ∧ d ≤ maxLen ∧ St w (Row (.slice (some ⟨D, 0, none⟩) (m + 10) d) 5 1 (m + 10) (bvL all) :: L) w' from by
    have h1 := wbytes_st hX (by rw [HALL.out]; omega) (by rw [HALL.out]; omega)
    rw [HALL.out] at h1
    exact h1.mono fun e w' ⟨D, d, q1, q2, q3, q4⟩ => ⟨D, d, q1, q2, q3, q4.at2.drop.at2.drop⟩)
  have HTX := hid htx
  have HAT := hid hall
  have HN := hid (And.intro hn1 hn2)
  clear hm ha hb hnb htx hall hn1 hn2 hbc
  go_enter Tryd.func4, Tryd.ntmps4
  go_wp2_with (first | (refine wpList_box rfl 23 _ rfl (.agg (bv key)) rfl ?_; intro gk W1 h1 hl1 hg1 hW1; have H1 := hid ((St.start w).newBlk hW1 hg1 h1); clear h1 hl1 hg1 hW1) | (refine wpList_box rfl 45 _ rfl (.agg #[.slice none 0 0, .bool false]) rfl ?_; intro gw W2 h1 hl1 hg1 hW1; have H2 := hid (show St w (Wrt 45 gw none 0 [] [Blk gk (bv key) 23]) W2 from ((H1.out.newBlk hW1 hg1 h1).nilRow 5 1).at2); clear h1 hl1 hg1 hW1) | (go_at_call 13; (with_reducible refine (HWT.out _ _ _ H2.out (fun Y hY => HAB.out.below hY.below)).mono ?_); rintro r W3 ⟨rfl, A3, c3, h3⟩; have H3 := hid h3; clear h3) | (go_at_call 14; (with_reducible refine (HWN.out _ _ _ _ _ H3.out).mono ?_); rintro r W4 ⟨rfl, A4, c4, h4⟩; have H4 := hid h4; clear h4) | (go_at_call 15; (with_reducible refine (HWB.out _ _ _ _ _ H4.out).mono ?_); rintro r W5 ⟨D, d, rfl, hd1, hd2, h5⟩; have H5 := hid h5; clear h5))
  clear HWT HWN HWB BB H1 H2 H3 H4
  refine wp_region_bulk1 [] [] [(0, []), (1, []), (2, [0]), (3, [1])] [] (fun X => St w [Row (.slice (some ⟨D, 0, none⟩) (m + 10) d) 5 1 (m + 10) (bvL all), Blk gk (bv key) 23] X) (by kernel_rfl) (by kernel_rfl) (fun d _ c _ _ h => by cases d <;> exact h) (H5.out.turn (Below.drew (Below.refl _ _))) (fun X hXe hX => ?_)
  clear hXe H5
  refine wpOrd_to ?_
  refine bulk_intro (fun a0 done a' w' => ∃ (x y u v : Value) (g0 g1 : Nat), a' = (((a0.put (some 36) x).put (some 37) y).put (some 10) u).put (some 11) v ∧ (done 0 = true → x = .slice (some ⟨g0, 0, none⟩) 64 64) ∧ (done 1 = true → y = .slice (some ⟨g1, 0, none⟩) 64 64) ∧ (done 2 = true → u = .slice (some ⟨g0, 0, none⟩) 64 64) ∧ (done 3 = true → v = .slice (some ⟨g1, 0, none⟩) 64 64) ∧ (done 2 = true → done 0 = true) ∧ (done 3 = true → done 1 = true) ∧ St w (optB (done 0) g0 ++ (optB (done 1) g1 ++ [Row (.slice (some ⟨D, 0, none⟩) (m + 10) d) 5 1 (m + 10) (bvL all), Blk gk (bv key) 23])) w') ?_ ?_ ?_
  · intro done hd
    have d0 := hd (0, []) (by simp)
    have d1 := hd (1, []) (by simp)
    have d2 := hd (2, [0]) (by simp)
    have d3 := hd (3, [1]) (by simp)
    refine ⟨undef, undef, undef, undef, 0, 0, rfl, fun h => (by rw [d0] at h; cases h), fun h => (by rw [d1] at h; cases h), fun h => (by rw [d2] at h; cases h), fun h => (by rw [d3] at h; cases h), fun h => (by rw [d2] at h; cases h), fun h => (by rw [d3] at h; cases h), ?_⟩
    simp only [d0, d1]
    exact hX
  · rintro p hp done a' w' h1 h2 ⟨x, y, u, v, g0, g1, rfl, hx0, hy1, hu, hv, hd20, hd31, hst⟩
    have hbase : St w [Row (.slice (some ⟨D, 0, none⟩) (m + 10) d) 5 1 (m + 10) (bvL all), Blk gk (bv key) 23] w' := by
      cases hd0 : done 0 <;> cases hd1 : done 1 <;> simp only [hd0, hd1] at hst
      · exact hst
      · exact hst.drop
      · exact hst.drop
      · exact hst.drop.drop
    simp only [List.mem_cons, List.not_mem_nil, or_false] at hp
    rcases hp with rfl | rfl | rfl | rfl
    · refine ⟨_, rfl, fun N hN => ?_⟩
      refine wpList_mk _ _ rfl _ _ rfl rfl rfl 64 (bv (List.replicate 64 0)) (makeBY 64 (by decide)) ?_
      intro g W1 hg hgl hgs hW1
      simp only [h1] at hst
      have h6 := St.newBlk (show St w (optB (done 1) g1 ++ [Row (.slice (some ⟨D, 0, none⟩) (m + 10) d) 5 1 (m + 10) (bvL all), Blk gk (bv key) 23]) w' from hst) hW1 hgs hg
      refine wpList_then (hN _ _ (fun _ => hbase.turn hW1) ⟨.slice (some ⟨g, 0, none⟩) 64 64, y, u, v, g, g1, rfl, fun _ => rfl, fun h => hy1 (by simpa using h), fun h => absurd (hd20 (by simpa using h)) (by rw [h1]; decide), fun h => hv (by simpa using h), fun h => (by simp), fun h => (by have := hd31 (by simpa using h); simp [this]), ?_⟩)
      exact h6
    · refine ⟨_, rfl, fun N hN => ?_⟩
      refine wpList_mk _ _ rfl _ _ rfl rfl rfl 64 (bv (List.replicate 64 0)) (makeBY 64 (by decide)) ?_
      intro g W1 hg hgl hgs hW1
      simp only [h1] at hst
      have h6 := St.optIn (show St w (optB (done 0) g0 ++ [Row (.slice (some ⟨D, 0, none⟩) (m + 10) d) 5 1 (m + 10) (bvL all), Blk gk (bv key) 23]) w' from hst) hW1 hgs hg
      refine wpList_then (hN _ _ (fun _ => hbase.turn hW1) ⟨x, .slice (some ⟨g, 0, none⟩) 64 64, u, v, g0, g, rfl, fun h => hx0 (by simpa using h), fun _ => rfl, fun h => hu (by simpa using h), fun h => absurd (hd31 (by simpa using h)) (by rw [h1]; decide), fun h => (by have := hd20 (by simpa using h); simp [this]), fun h => (by simp), ?_⟩)
      exact h6
    · refine ⟨_, rfl, fun N hN => ?_⟩
      have q0 := h2 0 (by simp)
      refine wpList_val rfl rfl (hN _ _ (fun _ => hbase) ⟨x, y, .slice (some ⟨g0, 0, none⟩) 64 64, v, g0, g1, by rw [← hx0 q0]; rfl, fun _ => hx0 q0, fun h => hy1 (by simpa using h), fun _ => rfl, fun h => hv (by simpa using h), fun _ => (by simp [q0]), fun h => (by have := hd31 (by simpa using h); simp [this]), ?_⟩)
      exact hst
    · refine ⟨_, rfl, fun N hN => ?_⟩
      have q1 := h2 1 (by simp)
      refine wpList_val rfl rfl (hN _ _ (fun _ => hbase) ⟨x, y, u, .slice (some ⟨g1, 0, none⟩) 64 64, g0, g1, by rw [← hy1 q1]; rfl, fun h => hx0 (by simpa using h), fun _ => hy1 q1, fun h => hu (by simpa using h), fun _ => rfl, fun h => (by have := hd20 (by simpa using h); simp [this]), fun _ => (by simp [q1]), ?_⟩)
      exact hst
  · rintro done a' w' hd ⟨x, y, u, v, gi, go, rfl, hx0, hy1, hu, hv, _, _, hst⟩
    have d0 := hd (0, []) (by simp)
    have d1 := hd (1, []) (by simp)
    have hx := hx0 d0
    have hy := hy1 d1
    have hu' := hu (hd (2, [0]) (by simp))
    have hv' := hv (hd (3, [1]) (by simp))
    simp only [d0, d1] at hst
    subst hx hy hu' hv'
    have H6 := hid (show St w (Blk gi (bv (List.replicate 64 0)) 5 :: Blk go (bv (List.replicate 64 0)) 5 :: [Row (.slice (some ⟨D, 0, none⟩) (m + 10) d) 5 1 (m + 10) (bvL all), Blk gk (bv key) 23]) w' from hst)
    clear hX hd hx0 hy1 hst d0 d1 hu hv
    refine wpOrd_to ?_
    have HKB := hid (fun Y (M : List Atm) (hY : St w (Blk gk (bv key) 23 :: M) Y) => src_all (blk_bytes hY))
    have HFI := hid (put_fill key)
    have hmn : (bvL key).length = Nat.min 32 64 := by rw [bvL_len, hk]; rfl
    have HMN := hid hmn
    clear hmn
    go_wp2_with (first | (refine wpList_copyB rfl _ _ 42 42 rfl 5 Tryd.underlying42 be5.size gi 0 64 64 (some ⟨gk, 0, none⟩) 32 32 rfl rfl (bv (List.replicate 64 0)) 5 H6.out.blk (bvL key) HMN.out (HKB.out _ _ H6.out.at4) (by rw [bvL_len, hk, bv_size, List.length_replicate]; decide) (bvL_one _) ?_; intro W7 hg2 hT2; rw [HFI.out] at hg2; have H7 := hid (H6.out.put hg2 hT2); clear hg2 hT2) | (refine wpList_copyB rfl _ _ 42 42 rfl 5 Tryd.underlying42 be5.size go 0 64 64 (some ⟨gk, 0, none⟩) 32 32 rfl rfl (bv (List.replicate 64 0)) 5 H7.out.at2.blk (bvL key) HMN.out (HKB.out _ _ H7.out.at4) (by rw [bvL_len, hk, bv_size, List.length_replicate]; decide) (bvL_one _) ?_; intro W8 hg2 hT2; rw [HFI.out] at hg2; have H8 := hid (H7.out.at2.put hg2 hT2).at2; clear hg2 hT2))
    have HF64 := hid (fill64_len (show key.length ≤ 64 by omega))
    clear H6 H7 HKB HFI HMN
    go_loopw [12] (fun iv X => ∃ (i : Nat) (li lo : List UInt8), iv = .int .i64 i ∧ i ≤ 64 ∧ Hid (Xord 0x36 i (fill64 key) li) ∧ Hid (Xord 0x5C i (fill64 key) lo) ∧ Hid (St w [Blk gi (bv li) 5, Blk go (bv lo) 5, Row (.slice (some ⟨D, 0, none⟩) (m + 10) d) 5 1 (m + 10) (bvL all), Blk gk (bv key) 23] X)) (fun iv _ => 64 - (intOf iv).toNat)
    case atStart => exact ⟨0, fill64 key, fill64 key, by go_num, by omega, hid (Xord.start _ _), hid (Xord.start _ _), H8⟩
    case round =>
      clear H8
      obtain ⟨i, li, lo, rfl, hi, HXI, HXO, HS⟩ := hrel
      have i0 : (0 : Int) ≤ (i : Int) := by omega
      by_cases hlt : i < 64
      · have f1 : (i : Int) < 64 := by omega
        obtain ⟨x, hx⟩ : ∃ x, (fill64 key)[i]? = some x := ⟨_, List.getElem?_eq_getElem (by rw [HF64.out]; omega)⟩
        have HSI := hid (HXI.out.step hx)
        have HSO := hid (HXO.out.step hx)
        have HC := hid (show ∀ X, St w [Blk gi (bv li) 5, Blk go (bv lo) 5, Row (.slice (some ⟨D, 0, none⟩) (m + 10) d) 5 1 (m + 10) (bvL all), Blk gk (bv key) 23] X → X.cell? ⟨gi, i, none⟩ = some (.int .u8 x.toNat) ∧ X.cell? ⟨go, i, none⟩ = some (.int .u8 x.toNat) from fun X hX => by
          constructor
          · rw [cell_of_row X gi i _ _ _ hX.blk]
            unfold bv
            rw [List.getElem?_toArray, List.getElem?_map, HXI.out.rest i (Nat.le_refl _), hx]
            rfl
          · rw [cell_of_row X go i _ _ _ hX.at2.blk]
            unfold bv
            rw [List.getElem?_toArray, List.getElem?_map, HXO.out.rest i (Nat.le_refl _), hx]
            rfl)
        have HCO := hid (show ∀ X l2, St w [Blk gi (bv l2) 5, Blk go (bv lo) 5, Row (.slice (some ⟨D, 0, none⟩) (m + 10) d) 5 1 (m + 10) (bvL all), Blk gk (bv key) 23] X → X.cell? ⟨go, i, none⟩ = some (.int .u8 x.toNat) from fun X l2 hX => by
          rw [cell_of_row X go i _ _ _ hX.at2.blk]
          unfold bv
          rw [List.getElem?_toArray, List.getElem?_map, HXO.out.rest i (Nat.le_refl _), hx]
          rfl)
        have XB := (show bits .xor .u8 (x.toNat : Int) 54 = ((x ^^^ 0x36).toNat : Int) from u8_xor_b x 0x36)
        have XC := (show bits .xor .u8 (x.toNat : Int) 92 = ((x ^^^ 0x5C).toNat : Int) from u8_xor_b x 0x5C)
        generalize (x ^^^ 0x36) = y1 at XB HSI
        generalize (x ^^^ 0x5C) = y2 at XC HSO
        clear hx
        go_wp2_with fail
        refine wp_region_ord [0, 1, 4, 5, 6, 9, 10, 11, 13, 15, 2, 3, 16, 17] [(0, 0), (1, 0), (2, 0), (3, 0), (4, 0), (5, 0), (6, 0), (9, 0), (10, 0), (11, 0), (12, 1), (13, 0), (7, 1), (8, 1), (14, 1), (15, 2), (16, 0), (17, 2)] (fun X => St w [Blk gi (bv li) 5, Blk go (bv lo) 5, Row (.slice (some ⟨D, 0, none⟩) (m + 10) d) 5 1 (m + 10) (bvL all), Blk gk (bv key) 23] X) (by kernel_rfl) (by kernel_rfl) (fun d _ c _ _ h => by cases d <;> exact h) (HS.out.turn (Below.drew (Below.refl _ _))) (fun X hXe hX => ?_)
        clear hXe HS
        iterate 10 (apply wpOrd_pure; ((· first | (rw [List.getElem?_toArray, List.getElem?_cons_zero]; done) | (simp only [List.getElem?_toArray, List.getElem?_cons_succ, List.getElem?_cons_zero]; exact rfl))); (· exact rfl); intro K hK; apply Exists.intro; refine And.intro (fun X' => ?_) ?_; (· go_simp; (try go_bits); first | done | exact rfl | exact ⟨rfl, rfl⟩); go_simp; refine hK _ _ ?_; clear hK K)
        (apply wpOrd_class; ((· first | (rw [List.getElem?_toArray, List.getElem?_cons_zero]; done) | (simp only [List.getElem?_toArray, List.getElem?_cons_succ, List.getElem?_cons_zero]; exact rfl))); (· exact rfl); intro K hK; apply Exists.intro; refine And.intro (fun X' hX' => ?_) ?_; (· obtain ⟨hq1, hq2⟩ := HC.out _ hX'; clear hX'; go_simp; (try go_bits); first | done | exact rfl | exact ⟨rfl, rfl⟩); go_simp; refine hK _ _ ?_; clear hK K)
        (apply wpOrd_pure; ((· first | (rw [List.getElem?_toArray, List.getElem?_cons_zero]; done) | (simp only [List.getElem?_toArray, List.getElem?_cons_succ, List.getElem?_cons_zero]; exact rfl))); (· exact rfl); intro K hK; apply Exists.intro; refine And.intro (fun X' => ?_) ?_; (· go_simp; (try go_bits); first | done | exact rfl | exact ⟨rfl, rfl⟩); go_simp; refine hK _ _ ?_; clear hK K)
        (apply wpOrd_class; ((· first | (rw [List.getElem?_toArray, List.getElem?_cons_zero]; done) | (simp only [List.getElem?_toArray, List.getElem?_cons_succ, List.getElem?_cons_zero]; exact rfl))); (· exact rfl); intro K hK; apply Exists.intro; refine And.intro (fun X' hX' => ?_) ?_; (· obtain ⟨hq1, hq2⟩ := HC.out _ hX'; clear hX'; go_simp; (try go_bits); first | done | exact rfl | exact ⟨rfl, rfl⟩); go_simp; refine hK _ _ ?_; clear hK K)
        (apply wpOrd_class; ((· first | (rw [List.getElem?_toArray, List.getElem?_cons_zero]; done) | (simp only [List.getElem?_toArray, List.getElem?_cons_succ, List.getElem?_cons_zero]; exact rfl))); (· exact rfl); intro K hK; apply Exists.intro; refine And.intro (fun X' hX' => ?_) ?_; (· obtain ⟨hq1, hq2⟩ := HC.out _ hX'; clear hX'; go_simp; (try go_bits); first | done | exact rfl | exact ⟨rfl, rfl⟩); go_simp; refine hK _ _ ?_; clear hK K)
        (apply wpOrd_class; ((· first | (rw [List.getElem?_toArray, List.getElem?_cons_zero]; done) | (simp only [List.getElem?_toArray, List.getElem?_cons_succ, List.getElem?_cons_zero]; exact rfl))); (· exact rfl); intro K hK; apply Exists.intro; refine And.intro (fun X' hX' => ?_) ?_; (· obtain ⟨hq1, hq2⟩ := HC.out _ hX'; clear hX'; go_simp; (try go_bits); first | done | exact rfl | exact ⟨rfl, rfl⟩); go_simp; refine hK _ _ ?_; clear hK K)
        obtain ⟨c1, c2⟩ := HC.out X hX
        have q1 := frozen_of_row X gi i _ _ hX.blk
        (apply wpOrd_comes; ((· first | (rw [List.getElem?_toArray, List.getElem?_cons_zero]; done) | (simp only [List.getElem?_toArray, List.getElem?_cons_succ, List.getElem?_cons_zero]; exact rfl))); intro N hN)
        go_wp2_with fail
        have H3 := hid (hX.setCell i (.int .u8 (y1.toNat : Int)))
        rw [bv_set] at H3
        clear hX c1 c2 q1
        obtain ⟨X3, hX3⟩ : ∃ X3, X3 = X.setCell ⟨gi, i, none⟩ (.int .u8 (y1.toNat : Int)) := ⟨_, rfl⟩
        rw [← hX3] at H3
        simp only [← hX3]
        clear hX3
        refine hN _ _ (fun h => by cases h) ?_
        clear hN N
        (apply wpOrd_pure; ((· first | (rw [List.getElem?_toArray, List.getElem?_cons_zero]; done) | (simp only [List.getElem?_toArray, List.getElem?_cons_succ, List.getElem?_cons_zero]; exact rfl))); (· exact rfl); intro K hK; apply Exists.intro; refine And.intro (fun X' => ?_) ?_; (· go_simp; (try go_bits); first | done | exact rfl | exact ⟨rfl, rfl⟩); go_simp; refine hK _ _ ?_; clear hK K)
        have c2 : X3.cell? ⟨go, i, none⟩ = some (.int .u8 x.toNat) := HCO.out X3 _ H3.out
        have q2 := frozen_of_row X3 go i _ _ H3.out.at2.blk
        (apply wpOrd_comes; ((· first | (rw [List.getElem?_toArray, List.getElem?_cons_zero]; done) | (simp only [List.getElem?_toArray, List.getElem?_cons_succ, List.getElem?_cons_zero]; exact rfl))); intro N hN)
        go_wp2_with fail
        have H4 := hid (H3.out.at2.setCell i (.int .u8 (y2.toNat : Int))).at2
        rw [bv_set] at H4
        refine hN _ _ (fun h => by cases h) ?_
        clear hN N c2 q2 H3
        refine wpOrd_done ?_
        go_wp2_with fail
        go_roundw
        case rel => exact ⟨i + 1, _, _, by go_num, by omega, HSI, HSO, H4⟩
        case measure => (simp [intOf] <;> omega)
      · have f1 : ¬ (i : Int) < 64 := by omega
        obtain rfl : i = 64 := by omega
        have HPI := hid (show li = padL key 0x36 from HXI.out.all (by rw [HF64.out]; exact Nat.le_refl _))
        have HPO := hid (show lo = padL key 0x5C from HXO.out.all (by rw [HF64.out]; exact Nat.le_refl _))
        rw [HPI.out, HPO.out] at HS
        have H9 := hid (show St w (Blk gi (bv (padL key 0x36)) 5 :: Blk go (bv (padL key 0x5C)) 5 :: Row (.slice (some ⟨D, 0, none⟩) (m + 10) d) 5 1 (m + 10) (bvL all) :: Blk gk (bv key) 23 :: []) wr from HS)
        clear HS HXI HXO HPI HPO
        have HKL := hid (show key.length ≤ 64 by omega)
        have HPD := hid (fun X (hX : St w (Blk gi (bv (padL key 0x36)) 5 :: Blk go (bv (padL key 0x5C)) 5 :: Row (.slice (some ⟨D, 0, none⟩) (m + 10) d) 5 1 (m + 10) (bvL all) :: Blk gk (bv key) 23 :: []) X) => (row_bytes hX.at3 HALL.out.symm).1)
        have HPA := hid (show Part w (Blk gi (bv (padL key 0x36)) 5 :: Blk go (bv (padL key 0x5C)) 5 :: Row (.slice (some ⟨D, 0, none⟩) (m + 10) d) 5 1 (m + 10) (bvL all) :: Blk gk (bv key) 23 :: []) (.slice (some ⟨D, 0, none⟩) (m + 10) d) all from ⟨some ⟨D, 0, none⟩, d, by rw [HALL.out], by rw [HALL.out]; exact hd1, hd2, HPD.out⟩)
        obtain ⟨sm, hsm⟩ : ∃ s, s = sumL (padL key 0x36 ++ all) := ⟨_, rfl⟩
        have HSM := hid hsm
        have HSL := hid (show sm.length = 32 by rw [hsm]; exact sumL_len _)
        have HSH := hid (fun X gx (hX : St w (Blk gx (#[.slice (some ⟨gi, 0, none⟩) 64 64] ++ #[.slice (some ⟨D, 0, none⟩) (m + 10) d]) 42 :: Blk gi (bv (padL key 0x36)) 5 :: Blk go (bv (padL key 0x5C)) 5 :: Row (.slice (some ⟨D, 0, none⟩) (m + 10) d) 5 1 (m + 10) (bvL all) :: Blk gk (bv key) 23 :: []) X) => show Calls Tryd.prog 16 #[.slice (some ⟨gx, 0, none⟩) 2 2] X fun x w' => x = .returned (.agg (bv sm)) ∧ St w (Blk gi (bv (padL key 0x36)) 5 :: Blk go (bv (padL key 0x5C)) 5 :: Row (.slice (some ⟨D, 0, none⟩) (m + 10) d) 5 1 (m + 10) (bvL all) :: Blk gk (bv key) 23 :: []) w' from by
          have h1 := sha_st hX hG (c := 2) (parts2 (part_blk (padL_len HKL.out 0x36) (by decide)) HPA.out) (by simp) (by simp [padL_len HKL.out, HALL.out]; omega)
          rw [show [padL key 0x36, all].flatten = padL key 0x36 ++ all by simp, ← hsm] at h1
          exact h1.mono fun e w' h => ⟨h.1, h.2.drop⟩)
        have HSS := hid (show (bv sm).size = 32 by rw [bv_size]; exact HSL.out)
        have HZ32 := hid (show (bv (List.replicate 32 0)).size = 32 by rw [bv_size, List.length_replicate])
        clear hsm
        go_upto_region 14 with (first | (refine wpList_buildSlice2 _ rfl (.slice (some ⟨gi, 0, none⟩) 64 64) (.slice (some ⟨D, 0, none⟩) (m + 10) d) (by simp [Act.eval]) rfl Tryd.underlying80 zeroBYs sizeBYs (by decide) (by decide) rfl rfl ?_; intro gx X4 hS hgs hges hX1b; have H4 := hid (show St w (Blk gx (#[.slice (some ⟨gi, 0, none⟩) 64 64] ++ #[.slice (some ⟨D, 0, none⟩) (m + 10) d]) 42 :: Blk gi (bv (padL key 0x36)) 5 :: Blk go (bv (padL key 0x5C)) 5 :: Row (.slice (some ⟨D, 0, none⟩) (m + 10) d) 5 1 (m + 10) (bvL all) :: Blk gk (bv key) 23 :: []) X4 from H9.out.newBlk hX1b hges hS); clear hS hgs hges hX1b) | (go_at_call 16; (with_reducible refine (HSH.out _ _ H4.out).mono ?_); rintro r X5 ⟨rfl, h5⟩; have H5 := hid h5; clear h5) | (refine wpList_alloc 23 rfl rfl (.agg (bv (List.replicate 32 0))) zero54s ?_; intro gs W6 h1 hl1 hg1 hW1; have H6 := hid (H5.out.newBlk hW1 hg1 h1); clear h1 hl1 hg1 hW1) | (refine wpList_store_box 23 _ _ rfl gs rfl rfl (bv sm) rfl 32 size54s HSS.out (bv_one _) 23 _ H6.out.blk HZ32.out ?_; intro W7 hB7 hT7 hs7; have H7 := hid (H6.out.put hB7 hT7); clear hB7 hT7 hs7))
        have HPB := hid (fun (_X : World) (M : List Atm) (hM : ∀ Y, St w M Y → St w (Blk gs (bv sm) 23 :: Blk gi (bv (padL key 0x36)) 5 :: Blk go (bv (padL key 0x5C)) 5 :: Row (.slice (some ⟨D, 0, none⟩) (m + 10) d) 5 1 (m + 10) (bvL all) :: Blk gk (bv key) 23 :: []) Y) => fun Y (hY : St w M Y) => (row_bytes (hM Y hY).at4 HALL.out.symm).1)
        have HRD := hid (show ∀ X, St w (Blk gs (bv sm) 23 :: Blk gi (bv (padL key 0x36)) 5 :: Blk go (bv (padL key 0x5C)) 5 :: Row (.slice (some ⟨D, 0, none⟩) (m + 10) d) 5 1 (m + 10) (bvL all) :: Blk gk (bv key) 23 :: []) X → Calls Tryd.prog 17 #[.slice (some ⟨D, 0, none⟩) (m + 10) d] X fun x w' => ∃ g gb C, x = .returned (.pointer (some ⟨g, 0, none⟩)) ∧ all.length ≤ C ∧ C ≤ maxLen ∧ St w (Rdr 90 g gb C all 0 0 (Blk gs (bv sm) 23 :: Blk gi (bv (padL key 0x36)) 5 :: Blk go (bv (padL key 0x5C)) 5 :: Row (.slice (some ⟨D, 0, none⟩) (m + 10) d) 5 1 (m + 10) (bvL all) :: Blk gk (bv key) 23 :: [])) w' from fun X hX => cread_st hX HALL.out.symm (HPB.out X _ (fun _ h => h)) (by rw [HALL.out]; omega) (by rw [HALL.out]; omega))
        have HRT := hid (fun X (M : List Atm) g gb C (hC : all.length ≤ C) (hX : St w (Rdr 90 g gb C all 0 0 M) X) => show Calls Tryd.prog 18 #[.pointer (some ⟨g, 0, none⟩), .int .i64 300] X fun x w' => ∃ E e p, x = .returned (.slice E m e) ∧ (2 + m < all.length → p = 2 + m) ∧ St w (Row (.slice E m e) 5 1 m (bvL a) :: Rdr 90 g gb C all (2 + m) p M) w' from by
          have h1 := rtext_st (a := a) (rest := num8 n) hX (by rw [HAT.out, HTX.out]) (by rw [HAL.out]; exact hm300) (by show 0 < (be8 _).length; rw [HN8.out]; decide) hC
          rw [HAL.out] at h1
          exact h1)
        have HRN := hid (fun X (M : List Atm) g gb C (hC : all.length ≤ C) (hX : St w (Rdr 90 g gb C all (2 + m) (2 + m) M) X) => show Calls Tryd.prog 19 #[.pointer (some ⟨g, 0, none⟩)] X fun x w' => x = .returned (.int .i64 n) ∧ ∃ p, St w (Rdr 90 g gb C all all.length p M) w' from rnum_st hX (by rw [HAT.out, show 2 + m = tx.length by rw [HTL.out]; omega]; exact List.drop_left) HN.out.1 HN.out.2 hC)
        go_upto_region 16 with (first | (go_at_call 17; (with_reducible refine (HRD.out _ H7.out).mono ?_); rintro r X8 ⟨gr, gb, C, rfl, hC1, hC2, h8⟩; have H8 := hid h8; clear h8) | (go_at_call 18; (with_reducible refine (HRT.out _ _ _ _ _ hC1 H8.out).mono ?_); rintro r X9 ⟨E, e, p, rfl, hp, h9⟩; obtain rfl := hp (by rw [HALL.out]; omega); have H9 := hid h9.back3; clear h9) | (go_at_call 19; (with_reducible refine (HRN.out _ _ _ _ _ hC1 H9.out).mono ?_); rintro r Xa ⟨rfl, p2, ha⟩; have Ha := hid ha; clear ha))
        have HB8 := hid (show ∀ X, St w (Blk gr #[.slice (some ⟨gb, p2, none⟩) (all.length - all.length) (C - all.length), .int .i64 0] 90 :: Row (.slice (some ⟨gb, 0, none⟩) all.length C) 5 1 all.length (bvL all) :: Row (.slice E m e) 5 1 m (bvL a) :: Blk gs (bv sm) 23 :: Blk gi (bv (padL key 0x36)) 5 :: Blk go (bv (padL key 0x5C)) 5 :: Row (.slice (some ⟨D, 0, none⟩) (m + 10) d) 5 1 (m + 10) (bvL all) :: Blk gk (bv key) 23 :: []) X → BytesIn X (some ⟨D, 0, none⟩) all from fun X hX => (row_bytes (hX.drop.drop.drop.at4) HALL.out.symm).1)
        have HPA2 := hid (show Part w (Blk gr #[.slice (some ⟨gb, p2, none⟩) (all.length - all.length) (C - all.length), .int .i64 0] 90 :: Row (.slice (some ⟨gb, 0, none⟩) all.length C) 5 1 all.length (bvL all) :: Row (.slice E m e) 5 1 m (bvL a) :: Blk gs (bv sm) 23 :: Blk gi (bv (padL key 0x36)) 5 :: Blk go (bv (padL key 0x5C)) 5 :: Row (.slice (some ⟨D, 0, none⟩) (m + 10) d) 5 1 (m + 10) (bvL all) :: Blk gk (bv key) 23 :: []) (.slice (some ⟨D, 0, none⟩) (m + 10) d) all from ⟨some ⟨D, 0, none⟩, d, by rw [HALL.out], by rw [HALL.out]; exact hd1, hd2, HB8.out⟩)
        have HS5 := hid (fun X gx (hX : St w (Blk gx #[.slice (some ⟨D, 0, none⟩) (m + 10) d] 42 :: Blk gr #[.slice (some ⟨gb, p2, none⟩) (all.length - all.length) (C - all.length), .int .i64 0] 90 :: Row (.slice (some ⟨gb, 0, none⟩) all.length C) 5 1 all.length (bvL all) :: Row (.slice E m e) 5 1 m (bvL a) :: Blk gs (bv sm) 23 :: Blk gi (bv (padL key 0x36)) 5 :: Blk go (bv (padL key 0x5C)) 5 :: Row (.slice (some ⟨D, 0, none⟩) (m + 10) d) 5 1 (m + 10) (bvL all) :: Blk gk (bv key) 23 :: []) X) => show Calls Tryd.prog 20 #[.slice (some ⟨gx, 0, none⟩) 1 1] X fun x w' => (∃ l, l.length = 64 ∧ x = .returned (.agg (bv l))) ∧ St w (Blk gr #[.slice (some ⟨gb, p2, none⟩) (all.length - all.length) (C - all.length), .int .i64 0] 90 :: Row (.slice (some ⟨gb, 0, none⟩) all.length C) 5 1 all.length (bvL all) :: Row (.slice E m e) 5 1 m (bvL a) :: Blk gs (bv sm) 23 :: Blk gi (bv (padL key 0x36)) 5 :: Blk go (bv (padL key 0x5C)) 5 :: Row (.slice (some ⟨D, 0, none⟩) (m + 10) d) 5 1 (m + 10) (bvL all) :: Blk gk (bv key) 23 :: []) w' from
          (sum5_st hX hG5 (c := 1) (parts1 HPA2.out) (by simp) (by simp [HALL.out]; omega)).mono fun e w' h => ⟨h.1, h.2.drop⟩)
        have HZ64b := hid (show (bv (List.replicate 64 0)).size = 64 by rw [bv_size, List.length_replicate])
        clear HRD HRT HRN HPB HPA HSH
        go_upto_region 17 with (first | (refine wpList_buildSlice1 _ rfl (.slice (some ⟨D, 0, none⟩) (m + 10) d) (by simp [Act.eval]) rfl Tryd.underlying80 zeroBYs sizeBYs (by decide) (by decide) rfl ?_; intro gx X4 hS hgs hges hX1b; have H4 := hid (show St w (Blk gx #[.slice (some ⟨D, 0, none⟩) (m + 10) d] 42 :: Blk gr #[.slice (some ⟨gb, p2, none⟩) (all.length - all.length) (C - all.length), .int .i64 0] 90 :: Row (.slice (some ⟨gb, 0, none⟩) all.length C) 5 1 all.length (bvL all) :: Row (.slice E m e) 5 1 m (bvL a) :: Blk gs (bv sm) 23 :: Blk gi (bv (padL key 0x36)) 5 :: Blk go (bv (padL key 0x5C)) 5 :: Row (.slice (some ⟨D, 0, none⟩) (m + 10) d) 5 1 (m + 10) (bvL all) :: Blk gk (bv key) 23 :: []) X4 from Ha.out.newBlk hX1b hges hS); clear hS hgs hges hX1b) | (go_at_call 20; (with_reducible refine (HS5.out _ _ H4.out).mono ?_); rintro r Xb ⟨⟨l, hl, rfl⟩, hb⟩; have Hb := hid hb; have HL := hid hl; have HLS := hid ((bv_size l).trans hl); clear hb hl) | (refine wpList_alloc 55 rfl rfl (.agg (bv (List.replicate 64 0))) zero64b ?_; intro gl W6 h1 hl1 hg1 hW1; have H6 := hid (Hb.out.newBlk hW1 hg1 h1); clear h1 hl1 hg1 hW1) | (refine wpList_store_box 55 _ _ rfl gl rfl rfl (bv l) rfl 64 size64b HLS.out (bv_one _) 55 _ H6.out.blk HZ64b.out ?_; intro Wc hB7 hT7 hs7; have Hc := hid (H6.out.put hB7 hT7); clear hB7 hT7 hs7))
        clear H7 H8 Ha H4 Hb H6 HS5
        obtain ⟨AT, hAT⟩ : ∃ AT, AT = [Blk gl (bv l) 55, Blk gr #[.slice (some ⟨gb, p2, none⟩) (all.length - all.length) (C - all.length), .int .i64 0] 90, Row (.slice (some ⟨gb, 0, none⟩) all.length C) 5 1 all.length (bvL all), Row (.slice E m e) 5 1 m (bvL a), Blk gs (bv sm) 23, Blk gi (bv (padL key 0x36)) 5, Blk go (bv (padL key 0x5C)) 5, Row (.slice (some ⟨D, 0, none⟩) (m + 10) d) 5 1 (m + 10) (bvL all), Blk gk (bv key) 23] := ⟨_, rfl⟩
        have HT := hid (show St w AT Wc from by rw [hAT]; exact Hc.out)
        have HFE := hid (show ∀ X, St w AT X → BytesIn X E a from by subst hAT; intro X hX; exact (row_bytes hX.at4 HAL.out.symm).1)
        have HFD := hid (show ∀ X, St w AT X → BytesIn X (some ⟨D, 0, none⟩) all from by subst hAT; intro X hX; exact (row_bytes hX.drop.at7 HALL.out.symm).1)
        have HFK := hid (show ∀ X, St w AT X → BytesIn X (some ⟨gk, 0, none⟩) key from by subst hAT; intro X hX; exact blk_bytes hX.drop.drop.at7)
        have HFO := hid (show ∀ X, St w AT X → BytesIn X (some ⟨go, 0, none⟩) (padL key 0x5C) from by subst hAT; intro X hX; exact blk_bytes hX.at7)
        have HFS := hid (show ∀ X, St w AT X → BytesIn X (some ⟨gs, 0, none⟩) sm from by subst hAT; intro X hX; exact blk_bytes hX.at5)
        have HFL := hid (show ∀ X, St w AT X → BytesIn X (some ⟨gl, 0, none⟩) l from by subst hAT; intro X hX; exact blk_bytes hX)
        have HGX := hid (show ∀ X, St w AT X → Glob X from fun X hX => hG.below hX.below hG.two)
        obtain ⟨mk, hmk⟩ : ∃ mk, mk = hmacL key all := ⟨_, rfl⟩
        have HML := hid (show mk.length = 32 by rw [hmk]; exact sumL_len _)
        have HEN := hid (show ∀ X, St w AT X → Calls Tryd.prog 22 #[.pointer (some ⟨gr, 0, none⟩)] X fun x w' => x = .returned (.int .i64 0) ∧ St w AT w' from by
          subst hAT
          intro X hX
          exact (rend_st (p := p2) (C := C) (gb := gb) (all := all) (g := gr) hX.back3).mono fun e w' h => ⟨h.1, h.2.at3⟩)
        have HSE := hid (show ∀ X, St w AT X → Calls Tryd.prog 23 #[.slice (some ⟨gl, 0, none⟩) 64 64, .slice (some ⟨gl, 0, none⟩) 64 64] X fun x w' => x = .returned (.bool true) ∧ St w AT w' from fun X hX => same_st hX HL.out.symm (by decide) HFL.out)
        have HST := hid (show ∀ X, St w AT X → Calls Tryd.prog 12 #[] X fun x w' => x = .returned (.bool true) ∧ St w AT w' from fun X hX => stands_st hX hG)
        have HO1 := hid (fun X gx (hX : St w AT X) (hc : X.heap[gx]? = some (.cells #[.slice (some ⟨D, 0, none⟩) (m + 10) d] 42 (0, 0))) => show Calls Tryd.prog 21 #[.slice (some ⟨gk, 0, none⟩) 32 32, .slice (some ⟨gx, 0, none⟩) 1 1] X fun x w' => x = .returned (.agg (bv mk)) ∧ Below X.heap.size X w' from by
          have h1 := hof_now (X := X) (n := 32) (kc := 32) (m := 1) (c := 1) (HGX.out X hX) hk.symm (HFK.out X hX) (by rw [hk]; decide) rfl (parts1_now hc (part_now HALL.out.symm hd1 hd2 (HFD.out X hX))) (by simp) (by simp [HALL.out]; omega)
          rw [show [all].flatten = all by simp, ← hmk] at h1
          exact h1)
        have HO2 := hid (fun X gx (hX : St w AT X) (hc : X.heap[gx]? = some (.cells (#[.slice (some ⟨go, 0, none⟩) 64 64] ++ #[.slice (some ⟨gs, 0, none⟩) 32 32]) 42 (0, 0))) => show Calls Tryd.prog 16 #[.slice (some ⟨gx, 0, none⟩) 2 2] X fun x w' => x = .returned (.agg (bv mk)) ∧ Below X.heap.size X w' from by
          have h1 := sha_now (X := X) (m := 2) (c := 2) (HGX.out X hX) rfl (parts2_now hc (part_now (padL_len HKL.out 0x5C).symm (by decide) (by decide) (HFO.out X hX)) (part_now HSL.out.symm (by decide) (by decide) (HFS.out X hX))) (by simp) (by simp [padL_len HKL.out, HSL.out])
          rw [show [padL key 0x5C, sm].flatten = padL key 0x5C ++ sm by simp, HSM.out, show sumL (padL key 0x5C ++ sumL (padL key 0x36 ++ all)) = hmacL key all from rfl, ← hmk] at h1
          exact h1)
        have HMK := hid hmk
        have EQ : ∀ x y W, (cmpK .eql 23 x y (.agg (bv mk)) (.agg (bv mk))).run Tryd.prog W = .ok (.value (.bool true)) W := fun x y W => (run_cmpK_eql guard23 Tryd.underlying23 be5 cells5 HML.out HML.out x y W).trans (by simp)
        clear hmk Hc
        clear hAT
        refine wp_region_segs [.ord [(0, 2), (1, 1), (2, 1), (3, 1), (4, 1), (5, 1), (6, 1), (7, 1), (10, 1), (11, 1)], .blk [(8, []), (9, [8]), (12, []), (13, [12, 9])], .ord [(14, 1), (15, 1), (16, 1), (17, 1), (18, 1), (19, 1), (20, 1), (21, 1), (24, 1), (25, 1)], .blk [(22, []), (23, [22]), (26, []), (27, [26, 23])], .ord [(28, 1), (29, 1), (30, 1), (31, 1), (32, 1), (33, 1), (34, 1), (35, 1), (36, 1), (37, 1), (38, 1), (39, 1), (40, 1), (41, 1), (42, 1), (43, 1), (44, 2), (45, 1), (46, 1), (47, 1), (48, 1), (49, 1), (50, 2), (51, 1), (52, 1)]] (fun X => St w AT X) (by kernel_rfl) (by kernel_rfl) (fun d _ c _ _ h => by cases d <;> exact h) (HT.out.turn (Below.drew (Below.refl _ _))) (fun X hXe hX => ?_)
        clear hXe HT
        refine wpSegs_ord fun F1 hF1 => ?_
        (apply wpOrd_comes; ((· first | (rw [List.getElem?_toArray, List.getElem?_cons_zero]; done) | (simp only [List.getElem?_toArray, List.getElem?_cons_succ, List.getElem?_cons_zero]; exact rfl))); intro N hN)
        go_wp2_with (go_at_call 12; (with_reducible refine (HST.out _ hX).mono ?_); rintro r Xs ⟨rfl, hs⟩)
        refine hN _ _ (fun _ => hs) ?_
        clear hN N hX
        iterate 9 (apply wpOrd_class; ((· first | (rw [List.getElem?_toArray, List.getElem?_cons_zero]; done) | (simp only [List.getElem?_toArray, List.getElem?_cons_succ, List.getElem?_cons_zero]; exact rfl))); (· exact rfl); intro K hK; apply Exists.intro; refine And.intro (fun X' hX' => ?_) ?_; (· go_simp; (try go_bits); first | done | exact rfl | exact ⟨rfl, rfl⟩); go_simp; refine hK _ _ ?_; clear hK K)
        refine wpOrd_to (hF1 _ _ ?_)
        clear hF1 F1
        refine wpSegs_blk fun F2 hF2 => ?_
        refine bulk_intro (fun a0 done a' w' => ∃ x85 x86 x89 x90 : Value, a' = (((a0.put (some 85) x85).put (some 86) x86).put (some 89) x89).put (some 90) x90 ∧ (done 8 = true → ∃ g, x85 = .slice (some ⟨g, 0, none⟩) 1 1 ∧ w'.heap[g]? = some (.cells #[.slice (some ⟨D, 0, none⟩) (m + 10) d] 42 (0, 0))) ∧ (done 9 = true → x86 = .agg (bv mk)) ∧ (done 12 = true → ∃ g, x89 = .slice (some ⟨g, 0, none⟩) 2 2 ∧ w'.heap[g]? = some (.cells (#[.slice (some ⟨go, 0, none⟩) 64 64] ++ #[.slice (some ⟨gs, 0, none⟩) 32 32]) 42 (0, 0))) ∧ (done 13 = true → x90 = .agg (bv mk)) ∧ St w AT w') ?_ ?_ ?_
        · intro done hd
          have d0 := hd (8, []) (by simp)
          have d1 := hd (9, [8]) (by simp)
          have d2 := hd (12, []) (by simp)
          have d3 := hd (13, [12, 9]) (by simp)
          refine exists_put4 (i := 85) (j := 86) (k := 89) (l := 90) fun x y z u e => ⟨e, fun h => (by rw [d0] at h; cases h), fun h => (by rw [d1] at h; cases h), fun h => (by rw [d2] at h; cases h), fun h => (by rw [d3] at h; cases h), hs⟩
        · rintro p hp done a' w' h1 h2 ⟨x85, x86, x89, x90, rfl, k85, k86, k89, k90, hst⟩
          clear hs
          simp only [List.mem_cons, List.not_mem_nil, or_false] at hp
          rcases hp with rfl | rfl | rfl | rfl
          · refine ⟨_, rfl, fun N hN => ?_⟩
            refine wpList_buildSlice1 _ rfl (.slice (some ⟨D, 0, none⟩) (m + 10) d) (by simp [Act.eval, Act.put]) rfl Tryd.underlying80 zeroBYs sizeBYs (by decide) (by decide) rfl ?_
            intro gx X4 hS hgs hges hX1b
            exact wpList_then (hN _ _ (fun _ => hst.turn hX1b) ⟨.slice (some ⟨gx, 0, none⟩) 1 1, x86, x89, x90, rfl, fun _ => ⟨gx, rfl, hS⟩, fun h => k86 (by simpa using h), fun h => (by obtain ⟨g, e1, e2⟩ := k89 (by simpa using h); exact ⟨g, e1, (hX1b.block g (heap_lt e2)).trans e2⟩), fun h => k90 (by simpa using h), hst.turn hX1b⟩)
          · refine ⟨_, rfl, fun N hN => ?_⟩
            obtain ⟨g, rfl, hg⟩ := k85 (h2 8 (by simp))
            go_wp2_with (go_at_call 21; (with_reducible refine (HO1.out _ _ hst hg).mono ?_); rintro r Xs ⟨rfl, hs⟩)
            exact hN _ _ (fun _ => hst.turn hs) ⟨.slice (some ⟨g, 0, none⟩) 1 1, .agg (bv mk), x89, x90, rfl, fun _ => ⟨g, rfl, (hs.block g (heap_lt hg)).trans hg⟩, fun _ => rfl, fun h => (by obtain ⟨g, e1, e2⟩ := k89 (by simpa using h); exact ⟨g, e1, (hs.block g (heap_lt e2)).trans e2⟩), fun h => k90 (by simpa using h), hst.turn hs⟩
          · refine ⟨_, rfl, fun N hN => ?_⟩
            refine wpList_buildSlice2 _ rfl (.slice (some ⟨go, 0, none⟩) 64 64) (.slice (some ⟨gs, 0, none⟩) 32 32) (by simp [Act.eval, Act.put]) rfl Tryd.underlying80 zeroBYs sizeBYs (by decide) (by decide) rfl rfl ?_
            intro gx X4 hS hgs hges hX1b
            exact wpList_then (hN _ _ (fun _ => hst.turn hX1b) ⟨x85, x86, .slice (some ⟨gx, 0, none⟩) 2 2, x90, rfl, fun h => (by obtain ⟨g, e1, e2⟩ := k85 (by simpa using h); exact ⟨g, e1, (hX1b.block g (heap_lt e2)).trans e2⟩), fun h => k86 (by simpa using h), fun _ => ⟨gx, rfl, hS⟩, fun h => k90 (by simpa using h), hst.turn hX1b⟩)
          · refine ⟨_, rfl, fun N hN => ?_⟩
            obtain ⟨g, rfl, hg⟩ := k89 (h2 12 (by simp))
            obtain rfl := k86 (h2 9 (by simp))
            go_wp2_with (go_at_call 16; (with_reducible refine (HO2.out _ _ hst hg).mono ?_); rintro r Xs ⟨rfl, hs⟩)
            exact hN _ _ (fun _ => hst.turn hs) ⟨x85, .agg (bv mk), .slice (some ⟨g, 0, none⟩) 2 2, .agg (bv mk), rfl, fun h => (by obtain ⟨g, e1, e2⟩ := k85 (by simpa using h); exact ⟨g, e1, (hs.block g (heap_lt e2)).trans e2⟩), fun _ => rfl, fun _ => ⟨g, rfl, (hs.block g (heap_lt hg)).trans hg⟩, fun _ => rfl, hst.turn hs⟩
        · rintro done a' w' hd ⟨x85, x86, x89, x90, rfl, k85, k86, k89, k90, hst⟩
          obtain ⟨g8, rfl, _⟩ := k85 (hd (8, []) (by simp))
          obtain rfl := k86 (hd (9, [8]) (by simp))
          obtain ⟨g12, rfl, _⟩ := k89 (hd (12, []) (by simp))
          obtain rfl := k90 (hd (13, [12, 9]) (by simp))
          clear k85 k86 k89 k90 hd hs
          refine hF2 _ _ ?_
          clear hF2 F2
          refine wpSegs_ord fun F1 hF1 => ?_
          have hd2i : (2 : Int) ≤ (d : Int) := by omega
          have hm2i : (2 : Int) ≤ (m : Int) + 10 := by omega
          have hd2n : ¬ d = 2 := by omega
          iterate 10 (apply wpOrd_class; ((· first | (rw [List.getElem?_toArray, List.getElem?_cons_zero]; done) | (simp only [List.getElem?_toArray, List.getElem?_cons_succ, List.getElem?_cons_zero]; exact rfl))); (· exact rfl); intro K hK; apply Exists.intro; refine And.intro (fun X' hX' => ?_) ?_; (· go_simp; (try go_bits); first | done | exact rfl | exact ⟨rfl, rfl⟩); go_simp; refine hK _ _ ?_; clear hK K)
          have HPT := hid (show all.take 2 ++ all.drop 2 = all from List.take_append_drop 2 all)
          have HO3 := hid (fun X gx (hX : St w AT X) (hc : X.heap[gx]? = some (.cells (#[.slice (some ⟨D, 0, none⟩) 2 d] ++ #[.slice (some ⟨D, 2, none⟩) (m + 10 - 2) (d - 2)]) 42 (0, 0))) => show Calls Tryd.prog 21 #[.slice (some ⟨gk, 0, none⟩) 32 32, .slice (some ⟨gx, 0, none⟩) 2 2] X fun x w' => x = .returned (.agg (bv mk)) ∧ Below X.heap.size X w' from by
            have hB := HFD.out X hX
            have h1 := hof_now (X := X) (n := 32) (kc := 32) (m := 2) (c := 2) (HGX.out X hX) hk.symm (HFK.out X hX) (by rw [hk]; decide) rfl (parts2_now hc (part_now (b := all.take 2) (by rw [List.length_take, HALL.out]; omega) (by omega) hd2 (hB.take 2)) (part_now (b := all.drop 2) (by rw [List.length_drop, HALL.out]) (by omega) (by omega) (bytes_drop hB 2))) (by simp) (by simp [HALL.out]; omega)
            rw [show [all.take 2, all.drop 2].flatten = all by simp, ← HMK.out] at h1
            exact h1)
          refine wpOrd_to (hF1 _ _ ?_)
          clear hF1 F1
          refine wpSegs_blk fun F2 hF2 => ?_
          refine bulk_intro (fun a0 done a' w' => ∃ x99 x100 x103 x104 : Value, a' = (((a0.put (some 99) x99).put (some 100) x100).put (some 103) x103).put (some 104) x104 ∧ (done 26 = true → ∃ g, x103 = .slice (some ⟨g, 0, none⟩) 1 1 ∧ w'.heap[g]? = some (.cells #[.slice (some ⟨D, 0, none⟩) (m + 10) d] 42 (0, 0))) ∧ (done 27 = true → x104 = .agg (bv mk)) ∧ (done 22 = true → ∃ g, x99 = .slice (some ⟨g, 0, none⟩) 2 2 ∧ w'.heap[g]? = some (.cells (#[.slice (some ⟨D, 0, none⟩) 2 d] ++ #[.slice (some ⟨D, 2, none⟩) (m + 10 - 2) (d - 2)]) 42 (0, 0))) ∧ (done 23 = true → x100 = .agg (bv mk)) ∧ St w AT w') ?_ ?_ ?_
          · intro done hd
            have d0 := hd (22, []) (by simp)
            have d1 := hd (23, [22]) (by simp)
            have d2 := hd (26, []) (by simp)
            have d3 := hd (27, [26, 23]) (by simp)
            refine exists_put4 (i := 99) (j := 100) (k := 103) (l := 104) fun x y z u e => ⟨e, fun h => (by rw [d2] at h; cases h), fun h => (by rw [d3] at h; cases h), fun h => (by rw [d0] at h; cases h), fun h => (by rw [d1] at h; cases h), hst⟩
          · clear hst
            rintro p hp done a' w' h1 h2 ⟨x99, x100, x103, x104, rfl, k103, k104, k99, k100, hst⟩
            simp only [List.mem_cons, List.not_mem_nil, or_false] at hp
            rcases hp with rfl | rfl | rfl | rfl
            · refine ⟨_, rfl, fun N hN => ?_⟩
              refine wpList_buildSlice2 _ rfl (.slice (some ⟨D, 0, none⟩) 2 d) (.slice (some ⟨D, 2, none⟩) (m + 10 - 2) (d - 2)) (by simp [Act.eval, Act.put]) rfl Tryd.underlying80 zeroBYs sizeBYs (by decide) (by decide) rfl rfl ?_
              intro gx X4 hS hgs hges hX1b
              exact wpList_then (hN _ _ (fun _ => hst.turn hX1b) ⟨.slice (some ⟨gx, 0, none⟩) 2 2, x100, x103, x104, rfl, fun h => (by obtain ⟨g, e1, e2⟩ := k103 (by simpa using h); exact ⟨g, e1, (hX1b.block g (heap_lt e2)).trans e2⟩), fun h => k104 (by simpa using h), fun _ => ⟨gx, rfl, hS⟩, fun h => k100 (by simpa using h), hst.turn hX1b⟩)
            · refine ⟨_, rfl, fun N hN => ?_⟩
              obtain ⟨g, rfl, hg⟩ := k99 (h2 22 (by simp))
              go_wp2_with (go_at_call 21; (with_reducible refine (HO3.out _ _ hst hg).mono ?_); rintro r Xs ⟨rfl, hs⟩)
              exact hN _ _ (fun _ => hst.turn hs) ⟨.slice (some ⟨g, 0, none⟩) 2 2, .agg (bv mk), x103, x104, rfl, fun h => (by obtain ⟨g, e1, e2⟩ := k103 (by simpa using h); exact ⟨g, e1, (hs.block g (heap_lt e2)).trans e2⟩), fun h => k104 (by simpa using h), fun _ => ⟨g, rfl, (hs.block g (heap_lt hg)).trans hg⟩, fun _ => rfl, hst.turn hs⟩
            · refine ⟨_, rfl, fun N hN => ?_⟩
              refine wpList_buildSlice1 _ rfl (.slice (some ⟨D, 0, none⟩) (m + 10) d) (by simp [Act.eval, Act.put]) rfl Tryd.underlying80 zeroBYs sizeBYs (by decide) (by decide) rfl ?_
              intro gx X4 hS hgs hges hX1b
              exact wpList_then (hN _ _ (fun _ => hst.turn hX1b) ⟨x99, x100, .slice (some ⟨gx, 0, none⟩) 1 1, x104, rfl, fun _ => ⟨gx, rfl, hS⟩, fun h => k104 (by simpa using h), fun h => (by obtain ⟨g, e1, e2⟩ := k99 (by simpa using h); exact ⟨g, e1, (hX1b.block g (heap_lt e2)).trans e2⟩), fun h => k100 (by simpa using h), hst.turn hX1b⟩)
            · refine ⟨_, rfl, fun N hN => ?_⟩
              obtain ⟨g, rfl, hg⟩ := k103 (h2 26 (by simp))
              obtain rfl := k100 (h2 23 (by simp))
              go_wp2_with (go_at_call 21; (with_reducible refine (HO1.out _ _ hst hg).mono ?_); rintro r Xs ⟨rfl, hs⟩)
              exact hN _ _ (fun _ => hst.turn hs) ⟨x99, .agg (bv mk), .slice (some ⟨g, 0, none⟩) 1 1, .agg (bv mk), rfl, fun _ => ⟨g, rfl, (hs.block g (heap_lt hg)).trans hg⟩, fun _ => rfl, fun h => (by obtain ⟨g, e1, e2⟩ := k99 (by simpa using h); exact ⟨g, e1, (hs.block g (heap_lt e2)).trans e2⟩), fun _ => rfl, hst.turn hs⟩
          · clear hst
            rintro done a' w' hd ⟨x99, x100, x103, x104, rfl, k103, k104, k99, k100, hst⟩
            obtain ⟨g22, rfl, _⟩ := k99 (hd (22, []) (by simp))
            obtain rfl := k100 (hd (23, [22]) (by simp))
            obtain ⟨g26, rfl, _⟩ := k103 (hd (26, []) (by simp))
            obtain rfl := k104 (hd (27, [26, 23]) (by simp))
            clear k99 k100 k103 k104 hd
            refine hF2 _ _ ?_
            clear hF2 F2 HO1 HO2 HO3
            refine wpSegs_ord fun F1 hF1 => ?_
            have HAE := hid (show ∀ X, St w AT X → BytesIn X A a from fun X hX => HAB.out.below hX.below)
            have HCE := hid (fun X (hX : St w AT X) => conv_bytes (HFE.out X hX) m e HAL.out.symm)
            have HCA := hid (fun X (hX : St w AT X) => conv_bytes (HAE.out X hX) m c HAL.out.symm)
            iterate 4 (apply wpOrd_class; ((· first | (rw [List.getElem?_toArray, List.getElem?_cons_zero]; done) | (simp only [List.getElem?_toArray, List.getElem?_cons_succ, List.getElem?_cons_zero]; exact rfl))); (· exact rfl); intro K hK; apply Exists.intro; refine And.intro (fun X' hX' => ?_) ?_; (· go_simp; (try go_bits); first | done | exact rfl | exact ⟨rfl, rfl⟩); go_simp; refine hK _ _ ?_; clear hK K)
            (apply wpOrd_class; ((· first | (rw [List.getElem?_toArray, List.getElem?_cons_zero]; done) | (simp only [List.getElem?_toArray, List.getElem?_cons_succ, List.getElem?_cons_zero]; exact rfl))); (· exact rfl); intro K hK; apply Exists.intro; refine And.intro (fun X' hX' => ?_) ?_; (· have hq := HCE.out _ hX'; clear hX'; go_simp; (try go_bits); first | done | exact rfl | exact ⟨rfl, rfl⟩); go_simp; refine hK _ _ ?_; clear hK K)
            iterate 1 (apply wpOrd_class; ((· first | (rw [List.getElem?_toArray, List.getElem?_cons_zero]; done) | (simp only [List.getElem?_toArray, List.getElem?_cons_succ, List.getElem?_cons_zero]; exact rfl))); (· exact rfl); intro K hK; apply Exists.intro; refine And.intro (fun X' hX' => ?_) ?_; (· go_simp; (try go_bits); first | done | exact rfl | exact ⟨rfl, rfl⟩); go_simp; refine hK _ _ ?_; clear hK K)
            (apply wpOrd_class; ((· first | (rw [List.getElem?_toArray, List.getElem?_cons_zero]; done) | (simp only [List.getElem?_toArray, List.getElem?_cons_succ, List.getElem?_cons_zero]; exact rfl))); (· exact rfl); intro K hK; apply Exists.intro; refine And.intro (fun X' hX' => ?_) ?_; (· have hq := HCA.out _ hX'; clear hX'; go_simp; (try go_bits); first | done | exact rfl | exact ⟨rfl, rfl⟩); go_simp; refine hK _ _ ?_; clear hK K)
            iterate 9 (apply wpOrd_class; ((· first | (rw [List.getElem?_toArray, List.getElem?_cons_zero]; done) | (simp only [List.getElem?_toArray, List.getElem?_cons_succ, List.getElem?_cons_zero]; exact rfl))); (· exact rfl); intro K hK; apply Exists.intro; refine And.intro (fun X' hX' => ?_) ?_; (· go_simp; (try go_bits); first | done | exact rfl | exact ⟨rfl, rfl⟩); go_simp; refine hK _ _ ?_; clear hK K)
            (apply wpOrd_comes; ((· first | (rw [List.getElem?_toArray, List.getElem?_cons_zero]; done) | (simp only [List.getElem?_toArray, List.getElem?_cons_succ, List.getElem?_cons_zero]; exact rfl))); intro N hN)
            go_wp2_with (go_at_call 22; (with_reducible refine (HEN.out _ hst).mono ?_); rintro r Xe ⟨rfl, he⟩)
            refine hN _ _ (fun _ => he) ?_
            clear hN N hst
            iterate 5 (apply wpOrd_class; ((· first | (rw [List.getElem?_toArray, List.getElem?_cons_zero]; done) | (simp only [List.getElem?_toArray, List.getElem?_cons_succ, List.getElem?_cons_zero]; exact rfl))); (· exact rfl); intro K hK; apply Exists.intro; refine And.intro (fun X' hX' => ?_) ?_; (· go_simp; (try go_bits); first | done | exact rfl | exact ⟨rfl, rfl⟩); go_simp; refine hK _ _ ?_; clear hK K)
            (apply wpOrd_comes; ((· first | (rw [List.getElem?_toArray, List.getElem?_cons_zero]; done) | (simp only [List.getElem?_toArray, List.getElem?_cons_succ, List.getElem?_cons_zero]; exact rfl))); intro N hN)
            go_wp2_with (go_at_call 23; (with_reducible refine (HSE.out _ he).mono ?_); rintro r Xf ⟨rfl, hf⟩)
            refine hN _ _ (fun _ => hf) ?_
            clear hN N he
            iterate 2 (apply wpOrd_class; ((· first | (rw [List.getElem?_toArray, List.getElem?_cons_zero]; done) | (simp only [List.getElem?_toArray, List.getElem?_cons_succ, List.getElem?_cons_zero]; exact rfl))); (· exact rfl); intro K hK; apply Exists.intro; refine And.intro (fun X' hX' => ?_) ?_; (· go_simp; (try go_bits); first | done | exact rfl | exact ⟨rfl, rfl⟩); go_simp; refine hK _ _ ?_; clear hK K)
            refine wpOrd_to (hF1 _ _ ?_)
            clear hF1 F1
            refine wpSegs_nil ?_
            go_wp2_with fail
            go_ret
            exact ⟨rfl, hf.below⟩
end Go.Proofs.YtnakbdgoaepehaaDoor
