/- PathSorts: the walk. -/
import Derived.Test.YtnakbdgoaepehaaKeySortR
import Derived.Test.YtnakbdgoaepehaaOpen2
namespace Go.Cu
open Go Go.RowKit Go.ChangeShapes Go.WideShapes
def KeysIn (w : World) (A : Option Addr) (ks : Ks) : Prop := ∀ i k, ks[i]? = some k → ∃ g o, A = some ⟨g, o, none⟩ ∧ g < w.heap.size ∧ ∀ j, j < 32 → w.cell? ⟨g, o + i * 32 + j, none⟩ = (bvL k)[j]?
theorem KeysIn.take {w : World} {A : Option Addr} {ks : Ks} (h : KeysIn w A ks) (n : Nat) : KeysIn w A (ks.take n) := fun i k hk => by
  rw [List.getElem?_take] at hk
  split at hk
  · exact h i k hk
  · cases hk
theorem KeysIn.below {w W : World} {A : Option Addr} {ks : Ks} (h : KeysIn w A ks) (hb : Below w.heap.size w W) : KeysIn W A ks := fun i k hk => by
  obtain ⟨g, o, hA, hg, hc⟩ := h i k hk
  exact ⟨g, o, hA, Nat.lt_of_lt_of_le hg hb.size, fun j hj => (hb.cell (p := ⟨g, o + i * 32 + j, none⟩) hg).trans (hc j hj)⟩
section
variable {P : Program}
/-- Keys of a parameter appended to a row. -/
theorem wpList_append_keys {ops : Array Oper} {rest : List Oper} {o : Oper} {a : Act} {w : World} {Q : Exit → Act → World → Prop} (s x : Operand) (t : TypeId)
    (ho : o.op = .call { callee := .builtin .append, args := #[s, x], argTypes := #[t, t] }) (v : Value) (hs : a.eval s = v) (B : Option Addr) (m c : Nat) (hx : a.eval x = .slice B m c) (hw : Region.wanted o (yielded ops a.tmps) = true)
    (e : TypeId) (i : TypeInfo) (z : Value) (ht : P.underlying t = some (.slice e)) (hi : P.info? e = some i) (hz : i.zero = some z)
    (hsize : i.size = 32) (hby : i.bytes = 32) (hzs : z.cells.size = 32)
    (n : Nat) (xs : List Value) (hown : w.ownsRow 0 e 32 v n xs) (ks : Ks) (hS : KeysIn w B ks) (ha : All32 ks) (hm : ks.length = m)
    (h63 : n + m ≤ 1000000)
    (h : ∀ v' w', w'.ownsRow 0 e 32 v' (n + m) (xs ++ keysL ks) → Tch (fun g => v.ownBlock = some g) w w' → (v'.ownBlock = v.ownBlock ∨ v'.ownBlock = some w.heap.size) → wpList P ops Q rest (a.put o.dst v') w') : wpList P ops Q (o :: rest) a w := by
  by_cases h0 : m = 0
  · subst h0
    obtain rfl : ks = [] := List.eq_nil_of_length_eq_zero hm
    refine wpList_wanted hw fun K hK => ?_
    have hrun := run_append_zero 0 t o.type e i 32 ht hi v n xs hown B c
    unfold Oper.wp execOp
    simp only [ho, resolve, invoke, builtin, Sem.run_bind, Sem.run_pure, Result.andThen_ok, List.map_toArray, List.map_cons, List.map_nil, hs, hx, hrun]
    exact hK _ _ (h v w (by simpa using hown) (Tch.refl _ _) (.inl rfl))
  · obtain ⟨g, o', rfl, _, _⟩ := hS 0 (ks[0]'(by omega)) (List.getElem?_eq_getElem (by omega))
    have hkl : (keysL ks).length = m * 32 := by rw [keysL_len ha, hm]
    refine wpList_append_at s x t ho v hs ⟨g, o', none⟩ m c hx hw e i z 32 32 ht hi hz hsize hby hzs (by decide) n xs hown (keysL ks) hkl (fun j u hj => ?_) (keysL_one ks) (by unfold maxLen; omega) (by omega) h
    have hjl : j < (keysL ks).length := (List.getElem?_eq_some_iff.1 hj).1
    have hi32 : j / 32 < ks.length := by omega
    obtain ⟨g', o2, e', _, hc⟩ := hS (j / 32) (ks[j / 32]) (List.getElem?_eq_getElem hi32)
    cases e'
    have h5 := fm_get ks (j / 32) (j % 32) (ks[j / 32]) ha.len (List.getElem?_eq_getElem hi32) (Nat.mod_lt _ (by decide))
    have hdm : j / 32 * 32 + j % 32 = j := Nat.div_add_mod' j 32
    rw [hdm] at h5
    have h6 := hc (j % 32) (Nat.mod_lt _ (by decide))
    rw [Nat.add_assoc, hdm] at h6
    have e3 : (⟨g, o', none⟩ : Addr).add j = ⟨g, o' + j, none⟩ := by unfold Addr.add; split <;> simp_all
    rw [e3, h6, ← h5]
    exact hj
section
variable {H : Type} {enc : TypeId × Value → H} {w : World} {base : Nat} {spare : Nat → Bool} {held : Bool}
theorem arr_cells {t e n fuel : Nat} {cs : List Value} {x : DataW H × List MemPlace} (ht : P.underlying t = some (.array n e)) (he : P.underlying e = some (.int .u8)) (hc : P.cellsOf e = 1) (hl0 : cs.length = n)
    (h : DataW.trod enc P w base spare held fuel t cs = some x) : ∃ l : List UInt8, l.length = n ∧ cs = bvL l := by
  obtain ⟨xs, m, _, _, _, hl, hel⟩ := DataW.trod_array ht h
  have hall : ∀ c ∈ cs, ∃ a : Int, c = .int .u8 a ∧ (Lit.int .u8 a).wf = true := by
    intro c hcm
    obtain ⟨i, hi, rfl⟩ := List.mem_iff_getElem.1 hcm
    have hin : i < n := by omega
    have h1 := hel i hin
    rw [hc] at h1
    have h2 : (cs.drop (i * 1)).take 1 = [cs[i]] := by
      rw [Nat.mul_one, List.drop_eq_getElem_cons hi]
      rfl
    have hx : xs[i]? = some (xs[i]'(by omega)) := List.getElem?_eq_getElem (by omega)
    rw [h2, hx] at h1
    obtain ⟨a, e1, _, wa⟩ := DataW.trod_int he h1
    exact ⟨a, by simpa using e1, wa⟩
  obtain ⟨l, hl'⟩ := cells_bv cs hall
  exact ⟨l, by rw [← hl0, hl', List.length_map], hl'⟩
theorem keys_open {r : Reach} {b0 t e e2 : Nat} {v : Value} {d : DataW H} {p : List MemPlace} (ht : P.underlying t = some (.slice e)) (hs : P.cellsOf e = 32) (hu : P.underlying e = some (.array 32 e2)) (he : P.underlying e2 = some (.int .u8)) (hc : P.cellsOf e2 = 1)
    (hv : Value.okWide P w r b0 t v) (h : DataW.Trod enc P w base spare held t v d p) : ∃ (A : Option Addr) (c : Nat) (ks : Ks), v = .slice A ks.length c ∧ ks.length ≤ c ∧ All32 ks ∧ KeysIn w A ks := by
  obtain ⟨A, len, cap, rfl, h1, _, h3⟩ := param_slice ht hs (by decide) hv h
  obtain ⟨ks, rfl, hp⟩ := choose_list (α := List UInt8) (p := fun i k => k.length = 32 ∧ ∃ g o, A = some ⟨g, o, none⟩ ∧ g < w.heap.size ∧ ∀ j, j < 32 → w.cell? ⟨g, o + i * 32 + j, none⟩ = (bvL k)[j]?) len (fun i hi => by
    obtain ⟨g, o, n, cs', y, hA, hg, hl, hcell, hy⟩ := h3 i hi
    obtain ⟨l, hl32, rfl⟩ := arr_cells hu he hc hl hy
    exact ⟨l, hl32, g, o, hA, hg, hcell⟩)
  refine ⟨A, cap, ks, rfl, h1, fun k hk => ?_, fun i k hk => (hp i k hk).2⟩
  obtain ⟨i, hi⟩ := List.mem_iff_getElem?.1 hk
  exact (hp i k hi).1
end
end
end Go.Cu
namespace Go.Proofs.Ytnakbdgoaepehaa
open Go.RowKit Go.Cu
set_option maxRecDepth 20000 in
set_option maxHeartbeats 8000000 in
theorem sorts_walk {A : Option Addr} {c : Nat} {ks : Ks} (w : World) (hin : KeysIn w A ks) (ha : All32 ks) (hc : ks.length ≤ c) :
    Calls Try.prog 8 #[.slice A ks.length c] w fun x w' => x = .returned (.bool true) ∧ Below w.heap.size w w' := by
  obtain ⟨m, hm⟩ : ∃ m, m = min ks.length 40 := ⟨_, rfl⟩
  obtain ⟨kt, hkt⟩ : ∃ kt, kt = ks.take m := ⟨_, rfl⟩
  have HKL := hid (show kt.length = m by rw [hkt, List.length_take]; omega)
  have HKA := hid (show All32 kt by rw [hkt]; exact ha.take m)
  have HIN := hid (show KeysIn w A kt by rw [hkt]; exact hin.take m)
  have hm40 : m ≤ 40 := by omega
  have hmc : m ≤ c := by omega
  have hmci : (m : Int) ≤ (c : Int) := by omega
  have m0 : (0 : Int) ≤ (m : Int) := by omega
  have hmin : min (ks.length : Int) 40 = (m : Int) := by omega
  obtain ⟨nk, hnk⟩ : ∃ nk, nk = ks.length := ⟨_, rfl⟩
  rw [← hnk] at hmin ⊢
  have HP := hid (fun X (M : List Atm) (hX : St w M X) => (paths_any X).mono fun e w' h => show e = .returned (.bool true) ∧ St w M w' from ⟨h.1, hX.turn h.2⟩)
  obtain ⟨ip, hi, hiz, his, hib⟩ := info_parts info22
  have HI := hid (And.intro hi (And.intro hiz (And.intro his hib)))
  obtain ⟨iq, hi, hiz, his, hib⟩ := info_parts info23
  have HJ := hid (And.intro hi (And.intro hiz (And.intro his hib)))
  clear hi hiz his hib hm hkt hin ha hc hnk
  go_enter Try.func8, Try.ntmps8
  go_wp2_with (first | (refine wpList_buildSlice0 rfl rfl Try.underlying63 size23 ?_; intro gs X1 hS hgs hges hX1; have H1 := hid ((St.start w).newRow0 (e := 23) (s := 32) hX1 hges hS); clear hS hgs hges hX1) | (refine wpList_append_keys _ _ _ rfl (.slice (some ⟨gs, 0, none⟩) 0 0) rfl A m c rfl rfl 23 iq (.agg (bv key0)) Try.underlying63 HJ.out.1 HJ.out.2.1 HJ.out.2.2.1 HJ.out.2.2.2 key0_size 0 [] H1.out.row kt (HIN.out.below H1.out.below) HKA.out HKL.out (by omega) ?_; intro v' X5 hO2 hT2 hfr; have H5 := hid (H1.out.grow hO2 hT2 hfr); clear hO2 hT2 hfr hmin; obtain ⟨B, d, hv', _⟩ := row_slice H5.out; subst hv'))
  rw [Nat.zero_add, List.nil_append] at H5
  have H6 := hid (H5.out.nilRow 22 32)
  clear H5 H1
  go_loopw [3, 4] (fun tv iv X => ∃ (i : Nat) (C : Option Addr) (dc : Nat), tv = .slice C i dc ∧ iv = .int .i64 i ∧ i ≤ m ∧ Hid (St w [Row (.slice C i dc) 22 32 i (keysL (kt.take i)), Row (.slice B m d) 23 32 m (keysL kt)] X)) (fun _ iv _ => m - (intOf iv).toNat)
  case atStart => exact ⟨0, none, 0, rfl, by go_num, Nat.zero_le _, H6⟩
  case round =>
    clear H6
    obtain ⟨i, C, dc, rfl, rfl, him, HS⟩ := hrel
    have i0 : (0 : Int) ≤ (i : Int) := by omega
    by_cases hlt : i < m
    · have f1 : (i : Int) < (m : Int) := by omega
      obtain ⟨x, hx⟩ : ∃ x, kt[i]? = some x := ⟨_, List.getElem?_eq_getElem (by have := HKL.out; omega)⟩
      have HX32 := hid (HKA.out x (List.mem_of_getElem? hx))
      obtain ⟨gb, hgb⟩ : ∃ gb, B = some ⟨gb, 0, none⟩ := by
        obtain ⟨g, _, h1, _⟩ := krow_block HS.out.at2 (by omega)
        exact ⟨g, h1⟩
      subst hgb
      have LK : (loadK 23 (.pointer (some ⟨gb, i * 32, none⟩))).run Try.prog wr = .ok (.value (.agg (bv x))) wr := by
        obtain ⟨g1, e1, h1⟩ := krow_load (t := 23) HS.out.at2 HKA.out HKL.out hx Try.underlying23 rfl size23
        cases e1
        exact h1 _ rfl
      have HTK := hid (show kt.take (i + 1) = kt.take i ++ [x] by rw [List.take_add_one, hx]; rfl)
      clear hx
      go_wp2_with (first | (refine wpList_buildSlice1 _ rfl (.agg (bv x)) (by simp [Act.eval, Act.put]) rfl Try.underlying64 zero22a size22 (by decide) (by decide) ((bv_size x).trans HX32.out) ?_; intro gn X4 hS hgs hges hX1b; have H4 := hid (HS.out.turn hX1b); have HNW := hid (news_box hS (bvL x) rfl); clear hS hgs hges hX1b LK) | (refine wpList_append_at _ _ _ rfl (.slice C i dc) rfl ⟨gn, 0, none⟩ 1 1 rfl rfl 22 ip (.agg (bv key0)) 32 32 Try.underlying64 HI.out.1 HI.out.2.1 HI.out.2.2.1 HI.out.2.2.2 key0_size (by decide) i _ H4.out.row (bvL x) ((bvL_len x).trans (HX32.out.trans (by decide))) HNW.out (bvL_one x) (by unfold maxLen; omega) (by omega) ?_; intro v' X5 hO2 hT2 hfr; have H5 := hid (H4.out.grow hO2 hT2 hfr); clear hO2 hT2 hfr; obtain ⟨B1, d1, hv', _⟩ := row_slice H5.out; subst hv'))
      rw [← keysL_snoc, ← HTK.out] at H5
      go_roundw
      case rel => exact ⟨i + 1, B1, d1, rfl, by go_num, by omega, H5⟩
      case measure => (simp [intOf] <;> omega)
    · have f1 : ¬ (i : Int) < (m : Int) := by omega
      obtain rfl : m = i := by omega
      have hta : kt.take m = kt := List.take_of_length_le (by have := HKL.out; omega)
      rw [hta] at HS
      obtain ⟨N, hN⟩ : ∃ N, N = (insAll kt).length := ⟨_, rfl⟩
      have HNL := hid hN
      have HIA := hid (insAll_32 HKA.out)
      have hNm : N ≤ m := by
        have := insAll_len (ks := kt) m (by have := HKL.out; omega)
        rw [hta] at this
        omega
      have HPS := hid (fun X (M : List Atm) (hX : St w (Row (.slice B m d) 23 32 m (keysL kt) :: M) X) => (psort_st hX HKL.out HKA.out (by omega)).mono fun r w' h => show ∃ D dd, r = .returned (.slice D N dd) ∧ St w (Row (.slice D N dd) 23 32 N (keysL (insAll kt)) :: Row (.slice B m d) 23 32 m (keysL kt) :: M) w' from by
        obtain ⟨D, N', dd, h1, h2, h3⟩ := h
        rw [← hN] at h2
        subst h2
        exact ⟨D, dd, h1, h3⟩)
      have HRS := hid (fun X (M : List Atm) (hX : St w (Row (.slice C m dc) 22 32 m (keysL kt) :: M) X) => (rsort_st hX HKL.out HKA.out (by omega)).mono fun r w' h => show ∃ E de, r = .returned (.slice E N de) ∧ St w (Row (.slice E N de) 22 32 N (keysL (insAll kt)) :: Row (.slice C m dc) 22 32 m (keysL kt) :: M) w' from by
        obtain ⟨E, N', de, h1, h2, h3⟩ := h
        rw [← hN] at h2
        subst h2
        exact ⟨E, de, h1, h3⟩)
      clear hta hN
      go_wp2_with (first | (go_at_call 29; (with_reducible refine (HPS.out _ _ HS.out.at2).mono ?_); rintro r w1 ⟨D, dd, rfl, hs1⟩; have H1 := hid hs1; clear hs1) | (go_at_call 30; (with_reducible refine (HRS.out _ _ H1.out.at3).mono ?_); rintro r w2 ⟨E, de, rfl, hs2⟩; have H2 := hid hs2; clear hs2) | (go_at_call 10; (with_reducible refine (HP.out _ _ H2.out).mono ?_); rintro r w3 ⟨rfl, hs3⟩; have H3 := hid hs3; clear hs3))
      clear HPS HRS HP HS H1 H2
      have HS := H3
      clear H3
      go_loopw [7] (fun iv X => ∃ i : Nat, iv = .int .i64 i ∧ i ≤ N ∧ Hid (St w [Row (.slice E N de) 22 32 N (keysL (insAll kt)), Row (.slice C m dc) 22 32 m (keysL kt), Row (.slice D N dd) 23 32 N (keysL (insAll kt)), Row (.slice B m d) 23 32 m (keysL kt)] X)) (fun iv _ => N - (intOf iv).toNat)
      case atStart => exact ⟨0, by go_num, Nat.zero_le _, HS⟩
      case round =>
        clear HS
        obtain ⟨i, rfl, hi, HS⟩ := hrel
        have i0 : (0 : Int) ≤ (i : Int) := by omega
        by_cases hlt : i < N
        · have f1 : (i : Int) < (N : Int) := by omega
          obtain ⟨x, hx⟩ : ∃ x, (insAll kt)[i]? = some x := ⟨_, List.getElem?_eq_getElem (by have := HNL.out.symm; omega)⟩
          have HX32 := hid (HIA.out x (List.mem_of_getElem? hx))
          obtain ⟨ga, hga⟩ : ∃ ga, D = some ⟨ga, 0, none⟩ := by
            obtain ⟨g, _, h1, _⟩ := krow_block HS.out.at3 (by omega)
            exact ⟨g, h1⟩
          obtain ⟨gb, hgb⟩ : ∃ gb, E = some ⟨gb, 0, none⟩ := by
            obtain ⟨g, _, h1, _⟩ := krow_block HS.out (by omega)
            exact ⟨g, h1⟩
          subst hga hgb
          have HF := hid (show ∀ X, St w [Row (.slice (some ⟨gb, 0, none⟩) N de) 22 32 N (keysL (insAll kt)), Row (.slice C m dc) 22 32 m (keysL kt), Row (.slice (some ⟨ga, 0, none⟩) N dd) 23 32 N (keysL (insAll kt)), Row (.slice B m d) 23 32 m (keysL kt)] X → (loadK 23 (.pointer (some ⟨ga, i * 32, none⟩))).run Try.prog X = .ok (.value (.agg (bv x))) X ∧ (loadK 22 (.pointer (some ⟨gb, i * 32, none⟩))).run Try.prog X = .ok (.value (.agg (bv x))) X from fun X hX => by
            obtain ⟨g1, e1, h1⟩ := krow_load (t := 23) hX.at3 HIA.out HNL.out.symm hx Try.underlying23 rfl size23
            obtain ⟨g2, e2, h2⟩ := krow_load (t := 22) hX HIA.out HNL.out.symm hx Try.underlying22 rfl size22
            cases e1
            cases e2
            exact ⟨h1 _ rfl, h2 _ rfl⟩)
          have CM := fun (p q : Operand) (W : World) => run_cmpK_neq (P := Try.prog) guard22 Try.underlying22 be5 cells5 HX32.out HX32.out p q W
          simp only [decide_true, Bool.not_true] at CM
          clear hx
          go_wp2_with fail
          refine wp_region_ord [] [(0, 1), (1, 1), (2, 1), (3, 1), (4, 1), (5, 1), (6, 1), (7, 1), (8, 1)] (fun X => St w [Row (.slice (some ⟨gb, 0, none⟩) N de) 22 32 N (keysL (insAll kt)), Row (.slice C m dc) 22 32 m (keysL kt), Row (.slice (some ⟨ga, 0, none⟩) N dd) 23 32 N (keysL (insAll kt)), Row (.slice B m d) 23 32 m (keysL kt)] X) (by kernel_rfl) (by kernel_rfl) (fun d _ c _ _ h => by cases d <;> exact h) (HS.out.turn (Below.drew (Below.refl _ _))) (fun X hXe hX => ?_)
          clear hXe HS
          repeat (apply wpOrd_class; ((· first | (rw [List.getElem?_toArray, List.getElem?_cons_zero]; done) | (simp only [List.getElem?_toArray, List.getElem?_cons_succ, List.getElem?_cons_zero]; exact rfl))); (· exact rfl); intro K hK; apply Exists.intro; refine And.intro (fun X' hX' => ?_) ?_; (· obtain ⟨hq1, hq2⟩ := HF.out _ hX'; clear hX'; go_simp; (try go_bits); first | done | exact rfl | exact ⟨rfl, rfl⟩); go_simp; refine hK _ _ ?_; clear hK K)
          refine wpOrd_done ?_
          have H7 := hid hX
          clear hX HF CM
          go_wp2_with fail
          go_roundw
          case rel => exact ⟨i + 1, by go_num, by omega, H7⟩
          case measure => (simp [intOf] <;> omega)
        · have f1 : ¬ (i : Int) < (N : Int) := by omega

          obtain rfl : N = i := by omega
          clear hlt f1 i0 hi
          go_wp2_with fail
          go_loopw [8] (fun iv X => ∃ i : Nat, iv = .int .i64 i ∧ i ≤ m ∧ Hid (St w [Row (.slice E N de) 22 32 N (keysL (insAll kt)), Row (.slice C m dc) 22 32 m (keysL kt), Row (.slice D N dd) 23 32 N (keysL (insAll kt)), Row (.slice B m d) 23 32 m (keysL kt)] X)) (fun iv _ => m - (intOf iv).toNat)
          case atStart => exact ⟨0, by go_num, Nat.zero_le _, HS⟩
          case round =>
            clear HS
            obtain ⟨i, rfl, hi, HS⟩ := hrel
            have i0 : (0 : Int) ≤ (i : Int) := by omega
            by_cases hlt : i < m
            · have f1 : (i : Int) < (m : Int) := by omega
              obtain ⟨x, hx⟩ : ∃ x, kt[i]? = some x := ⟨_, List.getElem?_eq_getElem (by have := HKL.out; omega)⟩
              have HX32 := hid (HKA.out x (List.mem_of_getElem? hx))
              obtain ⟨ga, hga⟩ : ∃ ga, B = some ⟨ga, 0, none⟩ := by
                obtain ⟨g, _, h1, _⟩ := krow_block HS.out.at4 (by omega)
                exact ⟨g, h1⟩
              obtain ⟨gb, hgb⟩ : ∃ gb, C = some ⟨gb, 0, none⟩ := by
                obtain ⟨g, _, h1, _⟩ := krow_block HS.out.at2 (by omega)
                exact ⟨g, h1⟩
              subst hga hgb
              have HF := hid (show ∀ X, St w [Row (.slice E N de) 22 32 N (keysL (insAll kt)), Row (.slice (some ⟨gb, 0, none⟩) m dc) 22 32 m (keysL kt), Row (.slice D N dd) 23 32 N (keysL (insAll kt)), Row (.slice (some ⟨ga, 0, none⟩) m d) 23 32 m (keysL kt)] X → (loadK 23 (.pointer (some ⟨ga, i * 32, none⟩))).run Try.prog X = .ok (.value (.agg (bv x))) X ∧ (loadK 22 (.pointer (some ⟨gb, i * 32, none⟩))).run Try.prog X = .ok (.value (.agg (bv x))) X from fun X hX => by
                obtain ⟨g1, e1, h1⟩ := krow_load (t := 23) hX.at4 HKA.out HKL.out hx Try.underlying23 rfl size23
                obtain ⟨g2, e2, h2⟩ := krow_load (t := 22) hX.at2 HKA.out HKL.out hx Try.underlying22 rfl size22
                cases e1
                cases e2
                exact ⟨h1 _ rfl, h2 _ rfl⟩)
              have CM := fun (p q : Operand) (W : World) => run_cmpK_neq (P := Try.prog) guard22 Try.underlying22 be5 cells5 HX32.out HX32.out p q W
              simp only [decide_true, Bool.not_true] at CM
              clear hx
              go_wp2_with fail
              refine wp_region_ord [] [(0, 1), (1, 1), (2, 1), (3, 1), (4, 1), (5, 1), (6, 1), (7, 1), (8, 1)] (fun X => St w [Row (.slice E N de) 22 32 N (keysL (insAll kt)), Row (.slice (some ⟨gb, 0, none⟩) m dc) 22 32 m (keysL kt), Row (.slice D N dd) 23 32 N (keysL (insAll kt)), Row (.slice (some ⟨ga, 0, none⟩) m d) 23 32 m (keysL kt)] X) (by kernel_rfl) (by kernel_rfl) (fun d _ c _ _ h => by cases d <;> exact h) (HS.out.turn (Below.drew (Below.refl _ _))) (fun X hXe hX => ?_)
              clear hXe HS
              repeat (apply wpOrd_class; ((· first | (rw [List.getElem?_toArray, List.getElem?_cons_zero]; done) | (simp only [List.getElem?_toArray, List.getElem?_cons_succ, List.getElem?_cons_zero]; exact rfl))); (· exact rfl); intro K hK; apply Exists.intro; refine And.intro (fun X' hX' => ?_) ?_; (· obtain ⟨hq1, hq2⟩ := HF.out _ hX'; clear hX'; go_simp; (try go_bits); first | done | exact rfl | exact ⟨rfl, rfl⟩); go_simp; refine hK _ _ ?_; clear hK K)
              refine wpOrd_done ?_
              have H7 := hid hX
              clear hX HF CM
              go_wp2_with fail
              go_roundw
              case rel => exact ⟨i + 1, by go_num, by omega, H7⟩
              case measure => (simp [intOf] <;> omega)
            · have f1 : ¬ (i : Int) < (m : Int) := by omega
              go_wp2_with fail
              go_ret
              exact ⟨rfl, HS.out.below⟩
end Go.Proofs.Ytnakbdgoaepehaa
