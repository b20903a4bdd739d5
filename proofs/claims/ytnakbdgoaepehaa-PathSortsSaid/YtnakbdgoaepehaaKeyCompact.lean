/- Keys cloned; neighbours that are the same, once. -/
import Derived.Test.YtnakbdgoaepehaaKeyRow
namespace Go.Cu
theorem compact_snoc (x y : List UInt8) : ∀ l : Ks, compactL (l ++ [x] ++ [y]) = if x = y then compactL (l ++ [x]) else compactL (l ++ [x]) ++ [y]
  | [] => by
    show compactL [x, y] = _
    rw [compactL]
    split
    · rename_i e; subst e; rfl
    · rfl
  | [a] => by
    show compactL (a :: x :: [y]) = if x = y then compactL (a :: x :: []) else compactL (a :: x :: []) ++ [y]
    by_cases h1 : a = x <;> by_cases h2 : x = y <;> simp [compactL, h1, h2]
  | a :: b :: l => by
    have ih := compact_snoc x y (b :: l)
    have e1 : compactL (b :: (l ++ [x] ++ [y])) = if x = y then compactL (b :: (l ++ [x])) else compactL (b :: (l ++ [x])) ++ [y] := ih
    show compactL (a :: b :: (l ++ [x] ++ [y])) = if x = y then compactL (a :: b :: (l ++ [x])) else compactL (a :: b :: (l ++ [x])) ++ [y]
    rw [compactL, compactL, e1]
    split <;> split <;> rfl
theorem compact_take {ks : Ks} {p : Nat} {x y : List UInt8} (hx : ks[p]? = some x) (hy : ks[p + 1]? = some y) : compactL (ks.take (p + 2)) = if x = y then compactL (ks.take (p + 1)) else compactL (ks.take (p + 1)) ++ [y] := by
  have e1 : ks.take (p + 1) = ks.take p ++ [x] := by rw [List.take_add_one, hx]; rfl
  have e2 : ks.take (p + 2) = ks.take p ++ [x] ++ [y] := by rw [List.take_add_one, hy, e1]; rfl
  rw [e2, e1]
  exact compact_snoc x y _
theorem compact_le : ∀ l : Ks, (compactL l).length ≤ l.length
  | [] => Nat.le_refl _
  | [x] => Nat.le_refl _
  | x :: y :: l => by
    have ih := compact_le (y :: l)
    rw [compactL]
    split
    · exact Nat.le_trans ih (by simp)
    · simpa using ih
theorem compact_pos : ∀ l : Ks, 0 < l.length → 0 < (compactL l).length
  | [x], _ => Nat.one_pos
  | x :: y :: l, _ => by
    rw [compactL]
    split
    · exact compact_pos (y :: l) (by simp)
    · simp
end Go.Cu
namespace Go.Proofs.Ytnakbdgoaepehaa
open Go.RowKit Go.Cu
@[go_sem ↓] theorem ldk22 (a : Act) (dst : Option Tmp) (x : Operand) (ty : TypeId) (pos : String) (after : Array Edge) (guard : Option (Nat × Bool)) :
      execOp a.eval { dst, op := .load 22 x, type := ty, pos, after, guard } = loadK 22 (a.eval x) := rfl
@[go_sem ↓] theorem ldk23 (a : Act) (dst : Option Tmp) (x : Operand) (ty : TypeId) (pos : String) (after : Array Edge) (guard : Option (Nat × Bool)) :
      execOp a.eval { dst, op := .load 23 x, type := ty, pos, after, guard } = loadK 23 (a.eval x) := rfl
@[go_sem ↓] theorem eqk22 (a : Act) (dst : Option Tmp) (x y : Operand) (t' ty : TypeId) (pos : String) (after : Array Edge) (guard : Option (Nat × Bool)) :
      execOp a.eval { dst, op := .binOp .eql 22 x y t', type := ty, pos, after, guard } = cmpK .eql 22 x y (a.eval x) (a.eval y) := rfl
@[go_sem ↓] theorem eqk23 (a : Act) (dst : Option Tmp) (x y : Operand) (t' ty : TypeId) (pos : String) (after : Array Edge) (guard : Option (Nat × Bool)) :
      execOp a.eval { dst, op := .binOp .eql 23 x y t', type := ty, pos, after, guard } = cmpK .eql 23 x y (a.eval x) (a.eval y) := rfl
@[go_sem ↓] theorem nek22 (a : Act) (dst : Option Tmp) (x y : Operand) (t' ty : TypeId) (pos : String) (after : Array Edge) (guard : Option (Nat × Bool)) :
      execOp a.eval { dst, op := .binOp .neq 22 x y t', type := ty, pos, after, guard } = cmpK .neq 22 x y (a.eval x) (a.eval y) := rfl
@[go_sem ↓] theorem nek23 (a : Act) (dst : Option Tmp) (x y : Operand) (t' ty : TypeId) (pos : String) (after : Array Edge) (guard : Option (Nat × Bool)) :
      execOp a.eval { dst, op := .binOp .neq 23 x y t', type := ty, pos, after, guard } = cmpK .neq 23 x y (a.eval x) (a.eval y) := rfl
theorem zero23a (W : World) : (zeroValue 23).run Try.prog W = .ok (.agg (bv key0)) W := by kernel_rfl
theorem zero22a (W : World) : (zeroValue 22).run Try.prog W = .ok (.agg (bv key0)) W := by kernel_rfl
theorem info23 : (Try.prog.info? 23).map (fun i => (i.zero, i.size, i.bytes)) = some (some (.agg (bv key0)), 32, 32) := by kernel_rfl
theorem info22 : (Try.prog.info? 22).map (fun i => (i.zero, i.size, i.bytes)) = some (some (.agg (bv key0)), 32, 32) := by kernel_rfl
theorem key0_size : (bv key0).size = 32 := by rw [bv_size]; rfl
theorem guard22 : Try.prog.eqGuardType Try.prog.depth 22 = false := by kernel_rfl
theorem guard23 : Try.prog.eqGuardType Try.prog.depth 23 = false := by kernel_rfl
theorem cells5 : Try.prog.cellsOf 5 = 1 := by kernel_rfl
theorem eqnil_none (W : World) : (binOp .eql 63 (.slice none 0 0) (.slice none 0 0)).run Try.prog W = .ok (.bool true) W := by kernel_rfl
theorem eqnil_some (a : Addr) (n c : Nat) (W : World) : (binOp .eql 63 (.slice (some a) n c) (.slice none 0 0)).run Try.prog W = .ok (.bool false) W := by kernel_rfl
section
variable {W0 W : World} {L : List Atm} {A : Option Addr} {n c : Nat} {ks : Ks}
set_option maxRecDepth 20000 in
set_option maxHeartbeats 4000000 in
theorem kclone_st (h : St W0 (Row (.slice A n c) 23 32 n (keysL ks) :: L) W) (hn : n ≤ 1000) :
    Calls Try.prog 40 #[.slice A n c] W fun r w' => ∃ B d, r = .returned (.slice B n d) ∧ St W0 (Row (.slice B n d) 23 32 n (keysL ks) :: Row (.slice A n c) 23 32 n (keysL ks) :: L) w' := by
  have HH := hid h
  obtain ⟨ip, hi, hiz, his, hib⟩ := info_parts info23
  have HI := hid (And.intro hi (And.intro hiz (And.intro his hib)))
  clear hi hiz his hib
  cases A with
  | none =>
    have h0 : n = 0 ∧ c = 0 := by
      rcases h.row.2 with ⟨e, e0⟩ | ⟨g, cap, cur, e, _⟩
      · injection e with _ e2 e3; exact ⟨e2, e3⟩
      · cases e
    obtain ⟨rfl, rfl⟩ := h0
    have hk : keysL ks = [] := List.eq_nil_of_length_eq_zero (by have := h.row.1; omega)
    rw [hk] at HH ⊢
    clear h hk
    have EN := eqnil_none
    go_enter Try.func40, Try.ntmps40
    go_wp2_with fail
    go_ret
    exact ⟨none, 0, rfl, HH.out.nilRow 23 32⟩
  | some a =>
    clear h
    have EN := eqnil_some
    go_enter Try.func40, Try.ntmps40
    go_wp2_with (first | (refine wpList_buildSlice0 rfl rfl Try.underlying63 size23 ?_; intro gs X1 hS hgs hges hX1; have H1 := hid (HH.out.newRow0 (e := 23) (s := 32) hX1 hges hS); clear hS hgs hges hX1) | (refine wpList_append_row _ _ _ rfl (.slice (some ⟨gs, 0, none⟩) 0 0) rfl (some a) n c rfl rfl 23 ip (.agg (bv key0)) 32 32 Try.underlying63 HI.out.1 HI.out.2.1 HI.out.2.2.1 HI.out.2.2.2 key0_size (by decide) 0 [] H1.out.row (keysL ks) H1.out.at2 (keysL_one ks) (by unfold maxLen; omega) (by omega) ?_; intro v' X5 hO2 hT2 hfr; have H5 := hid (H1.out.grow hO2 hT2 hfr); clear hO2 hT2 hfr))
    rw [Nat.zero_add, List.nil_append] at H5
    obtain ⟨B, d, rfl, _⟩ := row_slice H5.out
    go_ret
    exact ⟨B, d, rfl, H5.out⟩
theorem compact_first (ks : Ks) : compactL (ks.take (0 + 1)) = ks.take (0 + 1) := by
  cases ks <;> rfl
theorem compact_full {p : Nat} (h : compactL (ks.take p) = ks.take p) (hp : p = ks.length) : compactL ks = ks := by
  rw [List.take_of_length_le (by omega)] at h
  exact h
set_option maxRecDepth 20000 in
set_option maxHeartbeats 8000000 in
theorem kcompact_st (h : St W0 (Row (.slice A n c) 23 32 n (keysL ks) :: L) W) (hl : ks.length = n) (ha : All32 ks) (hn : n ≤ 1000) :
    Calls Try.prog 42 #[.slice A n c] W fun r w' => ∃ B d, r = .returned (.slice B (compactL ks).length d) ∧ St W0 (Row (.slice B (compactL ks).length d) 23 32 (compactL ks).length (keysL (compactL ks)) :: L) w' := by
  have HH := hid h
  have HL := hid hl
  have HA := hid ha
  by_cases h2 : n < 2
  · have e1 : (n : Int) < 2 := by omega
    have hc : compactL ks = ks := by
      match ks, hl with
      | [], _ => rfl
      | [x], _ => rfl
      | x :: y :: t, hl => simp at hl; omega
    rw [hc, hl]
    clear h ha hl hc
    go_enter Try.func42, Try.ntmps42
    go_wp2_with fail
    go_ret
    exact ⟨A, c, rfl, HH.out⟩
  · have e1 : ¬ (n : Int) < 2 := by omega
    have hnc : n ≤ c := by
      obtain ⟨_, _, _, _, h1, _⟩ := krow_block h (by omega)
      exact h1
    obtain ⟨g, rfl⟩ : ∃ g, A = some ⟨g, 0, none⟩ := by
      obtain ⟨g, _, h1, _⟩ := krow_block h (by omega)
      exact ⟨g, h1⟩
    have hnci : (n : Int) ≤ (c : Int) := by omega
    clear h ha hl
    go_enter Try.func42, Try.ntmps42
    go_wp2_with fail
    go_loopw [3, 4, 5] (fun kv _ _ X => ∃ q : Nat, q + 1 ≤ n ∧ kv = .int .i64 ((q : Int) + 1) ∧ Hid (compactL (ks.take (q + 1)) = ks.take (q + 1)) ∧ Hid (St W0 (Row (.slice (some ⟨g, 0, none⟩) n c) 23 32 n (keysL ks) :: L) X)) (fun kv _ _ _ => n - (intOf kv).toNat)
    case atStart => exact ⟨0, by omega, by go_num, hid (compact_first ks), HH⟩
    case round =>
      clear HH
      obtain ⟨q, hq, rfl, HQ, HS⟩ := hrel
      have q0 : (0 : Int) ≤ (q : Int) := by omega
      by_cases hlt : q + 1 < n
      · have f1 : (q : Int) + 1 < (n : Int) := by omega
        have f2 : (q : Int) < (n : Int) := by omega
        obtain ⟨x, hx⟩ : ∃ x, ks[q]? = some x := ⟨_, List.getElem?_eq_getElem (by have := HL.out; omega)⟩
        obtain ⟨y, hy⟩ : ∃ y, ks[q + 1]? = some y := ⟨_, List.getElem?_eq_getElem (by have := HL.out; omega)⟩
        have hx32 := HA.out x (List.mem_of_getElem? hx)
        have hy32 := HA.out y (List.mem_of_getElem? hy)
        have HF := hid (show ∀ X, St W0 (Row (.slice (some ⟨g, 0, none⟩) n c) 23 32 n (keysL ks) :: L) X → (loadK 23 (.pointer (some ⟨g, (q + 1) * 32, none⟩))).run Try.prog X = .ok (.value (.agg (bv y))) X ∧ (loadK 23 (.pointer (some ⟨g, q * 32, none⟩))).run Try.prog X = .ok (.value (.agg (bv x))) X from fun X hX => by
          obtain ⟨g1, e1, h1⟩ := krow_load (t := 23) hX HA.out HL.out hy Try.underlying23 rfl size23
          obtain ⟨g2, e2, h2⟩ := krow_load (t := 23) hX HA.out HL.out hx Try.underlying23 rfl size23
          cases e1
          cases e2
          exact ⟨h1 _ rfl, h2 _ rfl⟩)
        have HCT := hid (compact_take hx hy)
        have CM := fun (a b : Operand) (W : World) => run_cmpK_eql (P := Try.prog) guard23 Try.underlying23 be5 cells5 hy32 hx32 a b W
        have HY := hid hy
        clear hx hy
        by_cases hxy : y = x
        · simp only [hxy, decide_true] at CM
          subst hxy
          have HC2 := hid (show compactL (ks.take (q + 2)) = ks.take (q + 1) by rw [HCT.out, if_pos rfl, HQ.out])
          clear HCT HQ
          go_wp2_with fail
          refine wp_region_ord [] [(0, 1), (1, 1), (2, 1), (3, 1), (4, 1), (5, 1), (6, 1), (7, 1), (8, 1), (9, 1)] (fun X => St W0 (Row (.slice (some ⟨g, 0, none⟩) n c) 23 32 n (keysL ks) :: L) X) (by kernel_rfl) (by kernel_rfl) (fun d _ c _ _ h => by cases d <;> exact h) (HS.out.turn (Below.drew (Below.refl _ _))) (fun X hXe hX => ?_)
          clear hXe HS
          repeat (apply wpOrd_class; ((· first | (rw [List.getElem?_toArray, List.getElem?_cons_zero]; done) | (simp only [List.getElem?_toArray, List.getElem?_cons_succ, List.getElem?_cons_zero]; exact rfl))); (· exact rfl); intro K hK; apply Exists.intro; refine And.intro (fun X' hX' => ?_) ?_; (· obtain ⟨hq1, hq2⟩ := HF.out _ hX'; clear hX'; go_simp; (try go_bits); first | done | exact rfl | exact ⟨rfl, rfl⟩); go_simp; refine hK _ _ ?_; clear hK K)
          refine wpOrd_done ?_
          have H3 := hid hX
          clear hX HF
          have hqn : n - (q + 1) ≤ c - (q + 1) := by omega
          clear CM
          go_wp2_with fail
          go_loopw [3, 5] (fun kv jv X => ∃ (k r : Nat) (ms : Ks), k ≤ q + 1 + r ∧ q + 1 + r + 1 ≤ n ∧ kv = .int .i64 k ∧ jv = .int .i64 ((r : Int) + 1) ∧ ms.length = n ∧ Hid (All32 ms) ∧ Hid (ms.take k = compactL (ks.take (q + 1 + r + 1))) ∧ Hid (∀ j, q + 1 + r ≤ j → ms[j]? = ks[j]?) ∧ Hid (St W0 (Row (.slice (some ⟨g, 0, none⟩) n c) 23 32 n (keysL ms) :: L) X)) (fun _ jv _ => n - (intOf jv).toNat)
          case atStart => exact ⟨q + 1, 0, ks, by omega, by omega, by go_num, by go_num, HL.out, HA, hid HC2.out.symm, hid (fun _ _ => rfl), H3⟩
          case round =>
            clear H3 HY HC2
            obtain ⟨k, r, ms, hkp, hpn, rfl, rfl, hml, HA2, HT2, HE2, HS2⟩ := hrel
            have HML := hid hml
            have r0 : (0 : Int) ≤ (r : Int) := by omega
            have k0 : (0 : Int) ≤ (k : Int) := by omega
            by_cases hlt2 : r + 1 < n - (q + 1)
            · have g1 : (r : Int) + 1 < ((n - (q + 1) : Nat) : Int) := by omega
              have g2 : (r : Int) < ((n - (q + 1) : Nat) : Int) := by omega
              have g3 : (k : Int) < (n : Int) := by omega
              obtain ⟨x2, hx2⟩ : ∃ x, ks[q + 1 + r]? = some x := ⟨_, List.getElem?_eq_getElem (by have := HL.out; omega)⟩
              obtain ⟨y2, hy2⟩ : ∃ y, ks[q + 1 + r + 1]? = some y := ⟨_, List.getElem?_eq_getElem (by have := HL.out; omega)⟩
              have hx32' := HA.out x2 (List.mem_of_getElem? hx2)
              have hy32' := HA.out y2 (List.mem_of_getElem? hy2)
              have hmx : ms[q + 1 + r]? = some x2 := (HE2.out _ (by omega)).trans hx2
              have hmy : ms[q + 1 + r + 1]? = some y2 := (HE2.out _ (by omega)).trans hy2
              have HF := hid (show ∀ X, St W0 (Row (.slice (some ⟨g, 0, none⟩) n c) 23 32 n (keysL ms) :: L) X → (loadK 23 (.pointer (some ⟨g, (q + 1) * 32 + (r + 1) * 32, none⟩))).run Try.prog X = .ok (.value (.agg (bv y2))) X ∧ (loadK 23 (.pointer (some ⟨g, (q + 1) * 32 + r * 32, none⟩))).run Try.prog X = .ok (.value (.agg (bv x2))) X from fun X hX => by
                obtain ⟨g1, e1, h1⟩ := krow_load (t := 23) hX HA2.out HML.out hmy Try.underlying23 rfl size23
                obtain ⟨g2, e2, h2⟩ := krow_load (t := 23) hX HA2.out HML.out hmx Try.underlying23 rfl size23
                cases e1
                cases e2
                exact ⟨h1 _ (by omega), h2 _ (by omega)⟩)
              have HCT := hid (compact_take hx2 hy2)
              have CM := fun (a b : Operand) (W : World) => run_cmpK_neq (P := Try.prog) guard23 Try.underlying23 be5 cells5 hy32' hx32' a b W
              have HY2 := hid hy32'
              have HYY := hid hy2
              clear hx2 hy2 hmx hmy hml
              by_cases hxy2 : y2 = x2
              · simp only [hxy2, decide_true, Bool.not_true] at CM
                subst hxy2
                have HCE := hid (show compactL (ks.take (q + 1 + r + 2)) = compactL (ks.take (q + 1 + r + 1)) from by rw [HCT.out, if_pos rfl])
                clear HCT
                go_wp2_with fail
                refine wp_region_ord [] [(0, 1), (1, 1), (2, 1), (3, 1), (4, 1), (5, 1), (6, 1), (7, 1), (8, 1), (9, 1)] (fun X => St W0 (Row (.slice (some ⟨g, 0, none⟩) n c) 23 32 n (keysL ms) :: L) X) (by kernel_rfl) (by kernel_rfl) (fun d _ c _ _ h => by cases d <;> exact h) (HS2.out.turn (Below.drew (Below.refl _ _))) (fun X hXe hX => ?_)
                clear hXe HS2
                repeat (apply wpOrd_class; ((· first | (rw [List.getElem?_toArray, List.getElem?_cons_zero]; done) | (simp only [List.getElem?_toArray, List.getElem?_cons_succ, List.getElem?_cons_zero]; exact rfl))); (· exact rfl); intro K hK; apply Exists.intro; refine And.intro (fun X' hX' => ?_) ?_; (· obtain ⟨hq1, hq2⟩ := HF.out _ hX'; clear hX'; go_simp; (try go_bits); first | done | exact rfl | exact ⟨rfl, rfl⟩); go_simp; refine hK _ _ ?_; clear hK K)
                refine wpOrd_done ?_
                have H4 := hid hX
                clear hX HF
                go_wp2_with fail
                go_roundw
                case rel => exact ⟨k, r + 1, ms, by omega, by omega, by go_num, by go_num, HML.out, HA2, hid (by rw [HT2.out, show q + 1 + (r + 1) + 1 = q + 1 + r + 2 by omega, HCE.out]), hid (fun j hj => HE2.out j (by omega)), H4⟩
                case measure => simp [intOf]; omega
              · simp only [hxy2, decide_false, Bool.not_false] at CM
                have HXY := hid hxy2
                have HCE := hid (show compactL (ks.take (q + 1 + r + 2)) = compactL (ks.take (q + 1 + r + 1)) ++ [y2] from by rw [HCT.out, if_neg (fun e => HXY.out e.symm)])
                clear hxy2 HCT
                go_wp2_with fail
                refine wp_region_ord [] [(0, 1), (1, 1), (2, 1), (3, 1), (4, 1), (5, 1), (6, 1), (7, 1), (8, 1), (9, 1)] (fun X => St W0 (Row (.slice (some ⟨g, 0, none⟩) n c) 23 32 n (keysL ms) :: L) X) (by kernel_rfl) (by kernel_rfl) (fun d _ c _ _ h => by cases d <;> exact h) (HS2.out.turn (Below.drew (Below.refl _ _))) (fun X hXe hX => ?_)
                clear hXe HS2
                repeat (apply wpOrd_class; ((· first | (rw [List.getElem?_toArray, List.getElem?_cons_zero]; done) | (simp only [List.getElem?_toArray, List.getElem?_cons_succ, List.getElem?_cons_zero]; exact rfl))); (· exact rfl); intro K hK; apply Exists.intro; refine And.intro (fun X' hX' => ?_) ?_; (· obtain ⟨hq1, hq2⟩ := HF.out _ hX'; clear hX'; go_simp; (try go_bits); first | done | exact rfl | exact ⟨rfl, rfl⟩); go_simp; refine hK _ _ ?_; clear hK K)
                refine wpOrd_done ?_
                have H4 := hid hX
                have LF := (HF.out X hX).1
                clear hX HF
                go_wp2_with (refine wpList_kstore _ _ rfl H4.out HA2.out HML.out (i := k) (by omega) rfl rfl rfl HY2.out rfl size23 ?_; intro W5 hs5; have H5 := hid hs5; clear hs5 LF)
                go_roundw
                case rel => exact ⟨k + 1, r + 1, ms.set k y2, by omega, by omega, by go_num, by go_num, by rw [List.length_set]; exact HML.out, hid (HA2.out.set HY2.out), hid (by
                  rw [show q + 1 + (r + 1) + 1 = q + 1 + r + 2 by omega, HCE.out, ← HT2.out, List.take_add_one, List.getElem?_set_self (by have := HML.out; omega), List.take_set_of_le (Nat.le_refl _)]
                  rfl), hid (fun j hj => by rw [List.getElem?_set_ne (by omega)]; exact HE2.out j (by omega)), H5⟩
                case measure => simp [intOf]; omega
            · have g1 : ¬ (r : Int) + 1 < ((n - (q + 1) : Nat) : Int) := by omega
              have hkl : k = (compactL ks).length := by
                have h1 := congrArg List.length HT2.out
                rw [List.length_take, List.take_of_length_le (by have := HL.out; omega)] at h1
                omega
              have HKL := hid hkl
              have hkn : (k : Int) ≤ (n : Int) := by omega
              have hkc : (k : Int) ≤ (c : Int) := by omega
              have hkn2 : k ≤ n := by omega
              have hnk : n - k ≤ c - k := by omega
              have hkc2 : k ≤ c := by omega
              have HTT := hid (show ms.take k = compactL ks by rw [HT2.out, List.take_of_length_le (by have := HL.out; omega)])
              clear hkl HT2 hml
              go_wp2_with (refine wpList_kclear _ rfl HS2.out HA2.out HML.out (i := k) (by omega) (by omega) (o := k * 32) (m := n - k) (c' := c - k) rfl rfl rfl rfl Try.underlying63 zero23a (bv_one _) key0_size ?_; intro W5 hs5; have H5 := hid hs5; clear hs5)
              go_ret
              rw [← HKL.out, ← HTT.out]
              exact ⟨_, c, rfl, H5.out⟩
        · simp only [hxy, decide_false] at CM
          have HXY := hid hxy
          clear hxy
          have HC2 := hid (show compactL (ks.take (q + 2)) = ks.take (q + 2) by
            rw [HCT.out, if_neg (fun e => HXY.out e.symm), HQ.out, List.take_add_one (i := q + 1), HY.out]; rfl)
          clear HCT HQ
          go_wp2_with fail
          refine wp_region_ord [] [(0, 1), (1, 1), (2, 1), (3, 1), (4, 1), (5, 1), (6, 1), (7, 1), (8, 1), (9, 1)] (fun X => St W0 (Row (.slice (some ⟨g, 0, none⟩) n c) 23 32 n (keysL ks) :: L) X) (by kernel_rfl) (by kernel_rfl) (fun d _ c _ _ h => by cases d <;> exact h) (HS.out.turn (Below.drew (Below.refl _ _))) (fun X hXe hX => ?_)
          clear hXe HS
          repeat (apply wpOrd_class; ((· first | (rw [List.getElem?_toArray, List.getElem?_cons_zero]; done) | (simp only [List.getElem?_toArray, List.getElem?_cons_succ, List.getElem?_cons_zero]; exact rfl))); (· exact rfl); intro K hK; apply Exists.intro; refine And.intro (fun X' hX' => ?_) ?_; (· obtain ⟨hq1, hq2⟩ := HF.out _ hX'; clear hX'; go_simp; (try go_bits); first | done | exact rfl | exact ⟨rfl, rfl⟩); go_simp; refine hK _ _ ?_; clear hK K)
          refine wpOrd_done ?_
          have H3 := hid hX
          clear hX HF
          go_wp2_with fail
          go_roundw
          case rel => exact ⟨q + 1, by omega, by go_num, HC2, H3⟩
          case measure => simp [intOf]; omega
      · have f1 : ¬ (q : Int) + 1 < (n : Int) := by omega
        have hc := compact_full (ks := ks) HQ.out (by have := HL.out; omega)
        have HCC := hid hc
        clear hc
        go_wp2_with fail
        go_ret
        rw [HCC.out, HL.out]
        exact ⟨_, c, rfl, HS.out⟩
end
end Go.Proofs.Ytnakbdgoaepehaa
