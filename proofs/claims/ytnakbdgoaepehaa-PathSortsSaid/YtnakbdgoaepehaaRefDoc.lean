/- The document's answers, walked. -/
import Derived.Test.YtnakbdgoaepehaaRefMem
namespace Go.Cu
open Go Go.RowKit
section
variable {P : Program}
theorem run_append_zero {w : World} (base : Nat) (t ty e : TypeId) (i : TypeInfo) (size : Nat) (ht : P.underlying t = some (.slice e)) (hi : P.info? e = some i)
    (v : Value) (n : Nat) (xs : List Value) (hown : w.ownsRow base e size v n xs) (B : Option Addr) (c : Nat) :
    (Builtin.append_ #[t, t] ty #[v, .slice B 0 c]).run P w = .ok v w := by
  have hl : ∀ a : Addr, (loadCells a 0).run P w = .ok #[] w := fun a => run_loadCells_list (P := P) w a [] (fun j v hj => by cases hj)
  rcases hown.2 with ⟨rfl, rfl⟩ | ⟨g, cap, cur, rfl, _, _, hnc, _⟩
  · cases B <;> simp [Builtin.append_, run_underlying ht, sizeOf, typeInfo, hi, Builtin.lenOf, Builtin.firstCells, hl]
  · cases B <;> simp [Builtin.append_, run_underlying ht, sizeOf, typeInfo, hi, Builtin.lenOf, Builtin.firstCells, hnc, storeCells, hl]
/-- A row appended to a row. -/
theorem wpList_append_row {ops : Array Oper} {rest : List Oper} {o : Oper} {a : Act} {w : World} {Q : Exit → Act → World → Prop} {W0 : World} {L : List Atm} (s x : Operand) (t : TypeId)
    (ho : o.op = .call { callee := .builtin .append, args := #[s, x], argTypes := #[t, t] }) (v : Value) (hs : a.eval s = v) (B : Option Addr) (m c : Nat) (hx : a.eval x = .slice B m c) (hw : Region.wanted o (yielded ops a.tmps) = true)
    (e : TypeId) (i : TypeInfo) (z : Value) (size bytes : Nat) (ht : P.underlying t = some (.slice e)) (hi : P.info? e = some i) (hz : i.zero = some z)
    (hsize : i.size = size) (hby : i.bytes = bytes) (hzs : z.cells.size = size) (hsz : 0 < size)
    (n : Nat) (xs : List Value) (hown : w.ownsRow 0 e size v n xs) (ys : List Value) (hS : St W0 (Row (.slice B m c) e size m ys :: L) w) (h1 : ∀ u ∈ ys, u.oneCell' = true)
    (h63 : n + m ≤ maxLen) (hbytes : (n + m) * bytes ≤ 140737488355328)
    (h : ∀ v' w', w'.ownsRow 0 e size v' (n + m) (xs ++ ys) → Tch (fun g => v.ownBlock = some g) w w' → (v'.ownBlock = v.ownBlock ∨ v'.ownBlock = some w.heap.size) → wpList P ops Q rest (a.put o.dst v') w') : wpList P ops Q (o :: rest) a w := by
  have hyl := hS.row.1
  by_cases h0 : m = 0
  · subst h0
    obtain rfl : ys = [] := List.eq_nil_of_length_eq_zero (by rw [hyl, Nat.zero_mul])
    refine wpList_wanted hw fun K hK => ?_
    have hrun := run_append_zero 0 t o.type e i size ht hi v n xs hown B c
    unfold Oper.wp execOp
    simp only [ho, resolve, invoke, builtin, Sem.run_bind, Sem.run_pure, Result.andThen_ok, List.map_toArray, List.map_cons, List.map_nil, hs, hx, hrun]
    exact hK _ _ (h v w (by simpa using hown) (Tch.refl _ _) (.inl rfl))
  · have hy0 : 0 < ys.length := by rw [hyl]; exact Nat.mul_pos (by omega) hsz
    obtain ⟨y, hy⟩ : ∃ y, ys[0]? = some y := ⟨_, List.getElem?_eq_getElem hy0⟩
    obtain ⟨g, rfl, _⟩ := row_ats hS rfl hy
    refine wpList_append_at s x t ho v hs ⟨g, 0, none⟩ m c hx hw e i z size bytes ht hi hz hsize hby hzs hsz n xs hown ys hyl (fun j u hj => ?_) h1 h63 hbytes h
    obtain ⟨g', e', hc⟩ := row_ats hS rfl hj
    cases e'
    have e3 : (⟨g, 0, none⟩ : Addr).add j = ⟨g, j, none⟩ := by unfold Addr.add; split <;> simp_all
    rw [e3]
    exact hc
end
section
variable {W0 W W' : World} {L : List Atm}
theorem St.newRow1 {g e s : Nat} {cs : Array Value} (h : St W0 L W) (hb : Below W.heap.size W W') (hg : W.heap.size ≤ g) (hc : W'.heap[g]? = some (.cells cs e (0, 0))) (xs : List Value) (hcs : cs.toList = xs) (hs : xs.length = s) : St W0 (Row (.slice (some ⟨g, 0, none⟩) 1 1) e s 1 xs :: L) W' :=
  h.push hb ⟨fun g' hg' => by
    have : g = g' := by simpa [Value.ownBlock] using hg'
    subst this
    exact hg, by omega, .inr ⟨g, 1, cs, rfl, Nat.zero_le _, hc, Nat.le_refl _, by decide, by rw [Nat.one_mul, ← hs, ← hcs]; simp, by rw [Nat.one_mul, hcs, ← hs, List.take_length]⟩⟩
theorem St.rowCut {A : Option Addr} {c n m e s : Nat} {xs : List Value} (h : St W0 (Row (.slice A n c) e s n xs :: L) W) (hm : m ≤ n) (h0 : n ≠ 0) : St W0 (Row (.slice A m c) e s m (xs.take (m * s)) :: L) W := by
  obtain ⟨F, ha, hF, hr⟩ := h.first
  refine hr _ _ ⟨fun g hg => .inl (ha.1 g (by cases A with | none => cases hg | some a => exact hg)), ?_⟩ (Tch.refl _ _)
  rcases ha.2 with ⟨hl, ⟨_, h1⟩ | ⟨g, cap, cur, e1, hbase, hb, h1, h2, h3, h4⟩⟩
  · exact absurd h1 h0
  · cases e1
    refine ⟨by rw [List.length_take, hl]; exact Nat.min_eq_left (Nat.mul_le_mul_right _ hm), .inr ⟨g, c, cur, rfl, hbase, hb, by omega, h2, h3, ?_⟩⟩
    rw [← h4, List.take_take]
    congr 1
    exact (Nat.min_eq_left (Nat.mul_le_mul_right _ hm)).symm
end
theorem set_same {cs : Array Value} {i : Nat} {x : Value} (h : cs[i]? = some x) : cs.setIfInBounds i x = cs := by
  apply Array.ext_getElem?
  intro j
  rw [Array.getElem?_setIfInBounds]
  split
  · rename_i e
    subst e
    split
    · exact h.symm
    · rename_i hl
      rw [Array.getElem?_eq_none (by omega)]
  · rfl
/-- A part's cells behind a call. -/
def refSet (cs : Array Value) (o : Nat) (v : Value) (h m : Nat) : Array Value := ((cs.setIfInBounds (o + 1) v).setIfInBounds (o + 2) (.int .i64 h)).setIfInBounds (o + 3) (.int .i64 m)
/-- A part's cells. -/
structure RefAt (cs : Array Value) (o size : Nat) (v : Value) (p : Pt) : Prop where
  c0 : cs[o]? = some (.int .i64 size)
  c1 : cs[o + 1]? = some v
  c2 : cs[o + 2]? = some (.int .i64 p.hits)
  c3 : cs[o + 3]? = some (.int .i64 p.misses)
end Go.Cu
namespace Go.Proofs.Ytnakbdgoaepehaa
open Go.RowKit Go.Cu
section
variable {W0 W : World} {L : List Atm} {b o size : Nat} {cs : Array Value} {t : TypeId} {v : Value} {p : Pt}
theorem ref_cells {s : Nat} (h : St W0 (Blk b cs t :: L) W) (hr : RefAt cs o s v p) : W.cell? ⟨b, o, none⟩ = some (.int .i64 s) ∧ W.cell? ⟨b, o + 1, none⟩ = some v ∧ W.cell? ⟨b, o + 2, none⟩ = some (.int .i64 p.hits) ∧ W.cell? ⟨b, o + 3, none⟩ = some (.int .i64 p.misses) :=
  ⟨(blk_at h _).trans hr.c0, (blk_at h _).trans hr.c1, (blk_at h _).trans hr.c2, (blk_at h _).trans hr.c3⟩
set_option maxRecDepth 20000 in
set_option maxHeartbeats 8000000 in
theorem docget_st (h : St W0 (Blk b cs t :: Row v 85 2 p.l.length (pairsL p.l) :: L) W) (hr : RefAt cs o size v p) (ho : p.Ok size) (hs : size ≤ 256) (hh : p.hits + p.misses ≤ 1000000) (k : Str) :
    Calls Try.prog 26 #[.pointer (some ⟨b, o, none⟩), .string (strB k)] W fun r w' => r = .returned (.tuple #[.string (strB ((p.get k).1.getD [])), .bool (p.get k).1.isSome]) ∧
      ∃ v', St W0 (Blk b (refSet cs o v' (p.get k).2.hits (p.get k).2.misses) t :: Row v' 85 2 (p.get k).2.l.length (pairsL (p.get k).2.l) :: L) w' := by
  have hfew := ho.few
  have HW := hid (without_st h hr.c1 ho.once (by omega) k)
  have HR := hid hr
  obtain ⟨ip, hi, hiz, his, hib⟩ := info_parts infoPair
  have HI := hid (And.intro hi (And.intro hiz (And.intro his hib)))
  have hh1 : (p.hits : Int) ≤ 1000000 := by omega
  have hh2 : (p.misses : Int) ≤ 1000000 := by omega
  have hwl : (without k p.l).length ≤ 256 := by
    have h1 : (without k p.l).length ≤ p.l.length := List.length_filter_le _ _
    omega
  obtain ⟨m, hm⟩ : ∃ m, m = (without k p.l).length := ⟨_, rfl⟩
  have HMM := hid hm
  rw [← hm] at HW hwl
  clear h hr hi hiz his hib hm
  cases hlk : seek k p.l with
  | none =>
    have hget : p.get k = (none, { p with misses := p.misses + 1 }) := by unfold Pt.get; rw [hlk]
    rw [hget]
    rw [hlk] at HW
    clear hget hlk
    go_enter Try.func26, Try.ntmps26
    go_wp2_with (go_at_call 39; (with_reducible refine HW.out.mono ?_); rintro r w1 ⟨B, d, rfl, hs1⟩; have H1 := hid hs1.drop; clear hs1; obtain ⟨x0, x1, x2, x3⟩ := ref_cells H1.out HR.out; have f3 := frozen_of_row w1 b (o + 3) _ _ H1.out.blk)
    go_ret2
    refine ⟨rfl, v, ?_⟩
    have h3 := H1.out.setCell (o + 3) (.int .i64 (p.misses + 1))
    unfold refSet
    rw [set_same HR.out.c1, set_same HR.out.c2]
    exact h3
  | some x =>
    have hget : p.get k = (some x, { p with l := (k, x) :: without k p.l, hits := p.hits + 1 }) := by unfold Pt.get; rw [hlk]
    rw [hget]
    rw [hlk] at HW
    clear hget hlk
    go_enter Try.func26, Try.ntmps26
    go_upto_region 6 with (go_at_call 39; (with_reducible refine HW.out.mono ?_); rintro r w1 ⟨B, d, rfl, hs1⟩; have H1 := hid hs1; clear hs1; obtain ⟨x0, x1, x2, x3⟩ := ref_cells H1.out.at2 HR.out; have f2 := frozen_of_row w1 b (o + 2) _ _ H1.out.at2.blk)
    have H2 := hid (H1.out.at2.setCell (o + 2) (.int .i64 (p.hits + 1)))
    obtain ⟨Y, hY⟩ : ∃ Y, Y = w1.setCell ⟨b, o + 2, none⟩ (.int .i64 (p.hits + 1)) := ⟨_, rfl⟩
    rw [← hY] at H2
    simp only [← hY]
    clear x0 x1 x2 x3 f2 H1 hY HW
    obtain ⟨cs2, hcs2⟩ : ∃ cs2, cs2 = cs.setIfInBounds (o + 2) (.int .i64 (p.hits + 1)) := ⟨_, rfl⟩
    rw [← hcs2] at H2
    have c1 : cs2[o + 1]? = some v := by rw [hcs2, Array.getElem?_setIfInBounds_ne (by omega)]; exact HR.out.c1
    have HC1 := hid c1
    have HCS := hid hcs2
    clear c1 hcs2
    (go_wp2_with (first | (refine wpList_buildSlice1 _ rfl (.agg #[.string (strB k), .string (strB x)]) (by simp [Act.eval, Act.put]) rfl Try.underlying51 zeroPair sizePair (by decide) (by decide) rfl ?_; intro gn X4 hS hgs hges hX1b; have H4 := hid (H2.out.newRow1 hX1b hges hS (pairL (k, x)) rfl rfl); clear hS hgs hges hX1b) | (refine wpList_append_row _ _ _ rfl (.slice (some ⟨gn, 0, none⟩) 1 1) rfl B m d rfl rfl 85 ip (.agg #[.string ByteArray.empty, .string ByteArray.empty]) 2 32 Try.underlying51 HI.out.1 HI.out.2.1 HI.out.2.2.1 HI.out.2.2.2 rfl (by decide) 1 (pairL (k, x)) H4.out.row _ H4.out.at3 (pairsL_one _) (by unfold maxLen; omega) (by omega) ?_; intro v' X5 hO2 hT2 hfr; have H5 := hid (H4.out.grow hO2 hT2 hfr); clear hO2 hT2 hfr; obtain ⟨B1, d1, hv', _⟩ := row_slice H5.out; subst hv'; have x1 := (blk_at H5.out.at2 (o + 1)).trans HC1.out; have f1 := frozen_of_row X5 b (o + 1) _ _ H5.out.at2.blk; have H6 := hid (H5.out.at2.setCell (o + 1) (.slice B1 (1 + m) d1)))))
    go_ret2
    refine ⟨rfl, .slice B1 (1 + m) d1, ?_⟩
    have e1 : refSet cs o (.slice B1 (1 + m) d1) (p.hits + 1) p.misses = cs2.setIfInBounds (o + 1) (.slice B1 (1 + m) d1) := by
      unfold refSet
      rw [HCS.out, set_same (by rw [Array.getElem?_setIfInBounds_ne (by omega), Array.getElem?_setIfInBounds_ne (by omega)]; exact HR.out.c3), Array.setIfInBounds_comm _ _ (by omega)]
      congr 2
    have e2 : ((k, x) :: without k p.l).length = 1 + m := by rw [List.length_cons, ← HMM.out]; omega
    have e3 : pairsL ((k, x) :: without k p.l) = pairL (k, x) ++ pairsL (without k p.l) := by unfold pairsL; rw [List.flatMap_cons]
    show St W0 (Blk b (refSet cs o (.slice B1 (1 + m) d1) (p.hits + 1) p.misses) t :: Row (.slice B1 (1 + m) d1) 85 2 ((k, x) :: without k p.l).length (pairsL ((k, x) :: without k p.l)) :: L) _
    rw [e1, e2, e3]
    exact H6.out.drop3.drop3
set_option maxRecDepth 20000 in
set_option maxHeartbeats 8000000 in
theorem docput_st (h : St W0 (Blk b cs t :: Row v 85 2 p.l.length (pairsL p.l) :: L) W) (hr : RefAt cs o size v p) (ho : p.Ok size) (hs : size ≤ 256) (k x : Str) :
    Calls Try.prog 27 #[.pointer (some ⟨b, o, none⟩), .string (strB k), .string (strB x)] W fun r w' => r = .returned (.tuple #[]) ∧
      ∃ v', St W0 (Blk b (refSet cs o v' (p.put size k x).hits (p.put size k x).misses) t :: Row v' 85 2 (p.put size k x).l.length (pairsL (p.put size k x).l) :: L) w' := by
  have hfew := ho.few
  have HW := hid (without_st h hr.c1 ho.once (by omega) k)
  have HR := hid hr
  obtain ⟨ip, hi, hiz, his, hib⟩ := info_parts infoPair
  have HI := hid (And.intro hi (And.intro hiz (And.intro his hib)))
  have hwl : (without k p.l).length ≤ 256 := by
    have h1 : (without k p.l).length ≤ p.l.length := List.length_filter_le _ _
    omega
  obtain ⟨m, hm⟩ : ∃ m, m = (without k p.l).length := ⟨_, rfl⟩
  have HMM := hid hm
  rw [← hm] at HW hwl
  have HC1 := hid hr.c1
  clear h hr hi hiz his hib hm
  go_enter Try.func27, Try.ntmps27
  go_upto_region 1 with (go_at_call 39; (with_reducible refine HW.out.mono ?_); rintro r w1 ⟨B, d, rfl, hs1⟩; have H2 := hid hs1.at2; clear hs1; obtain ⟨x0, x1, x2, x3⟩ := ref_cells H2.out HR.out)
  clear HW
  (go_wp2_with (first | (refine wpList_buildSlice1 _ rfl (.agg #[.string (strB k), .string (strB x)]) (by simp [Act.eval, Act.put]) rfl Try.underlying51 zeroPair sizePair (by decide) (by decide) rfl ?_; intro gn X4 hS hgs hges hX1b; have H4 := hid (H2.out.newRow1 hX1b hges hS (pairL (k, x)) rfl rfl); clear hS hgs hges hX1b) | (refine wpList_append_row _ _ _ rfl (.slice (some ⟨gn, 0, none⟩) 1 1) rfl B m d rfl rfl 85 ip (.agg #[.string ByteArray.empty, .string ByteArray.empty]) 2 32 Try.underlying51 HI.out.1 HI.out.2.1 HI.out.2.2.1 HI.out.2.2.2 rfl (by decide) 1 (pairL (k, x)) H4.out.row _ H4.out.at3 (pairsL_one _) (by unfold maxLen; omega) (by omega) ?_; intro v' X5 hO2 hT2 hfr; have H5 := hid (H4.out.grow hO2 hT2 hfr); clear hO2 hT2 hfr; obtain ⟨B1, d1, hv', _⟩ := row_slice H5.out; subst hv'; have x1 := (blk_at H5.out.at2 (o + 1)).trans HC1.out; have f1 := frozen_of_row X5 b (o + 1) _ _ H5.out.at2.blk; have H6 := hid (H5.out.at2.setCell (o + 1) (.slice B1 (1 + m) d1)))))
  clear H2 H4 H5 x0 x1 x2 x3 f1
  obtain ⟨cs1, hcs1⟩ : ∃ cs1, cs1 = cs.setIfInBounds (o + 1) (.slice B1 (1 + m) d1) := ⟨_, rfl⟩
  obtain ⟨Y, hY⟩ : ∃ Y, Y = X5.setCell ⟨b, o + 1, none⟩ (.slice B1 (1 + m) d1) := ⟨_, rfl⟩
  have H7 := hid (show St W0 (Blk b cs1 t :: Row (.slice B1 (1 + m) d1) 85 2 (1 + m) (pairsL ((k, x) :: without k p.l)) :: L) Y from by
    rw [hcs1, hY, show pairsL ((k, x) :: without k p.l) = pairL (k, x) ++ pairsL (without k p.l) from by unfold pairsL; rw [List.flatMap_cons]]
    exact H6.out.drop3.drop3)
  simp only [← hY]
  have hob : o + 1 < cs.size := (Array.getElem?_eq_some_iff.1 HR.out.c1).1
  have y1 : cs1[o + 1]? = some (.slice B1 (1 + m) d1) := by rw [hcs1, Array.getElem?_setIfInBounds_self_of_lt hob]
  have y0 : cs1[o]? = some (.int .i64 size) := by rw [hcs1, Array.getElem?_setIfInBounds_ne (by omega)]; exact HR.out.c0
  have HF := hid (show ∀ X, St W0 (Blk b cs1 t :: Row (.slice B1 (1 + m) d1) 85 2 (1 + m) (pairsL ((k, x) :: without k p.l)) :: L) X → X.cell? ⟨b, o, none⟩ = some (.int .i64 size) ∧ X.cell? ⟨b, o + 1, none⟩ = some (.slice B1 (1 + m) d1) from fun X hX => ⟨(blk_at hX _).trans y0, (blk_at hX _).trans y1⟩)
  have hcap : 1 + m ≤ d1 := by
    rcases H7.out.at2.row.2 with ⟨_, h0⟩ | ⟨g, cap, cur, e1, _, _, hc, _⟩
    · omega
    · cases e1; exact hc
  obtain ⟨mm, hmm⟩ : ∃ mm, mm = min (1 + m) size := ⟨_, rfl⟩
  have EM : min (1 + (m : Int)) (size : Int) = (mm : Int) := by omega
  have hmd : (mm : Int) ≤ (d1 : Int) := by omega
  have hmd2 : mm ≤ d1 := by omega
  have HM1 := hid hmm
  have HCS := hid hcs1
  clear H6 hY y0 y1 hcs1 hmm hcap
  refine wp_region_ord [18] [(0, 1), (1, 1), (2, 1), (3, 1), (4, 1), (5, 1), (6, 1), (7, 1), (8, 1), (9, 1), (10, 1), (11, 1), (12, 1), (13, 1), (14, 1), (15, 1), (16, 1), (17, 1), (18, 2)] (fun X => St W0 (Blk b cs1 t :: Row (.slice B1 (1 + m) d1) 85 2 (1 + m) (pairsL ((k, x) :: without k p.l)) :: L) X) (by kernel_rfl) (by kernel_rfl) (fun d _ c _ _ h => by cases d <;> exact h) (H7.out.turn (Below.drew (Below.refl _ _))) (fun X hXe hX => ?_)
  clear hXe H7
  repeat (apply wpOrd_class; ((· first | (rw [List.getElem?_toArray, List.getElem?_cons_zero]; done) | (simp only [List.getElem?_toArray, List.getElem?_cons_succ, List.getElem?_cons_zero]; exact rfl))); (· exact rfl); intro K hK; apply Exists.intro; refine And.intro (fun X' hX' => ?_) ?_; (· obtain ⟨hq1, hq2⟩ := HF.out _ hX'; clear hX'; go_simp; (try go_bits); first | done | exact rfl | exact ⟨rfl, rfl⟩); go_simp; refine hK _ _ ?_; clear hK K)
  have f1 := frozen_of_row X b (o + 1) _ _ hX.blk
  have x1 := (HF.out X hX).2
  (apply wpOrd_comes; ((· first | (rw [List.getElem?_toArray, List.getElem?_cons_zero]; done) | (simp only [List.getElem?_toArray, List.getElem?_cons_succ, List.getElem?_cons_zero]; exact rfl))); intro N hN)
  go_wp2_with fail
  have H8 := hid (hX.setCell (o + 1) (.slice B1 mm d1))
  clear f1 x1 hX
  refine hN _ _ (fun h => by cases h) ?_
  clear hN N
  refine wpOrd_done ?_
  go_end0
  refine ⟨rfl, .slice B1 mm d1, ?_⟩
  have h9 := (H8.out.at2.rowCut (m := mm) (by omega) (by omega)).at2
  rw [pairsL_take _ _ (by rw [List.length_cons, ← HMM.out]; omega)] at h9
  have e1 : refSet cs o (.slice B1 mm d1) p.hits p.misses = cs1.setIfInBounds (o + 1) (.slice B1 mm d1) := by
    unfold refSet
    rw [HCS.out, set_same (i := o + 2) (by rw [Array.getElem?_setIfInBounds_ne (by omega)]; exact HR.out.c2), set_same (i := o + 3) (by rw [Array.getElem?_setIfInBounds_ne (by omega)]; exact HR.out.c3)]
    apply Array.ext_getElem?
    intro j
    simp only [Array.getElem?_setIfInBounds, Array.size_setIfInBounds]
    split <;> rfl
  have e4 : ((k, x) :: without k p.l).take mm = ((k, x) :: without k p.l).take size := by
    rw [HM1.out]
    have e5 : ((k, x) :: without k p.l).length = 1 + m := by rw [List.length_cons, ← HMM.out]; omega
    rw [← e5]
    apply List.ext_getElem?
    intro j
    simp only [List.getElem?_take]
    split
    · rename_i h1
      rw [if_pos (by omega)]
    · rename_i h1
      split
      · rw [List.getElem?_eq_none (by omega)]
      · rfl
  show St W0 (Blk b (refSet cs o (.slice B1 mm d1) p.hits p.misses) t :: Row (.slice B1 mm d1) 85 2 (((k, x) :: without k p.l).take size).length (pairsL (((k, x) :: without k p.l).take size)) :: L) _
  rw [e1, ← e4, show (((k, x) :: without k p.l).take mm).length = mm by rw [List.length_take, List.length_cons, ← HMM.out]; omega]
  exact h9
end
end Go.Proofs.Ytnakbdgoaepehaa
