import Derived.Test.YthmchbdhikakhaaDiskMem
import Derived.Test.YthmchbdhikakhaaKeyMem
namespace Go.Proofs.Ythmchbdhikakhaa
open Go.RowKit Go.Cu
theorem be5 : ByteElem Try.prog 5 := ⟨by kernel_rfl, Try.underlying5⟩
theorem cells5 : Try.prog.cellsOf 5 = 1 := by kernel_rfl
theorem size33 : (Try.prog.info? 33).map (·.size) = some 128 := by kernel_rfl
theorem guard33 : Try.prog.eqGuardType Try.prog.depth 33 = false := by kernel_rfl
set_option maxRecDepth 20000 in
theorem zero33 (W : World) : (zeroValue 33).run Try.prog W = .ok (.agg (bv zeroB)) W := by kernel_rfl
set_option maxRecDepth 20000 in
theorem build33 (W : World) : (Instr.build 33 #[]).run Try.prog W = .ok (.agg (bv zeroB)) W := by kernel_rfl
@[go_sem ↓] theorem ldk33 (a : Act) (dst : Option Tmp) (x : Operand) (ty : TypeId) (pos : String) (after : Array Edge) (guard : Option (Nat × Bool)) :
      execOp a.eval { dst, op := .load 33 x, type := ty, pos, after, guard } = loadK 33 (a.eval x) := rfl
@[go_sem ↓] theorem eqk33 (a : Act) (dst : Option Tmp) (x y : Operand) (t' ty : TypeId) (pos : String) (after : Array Edge) (guard : Option (Nat × Bool)) :
      execOp a.eval { dst, op := .binOp .eql 33 x y t', type := ty, pos, after, guard } = cmpK .eql 33 x y (a.eval x) (a.eval y) := rfl
@[go_sem ↓] theorem nek33 (a : Act) (dst : Option Tmp) (x y : Operand) (t' ty : TypeId) (pos : String) (after : Array Edge) (guard : Option (Nat × Bool)) :
      execOp a.eval { dst, op := .binOp .neq 33 x y t', type := ty, pos, after, guard } = cmpK .neq 33 x y (a.eval x) (a.eval y) := rfl
theorem bvz : (bv zeroB).size = 128 := (bv_size _).trans zeroB_len

theorem results_cell_tmp {fn : Func} {p t : Tmp} {ty e : TypeId} {n : Nat} (h : fn.results = #[.cell p ty, .tmp t]) (tmps : Array Value) (P : Program) (w : World) (g : Nat) (t' : TypeId) (cs : Array Value) (fr : Nat × Nat)
    (hp : tmps.getD p undef = .pointer (some ⟨g, 0, none⟩)) (hg : w.heap[g]? = some (.cells cs t' fr))
    (hu : P.underlying ty = some (.array n e)) (hi : (P.info? ty).map (·.size) = some cs.size) :
    (results fn tmps).run P w = .ok (.tuple #[.agg cs, tmps.getD t undef]) w := by
  have hp' : tmps[p]?.getD undef = .pointer (some ⟨g, 0, none⟩) := by simpa using hp
  have hl := run_loadVar_row (P := P) w g t' ty cs fr _ hg hu rfl hi
  simp [results, h, hp', asAddr, hl]

set_option maxRecDepth 20000 in
set_option maxHeartbeats 400000 in
/-- Read where nothing is answered. -/
theorem read_bad {v : Value} {e : Int} {w : World} {i : Int} (he : e ≠ 0) (ha : Hid (∀ w', Below w.heap.size w w' → Calls Try.prog 57 #[v, .int .i64 i] w' fun x w'' => x = .returned (.int .i64 e) ∧ w' = w'')) :
    Calls Try.prog 18 #[v, .int .i64 i] w fun x w' => x = .returned (.tuple #[.agg (bv zeroB), .int .i64 e]) ∧ Below w.heap.size w w' := by
  have hne : (e != 0) = true := by simpa using he
  clear he
  go_enter Try.func18, Try.ntmps18
  go_wp2_with (first | (refine wpList_alloc 33 rfl rfl (.agg (bv zeroB)) zero33 ?_; intro gr W0 hR hr hgr hW) | (go_at_call 57; refine (ha.out _ hW).mono ?_; rintro x w' ⟨rfl, rfl⟩) | (refine wpList_buildv 33 _ rfl rfl #[] ?_ (.agg (bv zeroB)) build33 ?_; (· simp [Act.eval])) | (refine wpList_store_box 33 _ _ rfl gr rfl rfl (bv zeroB) rfl 128 size33 bvz (bv_one _) 33 _ hR bvz ?_; intro X2 hR2 hT2 hs2))
  refine bodyPost_ret (results_cell_tmp rfl _ _ _ gr 33 (bv zeroB) (0, 0) rfl hR2 Try.underlying33 (by rw [bvz]; exact size33)) rfl ⟨rfl, ?_⟩
  exact hW.trans (hT2.below hW.size (fun i hi => by subst hi; exact hgr))

set_option maxRecDepth 20000 in
set_option maxHeartbeats 400000 in
theorem read_ok {p : Nat} {F : Nat → Prop} {S : DS} {w : World} {N : Nat} (h : DiskIn w p F S) (hok : S.Ok N) {n : Nat} (hz : S.at_ (n : Int) = 0) :
    Calls Try.prog 18 #[.pointer (some ⟨p, 0, none⟩), .int .i64 n] w fun x w' => x = .returned (.tuple #[.agg (bv (S.now.getD n zeroB)), .int .i64 0]) ∧ Below w.heap.size w w' := by
  have ha := hid fun w' (hb : Below w.heap.size w w') => at_any (w := w') (h.below hb) hok n
  rw [hz] at ha
  obtain ⟨_, _, hlt⟩ := DS.at_zero hz
  have hbig := hok.big
  have HG := hid (show S.now[n]? = some (S.now.getD n zeroB) by rw [List.getD_eq_getElem?_getD, List.getElem?_eq_getElem (by omega)]; rfl)
  have hlen := hid (full_getD hok.now n)
  have HSZ := hid ((bv_size _).trans hlen.out)
  have HL := hid (fun (X : World) (hb : Below w.heap.size w X) => ((h.below hb).cells))
  obtain ⟨pn, pl, wv, h0, _, _, _, _, hat⟩ := h.cells
  have HF := hid (show Full S.now from hok.now)
  have hp := lt_of_heap hat.box
  have hpn := lt_of_heap hat.now
  have LN : ∀ X, Below w.heap.size w X → (loadK 33 (.pointer (some ⟨pn, n * 128, none⟩))).run Try.prog X = .ok (.value (.agg (bv (S.now.getD n zeroB)))) X := fun X hb =>
    run_loadK ((hb.block pn hpn).trans hat.now) Try.underlying33 rfl size33 HSZ.out (flat_get HF.out HG.out)
  have L0 : ∀ X, Below w.heap.size w X → X.cell? ⟨p, 0, none⟩ = some (.slice (some ⟨pn, 0, none⟩) S.now.length S.now.length) := fun X hb => (hb.cell (p := ⟨p, 0, none⟩) hp).trans h0
  clear h hok hz h0 hat
  go_enter Try.func18, Try.ntmps18
  go_wp2_with (first | (refine wpList_alloc 33 rfl rfl (.agg (bv zeroB)) zero33 ?_; intro gr W0 hR hr hgr hW) | (go_at_call 57; refine (ha.out _ hW).mono ?_; rintro x w' ⟨rfl, rfl⟩) | (refine wpList_store_box 33 _ _ rfl gr rfl rfl (bv (S.now.getD n zeroB)) rfl 128 size33 HSZ.out (bv_one _) 33 _ hR bvz ?_; intro X2 hR2 hT2 hs2))
  refine bodyPost_ret (results_cell_tmp rfl _ _ _ gr 33 (bv _) (0, 0) rfl hR2 Try.underlying33 (by rw [HSZ.out]; exact size33)) rfl ⟨rfl, ?_⟩
  exact hW.trans (hT2.below hW.size (fun i hi => by subst hi; exact hgr))
end Go.Proofs.Ythmchbdhikakhaa
