/- The pad of a mark's key. -/
import Derived.Test.YtnakbdgoaepehaaDoorShaParts
import Derived.Laws.MakeOwn
import Derived.Laws.BitsAllLaws
namespace Go.Cu
open Go Go.RowKit
section
variable {P : Program}
theorem wpList_mk {t e : TypeId} {ops : Array Oper} {rest : List Oper} {o : Oper} {a : Act} {w : World} {Q : Exit → Act → World → Prop} (x y : Operand) (ho : o.op = .makeSlice t x y) (u v : Value) (hx : a.eval x = u) (hy : a.eval y = v)
    (hw : Region.wanted o (yielded ops a.tmps) = true) (n : Nat) (cs : Array Value) (hrun : ∀ w : World, (Instr.makeSlice t u v).run P w = .ok (.slice (some ⟨w.heap.size, 0, none⟩) n n) (w.alloc (.cells cs e)))
    (h : ∀ (g : Nat) (W : World), W.heap[g]? = some (.cells cs e (0, 0)) → g < W.heap.size → w.heap.size ≤ g → Below w.heap.size w W → wpList P ops Q rest (a.put o.dst (.slice (some ⟨g, 0, none⟩) n n)) W) : wpList P ops Q (o :: rest) a w := by
  refine wpList_wanted hw fun K hK => ?_
  have hr : (execOp a.eval o).run P w = .ok (.value (.slice (some ⟨w.heap.size, 0, none⟩) n n)) (w.alloc (.cells cs e)) := by
    unfold execOp
    simp only [ho, hx, hy, Sem.run_bind, hrun w, Result.andThen_ok, Sem.run_pure]
  unfold Oper.wp
  rw [hr]
  exact hK _ _ (h w.heap.size _ (heap_alloc_at _ _ rfl) (by simp) (Nat.le_refl _) ((Below.refl _ _).alloc (Nat.le_refl _) _))
end
/-- A key, filled up to a block. -/
def fill64 (k : List UInt8) : List UInt8 := k ++ List.replicate (64 - k.length) 0
theorem fill64_len {k : List UInt8} (h : k.length ≤ 64) : (fill64 k).length = 64 := by
  unfold fill64
  rw [List.length_append, List.length_replicate]; omega
/-- .. and put together with a byte. -/
def padL (k : List UInt8) (b : UInt8) : List UInt8 := (fill64 k).map (· ^^^ b)
/-- The first i of them put together with a byte. -/
structure Xord (b : UInt8) (i : Nat) (l m : List UInt8) : Prop where
  len : m.length = l.length
  done : ∀ j x, j < i → l[j]? = some x → m[j]? = some (x ^^^ b)
  rest : ∀ j, i ≤ j → m[j]? = l[j]?
theorem Xord.start (b : UInt8) (l : List UInt8) : Xord b 0 l l := ⟨rfl, fun j x h _ => absurd h (by omega), fun _ _ => rfl⟩
theorem Xord.step {b : UInt8} {i : Nat} {l m : List UInt8} (h : Xord b i l m) {x : UInt8} (hx : l[i]? = some x) : Xord b (i + 1) l (m.set i (x ^^^ b)) where
  len := by rw [List.length_set]; exact h.len
  done j y hj hy := by
    by_cases e : j = i
    · subst e
      rw [hx] at hy
      cases hy
      have hl := (List.getElem?_eq_some_iff.1 hx).1
      rw [List.getElem?_set_self (by rw [h.len]; exact hl)]
    · rw [List.getElem?_set_ne (fun e' => e e'.symm)]
      exact h.done j y (by omega) hy
  rest j hj := by
    rw [List.getElem?_set_ne (by omega)]
    exact h.rest j (by omega)
theorem Xord.all {b : UInt8} {i : Nat} {l m : List UInt8} (h : Xord b i l m) (hi : l.length ≤ i) : m = l.map (· ^^^ b) := by
  apply List.ext_getElem?
  intro j
  rw [List.getElem?_map]
  by_cases hj : j < l.length
  · rw [List.getElem?_eq_getElem hj]
    exact h.done j _ (by omega) (List.getElem?_eq_getElem hj)
  · rw [List.getElem?_eq_none (by rw [h.len]; omega), List.getElem?_eq_none (by omega)]
    rfl
theorem u8_xor_b (x b : UInt8) : bits .xor .u8 (x.toNat : Int) (b.toNat : Int) = ((x ^^^ b).toNat : Int) := by
  rw [u8_xor_nat _ _ (UInt8.toNat_lt _) (UInt8.toNat_lt _), UInt8.toNat_xor]
theorem src_all {X : World} {K : Option Addr} {k : List UInt8} (h : BytesIn X K k) : ∀ j v, (bvL k)[j]? = some v → ∃ ad, K = some ad ∧ X.cell? (ad.add j) = some v := fun j v hj => by
  unfold bvL at hj
  rw [List.getElem?_map] at hj
  cases hq : k[j]? with
  | none => rw [hq] at hj; cases hj
  | some q =>
    rw [hq] at hj
    obtain rfl : Value.int .u8 q.toNat = v := by simpa using hj
    obtain ⟨g', o2, e', _, hc⟩ := h j q hq
    subst e'
    refine ⟨_, rfl, ?_⟩
    have e3 : (⟨g', o2, none⟩ : Addr).add j = ⟨g', o2 + j, none⟩ := by unfold Addr.add; split <;> simp_all
    rw [e3]
    exact hc
theorem put_fill (k : List UInt8) : putAt (bv (List.replicate 64 0)) 0 (bvL k) = bv (fill64 k) := by
  unfold putAt fill64 bv bvL
  rw [List.take_zero, List.nil_append, Nat.zero_add, List.length_map, List.map_append, List.map_replicate, List.map_replicate, List.drop_replicate]
end Go.Cu
namespace Go.Proofs.YtnakbdgoaepehaaDoor
open Go.RowKit Go.Cu
theorem makeBY (n : Nat) (hn : n ≤ 100000) (W : World) : (Instr.makeSlice 42 (.int .i64 n) (.int .i64 n)).run Tryd.prog W = .ok (.slice (some ⟨W.heap.size, 0, none⟩) n n) (W.alloc (.cells (bv (List.replicate n 0)) 5)) := by
  obtain ⟨i0, hi, hiz, his, hib⟩ := info_parts info5
  have h := run_make (P := Tryd.prog) W 42 5 i0 _ Tryd.underlying42 hi hiz .i64 .i64 n n (by omega) (Int.le_refl _) (by rw [hib]; omega) (by omega)
  rw [his] at h
  simp only [Int.toNat_natCast] at h
  rw [show madeCells (Value.int .u8 0).cells (n * 1) = bv (List.replicate n 0) from by
    apply Array.ext
    · rw [size_madeCells, bv_size, List.length_replicate, Nat.mul_one]
    · intro j h1 h2
      simp [madeCells, bv, Value.cells, Nat.mod_one]] at h
  exact h
section
variable {W0 W : World} {L : List Atm}
set_option maxRecDepth 20000 in
set_option maxHeartbeats 4000000 in
theorem pad_st (h : St W0 L W) {K : Option Addr} {kc : Nat} {k : List UInt8} (hk : ∀ X, St W0 L X → BytesIn X K k) (hkl : k.length ≤ 64) (b : UInt8) :
    Calls Tryd.prog 43 #[.slice K k.length kc, .int .u8 b.toNat] W fun x w' => ∃ g, x = .returned (.slice (some ⟨g, 0, none⟩) 64 64) ∧ St W0 (Blk g (bv (padL k b)) 5 :: L) w' := by
  have HH := hid h
  have HK := hid hk
  have HKL := hid hkl
  have HF := hid (fill64_len hkl)
  have HPF := hid (put_fill k)
  have hmin : (bvL k).length = Nat.min k.length 64 := by
    rw [bvL_len]; show k.length = min k.length 64; omega
  have HMIN := hid hmin
  clear h hk hmin
  go_enter Tryd.func43, Tryd.ntmps43
  go_wp2_with (first | (refine wpList_mk _ _ rfl _ _ rfl rfl rfl 64 (bv (List.replicate 64 0)) (makeBY 64 (by decide)) ?_; intro g W1 h1 hl1 hg1 hW1; have H1 := hid (HH.out.newBlk hW1 hg1 h1); clear h1 hl1 hg1 hW1) | (refine wpList_copyB rfl _ _ 42 42 rfl 5 Tryd.underlying42 be5.size g 0 64 64 K k.length kc rfl rfl (bv (List.replicate 64 0)) 5 H1.out.blk (bvL k) HMIN.out (src_all (HK.out _ H1.out.drop)) (by rw [bvL_len, bv_size, List.length_replicate]; omega) (bvL_one _) ?_; intro W2 hg2 hT2; rw [HPF.out] at hg2; have H2 := hid (H1.out.put hg2 hT2); clear hg2 hT2))
  go_loopw [13, 6] (fun iv _ X => ∃ (i : Nat) (l : List UInt8), iv = .int .i64 i ∧ i ≤ 64 ∧ Hid (Xord b i (fill64 k) l) ∧ Hid (St W0 (Blk g (bv l) 5 :: L) X)) (fun iv _ _ => 64 - (intOf iv).toNat)
  case atStart => exact ⟨0, fill64 k, by go_num, by omega, hid (Xord.start _ _), H2⟩
  case round =>
    clear H1 H2 HH
    obtain ⟨i, l, rfl, hi, HX, HS⟩ := hrel
    have i0 : (0 : Int) ≤ (i : Int) := by omega
    by_cases hlt : i < 64
    · have f1 : (i : Int) < 64 := by omega
      obtain ⟨x, hx⟩ : ∃ x, (fill64 k)[i]? = some x := ⟨_, List.getElem?_eq_getElem (by rw [HF.out]; omega)⟩
      have HST := hid (HX.out.step hx)
      have hc : wr.cell? ⟨g, i, none⟩ = some (.int .u8 x.toNat) := by
        rw [blk_cell HS.out]
        unfold bv
        rw [List.getElem?_toArray, List.getElem?_map, HX.out.rest i (Nat.le_refl _), hx]
        rfl
      have hf := frozen_of_row wr g i _ _ HS.out.blk
      have XB := u8_xor_b x b
      have HS2 := hid (HS.out.setCell i (.int .u8 (x ^^^ b).toNat))
      rw [bv_set] at HS2
      clear hx
      go_wp2_with fail
      go_roundw
      case rel => exact ⟨i + 1, l.set i (x ^^^ b), by go_num, by omega, HST, HS2⟩
      case measure => (simp [intOf] <;> omega)
    · have f1 : ¬ (i : Int) < 64 := by omega
      have HE := hid (HX.out.all (by rw [HF.out]; omega))
      go_wp2_with fail
      go_ret
      refine ⟨g, rfl, ?_⟩
      unfold padL
      rw [← HE.out]
      exact HS.out
end
end Go.Proofs.YtnakbdgoaepehaaDoor
