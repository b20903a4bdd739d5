/- bytes.Compare's entry over two arrays of bytes that are known whole; the order of keys by it. -/
import Derived.Test.YtnakbdgoaepehaaDoorArr
import Derived.Test.YtnakbdgoaepehaaDoorKeySpec
import Derived.Lib.BytesEntry
import Derived.Lib.Bytealg
import Derived.Lib.BitFns
import Derived.ChangeKeysEq
namespace Go.Cu
open Go Go.RowKit

theorem compare_first : ∀ (k l : List UInt8), k.length = l.length →
    (k = l ∧ Lib.compareBytes k l = 0) ∨ ∃ n, n < k.length ∧ (∀ j, j < n → k.getD j 0 = l.getD j 0) ∧ k.getD n 0 ≠ l.getD n 0 ∧ Lib.compareBytes k l = if (k.getD n 0).toNat < (l.getD n 0).toNat then -1 else 1
  | [], [], _ => .inl ⟨rfl, rfl⟩
  | [], _ :: _, h => by simp at h
  | _ :: _, [], h => by simp at h
  | a :: k, b :: l, h => by
    by_cases hab : a = b
    · subst hab
      rcases compare_first k l (by simpa using h) with ⟨h1, h2⟩ | ⟨n, hn, h1, h2, h3⟩
      · exact .inl ⟨by rw [h1], by simp [Lib.compareBytes, h2]⟩
      · refine .inr ⟨n + 1, by simpa using hn, fun j hj => ?_, by simpa using h2, by simpa [Lib.compareBytes] using h3⟩
        match j with
        | 0 => rfl
        | j + 1 => simpa using h1 j (by omega)
    · refine .inr ⟨0, by simp, fun j hj => absurd hj (by omega), by simpa using hab, ?_⟩
      have hne : a.toNat ≠ b.toNat := fun e => hab (UInt8.toNat_inj.1 e)
      simp only [Lib.compareBytes, UInt8.lt_iff_toNat_lt, List.getD_cons_zero]
      by_cases h1 : a.toNat < b.toNat
      · simp [h1]
      · have h2 : b.toNat < a.toNat := by omega
        simp [h1, h2]

/-- The order of keys: -1, 0, 1. -/
def ordB (k l : List UInt8) : Int := if k = l then 0 else if ltB k l then -1 else 1
theorem ordB_compare {k l : List UInt8} (hk : k.length = 32) (hl : l.length = 32) : Lib.compareBytes k l = ordB k l := by
  unfold ordB
  rcases compare_first k l (by omega) with ⟨h1, h2⟩ | ⟨n, hn, h1, h2, h3⟩
  · rw [if_pos h1, h2]
  · have hne : k ≠ l := fun e => h2 (by rw [e])
    rw [if_neg hne, h3, ltB_of_byte n (by omega) h1 h2]
    simp
theorem ordB_neg (k l : List UInt8) : decide (ordB k l < 0) = ltB k l := by
  unfold ordB
  by_cases h : k = l
  · subst h; simp [ltB_self]
  · rw [if_neg h]
    cases ltB k l <;> simp

theorem bytesOf_bv (l : List UInt8) : Lib.bytesOf (l.map fun b => (b.toNat : Int)) = l := by
  unfold Lib.bytesOf
  rw [List.map_map]
  conv => rhs; rw [← List.map_id l]
  refine List.map_congr_left fun b _ => ?_
  simp

theorem run_loadBytes_bv {P : Program} (w : World) (g : Nat) (t : TypeId) (fr : Nat × Nat) (l : List UInt8) (hg : w.heap[g]? = some (.cells (bv l) t fr)) :
    (Extern.Bytes.loadBytes ⟨g, 0, none⟩ l.length .empty).run P w = .ok ⟨l.toArray⟩ w := by
  have h := Lib.run_loadBytesX (P := P) w (l.map fun b => (b.toNat : Int)) ⟨g, 0, none⟩ .empty (fun j x hj => by
    have hadd : (⟨g, 0, none⟩ : Addr).add j = ⟨g, j, none⟩ := by unfold Addr.add; split <;> simp_all
    rw [hadd, cell_of_row w g j (bv l) t fr hg]
    simp only [bv, List.getElem?_toArray, List.getElem?_map] at hj ⊢
    cases hl : l[j]? with
    | none => simp [hl] at hj
    | some u => simp [hl] at hj ⊢; exact hj)
  rw [bytesOf_bv, List.length_map] at h
  rw [h]
  congr 1
  apply ByteArray.ext
  show (#[] : Array UInt8) ++ l.toArray = l.toArray
  simp

theorem run_compare_bv {P : Program} (w : World) (g g' : Nat) (t t' : TypeId) (fr fr' : Nat × Nat) (k l : List UInt8) (c c' : Nat) (hg : w.heap[g]? = some (.cells (bv k) t fr)) (hg' : w.heap[g']? = some (.cells (bv l) t' fr')) :
    (Extern.BytealgCompare.compare #[.slice (some ⟨g, 0, none⟩) k.length c, .slice (some ⟨g', 0, none⟩) l.length c']).run P w = .ok (.int .i64 (Lib.compareBytes k l)) w := by
  change Sem.run P (do pure (goInt (Extern.BytealgCompare.cmp (← Extern.Bytes.bytesOf (.slice (some ⟨g, 0, none⟩) k.length c)) (← Extern.Bytes.bytesOf (.slice (some ⟨g', 0, none⟩) l.length c'))))) w = _
  simp only [Extern.Bytes.bytesOf, Sem.run_bind, run_loadBytes_bv w g t fr k hg, run_loadBytes_bv w g' t' fr' l hg', Result.andThen_ok, Sem.run_pure, Lib.cmp_eq, goInt]
theorem xor_bit (a b j : Nat) : ((a ^^^ b) / 2 ^ j % 2 = 0 ↔ a / 2 ^ j % 2 = b / 2 ^ j % 2) := by
  have h := Nat.testBit_xor a b j
  rw [Nat.testBit_eq_decide_div_mod_eq, Nat.testBit_eq_decide_div_mod_eq, Nat.testBit_eq_decide_div_mod_eq] at h
  have ha : a / 2 ^ j % 2 < 2 := Nat.mod_lt _ (by decide)
  have hb : b / 2 ^ j % 2 < 2 := Nat.mod_lt _ (by decide)
  have hx : (a ^^^ b) / 2 ^ j % 2 < 2 := Nat.mod_lt _ (by decide)
  generalize (a ^^^ b) / 2 ^ j % 2 = x at *
  generalize a / 2 ^ j % 2 = u at *
  generalize b / 2 ^ j % 2 = v at *
  match x, u, v, hx, ha, hb with
  | 0, 0, 0, _, _, _ => simp
  | 0, 0, 1, _, _, _ => simp at h
  | 0, 1, 0, _, _, _ => simp at h
  | 0, 1, 1, _, _, _ => simp
  | 1, 0, 0, _, _, _ => simp at h
  | 1, 0, 1, _, _, _ => simp
  | 1, 1, 0, _, _, _ => simp
  | 1, 1, 1, _, _, _ => simp at h

theorem len_bits : ∀ x : Fin 256, x.val ≠ 0 → 1 ≤ Lib.bitLen x.val ∧ Lib.bitLen x.val ≤ 8 ∧ (∀ q : Fin 8, q.val < 8 - Lib.bitLen x.val → x.val / 2 ^ (7 - q.val) % 2 = 0) ∧ x.val / 2 ^ (7 - (8 - Lib.bitLen x.val)) % 2 ≠ 0 := by decide +kernel

theorem bt_nat (l : List UInt8) (i : Nat) : (bt l i).toNat = (l.getD i 0).toNat := by simp [bt]
theorem cm_exit {k l : List UInt8} {n : Nat} (hn : n < 32) (heq : ∀ j, j < n → k.getD j 0 = l.getD j 0) (hne : bt k n ≠ bt l n) :
    0 ≤ bits .xor .u8 (bt k n) (bt l n) ∧ bits .xor .u8 (bt k n) (bt l n) ≤ 255 ∧ 8 * (n : Int) + (8 - (Lib.bitLen (bits .xor .u8 (bt k n) (bt l n)).toNat : Int)) = (cm k l : Int) := by
  rw [u8_xor _ _ (bt_ge k n) (bt_lt k n) (bt_ge l n) (bt_lt l n), bt_nat, bt_nat, Int.toNat_natCast]
  have ha := UInt8.toNat_lt (k.getD n 0)
  have hb := UInt8.toNat_lt (l.getD n 0)
  have hd : (k.getD n 0).toNat ≠ (l.getD n 0).toNat := fun e => hne (by unfold bt; rw [e])
  have hx : (k.getD n 0).toNat ^^^ (l.getD n 0).toNat < 256 := Nat.xor_lt_two_pow (n := 8) ha hb
  have h0 : (k.getD n 0).toNat ^^^ (l.getD n 0).toNat ≠ 0 := fun e => hd (Nat.eq_of_testBit_eq fun i => by
    have := Nat.testBit_xor (k.getD n 0).toNat (l.getD n 0).toNat i
    rw [e, Nat.zero_testBit] at this
    revert this
    cases (k.getD n 0).toNat.testBit i <;> cases (l.getD n 0).toNat.testBit i <;> simp)
  obtain ⟨h1, h8, hq, hp⟩ := len_bits ⟨_, hx⟩ h0
  simp only at h1 h8 hq hp
  refine ⟨by omega, by omega, ?_⟩
  have hc : IsCm k l (8 * n + (8 - Lib.bitLen ((k.getD n 0).toNat ^^^ (l.getD n 0).toNat))) :=
    isCm_of_byte n _ hn (by omega) heq (fun q hql => (xor_bit _ _ _).1 (hq ⟨q, by omega⟩ hql)) (fun e => hp ((xor_bit _ _ _).2 e))
  rw [← hc.eq]
  omega
theorem cm_all {k l : List UInt8} (heq : ∀ j, j < 32 → k.getD j 0 = l.getD j 0) : cm k l = 256 :=
  ((show IsCm k l 256 from ⟨Nat.le_refl _, fun j hj => by unfold bitN; rw [heq _ (by omega)], fun h => absurd h (by decide)⟩).eq).symm
theorem bt_inj {k l : List UInt8} {n : Nat} (h : bt k n = bt l n) : k.getD n 0 = l.getD n 0 := by
  unfold bt at h
  exact UInt8.toNat_inj.1 (by omega)

theorem run_eqItems_bv {P : Program} {e : TypeId} (he : ByteElem P e) (hc : P.cellsOf e = 1) (d : Nat) (k l : List UInt8) (w : World) :
    ∀ is : List Nat, (∀ i ∈ is, i < k.length ∧ i < l.length) → (Op.eqItems (d + 1) e (P.cellsOf e) (bv k) (bv l) is).run P w = .ok (is.all fun i => bt k i == bt l i) w
  | [], _ => by simp [Op.eqItems]
  | i :: is, h => by
    have hi := h i (by simp)
    have ih := run_eqItems_bv he hc d k l w is (fun j hj => h j (by simp [hj]))
    simp only [Op.eqItems, Sem.run_bind, hc, Nat.mul_one, run_part_bv he k i hi.1, run_part_bv he l i hi.2, Result.andThen_ok, run_equalIn_int w d e _ _ _ _ he.und]
    rw [hc] at ih
    cases hb : bt k i == bt l i
    · simp [hb]
    · simp [hb, ih]

/-- Two arrays of bytes compared. -/
theorem run_eql_bv {P : Program} {t e : TypeId} {n : Nat} (ht : P.underlying t = some (.array n e)) (he : ByteElem P e) (hc : P.cellsOf e = 1) (k l : List UInt8) (hk : k.length = n) (hl : l.length = n) (w : World) :
    (binOp .eql t (.agg (bv k)) (.agg (bv l))).run P w = .ok (.bool (decide (k = l))) w := by
  cases hq : P.info? e with
  | none => have := he.size; simp [hq] at this
  | some i =>
    have h := run_eqItems_bv he hc 9998 k l w (List.range n) (fun i hi => by simp only [List.mem_range] at hi; omega)
    rw [run_eql_struct, run_equalIn_array w 9999 (bv k) (bv l) ht hq, h]
    simp only [Result.andThen_ok]
    congr 2
    rw [Bool.eq_iff_iff]
    simp only [List.all_eq_true, List.mem_range, beq_iff_eq, decide_eq_true_eq]
    constructor
    · intro h
      refine List.ext_getElem (by omega) fun j h1 h2 => ?_
      have := bt_inj (h j (by omega))
      simpa [List.getD_eq_getElem?_getD, h1, h2] using this
    · rintro rfl j _
      rfl
theorem run_neq_bv {P : Program} {t e : TypeId} {n : Nat} (ht : P.underlying t = some (.array n e)) (he : ByteElem P e) (hc : P.cellsOf e = 1) (k l : List UInt8) (hk : k.length = n) (hl : l.length = n) (w : World) :
    (binOp .neq t (.agg (bv k)) (.agg (bv l))).run P w = .ok (.bool (!decide (k = l))) w := by
  have h := run_eql_bv ht he hc k l hk hl w
  rw [run_eql_struct] at h
  rw [run_neq_struct]
  generalize (Op.equalIn 10000 t (.agg (bv k)) (.agg (bv l))).run P w = r at *
  cases r with
  | ok b w' =>
    simp only [Result.andThen_ok, Result.ok.injEq, Value.bool.injEq] at h ⊢
    exact ⟨by rw [h.1], h.2⟩
  | halt x w' => simp [Result.andThen] at h

section
variable {P : Program} {ops : Array Oper} {o : Oper} {a : Act} {t e : TypeId} {n : Nat}
theorem exec_eql_bv (hm : P.eqGuardType P.depth t = false) (t' : TypeId) (x y : Operand) (ho : o.op = .binOp .eql t x y t') (k l : List UInt8) (hx : a.eval x = .agg (bv k)) (hy : a.eval y = .agg (bv l)) (ht : P.underlying t = some (.array n e)) (he : ByteElem P e) (hc : P.cellsOf e = 1) (hk : k.length = n) (hl : l.length = n) (w : World) :
    (execOp a.eval o).run P w = .ok (.value (.bool (decide (k = l)))) w := by
  unfold execOp
  simp only [ho, hx, hy, Sem.run_bind, run_eqGuard_agg w _ _ _ _ _ _ hm, Result.andThen_ok, run_eql_bv ht he hc k l hk hl, Sem.run_pure]
theorem exec_neq_bv (hm : P.eqGuardType P.depth t = false) (t' : TypeId) (x y : Operand) (ho : o.op = .binOp .neq t x y t') (k l : List UInt8) (hx : a.eval x = .agg (bv k)) (hy : a.eval y = .agg (bv l)) (ht : P.underlying t = some (.array n e)) (he : ByteElem P e) (hc : P.cellsOf e = 1) (hk : k.length = n) (hl : l.length = n) (w : World) :
    (execOp a.eval o).run P w = .ok (.value (.bool (!decide (k = l)))) w := by
  unfold execOp
  simp only [ho, hx, hy, Sem.run_bind, run_eqGuard_agg w _ _ _ _ _ _ hm, Result.andThen_ok, run_neq_bv ht he hc k l hk hl, Sem.run_pure]
theorem wpList_eql_bv {rest : List Oper} {w : World} {Q : Exit → Act → World → Prop} (t' : TypeId) (x y : Operand) (ho : o.op = .binOp .eql t x y t') (k l : List UInt8) (hx : a.eval x = .agg (bv k)) (hy : a.eval y = .agg (bv l)) (hw : Region.wanted o (yielded ops a.tmps) = true)
    (hm : P.eqGuardType P.depth t = false) (ht : P.underlying t = some (.array n e)) (he : ByteElem P e) (hc : P.cellsOf e = 1) (hk : k.length = n) (hl : l.length = n) (h : wpList P ops Q rest (a.put o.dst (.bool (decide (k = l)))) w) : wpList P ops Q (o :: rest) a w :=
  wpList_val hw _ (exec_eql_bv hm t' x y ho k l hx hy ht he hc hk hl w) h
theorem wpList_neq_bv {rest : List Oper} {w : World} {Q : Exit → Act → World → Prop} (t' : TypeId) (x y : Operand) (ho : o.op = .binOp .neq t x y t') (k l : List UInt8) (hx : a.eval x = .agg (bv k)) (hy : a.eval y = .agg (bv l)) (hw : Region.wanted o (yielded ops a.tmps) = true)
    (hm : P.eqGuardType P.depth t = false) (ht : P.underlying t = some (.array n e)) (he : ByteElem P e) (hc : P.cellsOf e = 1) (hk : k.length = n) (hl : l.length = n) (h : wpList P ops Q rest (a.put o.dst (.bool (!decide (k = l)))) w) : wpList P ops Q (o :: rest) a w :=
  wpList_val hw _ (exec_neq_bv hm t' x y ho k l hx hy ht he hc hk hl w) h
theorem wpQuiet_eql_bv {rest : List Oper} {C : World → Prop} {Q : Act → Prop} (t' : TypeId) (x y : Operand) (ho : o.op = .binOp .eql t x y t') (k l : List UInt8) (hx : a.eval x = .agg (bv k)) (hy : a.eval y = .agg (bv l)) (hw : Region.wanted o (yielded ops a.tmps) = true)
    (hm : P.eqGuardType P.depth t = false) (ht : P.underlying t = some (.array n e)) (he : ByteElem P e) (hc : P.cellsOf e = 1) (hk : k.length = n) (hl : l.length = n)
    (h : ∀ K : Act → Prop, (∀ a, wpQuiet P ops C Q rest a → K a) → K (a.put o.dst (.bool (decide (k = l))))) : wpQuiet P ops C Q (o :: rest) a :=
  wpQuiet_op hw _ (fun W _ => by
    unfold Oper.quietAt
    rw [exec_eql_bv hm t' x y ho k l hx hy ht he hc hk hl W]
    exact ⟨rfl, rfl⟩) (h _ fun _ hh => hh)
end

theorem run_cmpK_eql {P : Program} {t e : TypeId} {n : Nat} (hm : P.eqGuardType P.depth t = false) (ht : P.underlying t = some (.array n e)) (he : ByteElem P e) (hc : P.cellsOf e = 1) {k l : List UInt8} (hk : k.length = n) (hl : l.length = n) (x y : Operand) (w : World) :
    (cmpK .eql t x y (.agg (bv k)) (.agg (bv l))).run P w = .ok (.value (.bool (decide (k = l)))) w := by
  simp only [cmpK, Sem.run_bind, run_eqGuard_agg w _ _ _ _ _ _ hm, Result.andThen_ok, run_eql_bv ht he hc k l hk hl, Sem.run_pure]
theorem run_cmpK_neq {P : Program} {t e : TypeId} {n : Nat} (hm : P.eqGuardType P.depth t = false) (ht : P.underlying t = some (.array n e)) (he : ByteElem P e) (hc : P.cellsOf e = 1) {k l : List UInt8} (hk : k.length = n) (hl : l.length = n) (x y : Operand) (w : World) :
    (cmpK .neq t x y (.agg (bv k)) (.agg (bv l))).run P w = .ok (.value (.bool (!decide (k = l)))) w := by
  simp only [cmpK, Sem.run_bind, run_eqGuard_agg w _ _ _ _ _ _ hm, Result.andThen_ok, run_neq_bv ht he hc k l hk hl, Sem.run_pure]
end Go.Cu
