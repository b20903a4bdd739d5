import Derived.Test.YtnakbdgoaepehaaPath
namespace Go.Proofs.Ytnakbdgoaepehaa
open Go.RowKit Go.Cu

theorem guard23 : Try.prog.eqGuardType Try.prog.depth 23 = false := by kernel_rfl
theorem cells5 : Try.prog.cellsOf 5 = 1 := by kernel_rfl
@[go_sem ↓] theorem ldk23 (a : Act) (dst : Option Tmp) (x : Operand) (ty : TypeId) (pos : String) (after : Array Edge) (guard : Option (Nat × Bool)) :
      execOp a.eval { dst, op := .load 23 x, type := ty, pos, after, guard } = loadK 23 (a.eval x) := rfl
@[go_sem ↓] theorem ldk22 (a : Act) (dst : Option Tmp) (x : Operand) (ty : TypeId) (pos : String) (after : Array Edge) (guard : Option (Nat × Bool)) :
      execOp a.eval { dst, op := .load 22 x, type := ty, pos, after, guard } = loadK 22 (a.eval x) := rfl
@[go_sem ↓] theorem eqk23 (a : Act) (dst : Option Tmp) (x y : Operand) (t' ty : TypeId) (pos : String) (after : Array Edge) (guard : Option (Nat × Bool)) :
      execOp a.eval { dst, op := .binOp .eql 23 x y t', type := ty, pos, after, guard } = cmpK .eql 23 x y (a.eval x) (a.eval y) := rfl
set_option maxRecDepth 20000 in
set_option maxHeartbeats 1000000 in
/-- The walk, its counts and answers as variables: cases that hang together are left. -/
theorem three_core (a b c : List UInt8) (x y z : Nat) (p q r : Bool) (w : World) (hka : a.length = 32) (hkb : b.length = 32) (hkc : c.length = 32)
    (hab : Hid (cm a b = x)) (hbc : Hid (cm b c = y)) (hac : Hid (cm a c = z)) (hp : Hid (ltB a b = p)) (hq : Hid (ltB b a = q)) (hr : Hid (decide (a = b) = r))
    (hn : (x = y ∧ y = z) ∨ (x = y ∧ y < z) ∨ (x = z ∧ z < y) ∨ (y = z ∧ z < x)) (hc : (p = false ∧ q = false ∧ r = true) ∨ (p = true ∧ q = false ∧ r = false) ∨ (p = false ∧ q = true ∧ r = false)) :
    Calls Try.prog 3 #[.agg (bv a), .agg (bv b), .agg (bv c)] w fun e w' => e = .returned (.bool true) ∧ Below w.heap.size w w' := by
  have HA := hid hka
  have HB := hid hkb
  have HC := hid hkc
  have HSA := hid ((bv_size a).trans hka)
  have HSB := hid ((bv_size b).trans hkb)
  have HSC := hid ((bv_size c).trans hkc)
  have C1 := hid fun w => common_any a b w hka hkb
  have C2 := hid fun w => common_any b c w hkb hkc
  have C3 := hid fun w => common_any a c w hka hkc
  have C4 := hid fun w => common_any b a w hkb hka
  have C5 := hid fun w => common_any a a w hka hka
  have C6 := hid fun w => less_any a b w hka hkb
  have C7 := hid fun w => less_any b a w hkb hka
  have E1 := hid fun w => run_eql_bv (P := Try.prog) Try.underlying23 be5 cells5 a b hka hkb w
  rw [hab.out] at C1
  rw [hbc.out] at C2
  rw [hac.out] at C3
  rw [cm_symm b a, hab.out] at C4
  rw [cm_self] at C5
  rw [hp.out] at C6
  rw [hq.out] at C7
  clear hka hkb hkc hab hbc hac hp hq
  rcases hn with ⟨rfl, rfl⟩ | ⟨rfl, hn⟩ | ⟨rfl, hn⟩ | ⟨rfl, hn⟩
  all_goals rcases hc with ⟨rfl, rfl, rfl⟩ | ⟨rfl, rfl, rfl⟩ | ⟨rfl, rfl, rfl⟩
  all_goals
    go_enter Try.func3, Try.ntmps3
    repeat (apply wp_seq_k; intro _ _)
    apply wp_region_lit
    refine wpList_box rfl 23 _ rfl (.agg (bv a)) rfl ?_
    intro ga W1 hA1 ha1 _ hW1
    refine wpList_box rfl 23 _ rfl (.agg (bv b)) rfl ?_
    intro gb W2 hB1 hb1 _ hW2
    refine wpList_box rfl 23 _ rfl (.agg (bv c)) rfl ?_
    intro gc W0 hC hc _ hW3
    have hA : W0.heap[ga]? = some (.cells (bv a) 23 (0, 0)) := ((hW3.block ga (Nat.lt_of_lt_of_le ha1 hW2.size)).trans (hW2.block ga ha1)).trans hA1
    have hB : W0.heap[gb]? = some (.cells (bv b) 23 (0, 0)) := (hW3.block gb hb1).trans hB1
    have hW := ((hW1.trans (hW2.mono hW1.size))).trans (hW3.mono (Nat.le_trans hW1.size hW2.size))
    have ha := Nat.lt_of_lt_of_le (Nat.lt_of_lt_of_le ha1 hW2.size) hW3.size
    have hb := Nat.lt_of_lt_of_le hb1 hW3.size
    have hX : Below W0.heap.size W0 W0 := Below.refl _ _
    clear hW1 hW2 hW3 hA1 ha1 hB1 hb1
    have LA : ∀ W, Below W0.heap.size W0 W → (loadK 23 (.pointer (some ⟨ga, 0, none⟩))).run Try.prog W = .ok (.value (.agg (bv a))) W := fun W h => run_loadK_box ((h.block _ ha).trans hA) Try.underlying23 rfl size23 HSA.out
    have LB : ∀ W, Below W0.heap.size W0 W → (loadK 23 (.pointer (some ⟨gb, 0, none⟩))).run Try.prog W = .ok (.value (.agg (bv b))) W := fun W h => run_loadK_box ((h.block _ hb).trans hB) Try.underlying23 rfl size23 HSB.out
    have LC : ∀ W, Below W0.heap.size W0 W → (loadK 23 (.pointer (some ⟨gc, 0, none⟩))).run Try.prog W = .ok (.value (.agg (bv c))) W := fun W h => run_loadK_box ((h.block _ hc).trans hC) Try.underlying23 rfl size23 HSC.out
    have EQ : ∀ x y W, (cmpK .eql 23 x y (.agg (bv a)) (.agg (bv b))).run Try.prog W = .ok (.value (.bool _)) W := fun x y W => (run_cmpK_eql guard23 Try.underlying23 be5 cells5 HA.out HB.out x y W).trans (by rw [hr.out])
    clear hA hB hC ha hb hc
    go_wp2
    refine wp_region_class (fun X => Below W0.heap.size W0 X) (by kernel_rfl) (by kernel_rfl) (Below.drew hX) ?_
    clear hX
    repeat (first | (refine wpQuiet_callK 9 ⟨_, _, rfl⟩ rfl ?_; apply Exists.intro; refine And.intro (fun X => ?_) ?_; (· go_simp; exact rfl); apply Exists.intro; refine And.intro (fun X hX => ?_) (fun K hK => ?_); (· (with_reducible refine (C1.out _).mono ?_); rintro e X' ⟨rfl, hb⟩; exact ⟨rfl, hX.trans (hb.mono hX.size)⟩); go_simp; refine hK _ ?_; clear hK K) | (refine wpQuiet_callK 9 ⟨_, _, rfl⟩ rfl ?_; apply Exists.intro; refine And.intro (fun X => ?_) ?_; (· go_simp; exact rfl); apply Exists.intro; refine And.intro (fun X hX => ?_) (fun K hK => ?_); (· (with_reducible refine (C2.out _).mono ?_); rintro e X' ⟨rfl, hb⟩; exact ⟨rfl, hX.trans (hb.mono hX.size)⟩); go_simp; refine hK _ ?_; clear hK K) | (refine wpQuiet_callK 9 ⟨_, _, rfl⟩ rfl ?_; apply Exists.intro; refine And.intro (fun X => ?_) ?_; (· go_simp; exact rfl); apply Exists.intro; refine And.intro (fun X hX => ?_) (fun K hK => ?_); (· (with_reducible refine (C3.out _).mono ?_); rintro e X' ⟨rfl, hb⟩; exact ⟨rfl, hX.trans (hb.mono hX.size)⟩); go_simp; refine hK _ ?_; clear hK K) | (refine wpQuiet_exK rfl (fun K hK => ?_); apply Exists.intro; refine And.intro (fun X hX => ?_) ?_; (· go_simp; (try go_bits); first | exact rfl | exact ⟨rfl, rfl⟩ | (rw [if_pos (by omega)]; exact ⟨rfl, rfl⟩)); go_simp; refine hK _ ?_; clear hK K))
    refine wpQuiet_nil (fun X hX => ?_)
    go_wp2_with (first | (go_at_call 10; (with_reducible refine (paths_any _).mono ?_); rintro e X ⟨rfl, hX1⟩; replace hX := hX.trans (hX1.mono hX.size); clear hX1) | (go_at_call 9; (with_reducible refine (C5.out _).mono ?_); rintro e X ⟨rfl, hX1⟩; replace hX := hX.trans (hX1.mono hX.size); clear hX1) | (go_at_call 9; (with_reducible refine (C4.out _).mono ?_); rintro e X ⟨rfl, hX1⟩; replace hX := hX.trans (hX1.mono hX.size); clear hX1) | (go_at_call 11; (with_reducible refine (C6.out _).mono ?_); rintro e X ⟨rfl, hX1⟩; replace hX := hX.trans (hX1.mono hX.size); clear hX1) | (go_at_call 11; (with_reducible refine (C7.out _).mono ?_); rintro e X ⟨rfl, hX1⟩; replace hX := hX.trans (hX1.mono hX.size); clear hX1))
    go_ret
    exact ⟨rfl, hW.trans (hX.mono hW.size)⟩
end Go.Proofs.Ytnakbdgoaepehaa
