import Derived.Test.YtnakbdgoaepehaaBits
namespace Go.Proofs.Ytnakbdgoaepehaa
open Go.RowKit Go.Cu
set_option maxRecDepth 20000 in
set_option maxHeartbeats 1000000 in
theorem bits_out (k l : List UInt8) (i : Int) (c : Nat) (p u e c256 : Bool) (w : World) (hkk : k.length = 32) (hkl : l.length = 32) (hi : i < 0 ∨ 256 ≤ i)
    (hc : Hid (cm k l = c)) (hp : Hid (ltB k l = p)) (hu : Hid (decide (min i 256 ≤ (c : Int)) = u)) (hle : decide (i ≤ (c : Int)) = e) (h256 : ((c : Int) == 256) = c256)
    (hcases : (i < 0 ∧ u = true ∧ e = true) ∨ (256 ≤ i ∧ u = true ∧ e = true) ∨ (256 ≤ i ∧ u = true ∧ e = false ∧ c256 = true) ∨ (256 ≤ i ∧ u = false ∧ e = false ∧ c256 = false)) :
    Calls Try.prog 4 #[.agg (bv k), .agg (bv l), .int .i64 i] w fun e w' => e = .returned (.bool true) ∧ Below w.heap.size w w' := by
  have HSK := hid ((bv_size k).trans hkk)
  have HSL := hid ((bv_size l).trans hkl)
  have HS0 := hid ((bv_size key0).trans len0)
  have C12 := hid fun w => flip_out k i w hkk hi
  have C13 := hid fun w => rcommon_any k l w hkk hkl
  have C14 := hid fun w => bit_out k i w hi
  have C15 := hid fun w => rbit_out k i w hi
  have C9 := hid fun w => common_any k l w hkk hkl
  have C11 := hid fun w => less_any k l w hkk hkl
  have C16 := hid fun w => rless_any k l w hkk hkl
  have C17 := hid fun w => under_any k l i w hkk hkl
  have HKK := hid hkk
  rw [hc.out] at C13 C9 C17
  rw [hp.out] at C11 C16
  rw [hu.out] at C17
  clear hkk hkl hc hp hu hi
  go_enter Try.func4, Try.ntmps4
  repeat (apply wp_seq_k; intro _ _)
  apply wp_region_lit
  refine wpList_box rfl 23 _ rfl (.agg (bv k)) rfl ?_
  intro ga V1 hA1 ha1 _ hW1
  refine wpList_box rfl 23 _ rfl (.agg (bv l)) rfl ?_
  intro gb V2 hB1 hb1 _ hW2
  have LK : ∀ W, Below V2.heap.size V2 W → (loadK 23 (.pointer (some ⟨ga, 0, none⟩))).run Try.prog W = .ok (.value (.agg (bv k))) W := fun W h => run_loadK_box ((h.block _ (Nat.lt_of_lt_of_le ha1 hW2.size)).trans ((hW2.block ga ha1).trans hA1)) Try.underlying23 rfl size23 HSK.out
  have hX : Below V2.heap.size V2 V2 := Below.refl _ _
  go_wp2_with (first | (go_at_call 12; (with_reducible refine (C12.out _).mono ?_); rintro e X ⟨rfl, hX1⟩; replace hX := hX.trans (hX1.mono hX.size); clear hX1) | (refine wpList_alloc 23 rfl rfl (.agg (bv key0)) zero23 ?_; intro gf V3 hF0 hf0 hgf hW3; clear LK) | (refine wpList_store_box 23 _ _ rfl gf rfl rfl (bv k) rfl 32 size23 HSK.out (bv_one _) 23 _ hF0 HS0.out ?_; intro W0 hF hT hs; clear hF0))
  have hk0 := fun {g : Nat} (h : g < V2.heap.size) => carry_box hX hW3 hT hgf h
  have hW : Below w.heap.size w W0 := (((hW1.trans (hW2.mono hW1.size)).trans (hX.mono (Nat.le_trans hW1.size hW2.size))).trans (hW3.mono (Nat.le_trans hW1.size (Nat.le_trans hW2.size hX.size)))).trans (hT.below (Nat.le_trans hW1.size (Nat.le_trans hW2.size (Nat.le_trans hX.size hW3.size))) (fun i hi => by subst hi; exact Nat.le_trans (Nat.le_trans hW1.size (Nat.le_trans hW2.size hX.size)) hgf))
  have hA := (hk0 (Nat.lt_of_lt_of_le ha1 hW2.size)).trans ((hW2.block ga ha1).trans hA1)
  have hB := (hk0 hb1).trans hB1
  have ha : ga < W0.heap.size := by rw [hs]; exact Nat.lt_of_lt_of_le (Nat.lt_of_lt_of_le (Nat.lt_of_lt_of_le ha1 hW2.size) hX.size) hW3.size
  have hb : gb < W0.heap.size := by rw [hs]; exact Nat.lt_of_lt_of_le (Nat.lt_of_lt_of_le hb1 hX.size) hW3.size
  have hf : gf < W0.heap.size := by rw [hs]; exact hf0
  clear hX hT hs hk0 hW1 hW2 hW3 hA1 hB1
  have hX : Below W0.heap.size W0 W0 := Below.refl _ _
  have LK : ∀ W, Below W0.heap.size W0 W → (loadK 23 (.pointer (some ⟨ga, 0, none⟩))).run Try.prog W = .ok (.value (.agg (bv k))) W := fun W h => run_loadK_box ((h.block _ ha).trans hA) Try.underlying23 rfl size23 HSK.out
  have LL : ∀ W, Below W0.heap.size W0 W → (loadK 23 (.pointer (some ⟨gb, 0, none⟩))).run Try.prog W = .ok (.value (.agg (bv l))) W := fun W h => run_loadK_box ((h.block _ hb).trans hB) Try.underlying23 rfl size23 HSL.out
  have LF : ∀ W, Below W0.heap.size W0 W → (loadK 23 (.pointer (some ⟨gf, 0, none⟩))).run Try.prog W = .ok (.value (.agg (bv k))) W := fun W h => run_loadK_box ((h.block _ hf).trans hF) Try.underlying23 rfl size23 HSK.out
  have EF : ∀ x y W, (cmpK .eql 23 x y (.agg (bv k)) (.agg (bv k))).run Try.prog W = .ok (.value (.bool true)) W := fun x y W => (run_cmpK_eql guard23 Try.underlying23 be5 cells5 HKK.out HKK.out x y W).trans (by simp)
  clear hA hB hF ha hb hf
  go_simp
  rcases hcases with ⟨h0, rfl, rfl⟩ | ⟨h0, rfl, rfl⟩ | ⟨h0, rfl, rfl, rfl⟩ | ⟨h0, rfl, rfl, rfl⟩
  · have hle' : i ≤ (c : Int) := of_decide_eq_true hle
    clear hle h256
    go_wp2_with (go_at_call 13; (with_reducible refine (C13.out _).mono ?_); rintro e X ⟨rfl, hX1⟩; replace hX := hX.trans (hX1.mono hX.size); clear hX1)
    refine wp_region_class (fun X => Below W0.heap.size W0 X) (by kernel_rfl) (by kernel_rfl) (Below.drew hX) ?_
    clear hX
    repeat (first | (refine wpQuiet_callK 10 ⟨_, _, rfl⟩ rfl ?_; apply Exists.intro; refine And.intro (fun X => ?_) ?_; (· go_simp; exact rfl); apply Exists.intro; refine And.intro (fun X hX => ?_) (fun K hK => ?_); (· (with_reducible refine (paths_any _).mono ?_); rintro e X' ⟨rfl, hb⟩; exact ⟨rfl, hX.trans (hb.mono hX.size)⟩); go_simp; refine hK _ ?_; clear hK K) | (refine wpQuiet_callK 14 ⟨_, _, rfl⟩ rfl ?_; apply Exists.intro; refine And.intro (fun X => ?_) ?_; (· go_simp; exact rfl); apply Exists.intro; refine And.intro (fun X hX => ?_) (fun K hK => ?_); (· (with_reducible refine (C14.out _).mono ?_); rintro e X' ⟨rfl, hb⟩; exact ⟨rfl, hX.trans (hb.mono hX.size)⟩); go_simp; refine hK _ ?_; clear hK K) | (refine wpQuiet_callK 15 ⟨_, _, rfl⟩ rfl ?_; apply Exists.intro; refine And.intro (fun X => ?_) ?_; (· go_simp; exact rfl); apply Exists.intro; refine And.intro (fun X hX => ?_) (fun K hK => ?_); (· (with_reducible refine (C15.out _).mono ?_); rintro e X' ⟨rfl, hb⟩; exact ⟨rfl, hX.trans (hb.mono hX.size)⟩); go_simp; refine hK _ ?_; clear hK K) | (refine wpQuiet_callK 9 ⟨_, _, rfl⟩ rfl ?_; apply Exists.intro; refine And.intro (fun X => ?_) ?_; (· go_simp; exact rfl); apply Exists.intro; refine And.intro (fun X hX => ?_) (fun K hK => ?_); (· (with_reducible refine (C9.out _).mono ?_); rintro e X' ⟨rfl, hb⟩; exact ⟨rfl, hX.trans (hb.mono hX.size)⟩); go_simp; refine hK _ ?_; clear hK K) | (refine wpQuiet_callK 11 ⟨_, _, rfl⟩ rfl ?_; apply Exists.intro; refine And.intro (fun X => ?_) ?_; (· go_simp; exact rfl); apply Exists.intro; refine And.intro (fun X hX => ?_) (fun K hK => ?_); (· (with_reducible refine (C11.out _).mono ?_); rintro e X' ⟨rfl, hb⟩; exact ⟨rfl, hX.trans (hb.mono hX.size)⟩); go_simp; refine hK _ ?_; clear hK K) | (refine wpQuiet_callK 16 ⟨_, _, rfl⟩ rfl ?_; apply Exists.intro; refine And.intro (fun X => ?_) ?_; (· go_simp; exact rfl); apply Exists.intro; refine And.intro (fun X hX => ?_) (fun K hK => ?_); (· (with_reducible refine (C16.out _).mono ?_); rintro e X' ⟨rfl, hb⟩; exact ⟨rfl, hX.trans (hb.mono hX.size)⟩); go_simp; refine hK _ ?_; clear hK K) | (refine wpQuiet_callK 17 ⟨_, _, rfl⟩ rfl ?_; apply Exists.intro; refine And.intro (fun X => ?_) ?_; (· go_simp; exact rfl); apply Exists.intro; refine And.intro (fun X hX => ?_) (fun K hK => ?_); (· (with_reducible refine (C17.out _).mono ?_); rintro e X' ⟨rfl, hb⟩; exact ⟨rfl, hX.trans (hb.mono hX.size)⟩); go_simp; refine hK _ ?_; clear hK K) | (refine wpQuiet_skipK rfl (fun K hK => ?_); go_simp; refine hK _ ?_; clear hK K) | (refine wpQuiet_exK rfl (fun K hK => ?_); apply Exists.intro; refine And.intro (fun X hX => ?_) ?_; (· go_simp; (try go_bits); first | exact rfl | exact ⟨rfl, rfl⟩ | (rw [if_pos (by omega)]; exact ⟨rfl, rfl⟩)); go_simp; refine hK _ ?_; clear hK K))
    refine wpQuiet_nil (fun X hX => ?_)
    go_wp2
    go_ret
    exact ⟨rfl, hW.trans (hX.mono hW.size)⟩
  · have hle' : i ≤ (c : Int) := of_decide_eq_true hle
    clear hle h256
    go_wp2_with (go_at_call 13; (with_reducible refine (C13.out _).mono ?_); rintro e X ⟨rfl, hX1⟩; replace hX := hX.trans (hX1.mono hX.size); clear hX1)
    refine wp_region_class (fun X => Below W0.heap.size W0 X) (by kernel_rfl) (by kernel_rfl) (Below.drew hX) ?_
    clear hX
    repeat (first | (refine wpQuiet_callK 10 ⟨_, _, rfl⟩ rfl ?_; apply Exists.intro; refine And.intro (fun X => ?_) ?_; (· go_simp; exact rfl); apply Exists.intro; refine And.intro (fun X hX => ?_) (fun K hK => ?_); (· (with_reducible refine (paths_any _).mono ?_); rintro e X' ⟨rfl, hb⟩; exact ⟨rfl, hX.trans (hb.mono hX.size)⟩); go_simp; refine hK _ ?_; clear hK K) | (refine wpQuiet_callK 14 ⟨_, _, rfl⟩ rfl ?_; apply Exists.intro; refine And.intro (fun X => ?_) ?_; (· go_simp; exact rfl); apply Exists.intro; refine And.intro (fun X hX => ?_) (fun K hK => ?_); (· (with_reducible refine (C14.out _).mono ?_); rintro e X' ⟨rfl, hb⟩; exact ⟨rfl, hX.trans (hb.mono hX.size)⟩); go_simp; refine hK _ ?_; clear hK K) | (refine wpQuiet_callK 15 ⟨_, _, rfl⟩ rfl ?_; apply Exists.intro; refine And.intro (fun X => ?_) ?_; (· go_simp; exact rfl); apply Exists.intro; refine And.intro (fun X hX => ?_) (fun K hK => ?_); (· (with_reducible refine (C15.out _).mono ?_); rintro e X' ⟨rfl, hb⟩; exact ⟨rfl, hX.trans (hb.mono hX.size)⟩); go_simp; refine hK _ ?_; clear hK K) | (refine wpQuiet_callK 9 ⟨_, _, rfl⟩ rfl ?_; apply Exists.intro; refine And.intro (fun X => ?_) ?_; (· go_simp; exact rfl); apply Exists.intro; refine And.intro (fun X hX => ?_) (fun K hK => ?_); (· (with_reducible refine (C9.out _).mono ?_); rintro e X' ⟨rfl, hb⟩; exact ⟨rfl, hX.trans (hb.mono hX.size)⟩); go_simp; refine hK _ ?_; clear hK K) | (refine wpQuiet_callK 11 ⟨_, _, rfl⟩ rfl ?_; apply Exists.intro; refine And.intro (fun X => ?_) ?_; (· go_simp; exact rfl); apply Exists.intro; refine And.intro (fun X hX => ?_) (fun K hK => ?_); (· (with_reducible refine (C11.out _).mono ?_); rintro e X' ⟨rfl, hb⟩; exact ⟨rfl, hX.trans (hb.mono hX.size)⟩); go_simp; refine hK _ ?_; clear hK K) | (refine wpQuiet_callK 16 ⟨_, _, rfl⟩ rfl ?_; apply Exists.intro; refine And.intro (fun X => ?_) ?_; (· go_simp; exact rfl); apply Exists.intro; refine And.intro (fun X hX => ?_) (fun K hK => ?_); (· (with_reducible refine (C16.out _).mono ?_); rintro e X' ⟨rfl, hb⟩; exact ⟨rfl, hX.trans (hb.mono hX.size)⟩); go_simp; refine hK _ ?_; clear hK K) | (refine wpQuiet_callK 17 ⟨_, _, rfl⟩ rfl ?_; apply Exists.intro; refine And.intro (fun X => ?_) ?_; (· go_simp; exact rfl); apply Exists.intro; refine And.intro (fun X hX => ?_) (fun K hK => ?_); (· (with_reducible refine (C17.out _).mono ?_); rintro e X' ⟨rfl, hb⟩; exact ⟨rfl, hX.trans (hb.mono hX.size)⟩); go_simp; refine hK _ ?_; clear hK K) | (refine wpQuiet_skipK rfl (fun K hK => ?_); go_simp; refine hK _ ?_; clear hK K) | (refine wpQuiet_exK rfl (fun K hK => ?_); apply Exists.intro; refine And.intro (fun X hX => ?_) ?_; (· go_simp; (try go_bits); first | exact rfl | exact ⟨rfl, rfl⟩ | (rw [if_pos (by omega)]; exact ⟨rfl, rfl⟩)); go_simp; refine hK _ ?_; clear hK K))
    refine wpQuiet_nil (fun X hX => ?_)
    go_wp2
    go_ret
    exact ⟨rfl, hW.trans (hX.mono hW.size)⟩
  · have hle' : (c : Int) < i := by have := of_decide_eq_false hle; omega
    clear hle
    go_wp2_with (go_at_call 13; (with_reducible refine (C13.out _).mono ?_); rintro e X ⟨rfl, hX1⟩; replace hX := hX.trans (hX1.mono hX.size); clear hX1)
    refine wp_region_class (fun X => Below W0.heap.size W0 X) (by kernel_rfl) (by kernel_rfl) (Below.drew hX) ?_
    clear hX
    have hneg : ¬ (i ≤ (c : Int)) := by omega
    repeat (first | (refine wpQuiet_callK 10 ⟨_, _, rfl⟩ rfl ?_; apply Exists.intro; refine And.intro (fun X => ?_) ?_; (· go_simp; exact rfl); apply Exists.intro; refine And.intro (fun X hX => ?_) (fun K hK => ?_); (· (with_reducible refine (paths_any _).mono ?_); rintro e X' ⟨rfl, hb⟩; exact ⟨rfl, hX.trans (hb.mono hX.size)⟩); go_simp; refine hK _ ?_; clear hK K) | (refine wpQuiet_callK 14 ⟨_, _, rfl⟩ rfl ?_; apply Exists.intro; refine And.intro (fun X => ?_) ?_; (· go_simp; exact rfl); apply Exists.intro; refine And.intro (fun X hX => ?_) (fun K hK => ?_); (· (with_reducible refine (C14.out _).mono ?_); rintro e X' ⟨rfl, hb⟩; exact ⟨rfl, hX.trans (hb.mono hX.size)⟩); go_simp; refine hK _ ?_; clear hK K) | (refine wpQuiet_callK 15 ⟨_, _, rfl⟩ rfl ?_; apply Exists.intro; refine And.intro (fun X => ?_) ?_; (· go_simp; exact rfl); apply Exists.intro; refine And.intro (fun X hX => ?_) (fun K hK => ?_); (· (with_reducible refine (C15.out _).mono ?_); rintro e X' ⟨rfl, hb⟩; exact ⟨rfl, hX.trans (hb.mono hX.size)⟩); go_simp; refine hK _ ?_; clear hK K) | (refine wpQuiet_callK 9 ⟨_, _, rfl⟩ rfl ?_; apply Exists.intro; refine And.intro (fun X => ?_) ?_; (· go_simp; exact rfl); apply Exists.intro; refine And.intro (fun X hX => ?_) (fun K hK => ?_); (· (with_reducible refine (C9.out _).mono ?_); rintro e X' ⟨rfl, hb⟩; exact ⟨rfl, hX.trans (hb.mono hX.size)⟩); go_simp; refine hK _ ?_; clear hK K) | (refine wpQuiet_callK 11 ⟨_, _, rfl⟩ rfl ?_; apply Exists.intro; refine And.intro (fun X => ?_) ?_; (· go_simp; exact rfl); apply Exists.intro; refine And.intro (fun X hX => ?_) (fun K hK => ?_); (· (with_reducible refine (C11.out _).mono ?_); rintro e X' ⟨rfl, hb⟩; exact ⟨rfl, hX.trans (hb.mono hX.size)⟩); go_simp; refine hK _ ?_; clear hK K) | (refine wpQuiet_callK 16 ⟨_, _, rfl⟩ rfl ?_; apply Exists.intro; refine And.intro (fun X => ?_) ?_; (· go_simp; exact rfl); apply Exists.intro; refine And.intro (fun X hX => ?_) (fun K hK => ?_); (· (with_reducible refine (C16.out _).mono ?_); rintro e X' ⟨rfl, hb⟩; exact ⟨rfl, hX.trans (hb.mono hX.size)⟩); go_simp; refine hK _ ?_; clear hK K) | (refine wpQuiet_callK 17 ⟨_, _, rfl⟩ rfl ?_; apply Exists.intro; refine And.intro (fun X => ?_) ?_; (· go_simp; exact rfl); apply Exists.intro; refine And.intro (fun X hX => ?_) (fun K hK => ?_); (· (with_reducible refine (C17.out _).mono ?_); rintro e X' ⟨rfl, hb⟩; exact ⟨rfl, hX.trans (hb.mono hX.size)⟩); go_simp; refine hK _ ?_; clear hK K) | (refine wpQuiet_skipK rfl (fun K hK => ?_); go_simp; refine hK _ ?_; clear hK K) | (refine wpQuiet_exK rfl (fun K hK => ?_); apply Exists.intro; refine And.intro (fun X hX => ?_) ?_; (· go_simp; (try go_bits); first | exact rfl | exact ⟨rfl, rfl⟩ | (rw [if_pos (by omega)]; exact ⟨rfl, rfl⟩)); go_simp; refine hK _ ?_; clear hK K))
    refine wpQuiet_nil (fun X hX => ?_)
    clear hneg
    go_wp2
    go_ret
    exact ⟨rfl, hW.trans (hX.mono hW.size)⟩
  · have hle' : (c : Int) < i := by have := of_decide_eq_false hle; omega
    clear hle
    go_wp2_with (go_at_call 13; (with_reducible refine (C13.out _).mono ?_); rintro e X ⟨rfl, hX1⟩; replace hX := hX.trans (hX1.mono hX.size); clear hX1)
    refine wp_region_class (fun X => Below W0.heap.size W0 X) (by kernel_rfl) (by kernel_rfl) (Below.drew hX) ?_
    clear hX
    have hneg : ¬ (i ≤ (c : Int)) := by omega
    repeat (first | (refine wpQuiet_callK 10 ⟨_, _, rfl⟩ rfl ?_; apply Exists.intro; refine And.intro (fun X => ?_) ?_; (· go_simp; exact rfl); apply Exists.intro; refine And.intro (fun X hX => ?_) (fun K hK => ?_); (· (with_reducible refine (paths_any _).mono ?_); rintro e X' ⟨rfl, hb⟩; exact ⟨rfl, hX.trans (hb.mono hX.size)⟩); go_simp; refine hK _ ?_; clear hK K) | (refine wpQuiet_callK 14 ⟨_, _, rfl⟩ rfl ?_; apply Exists.intro; refine And.intro (fun X => ?_) ?_; (· go_simp; exact rfl); apply Exists.intro; refine And.intro (fun X hX => ?_) (fun K hK => ?_); (· (with_reducible refine (C14.out _).mono ?_); rintro e X' ⟨rfl, hb⟩; exact ⟨rfl, hX.trans (hb.mono hX.size)⟩); go_simp; refine hK _ ?_; clear hK K) | (refine wpQuiet_callK 15 ⟨_, _, rfl⟩ rfl ?_; apply Exists.intro; refine And.intro (fun X => ?_) ?_; (· go_simp; exact rfl); apply Exists.intro; refine And.intro (fun X hX => ?_) (fun K hK => ?_); (· (with_reducible refine (C15.out _).mono ?_); rintro e X' ⟨rfl, hb⟩; exact ⟨rfl, hX.trans (hb.mono hX.size)⟩); go_simp; refine hK _ ?_; clear hK K) | (refine wpQuiet_callK 9 ⟨_, _, rfl⟩ rfl ?_; apply Exists.intro; refine And.intro (fun X => ?_) ?_; (· go_simp; exact rfl); apply Exists.intro; refine And.intro (fun X hX => ?_) (fun K hK => ?_); (· (with_reducible refine (C9.out _).mono ?_); rintro e X' ⟨rfl, hb⟩; exact ⟨rfl, hX.trans (hb.mono hX.size)⟩); go_simp; refine hK _ ?_; clear hK K) | (refine wpQuiet_callK 11 ⟨_, _, rfl⟩ rfl ?_; apply Exists.intro; refine And.intro (fun X => ?_) ?_; (· go_simp; exact rfl); apply Exists.intro; refine And.intro (fun X hX => ?_) (fun K hK => ?_); (· (with_reducible refine (C11.out _).mono ?_); rintro e X' ⟨rfl, hb⟩; exact ⟨rfl, hX.trans (hb.mono hX.size)⟩); go_simp; refine hK _ ?_; clear hK K) | (refine wpQuiet_callK 16 ⟨_, _, rfl⟩ rfl ?_; apply Exists.intro; refine And.intro (fun X => ?_) ?_; (· go_simp; exact rfl); apply Exists.intro; refine And.intro (fun X hX => ?_) (fun K hK => ?_); (· (with_reducible refine (C16.out _).mono ?_); rintro e X' ⟨rfl, hb⟩; exact ⟨rfl, hX.trans (hb.mono hX.size)⟩); go_simp; refine hK _ ?_; clear hK K) | (refine wpQuiet_callK 17 ⟨_, _, rfl⟩ rfl ?_; apply Exists.intro; refine And.intro (fun X => ?_) ?_; (· go_simp; exact rfl); apply Exists.intro; refine And.intro (fun X hX => ?_) (fun K hK => ?_); (· (with_reducible refine (C17.out _).mono ?_); rintro e X' ⟨rfl, hb⟩; exact ⟨rfl, hX.trans (hb.mono hX.size)⟩); go_simp; refine hK _ ?_; clear hK K) | (refine wpQuiet_skipK rfl (fun K hK => ?_); go_simp; refine hK _ ?_; clear hK K) | (refine wpQuiet_exK rfl (fun K hK => ?_); apply Exists.intro; refine And.intro (fun X hX => ?_) ?_; (· go_simp; (try go_bits); first | exact rfl | exact ⟨rfl, rfl⟩ | (rw [if_pos (by omega)]; exact ⟨rfl, rfl⟩)); go_simp; refine hK _ ?_; clear hK K))
    refine wpQuiet_nil (fun X hX => ?_)
    clear hneg
    go_wp2
    go_ret
    exact ⟨rfl, hW.trans (hX.mono hW.size)⟩
end Go.Proofs.Ytnakbdgoaepehaa
