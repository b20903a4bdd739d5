import Derived.Test.YtnakbdgoaepehaaThree
namespace Go.Proofs.Ytnakbdgoaepehaa
open Go.RowKit Go.Cu
theorem carry_box {V X V3 W : World} {gf : Nat} (hX : Below V.heap.size V X) (h3 : Below X.heap.size X V3) (hT : Tch (· = gf) V3 W) (hgf : X.heap.size ≤ gf) {g : Nat} (hg : g < V.heap.size) : W.heap[g]? = V.heap[g]? := by
  have h1 : g < X.heap.size := Nat.lt_of_lt_of_le hg hX.size
  exact ((hT.block g (Nat.lt_of_lt_of_le h1 h3.size) (by show g ≠ gf; omega)).trans (h3.block g h1)).trans (hX.block g hg)
set_option maxRecDepth 20000 in
set_option maxHeartbeats 1000000 in
theorem bits_in (k l : List UInt8) (n c : Nat) (b : Nat) (p u e c256 : Bool) (w : World) (hkk : k.length = 32) (hkl : l.length = 32) (hn : n < 256)
    (hc : Hid (cm k l = c)) (hb' : Hid (bitN k n = b)) (hbb : b < 2) (hp : Hid (ltB k l = p)) (hu : Hid (decide (min (n : Int) 256 ≤ (c : Int)) = u)) (hle : decide ((n : Int) ≤ (c : Int)) = e) (h256 : ((c : Int) == 256) = c256)
    (hcases : (u = true ∧ e = true) ∨ (u = false ∧ e = false ∧ c256 = false)) :
    Calls Try.prog 4 #[.agg (bv k), .agg (bv l), .int .i64 n] w fun e w' => e = .returned (.bool true) ∧ Below w.heap.size w w' := by
  have hlf := (flip_len k n).trans hkk
  have HSK := hid ((bv_size k).trans hkk)
  have HSL := hid ((bv_size l).trans hkl)
  have HSF := hid ((bv_size (flipB k n)).trans hlf)
  have HS0 := hid ((bv_size key0).trans len0)
  have C12 := hid fun w => flip_in k n w hkk hn
  have C12' := hid fun w => flip_in (flipB k n) n w hlf hn
  have C13 := hid fun w => rcommon_any k l w hkk hkl
  have C14 := hid fun w => bit_in k n w hkk hn
  have C14' := hid fun w => bit_in (flipB k n) n w hlf hn
  have C15 := hid fun w => rbit_in k n w hkk hn
  have C9 := hid fun w => common_any k l w hkk hkl
  have C9' := hid fun w => common_any (flipB k n) k w hlf hkk
  have C11 := hid fun w => less_any k l w hkk hkl
  have C16 := hid fun w => rless_any k l w hkk hkl
  have C17 := hid fun w => under_any k l n w hkk hkl
  have HKK := hid hkk
  rw [flip_flip k n hkk hn] at C12'
  rw [flip_bit k n hkk hn, if_pos rfl, hb'.out] at C14'
  rw [flip_cm k n hkk hn] at C9'
  rw [hb'.out] at C14 C15
  rw [hc.out] at C13 C9 C17
  rw [hp.out] at C11 C16
  rw [hu.out] at C17
  have hsub : (1 - (b : Int)) = ((1 - b : Nat) : Int) := by omega
  clear hkk hkl hlf hc hb' hp hu
  go_enter Try.func4, Try.ntmps4
  repeat (apply wp_seq_k; intro _ _)
  apply wp_region_lit
  refine wpList_box rfl 23 _ rfl (.agg (bv k)) rfl ?_
  intro ga V1 hA1 ha1 _ hW1
  refine wpList_box rfl 23 _ rfl (.agg (bv l)) rfl ?_
  intro gb V2 hB1 hb1 _ hW2
  have LK : ∀ W, Below V2.heap.size V2 W → (loadK 23 (.pointer (some ⟨ga, 0, none⟩))).run Try.prog W = .ok (.value (.agg (bv k))) W := fun W h => run_loadK_box ((h.block _ (Nat.lt_of_lt_of_le ha1 hW2.size)).trans ((hW2.block ga ha1).trans hA1)) Try.underlying23 rfl size23 HSK.out
  have hX : Below V2.heap.size V2 V2 := Below.refl _ _
  go_wp2_with (first | (go_at_call 12; (with_reducible refine (C12.out _).mono ?_); rintro e X ⟨rfl, hX1⟩; replace hX := hX.trans (hX1.mono hX.size); clear hX1) | (refine wpList_alloc 23 rfl rfl (.agg (bv key0)) zero23 ?_; intro gf V3 hF0 hf0 hgf hW3; clear LK) | (refine wpList_store_box 23 _ _ rfl gf rfl rfl (bv (flipB k n)) rfl 32 size23 HSF.out (bv_one _) 23 _ hF0 HS0.out ?_; intro W0 hF hT hs; clear hF0))
  have hk0 := fun {g : Nat} (h : g < V2.heap.size) => carry_box hX hW3 hT hgf h
  have hW : Below w.heap.size w W0 := (((hW1.trans (hW2.mono hW1.size)).trans (hX.mono (Nat.le_trans hW1.size hW2.size))).trans (hW3.mono (Nat.le_trans hW1.size (Nat.le_trans hW2.size hX.size)))).trans (hT.below (Nat.le_trans hW1.size (Nat.le_trans hW2.size (Nat.le_trans hX.size hW3.size))) (fun i hi => by subst hi; exact Nat.le_trans (Nat.le_trans hW1.size (Nat.le_trans hW2.size hX.size)) hgf))
  have hA := (hk0 (Nat.lt_of_lt_of_le ha1 hW2.size)).trans ((hW2.block ga ha1).trans hA1)
  have hB := (hk0 hb1).trans hB1
  have ha : ga < W0.heap.size := by rw [hs]; exact Nat.lt_of_lt_of_le (Nat.lt_of_lt_of_le (Nat.lt_of_lt_of_le ha1 hW2.size) hX.size) hW3.size
  have hb : gb < W0.heap.size := by rw [hs]; exact Nat.lt_of_lt_of_le (Nat.lt_of_lt_of_le hb1 hX.size) hW3.size
  have hf : gf < W0.heap.size := by rw [hs]; exact hf0
  clear hX hT hs hk0 hW1 hW2 hW3 hA1 hB1
  have hX : Below W0.heap.size W0 W0 := Below.refl _ _
  have LK : ∀ W, Below W0.heap.size W0 W → (loadK 23 (.pointer (some ⟨ga, 0, none⟩))).run Try.prog W = .ok (.value (.agg (bv k))) W := fun W h => run_loadK_box ((h.block _ ha).trans hA) Try.underlying23 rfl size23 HSK.out
  have LL : ∀ W, Below W0.heap.size W0 W → (loadK 23 (.pointer (some ⟨gb, 0, none⟩))).run Try.prog W = .ok (.value (.agg (bv l))) W := fun W h => run_loadK_box ((h.block _ hb).trans hB) Try.underlying23 rfl size23 HSL.out
  have LF : ∀ W, Below W0.heap.size W0 W → (loadK 23 (.pointer (some ⟨gf, 0, none⟩))).run Try.prog W = .ok (.value (.agg (bv (flipB k n)))) W := fun W h => run_loadK_box ((h.block _ hf).trans hF) Try.underlying23 rfl size23 HSF.out
  have EF : ∀ x y W, (cmpK .eql 23 x y (.agg (bv k)) (.agg (bv k))).run Try.prog W = .ok (.value (.bool true)) W := fun x y W => (run_cmpK_eql guard23 Try.underlying23 be5 cells5 HKK.out HKK.out x y W).trans (by simp)
  clear hA hB hF ha hb hf
  have hn0 : (0 : Int) ≤ (n : Int) := by omega
  have hn1 : (n : Int) ≤ 255 := by omega
  have hb0 : (b : Int) < 2 := by omega
  go_simp
  rcases hcases with ⟨rfl, rfl⟩ | ⟨rfl, rfl, rfl⟩
  · have hle' : (n : Int) ≤ (c : Int) := of_decide_eq_true hle
    clear hle h256
    go_wp2_with (go_at_call 13; (with_reducible refine (C13.out _).mono ?_); rintro e X ⟨rfl, hX1⟩; replace hX := hX.trans (hX1.mono hX.size); clear hX1)
    refine wp_region_class (fun X => Below W0.heap.size W0 X) (by kernel_rfl) (by kernel_rfl) (Below.drew hX) ?_
    clear hX
    repeat (first | (refine wpQuiet_callK 10 ⟨_, _, rfl⟩ rfl ?_; apply Exists.intro; refine And.intro (fun X => ?_) ?_; (· go_simp; exact rfl); apply Exists.intro; refine And.intro (fun X hX => ?_) (fun K hK => ?_); (· (with_reducible refine (paths_any _).mono ?_); rintro e X' ⟨rfl, hb⟩; exact ⟨rfl, hX.trans (hb.mono hX.size)⟩); go_simp; refine hK _ ?_; clear hK K) | (refine wpQuiet_callK 14 ⟨_, _, rfl⟩ rfl ?_; apply Exists.intro; refine And.intro (fun X => ?_) ?_; (· go_simp; exact rfl); apply Exists.intro; refine And.intro (fun X hX => ?_) (fun K hK => ?_); (· (with_reducible refine (C14.out _).mono ?_); rintro e X' ⟨rfl, hb⟩; exact ⟨rfl, hX.trans (hb.mono hX.size)⟩); go_simp; refine hK _ ?_; clear hK K) | (refine wpQuiet_callK 15 ⟨_, _, rfl⟩ rfl ?_; apply Exists.intro; refine And.intro (fun X => ?_) ?_; (· go_simp; exact rfl); apply Exists.intro; refine And.intro (fun X hX => ?_) (fun K hK => ?_); (· (with_reducible refine (C15.out _).mono ?_); rintro e X' ⟨rfl, hb⟩; exact ⟨rfl, hX.trans (hb.mono hX.size)⟩); go_simp; refine hK _ ?_; clear hK K) | (refine wpQuiet_callK 9 ⟨_, _, rfl⟩ rfl ?_; apply Exists.intro; refine And.intro (fun X => ?_) ?_; (· go_simp; exact rfl); apply Exists.intro; refine And.intro (fun X hX => ?_) (fun K hK => ?_); (· (with_reducible refine (C9.out _).mono ?_); rintro e X' ⟨rfl, hb⟩; exact ⟨rfl, hX.trans (hb.mono hX.size)⟩); go_simp; refine hK _ ?_; clear hK K) | (refine wpQuiet_callK 11 ⟨_, _, rfl⟩ rfl ?_; apply Exists.intro; refine And.intro (fun X => ?_) ?_; (· go_simp; exact rfl); apply Exists.intro; refine And.intro (fun X hX => ?_) (fun K hK => ?_); (· (with_reducible refine (C11.out _).mono ?_); rintro e X' ⟨rfl, hb⟩; exact ⟨rfl, hX.trans (hb.mono hX.size)⟩); go_simp; refine hK _ ?_; clear hK K) | (refine wpQuiet_callK 16 ⟨_, _, rfl⟩ rfl ?_; apply Exists.intro; refine And.intro (fun X => ?_) ?_; (· go_simp; exact rfl); apply Exists.intro; refine And.intro (fun X hX => ?_) (fun K hK => ?_); (· (with_reducible refine (C16.out _).mono ?_); rintro e X' ⟨rfl, hb⟩; exact ⟨rfl, hX.trans (hb.mono hX.size)⟩); go_simp; refine hK _ ?_; clear hK K) | (refine wpQuiet_callK 17 ⟨_, _, rfl⟩ rfl ?_; apply Exists.intro; refine And.intro (fun X => ?_) ?_; (· go_simp; exact rfl); apply Exists.intro; refine And.intro (fun X hX => ?_) (fun K hK => ?_); (· (with_reducible refine (C17.out _).mono ?_); rintro e X' ⟨rfl, hb⟩; exact ⟨rfl, hX.trans (hb.mono hX.size)⟩); go_simp; refine hK _ ?_; clear hK K) | (refine wpQuiet_skipK rfl (fun K hK => ?_); go_simp; refine hK _ ?_; clear hK K) | (refine wpQuiet_exK rfl (fun K hK => ?_); apply Exists.intro; refine And.intro (fun X hX => ?_) ?_; (· go_simp; (try go_bits); first | exact rfl | exact ⟨rfl, rfl⟩ | (rw [if_pos (by omega)]; exact ⟨rfl, rfl⟩)); go_simp; refine hK _ ?_; clear hK K))
    refine wpQuiet_nil (fun X hX => ?_)
    go_wp2
    refine wp_region_class (fun X => Below W0.heap.size W0 X) (by kernel_rfl) (by kernel_rfl) (Below.drew hX) ?_
    clear hX
    repeat (first | (refine wpQuiet_callK 14 ⟨_, _, rfl⟩ rfl ?_; apply Exists.intro; refine And.intro (fun X => ?_) ?_; (· go_simp; exact rfl); apply Exists.intro; refine And.intro (fun X hX => ?_) (fun K hK => ?_); (· (with_reducible refine (C14'.out _).mono ?_); rintro e X' ⟨rfl, hb⟩; exact ⟨rfl, hX.trans (hb.mono hX.size)⟩); go_simp; refine hK _ ?_; clear hK K) | (refine wpQuiet_callK 14 ⟨_, _, rfl⟩ rfl ?_; apply Exists.intro; refine And.intro (fun X => ?_) ?_; (· go_simp; exact rfl); apply Exists.intro; refine And.intro (fun X hX => ?_) (fun K hK => ?_); (· (with_reducible refine (C14.out _).mono ?_); rintro e X' ⟨rfl, hb⟩; exact ⟨rfl, hX.trans (hb.mono hX.size)⟩); go_simp; refine hK _ ?_; clear hK K) | (refine wpQuiet_callK 9 ⟨_, _, rfl⟩ rfl ?_; apply Exists.intro; refine And.intro (fun X => ?_) ?_; (· go_simp; exact rfl); apply Exists.intro; refine And.intro (fun X hX => ?_) (fun K hK => ?_); (· (with_reducible refine (C9'.out _).mono ?_); rintro e X' ⟨rfl, hb⟩; exact ⟨rfl, hX.trans (hb.mono hX.size)⟩); go_simp; refine hK _ ?_; clear hK K) | (refine wpQuiet_callK 12 ⟨_, _, rfl⟩ rfl ?_; apply Exists.intro; refine And.intro (fun X => ?_) ?_; (· go_simp; exact rfl); apply Exists.intro; refine And.intro (fun X hX => ?_) (fun K hK => ?_); (· (with_reducible refine (C12'.out _).mono ?_); rintro e X' ⟨rfl, hb⟩; exact ⟨rfl, hX.trans (hb.mono hX.size)⟩); go_simp; refine hK _ ?_; clear hK K) | (refine wpQuiet_skipK rfl (fun K hK => ?_); go_simp; refine hK _ ?_; clear hK K) | (refine wpQuiet_exK rfl (fun K hK => ?_); apply Exists.intro; refine And.intro (fun X hX => ?_) ?_; (· go_simp; (try go_bits); first | exact rfl | exact ⟨rfl, rfl⟩ | (rw [if_pos (by omega)]; exact ⟨rfl, rfl⟩)); go_simp; refine hK _ ?_; clear hK K))
    refine wpQuiet_nil (fun X hX => ?_)
    go_wp2
    go_ret
    exact ⟨rfl, hW.trans (hX.mono hW.size)⟩
  · have hle' : (c : Int) < (n : Int) := by have := of_decide_eq_false hle; omega
    clear hle
    go_wp2_with (go_at_call 13; (with_reducible refine (C13.out _).mono ?_); rintro e X ⟨rfl, hX1⟩; replace hX := hX.trans (hX1.mono hX.size); clear hX1)
    refine wp_region_class (fun X => Below W0.heap.size W0 X) (by kernel_rfl) (by kernel_rfl) (Below.drew hX) ?_
    clear hX
    have hneg : ¬ ((n : Int) ≤ (c : Int)) := by omega
    repeat (first | (refine wpQuiet_callK 10 ⟨_, _, rfl⟩ rfl ?_; apply Exists.intro; refine And.intro (fun X => ?_) ?_; (· go_simp; exact rfl); apply Exists.intro; refine And.intro (fun X hX => ?_) (fun K hK => ?_); (· (with_reducible refine (paths_any _).mono ?_); rintro e X' ⟨rfl, hb⟩; exact ⟨rfl, hX.trans (hb.mono hX.size)⟩); go_simp; refine hK _ ?_; clear hK K) | (refine wpQuiet_callK 14 ⟨_, _, rfl⟩ rfl ?_; apply Exists.intro; refine And.intro (fun X => ?_) ?_; (· go_simp; exact rfl); apply Exists.intro; refine And.intro (fun X hX => ?_) (fun K hK => ?_); (· (with_reducible refine (C14.out _).mono ?_); rintro e X' ⟨rfl, hb⟩; exact ⟨rfl, hX.trans (hb.mono hX.size)⟩); go_simp; refine hK _ ?_; clear hK K) | (refine wpQuiet_callK 15 ⟨_, _, rfl⟩ rfl ?_; apply Exists.intro; refine And.intro (fun X => ?_) ?_; (· go_simp; exact rfl); apply Exists.intro; refine And.intro (fun X hX => ?_) (fun K hK => ?_); (· (with_reducible refine (C15.out _).mono ?_); rintro e X' ⟨rfl, hb⟩; exact ⟨rfl, hX.trans (hb.mono hX.size)⟩); go_simp; refine hK _ ?_; clear hK K) | (refine wpQuiet_callK 9 ⟨_, _, rfl⟩ rfl ?_; apply Exists.intro; refine And.intro (fun X => ?_) ?_; (· go_simp; exact rfl); apply Exists.intro; refine And.intro (fun X hX => ?_) (fun K hK => ?_); (· (with_reducible refine (C9.out _).mono ?_); rintro e X' ⟨rfl, hb⟩; exact ⟨rfl, hX.trans (hb.mono hX.size)⟩); go_simp; refine hK _ ?_; clear hK K) | (refine wpQuiet_callK 11 ⟨_, _, rfl⟩ rfl ?_; apply Exists.intro; refine And.intro (fun X => ?_) ?_; (· go_simp; exact rfl); apply Exists.intro; refine And.intro (fun X hX => ?_) (fun K hK => ?_); (· (with_reducible refine (C11.out _).mono ?_); rintro e X' ⟨rfl, hb⟩; exact ⟨rfl, hX.trans (hb.mono hX.size)⟩); go_simp; refine hK _ ?_; clear hK K) | (refine wpQuiet_callK 16 ⟨_, _, rfl⟩ rfl ?_; apply Exists.intro; refine And.intro (fun X => ?_) ?_; (· go_simp; exact rfl); apply Exists.intro; refine And.intro (fun X hX => ?_) (fun K hK => ?_); (· (with_reducible refine (C16.out _).mono ?_); rintro e X' ⟨rfl, hb⟩; exact ⟨rfl, hX.trans (hb.mono hX.size)⟩); go_simp; refine hK _ ?_; clear hK K) | (refine wpQuiet_callK 17 ⟨_, _, rfl⟩ rfl ?_; apply Exists.intro; refine And.intro (fun X => ?_) ?_; (· go_simp; exact rfl); apply Exists.intro; refine And.intro (fun X hX => ?_) (fun K hK => ?_); (· (with_reducible refine (C17.out _).mono ?_); rintro e X' ⟨rfl, hb⟩; exact ⟨rfl, hX.trans (hb.mono hX.size)⟩); go_simp; refine hK _ ?_; clear hK K) | (refine wpQuiet_skipK rfl (fun K hK => ?_); go_simp; refine hK _ ?_; clear hK K) | (refine wpQuiet_exK rfl (fun K hK => ?_); apply Exists.intro; refine And.intro (fun X hX => ?_) ?_; (· go_simp; (try go_bits); first | exact rfl | exact ⟨rfl, rfl⟩ | (rw [if_pos (by omega)]; exact ⟨rfl, rfl⟩)); go_simp; refine hK _ ?_; clear hK K))
    refine wpQuiet_nil (fun X hX => ?_)
    clear hneg
    go_wp2
    refine wp_region_class (fun X => Below W0.heap.size W0 X) (by kernel_rfl) (by kernel_rfl) (Below.drew hX) ?_
    clear hX
    repeat (first | (refine wpQuiet_callK 14 ⟨_, _, rfl⟩ rfl ?_; apply Exists.intro; refine And.intro (fun X => ?_) ?_; (· go_simp; exact rfl); apply Exists.intro; refine And.intro (fun X hX => ?_) (fun K hK => ?_); (· (with_reducible refine (C14'.out _).mono ?_); rintro e X' ⟨rfl, hb⟩; exact ⟨rfl, hX.trans (hb.mono hX.size)⟩); go_simp; refine hK _ ?_; clear hK K) | (refine wpQuiet_callK 14 ⟨_, _, rfl⟩ rfl ?_; apply Exists.intro; refine And.intro (fun X => ?_) ?_; (· go_simp; exact rfl); apply Exists.intro; refine And.intro (fun X hX => ?_) (fun K hK => ?_); (· (with_reducible refine (C14.out _).mono ?_); rintro e X' ⟨rfl, hb⟩; exact ⟨rfl, hX.trans (hb.mono hX.size)⟩); go_simp; refine hK _ ?_; clear hK K) | (refine wpQuiet_callK 9 ⟨_, _, rfl⟩ rfl ?_; apply Exists.intro; refine And.intro (fun X => ?_) ?_; (· go_simp; exact rfl); apply Exists.intro; refine And.intro (fun X hX => ?_) (fun K hK => ?_); (· (with_reducible refine (C9'.out _).mono ?_); rintro e X' ⟨rfl, hb⟩; exact ⟨rfl, hX.trans (hb.mono hX.size)⟩); go_simp; refine hK _ ?_; clear hK K) | (refine wpQuiet_callK 12 ⟨_, _, rfl⟩ rfl ?_; apply Exists.intro; refine And.intro (fun X => ?_) ?_; (· go_simp; exact rfl); apply Exists.intro; refine And.intro (fun X hX => ?_) (fun K hK => ?_); (· (with_reducible refine (C12'.out _).mono ?_); rintro e X' ⟨rfl, hb⟩; exact ⟨rfl, hX.trans (hb.mono hX.size)⟩); go_simp; refine hK _ ?_; clear hK K) | (refine wpQuiet_skipK rfl (fun K hK => ?_); go_simp; refine hK _ ?_; clear hK K) | (refine wpQuiet_exK rfl (fun K hK => ?_); apply Exists.intro; refine And.intro (fun X hX => ?_) ?_; (· go_simp; (try go_bits); first | exact rfl | exact ⟨rfl, rfl⟩ | (rw [if_pos (by omega)]; exact ⟨rfl, rfl⟩)); go_simp; refine hK _ ?_; clear hK K))
    refine wpQuiet_nil (fun X hX => ?_)
    go_wp2
    go_ret
    exact ⟨rfl, hW.trans (hX.mono hW.size)⟩
end Go.Proofs.Ytnakbdgoaepehaa
