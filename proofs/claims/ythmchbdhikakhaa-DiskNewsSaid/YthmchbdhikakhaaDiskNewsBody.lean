/- A new disk's law. -/
import Derived.Test.YthmchbdhikakhaaDiskStory
import Derived.Test.YthmchbdhikakhaaDiskSmall
namespace Go.Proofs.Ythmchbdhikakhaa
open Go.RowKit Go.Cu
set_option maxRecDepth 20000 in
set_option maxHeartbeats 1000000 in
theorem news_bad {n : Int} (w : World) (hn : 8192 < n) : Calls Try.prog 5 #[.int .i64 n] w fun x w' => x = .returned (.bool true) ∧ Below w.heap.size w w' := by
  have HB := hid (fun W => new_bad (n := n) W (.inr hn))
  have g1 : (50 : Int) < n := by omega
  have g2 : ¬ n ≤ 8192 := by omega
  have g3 : ¬ n < 1 := by omega
  have BZ := fun W => run_buildK (build33 W)
  go_enter Try.func5, Try.ntmps5
  go_wp2_with (first | (go_at_call 13; refine (HB.out _).mono ?_; rintro x w1 ⟨rfl, rfl⟩) | (go_at_call 28; refine (none_ok _).mono ?_; rintro x w1 ⟨rfl, rfl⟩) | (go_at_call 23; refine (arm_nil _ _).mono ?_; rintro x w1 ⟨rfl, rfl⟩) | (go_at_call 17; refine (crash_nil _).mono ?_; rintro x w1 ⟨rfl, hb1⟩) | (go_at_call 18; refine (read_nil _ _).mono ?_; rintro x w2 ⟨rfl, hb2⟩) | (refine wpList_alloc 33 rfl rfl (.agg (bv zeroB)) zero33 ?_; intro g5 X1 hg5 hl5 hge5 hX1) | (refine wpList_store_box 33 _ _ rfl g5 rfl rfl (bv zeroB) rfl 128 size33 bvz (bv_one _) 33 _ hg5 bvz ?_; intro X2 hR2 hT2 hs2) | (go_at_call 14; refine (disks_ok _).mono ?_; rintro x w3 ⟨rfl, hb3⟩) | (go_at_call 15; refine (write_nil _ _ zeroB).mono ?_; rintro x w4 ⟨rfl, hb4⟩) | (go_at_call 16; refine (sync_nil _).mono ?_; rintro x w5 ⟨rfl, rfl⟩) | (go_at_call 29; refine (size_nil _).mono ?_; rintro x w5 ⟨rfl, rfl⟩) | (go_at_call 25; refine (down_nil _).mono ?_; rintro x w5 ⟨rfl, rfl⟩) | (go_at_call 26; refine (writes_nil _).mono ?_; rintro x w5 ⟨rfl, rfl⟩) | (go_at_call 27; refine (waiting_nil _).mono ?_; rintro x w5 ⟨rfl, rfl⟩))
  go_ret
  have k2 := hb1.trans (hb2.mono hb1.size)
  have k3 := k2.trans ((hX1.trans (hT2.below hX1.size (fun i hi => by subst hi; exact hge5))).mono k2.size)
  have k4 := k3.trans (hb3.mono k3.size)
  exact ⟨rfl, k4.trans (hb4.mono k4.size)⟩
set_option maxRecDepth 20000 in
set_option maxHeartbeats 1000000 in
theorem news_low {n : Int} (w : World) (hn : n < 1) : Calls Try.prog 5 #[.int .i64 n] w fun x w' => x = .returned (.bool true) ∧ Below w.heap.size w w' := by
  have HB := hid (fun W => new_bad (n := n) W (.inl hn))
  have g1 : ¬ (50 : Int) < n := by omega
  have g2 : n ≤ 8192 := by omega
  have g3 : n < 1 := by omega
  have BZ := fun W => run_buildK (build33 W)
  go_enter Try.func5, Try.ntmps5
  go_wp2_with (first | (go_at_call 13; refine (HB.out _).mono ?_; rintro x w1 ⟨rfl, rfl⟩) | (go_at_call 28; refine (none_ok _).mono ?_; rintro x w1 ⟨rfl, rfl⟩) | (go_at_call 23; refine (arm_nil _ _).mono ?_; rintro x w1 ⟨rfl, rfl⟩) | (go_at_call 17; refine (crash_nil _).mono ?_; rintro x w1 ⟨rfl, hb1⟩) | (go_at_call 18; refine (read_nil _ _).mono ?_; rintro x w2 ⟨rfl, hb2⟩) | (refine wpList_alloc 33 rfl rfl (.agg (bv zeroB)) zero33 ?_; intro g5 X1 hg5 hl5 hge5 hX1) | (refine wpList_store_box 33 _ _ rfl g5 rfl rfl (bv zeroB) rfl 128 size33 bvz (bv_one _) 33 _ hg5 bvz ?_; intro X2 hR2 hT2 hs2) | (go_at_call 14; refine (disks_ok _).mono ?_; rintro x w3 ⟨rfl, hb3⟩) | (go_at_call 15; refine (write_nil _ _ zeroB).mono ?_; rintro x w4 ⟨rfl, hb4⟩) | (go_at_call 16; refine (sync_nil _).mono ?_; rintro x w5 ⟨rfl, rfl⟩) | (go_at_call 29; refine (size_nil _).mono ?_; rintro x w5 ⟨rfl, rfl⟩) | (go_at_call 25; refine (down_nil _).mono ?_; rintro x w5 ⟨rfl, rfl⟩) | (go_at_call 26; refine (writes_nil _).mono ?_; rintro x w5 ⟨rfl, rfl⟩) | (go_at_call 27; refine (waiting_nil _).mono ?_; rintro x w5 ⟨rfl, rfl⟩))
  go_ret
  have k2 := hb1.trans (hb2.mono hb1.size)
  have k3 := k2.trans ((hX1.trans (hT2.below hX1.size (fun i hi => by subst hi; exact hge5))).mono k2.size)
  have k4 := k3.trans (hb3.mono k3.size)
  exact ⟨rfl, k4.trans (hb4.mono k4.size)⟩
/-- What a new disk answers. -/
theorem new_int {m : Int} (h1 : 1 ≤ m) (h2 : m ≤ 8192) (w : World) : Calls Try.prog 13 #[.int .i64 m] w fun x w' => ∃ p, x = .returned (.tuple #[.pointer (some ⟨p, 0, none⟩), .int .i64 0]) ∧ w.heap.size ≤ p ∧ DiskIn w' p (fun g => w.heap.size ≤ g) (DS.new m.toNat) ∧ Below w.heap.size w w' := by
  obtain ⟨k, rfl⟩ := Int.eq_ofNat_of_zero_le (show 0 ≤ m by omega)
  exact new_ok (n := k) (by omega) (by omega) w
theorem size_new {m : Int} (h1 : 1 ≤ m) {p : Nat} {F : Nat → Prop} {w : World} (h : DiskIn w p F (DS.new m.toNat)) : Calls Try.prog 29 #[.pointer (some ⟨p, 0, none⟩)] w fun e w' => e = .returned (.int .i64 m) ∧ w = w' :=
  (size_any h).mono fun e w' ⟨he, hw⟩ => ⟨by rw [he]; simp [DS.new]; omega, hw⟩
theorem read_new {m i : Int} (h1 : 1 ≤ m) (h2 : m ≤ 8192) (hi : 0 ≤ i) (hm : i < m) {p : Nat} {F : Nat → Prop} {w : World} (h : DiskIn w p F (DS.new m.toNat)) :
    Calls Try.prog 18 #[.pointer (some ⟨p, 0, none⟩), .int .i64 i] w fun x w' => x = .returned (.tuple #[.agg (bv zeroB), .int .i64 0]) ∧ Below w.heap.size w w' := by
  have hz : (DS.new m.toNat).at_ i = 0 := by
    unfold DS.at_ DS.new
    simp only [Bool.false_eq_true, if_false, List.length_replicate]
    rw [if_neg (by omega)]
  refine (read_any h (DS.Ok.new (by omega)) i).mono fun x w' ⟨hx, hw⟩ => ⟨?_, hw⟩
  rw [hx, hz, if_pos rfl]
  have : (DS.new m.toNat).now.getD i.toNat zeroB = zeroB := by
    unfold DS.new
    rw [List.getD_eq_getElem?_getD, List.getElem?_replicate]
    split <;> rfl
  rw [this]
theorem down_new {k : Nat} {p : Nat} {F : Nat → Prop} {w : World} (h : DiskIn w p F (DS.new k)) : Calls Try.prog 25 #[.pointer (some ⟨p, 0, none⟩)] w fun e w' => e = .returned (.bool false) ∧ w = w' := down_any h
set_option maxRecDepth 20000 in
set_option maxHeartbeats 1000000 in
theorem news_few {n : Int} (w : World) (h1 : 1 ≤ n) (h2 : n ≤ 50) : Calls Try.prog 5 #[.int .i64 n] w fun x w' => x = .returned (.bool true) ∧ Below w.heap.size w w' := by
  have HB := hid (fun W => new_int (m := n) (by omega) (by omega) W)
  have g1 : ¬ (50 : Int) < n := by omega
  have g2 : n ≤ 8192 := by omega
  have g3 : ¬ n < 1 := by omega
  have g4 : ¬ 8192 < n := by omega
  have BZ := fun W => run_buildK (build33 W)
  go_enter Try.func5, Try.ntmps5
  go_wp2_with (first | (go_at_call 13; (with_reducible refine (HB.out _).mono ?_); rintro x w1 ⟨p, rfl, hp, hd, hb⟩; have HD1 := hid hd; clear hd) | (go_at_call 28; (with_reducible refine (none_ok _).mono ?_); rintro x w1 ⟨rfl, rfl⟩) | (go_at_call 23; (with_reducible refine (arm_nil _ _).mono ?_); rintro x w1 ⟨rfl, rfl⟩) | (go_at_call 17; (with_reducible refine (crash_nil _).mono ?_); rintro x w1' ⟨rfl, hb1⟩) | (go_at_call 18; (with_reducible refine (read_nil _ _).mono ?_); rintro x w2 ⟨rfl, hb2⟩) | (refine wpList_alloc 33 rfl rfl (.agg (bv zeroB)) zero33 ?_; intro g5 X1 hg5 hl5 hge5 hX1) | (refine wpList_store_box 33 _ _ rfl g5 rfl rfl (bv zeroB) rfl 128 size33 bvz (bv_one _) 33 _ hg5 bvz ?_; intro X2 hR2 hT2 hs2) | (go_at_call 14; (with_reducible refine (disks_ok _).mono ?_); rintro x w3 ⟨rfl, hb3⟩) | (go_at_call 15; (with_reducible refine (write_nil _ _ zeroB).mono ?_); rintro x w4 ⟨rfl, hb4⟩) | (go_at_call 16; (with_reducible refine (sync_nil _).mono ?_); rintro x w5 ⟨rfl, rfl⟩) | (go_at_call 29; (with_reducible refine (size_nil _).mono ?_); rintro x w5 ⟨rfl, rfl⟩) | (go_at_call 25; (with_reducible refine (down_nil _).mono ?_); rintro x w5 ⟨rfl, rfl⟩) | (go_at_call 26; (with_reducible refine (writes_nil _).mono ?_); rintro x w5 ⟨rfl, rfl⟩) | (go_at_call 27; (with_reducible refine (waiting_nil _).mono ?_); rintro x w5 ⟨rfl, rfl⟩))
  have k2 := hb1.trans (hb2.mono hb1.size)
  have k3 := k2.trans ((hX1.trans (hT2.below hX1.size (fun i hi => by subst hi; exact hge5))).mono k2.size)
  have k4 := k3.trans (hb3.mono k3.size)
  have k5 := hid (k4.trans (hb4.mono k4.size))
  have D2 := hid (HD1.out.below k5.out)
  have HBW := hid (hb.trans (k5.out.mono hb.size))
  clear k2 k3 k4 hb1 hb2 hX1 hT2 hb3 hb4 hb k5 hs2 hR2 hl5 hge5 hg5
  with_reducible refine (read_new (i := n - 1) (m := n) (by omega) (by omega) (by omega) (by omega) D2.out).mono ?_
  rintro x w6 ⟨rfl, hb6⟩
  have D3 := hid (D2.out.below hb6)
  have HB6 := hid hb6
  clear hb6
  go_wp2_with (first | (refine wpList_alloc 33 rfl rfl (.agg (bv zeroB)) zero33 ?_; intro g6 X3 hg6 hl6 hge6 hX3) | (refine wpList_store_box 33 _ _ rfl g6 rfl rfl (bv zeroB) rfl 128 size33 bvz (bv_one _) 33 _ hg6 bvz ?_; intro X4 hR4 hT4 hs4))
  have hX4 := hX3.trans (hT4.below hX3.size (fun i hi => by subst hi; exact hge6))
  have D4 := hid (D3.out.below hX4)
  have HBF := hid (HBW.out.trans ((HB6.out.trans (hX4.mono HB6.out.size)).mono HBW.out.size))
  have hg6x := lt_of_heap hR4
  clear hX3 hT4 hg6 hl6 hge6 hs4 hX4
  have LZ : ∀ W, W = X4 → (loadK 33 (.pointer (some ⟨g6, 0, none⟩))).run Try.prog W = .ok (.value (.agg (bv zeroB))) W := fun W h => by subst h; exact run_loadK_box hR4 Try.underlying33 rfl size33 bvz
  have LZ' := LZ _ rfl
  clear LZ hR4
  have CM := fun (x y : Operand) (W : World) => run_cmpK_eql (P := Try.prog) guard33 Try.underlying33 be5 cells5 zeroB_len zeroB_len x y W
  rw [show decide (zeroB = zeroB) = true from by simp] at CM
  with_reducible refine (size_new (m := n) (by omega) D4.out).mono ?_
  rintro x w7 ⟨rfl, rfl⟩
  go_wp2_with (go_at_call 25; (with_reducible refine (down_new D4.out).mono ?_); rintro x w8 ⟨rfl, rfl⟩)
  go_ret
  exact ⟨rfl, HBF.out⟩
set_option maxRecDepth 20000 in
set_option maxHeartbeats 1000000 in
theorem news_many {n : Int} (w : World) (h1 : 50 < n) (h2 : n ≤ 8192) : Calls Try.prog 5 #[.int .i64 n] w fun x w' => x = .returned (.bool true) ∧ Below w.heap.size w w' := by
  have HB := hid (fun W => new_int (m := (8192 - n % 2)) (by omega) (by omega) W)
  have g1 : (50 : Int) < n := h1
  have g5 : 0 ≤ n := by omega
  have g3 : ¬ 8192 - n % 2 < 1 := by omega
  have g4 : ¬ 8192 < 8192 - n % 2 := by omega
  have BZ := fun W => run_buildK (build33 W)
  go_enter Try.func5, Try.ntmps5
  go_wp2_with (first | (go_at_call 13; (with_reducible refine (HB.out _).mono ?_); rintro x w1 ⟨p, rfl, hp, hd, hb⟩; have HD1 := hid hd; clear hd) | (go_at_call 28; (with_reducible refine (none_ok _).mono ?_); rintro x w1 ⟨rfl, rfl⟩) | (go_at_call 23; (with_reducible refine (arm_nil _ _).mono ?_); rintro x w1 ⟨rfl, rfl⟩) | (go_at_call 17; (with_reducible refine (crash_nil _).mono ?_); rintro x w1' ⟨rfl, hb1⟩) | (go_at_call 18; (with_reducible refine (read_nil _ _).mono ?_); rintro x w2 ⟨rfl, hb2⟩) | (refine wpList_alloc 33 rfl rfl (.agg (bv zeroB)) zero33 ?_; intro g5 X1 hg5 hl5 hge5 hX1) | (refine wpList_store_box 33 _ _ rfl g5 rfl rfl (bv zeroB) rfl 128 size33 bvz (bv_one _) 33 _ hg5 bvz ?_; intro X2 hR2 hT2 hs2) | (go_at_call 14; (with_reducible refine (disks_ok _).mono ?_); rintro x w3 ⟨rfl, hb3⟩) | (go_at_call 15; (with_reducible refine (write_nil _ _ zeroB).mono ?_); rintro x w4 ⟨rfl, hb4⟩) | (go_at_call 16; (with_reducible refine (sync_nil _).mono ?_); rintro x w5 ⟨rfl, rfl⟩) | (go_at_call 29; (with_reducible refine (size_nil _).mono ?_); rintro x w5 ⟨rfl, rfl⟩) | (go_at_call 25; (with_reducible refine (down_nil _).mono ?_); rintro x w5 ⟨rfl, rfl⟩) | (go_at_call 26; (with_reducible refine (writes_nil _).mono ?_); rintro x w5 ⟨rfl, rfl⟩) | (go_at_call 27; (with_reducible refine (waiting_nil _).mono ?_); rintro x w5 ⟨rfl, rfl⟩))
  have k2 := hb1.trans (hb2.mono hb1.size)
  have k3 := k2.trans ((hX1.trans (hT2.below hX1.size (fun i hi => by subst hi; exact hge5))).mono k2.size)
  have k4 := k3.trans (hb3.mono k3.size)
  have k5 := hid (k4.trans (hb4.mono k4.size))
  have D2 := hid (HD1.out.below k5.out)
  have HBW := hid (hb.trans (k5.out.mono hb.size))
  clear k2 k3 k4 hb1 hb2 hX1 hT2 hb3 hb4 hb k5 hs2 hR2 hl5 hge5 hg5
  with_reducible refine (read_new (i := (8192 - n % 2) - 1) (m := (8192 - n % 2)) (by omega) (by omega) (by omega) (by omega) D2.out).mono ?_
  rintro x w6 ⟨rfl, hb6⟩
  have D3 := hid (D2.out.below hb6)
  have HB6 := hid hb6
  clear hb6
  go_wp2_with (first | (refine wpList_alloc 33 rfl rfl (.agg (bv zeroB)) zero33 ?_; intro g6 X3 hg6 hl6 hge6 hX3) | (refine wpList_store_box 33 _ _ rfl g6 rfl rfl (bv zeroB) rfl 128 size33 bvz (bv_one _) 33 _ hg6 bvz ?_; intro X4 hR4 hT4 hs4))
  have hX4 := hX3.trans (hT4.below hX3.size (fun i hi => by subst hi; exact hge6))
  have D4 := hid (D3.out.below hX4)
  have HBF := hid (HBW.out.trans ((HB6.out.trans (hX4.mono HB6.out.size)).mono HBW.out.size))
  have hg6x := lt_of_heap hR4
  clear hX3 hT4 hg6 hl6 hge6 hs4 hX4
  have LZ : ∀ W, W = X4 → (loadK 33 (.pointer (some ⟨g6, 0, none⟩))).run Try.prog W = .ok (.value (.agg (bv zeroB))) W := fun W h => by subst h; exact run_loadK_box hR4 Try.underlying33 rfl size33 bvz
  have LZ' := LZ _ rfl
  clear LZ hR4
  have CM := fun (x y : Operand) (W : World) => run_cmpK_eql (P := Try.prog) guard33 Try.underlying33 be5 cells5 zeroB_len zeroB_len x y W
  rw [show decide (zeroB = zeroB) = true from by simp] at CM
  with_reducible refine (size_new (m := (8192 - n % 2)) (by omega) D4.out).mono ?_
  rintro x w7 ⟨rfl, rfl⟩
  go_wp2_with (go_at_call 25; (with_reducible refine (down_new D4.out).mono ?_); rintro x w8 ⟨rfl, rfl⟩)
  go_ret
  exact ⟨rfl, HBF.out⟩
theorem news_ok (n : Int) (w : World) : Calls Try.prog 5 #[.int .i64 n] w fun x w' => x = .returned (.bool true) ∧ Below w.heap.size w w' := by
  by_cases h1 : n < 1
  · exact news_low w h1
  by_cases h2 : 8192 < n
  · exact news_bad w h2
  by_cases h3 : n ≤ 50
  · exact news_few w (by omega) h3
  · exact news_many w (by omega) (by omega)
end Go.Proofs.Ythmchbdhikakhaa
