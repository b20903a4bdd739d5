/- The walks of package path and its reference: bits, what begins alike, the order. -/
import Derived.Test.YtnakbdgoaepehaaProg
import Derived.Test.YtnakbdgoaepehaaKeyMem
import Derived.Test.YtnakbdgoaepehaaShelf
import Derived.Test.YtnakbdgoaepehaaTail
import Derived.Laws.Externs
import Derived.Lib.RabinKarpLaws
namespace Go.Proofs.Ytnakbdgoaepehaa
open Go.RowKit Go.Cu
theorem be5 : ByteElem Try.prog 5 := ⟨by kernel_rfl, Try.underlying5⟩
theorem size23 : (Try.prog.info? 23).map (·.size) = some 32 := by kernel_rfl
theorem size22 : (Try.prog.info? 22).map (·.size) = some 32 := by kernel_rfl

theorem ret_int {k : IntKind} {a b : Int} (h : a = b) : Ending.returned (.int k a) = .returned (.int k b) := by rw [h]
theorem cm_i64 (k l : List UInt8) : -9223372036854775808 ≤ (cm k l : Int) ∧ (cm k l : Int) ≤ 9223372036854775807 := by have := cm_le k l; omega
theorem compare48 (args : Array Value) (w : World) : (callFunc 48 args).run Try.prog w = ((Extern.BytealgCompare.compare args).run Try.prog w).andThen fun v w' => .ok (.value v) w' :=
  run_callFunc_extern Try.func48 (by kernel_rfl) (by kernel_rfl) (by kernel_rfl) (by kernel_rfl) args w

set_option maxHeartbeats 400000 in
theorem compare_any (k l : List UInt8) (w : World) (g g' : Nat) (t t' : TypeId) (hk : k.length = 32) (hl : l.length = 32) (hg : w.heap[g]? = some (.cells (bv k) t (0, 0))) (hg' : w.heap[g']? = some (.cells (bv l) t' (0, 0))) :
    Calls Try.prog 44 #[.slice (some ⟨g, 0, none⟩) 32 32, .slice (some ⟨g', 0, none⟩) 32 32] w fun e w' => e = .returned (.int .i64 (ordB k l)) ∧ w = w' := by
  have h48 := compare48 #[.slice (some ⟨g, 0, none⟩) 32 32, .slice (some ⟨g', 0, none⟩) 32 32] w
  have h := run_compare_bv (P := Try.prog) w g g' t t' (0, 0) (0, 0) k l 32 32 hg hg'
  rw [ordB_compare hk hl, hk, hl] at h
  rw [h] at h48
  clear h hg hg'
  simp only [Result.andThen_ok] at h48
  go_enter Try.func44, Try.ntmps44
  go_wp2
  go_ret
  exact ⟨rfl, rfl⟩

set_option maxHeartbeats 400000 in
theorem order_any (k l : List UInt8) (w : World) (hk : k.length = 32) (hl : l.length = 32) :
    Calls Try.prog 32 #[.agg (bv k), .agg (bv l)] w fun e w' => e = .returned (.int .i64 (ordB k l)) ∧ Below w.heap.size w w' := by
  have HK := hid hk; have HL := hid hl
  clear hk hl
  go_enter Try.func32, Try.ntmps32
  repeat (apply wp_seq_k; intro _ _)
  apply wp_region_lit
  refine wpList_box rfl 23 _ rfl (.agg (bv k)) rfl ?_
  intro ga W1 hA1 ha1 _ hW1
  refine wpList_box rfl 23 _ rfl (.agg (bv l)) rfl ?_
  intro gb W0 hB hb _ hW2
  have hA : W0.heap[ga]? = some (.cells (bv k) 23 (0, 0)) := (hW2.block ga ha1).trans hA1
  have hW := (hW1.trans (hW2.mono hW1.size))
  have ha := Nat.lt_of_lt_of_le ha1 hW2.size
  have hX : Below W0.heap.size W0 W0 := Below.refl _ _
  clear hW1 hW2 hA1 ha1
  go_wp2
  refine wp_region_class (fun X => Below W0.heap.size W0 X) (by kernel_rfl) (by kernel_rfl) (Below.drew hX) ?_
  clear hX
  refine wpQuiet_exK rfl (fun K hK => ?_)
  apply Exists.intro
  refine And.intro (fun X hX => ?_) ?_
  (· go_simp; (try go_bits); first | exact rfl | exact ⟨rfl, rfl⟩ | (rw [if_pos (by omega)]; exact ⟨rfl, rfl⟩))
  go_simp
  refine hK _ ?_
  clear hK K
  refine wpQuiet_exK rfl (fun K hK => ?_)
  apply Exists.intro
  refine And.intro (fun X hX => ?_) ?_
  (· go_simp; (try go_bits); first | exact rfl | exact ⟨rfl, rfl⟩ | (rw [if_pos (by omega)]; exact ⟨rfl, rfl⟩))
  go_simp
  refine hK _ ?_
  clear hK K
  refine wpQuiet_callK 44 ⟨_, _, rfl⟩ rfl ?_
  apply Exists.intro
  refine And.intro (fun X => ?_) ?_
  (· go_simp; exact rfl)
  apply Exists.intro
  refine And.intro (fun X hX => ?_) (fun K hK => ?_)
  (· (refine (compare_any k l X ga gb 23 23 HK.out HL.out ((hX.block ga ha).trans hA) ((hX.block gb hb).trans hB)).mono ?_; rintro e X' ⟨rfl, rfl⟩; exact ⟨rfl, hX⟩))
  go_simp
  refine hK _ ?_
  clear hK K
  refine wpQuiet_exK rfl (fun K hK => ?_)
  apply Exists.intro
  refine And.intro (fun X hX => ?_) ?_
  (· go_simp; (try go_bits); first | exact rfl | exact ⟨rfl, rfl⟩ | (rw [if_pos (by omega)]; exact ⟨rfl, rfl⟩))
  go_simp
  refine hK _ ?_
  clear hK K
  refine wpQuiet_nil (fun X hX => ?_)
  go_wp2
  go_ret
  exact ⟨rfl, hW.trans (hX.mono hW.size)⟩

set_option maxHeartbeats 400000 in
theorem less_any (k l : List UInt8) (w : World) (hk : k.length = 32) (hl : l.length = 32) :
    Calls Try.prog 11 #[.agg (bv k), .agg (bv l)] w fun e w' => e = .returned (.bool (ltB k l)) ∧ Below w.heap.size w w' := by
  have HK := hid hk; have HL := hid hl
  have HE := hid (ordB_neg k l)
  clear hk hl
  have HSK := hid ((bv_size k).trans HK.out)
  have HSL := hid ((bv_size l).trans HL.out)
  go_enter Try.func11, Try.ntmps11
  repeat (apply wp_seq_k; intro _ _)
  apply wp_region_lit
  refine wpList_box rfl 23 _ rfl (.agg (bv k)) rfl ?_
  intro ga W1 hA1 ha1 _ hW1
  refine wpList_box rfl 23 _ rfl (.agg (bv l)) rfl ?_
  intro gb W0 hB hb _ hW2
  have hA : W0.heap[ga]? = some (.cells (bv k) 23 (0, 0)) := (hW2.block ga ha1).trans hA1
  have hW := (hW1.trans (hW2.mono hW1.size))
  have ha := Nat.lt_of_lt_of_le ha1 hW2.size
  have hX : Below W0.heap.size W0 W0 := Below.refl _ _
  clear hW1 hW2 hA1 ha1
  go_wp2_with (first | ((refine wpList_load_at 23 _ rfl ga rfl rfl _ Try.underlying23 rfl 32 size23 23 _ (0, 0) ((hX.block _ ha).trans hA) HSK.out ?_)) | ((refine wpList_load_at 23 _ rfl gb rfl rfl _ Try.underlying23 rfl 32 size23 23 _ (0, 0) ((hX.block _ hb).trans hB) HSL.out ?_)) | (go_at_call 32; refine (order_any k l _ HK.out HL.out).mono ?_; rintro e X ⟨rfl, hX1⟩; replace hX := hX.trans (hX1.mono hX.size)))
  go_ret
  exact ⟨by rw [← HE.out]; rfl, hW.trans (hX.mono hW.size)⟩

theorem cell_of {w : World} {g : Nat} {t : TypeId} {l : List UInt8} (hg : w.heap[g]? = some (.cells (bv l) t (0, 0))) {i : Nat} (hi : i < l.length) : w.cell? ⟨g, i, none⟩ = some (.int .u8 (bt l i)) :=
  (cell_of_row w g i (bv l) t (0, 0) hg).trans (bv_get l i hi)

set_option maxHeartbeats 400000 in
theorem common_any (k l : List UInt8) (w : World) (hk : k.length = 32) (hl : l.length = 32) :
    Calls Try.prog 9 #[.agg (bv k), .agg (bv l)] w fun e w' => e = .returned (.int .i64 (cm k l)) ∧ Below w.heap.size w w' := by
  have hix := hid fun (i : Nat) (h : i < 32) (W : World) => run_index_bv (P := Try.prog) Try.underlying23 be5 k hk i h W
  have HSK := hid ((bv_size k).trans hk)
  have HL := hid hl
  clear hk hl
  go_enter Try.func9, Try.ntmps9
  repeat (apply wp_seq_k; intro _ _)
  apply wp_region_lit
  refine wpList_box rfl 23 _ rfl (.agg (bv k)) rfl ?_
  intro ga W1 hA1 ha1 _ hW1
  refine wpList_box rfl 23 _ rfl (.agg (bv l)) rfl ?_
  intro gb W0 hB hb _ hW2
  have hA : W0.heap[ga]? = some (.cells (bv k) 23 (0, 0)) := (hW2.block ga ha1).trans hA1
  have hW := (hW1.trans (hW2.mono hW1.size))
  have ha := Nat.lt_of_lt_of_le ha1 hW2.size
  have hX : Below W0.heap.size W0 W0 := Below.refl _ _
  clear hW1 hW2 hA1 ha1
  go_wp2_with ((refine wpList_load_at 23 _ rfl ga rfl rfl _ Try.underlying23 rfl 32 size23 23 _ (0, 0) ((hX.block _ ha).trans hA) HSK.out ?_))
  go_loop [5, 6, 8] (fun _ _ i => ∃ n : Nat, n ≤ 32 ∧ i = .int .i64 n ∧ Hid (∀ j, j < n → k.getD j 0 = l.getD j 0)) (fun _ _ i => 32 - (intOf i).toNat)
  case atStart => exact ⟨0, by omega, rfl, fun j hj => absurd hj (by omega)⟩
  case round =>
    obtain ⟨n, hn, rfl, HP⟩ := hrel
    by_cases hlt : n < 32
    · have h1 := hix.out n hlt
      have h2 := cell_of hB (i := n) (by rw [HL.out]; exact hlt)
      by_cases hne : bt k n = bt l n
      · have HE := hid hne
        have hb2 : (bt k n != bt l n) = false := by rw [hne]; simp
        clear hne
        go_wp2_with fail
        go_round
        case rel => exact ⟨n + 1, by omega, by go_num, fun j hj => by
          rcases Nat.lt_or_ge j n with h | h
          · exact HP.out j h
          · rw [show j = n by omega]; exact bt_inj HE.out⟩
        case measure => simp [intOf]; omega
      · have HX := hid (cm_exit hlt HP.out hne)
        have hb2 : (bt k n != bt l n) = true := by simpa using hne
        clear hne
        go_wp2_with (go_at_call 31; refine (Try.bits_LeadingZeros8 _ _ HX.out.1 HX.out.2.1).mono ?_; rintro e w' ⟨rfl, rfl⟩)
        go_ret
        exact ⟨ret_int (by rw [HX.out.2.2]; exact IntWalk.wrap64_in _ (cm_i64 k l)), hW⟩
    · go_wp2
      go_ret
      exact ⟨ret_int (by rw [cm_all (fun j hj => HP.out j (by omega))]; rfl), hW⟩

/-- A bit, as the code answers it. -/
def bitI (k : List UInt8) (i : Int) : Int := if 0 ≤ i ∧ i < 256 then (bitN k i.toNat : Int) else 0

set_option maxHeartbeats 400000 in
theorem within_in (i : Int) (w : World) (h0 : 0 ≤ i) (h1 : i < 256) : Calls Try.prog 33 #[.int .i64 i] w fun e w' => e = .returned (.bool true) ∧ w = w' := by
  go_enter Try.func33, Try.ntmps33
  go_wp2
  go_ret
  exact ⟨rfl, rfl⟩
set_option maxHeartbeats 400000 in
theorem within_out (i : Int) (w : World) (h : i < 0 ∨ 256 ≤ i) : Calls Try.prog 33 #[.int .i64 i] w fun e w' => e = .returned (.bool false) ∧ w = w' := by
  by_cases h0 : 0 ≤ i
  · have h1 : ¬ i < 256 := by omega
    clear h
    go_enter Try.func33, Try.ntmps33
    go_wp2
    go_ret
    exact ⟨rfl, rfl⟩
  · clear h
    go_enter Try.func33, Try.ntmps33
    go_wp2
    go_ret
    exact ⟨rfl, rfl⟩
theorem bt_shift (k : List UInt8) (n : Nat) : bt k (n / 8) / 2 ^ (7 - n % 8) = (((k.getD (n / 8) 0).toNat / 2 ^ (7 - n % 8) : Nat) : Int) := by
  unfold bt
  rw [show ((2 : Int) ^ (7 - n % 8)) = ((2 ^ (7 - n % 8) : Nat) : Int) by simp, ← Int.natCast_ediv]
theorem bt_shift_lt (k : List UInt8) (n : Nat) : (k.getD (n / 8) 0).toNat / 2 ^ (7 - n % 8) < 256 := Nat.lt_of_le_of_lt (Nat.div_le_self _ _) (UInt8.toNat_lt _)
theorem bit_val (k : List UInt8) (n : Nat) : bits .and .i64 (wrap64 (bt k (n / 8) / 2 ^ (7 - n % 8))) 1 = (bitN k n : Int) := by
  have h := bt_shift_lt k n
  rw [bt_shift]
  unfold bitN
  generalize (k.getD (n / 8) 0).toNat / 2 ^ (7 - n % 8) = v at *
  rw [IntWalk.wrap64_in _ (by omega), Go.Proofs.and_one _ (by omega)]
theorem bit_val' (k : List UInt8) (n : Nat) : (wrap64 (bt k (n / 8) / 2 ^ (7 - n % 8))).tmod 2 = (bitN k n : Int) := by
  have h := bt_shift_lt k n
  rw [bt_shift]
  unfold bitN
  generalize (k.getD (n / 8) 0).toNat / 2 ^ (7 - n % 8) = v at *
  rw [IntWalk.wrap64_in _ (by omega), Int.tmod_eq_emod_of_nonneg (by omega)]
  omega
set_option maxHeartbeats 400000 in
theorem bit_in (k : List UInt8) (n : Nat) (w : World) (hk : k.length = 32) (hn : n < 256) :
    Calls Try.prog 14 #[.agg (bv k), .int .i64 n] w fun e w' => e = .returned (.int .i64 (bitN k n)) ∧ Below w.heap.size w w' := by
  have HK := hid hk
  clear hk
  go_enter Try.func14, Try.ntmps14
  repeat (apply wp_seq_k; intro _ _)
  apply wp_region_lit
  refine wpList_box rfl 23 _ rfl (.agg (bv k)) rfl ?_
  intro ga W0 hA ha _ hW
  have hX : Below W0.heap.size W0 W0 := Below.refl _ _
  have h2 := cell_of hA (i := n / 8) (by rw [HK.out]; omega)
  go_wp2_with (go_at_call 33; refine (within_in _ _ (by omega) (by omega)).mono ?_; rintro e w' ⟨rfl, rfl⟩)
  go_ret
  exact ⟨ret_int (bit_val k n), hW⟩
set_option maxHeartbeats 400000 in
theorem bit_out (k : List UInt8) (i : Int) (w : World) (h : i < 0 ∨ 256 ≤ i) :
    Calls Try.prog 14 #[.agg (bv k), .int .i64 i] w fun e w' => e = .returned (.int .i64 0) ∧ Below w.heap.size w w' := by
  go_enter Try.func14, Try.ntmps14
  repeat (apply wp_seq_k; intro _ _)
  apply wp_region_lit
  refine wpList_box rfl 23 _ rfl (.agg (bv k)) rfl ?_
  intro ga W0 hA ha _ hW
  have hX : Below W0.heap.size W0 W0 := Below.refl _ _
  go_wp2_with (go_at_call 33; refine (within_out _ _ h).mono ?_; rintro e w' ⟨rfl, rfl⟩)
  go_ret
  exact ⟨rfl, hW⟩
set_option maxHeartbeats 400000 in
theorem rbit_in (k : List UInt8) (n : Nat) (w : World) (hk : k.length = 32) (hn : n < 256) :
    Calls Try.prog 15 #[.agg (bv k), .int .i64 n] w fun e w' => e = .returned (.int .i64 (bitN k n)) ∧ Below w.heap.size w w' := by
  have HK := hid hk
  clear hk
  have d0 : decide ((n : Int) < 0) = false := by simp
  have d1 : decide ((255 : Int) < n) = false := by simp; omega
  go_enter Try.func15, Try.ntmps15
  repeat (apply wp_seq_k; intro _ _)
  apply wp_region_lit
  refine wpList_box rfl 22 _ rfl (.agg (bv k)) rfl ?_
  intro ga W0 hA ha _ hW
  have hX : Below W0.heap.size W0 W0 := Below.refl _ _
  have h2 := cell_of hA (i := n / 8) (by rw [HK.out]; omega)
  go_wp2
  go_ret
  exact ⟨ret_int (bit_val' k n), hW⟩
set_option maxHeartbeats 400000 in
theorem rbit_out (k : List UInt8) (i : Int) (w : World) (h : i < 0 ∨ 256 ≤ i) :
    Calls Try.prog 15 #[.agg (bv k), .int .i64 i] w fun e w' => e = .returned (.int .i64 0) ∧ Below w.heap.size w w' := by
  by_cases h0 : i < 0
  · clear h
    go_enter Try.func15, Try.ntmps15
    repeat (apply wp_seq_k; intro _ _)
    apply wp_region_lit
    refine wpList_box rfl 22 _ rfl (.agg (bv k)) rfl ?_
    intro ga W0 hA ha _ hW
    have hX : Below W0.heap.size W0 W0 := Below.refl _ _
    go_wp2
    go_ret
    exact ⟨rfl, hW⟩
  · have h1 : 255 < i := by omega
    clear h
    go_enter Try.func15, Try.ntmps15
    repeat (apply wp_seq_k; intro _ _)
    apply wp_region_lit
    refine wpList_box rfl 22 _ rfl (.agg (bv k)) rfl ?_
    intro ga W0 hA ha _ hW
    have hX : Below W0.heap.size W0 W0 := Below.refl _ _
    go_wp2
    go_ret
    exact ⟨rfl, hW⟩
set_option maxRecDepth 20000 in
set_option maxHeartbeats 400000 in
theorem rcommon_any (k l : List UInt8) (w : World) (hk : k.length = 32) (hl : l.length = 32) :
    Calls Try.prog 13 #[.agg (bv k), .agg (bv l)] w fun e w' => e = .returned (.int .i64 (cm k l)) ∧ Below w.heap.size w w' := by
  have HK := hid hk
  have HL := hid hl
  have HSK := hid ((bv_size k).trans hk)
  have HSL := hid ((bv_size l).trans hl)
  clear hk hl
  go_enter Try.func13, Try.ntmps13
  repeat (apply wp_seq_k; intro _ _)
  apply wp_region_lit
  refine wpList_box rfl 22 _ rfl (.agg (bv k)) rfl ?_
  intro ga W1 hA1 ha1 _ hW1
  refine wpList_box rfl 22 _ rfl (.agg (bv l)) rfl ?_
  intro gb W0 hB hb _ hW2
  have hA : W0.heap[ga]? = some (.cells (bv k) 22 (0, 0)) := (hW2.block ga ha1).trans hA1
  have hW := (hW1.trans (hW2.mono hW1.size))
  have ha := Nat.lt_of_lt_of_le ha1 hW2.size
  have hX : Below W0.heap.size W0 W0 := Below.refl _ _
  clear hW1 hW2 hA1 ha1
  go_wp2
  go_loopw [5] (fun i X => ∃ n : Nat, n ≤ 256 ∧ i = .int .i64 n ∧ Below W0.heap.size W0 X ∧ Hid (∀ j, j < n → bitN k j = bitN l j)) (fun i _ => 256 - (intOf i).toNat)
  case atStart => exact ⟨0, by omega, rfl, hX, fun j hj => absurd hj (by omega)⟩
  case round =>
    obtain ⟨n, hn, rfl, hY, HP⟩ := hrel
    clear hX
    have hX := hY
    clear hY
    by_cases hlt : n < 256
    · by_cases hne : bitN k n = bitN l n
      · have HE := hid hne
        have hb2 : ((bitN k n : Int) != (bitN l n : Int)) = false := by rw [hne]; simp
        clear hne
        go_wp2
        refine wp_region_class (fun X => Below W0.heap.size W0 X) (by kernel_rfl) (by kernel_rfl) (Below.drew hX) ?_
        clear hX
        repeat (first | (refine wpQuiet_load_box 22 _ rfl ga rfl rfl _ Try.underlying22 rfl 32 size22 22 _ (0, 0) (fun X hX => (hX.block _ ha).trans hA) HSK.out (fun K hK => ?_); go_simp; refine hK _ ?_; clear hK K) | (refine wpQuiet_load_box 22 _ rfl gb rfl rfl _ Try.underlying22 rfl 32 size22 22 _ (0, 0) (fun X hX => (hX.block _ hb).trans hB) HSL.out (fun K hK => ?_); go_simp; refine hK _ ?_; clear hK K) | (refine wpQuiet_callK 15 ⟨_, _, rfl⟩ rfl ?_; apply Exists.intro; refine And.intro (fun X => ?_) ?_; (· go_simp; exact rfl); apply Exists.intro; refine And.intro (fun X hX => ?_) (fun K hK => ?_); (· (with_reducible refine (rbit_in k n _ HK.out hlt).mono ?_); rintro e X' ⟨rfl, hb⟩; exact ⟨rfl, hX.trans (hb.mono hX.size)⟩); go_simp; refine hK _ ?_; clear hK K) | (refine wpQuiet_callK 15 ⟨_, _, rfl⟩ rfl ?_; apply Exists.intro; refine And.intro (fun X => ?_) ?_; (· go_simp; exact rfl); apply Exists.intro; refine And.intro (fun X hX => ?_) (fun K hK => ?_); (· (with_reducible refine (rbit_in l n _ HL.out hlt).mono ?_); rintro e X' ⟨rfl, hb⟩; exact ⟨rfl, hX.trans (hb.mono hX.size)⟩); go_simp; refine hK _ ?_; clear hK K) | (refine wpQuiet_exK rfl (fun K hK => ?_); apply Exists.intro; refine And.intro (fun X hX => ?_) ?_; (· go_simp; (try go_bits); first | exact rfl | exact ⟨rfl, rfl⟩ | (rw [if_pos (by omega)]; exact ⟨rfl, rfl⟩)); go_simp; refine hK _ ?_; clear hK K))
        refine wpQuiet_nil (fun X hX => ?_)
        go_wp2
        go_roundw
        case rel => exact ⟨n + 1, by omega, by go_num, hX, fun j hj => by
          rcases Nat.lt_or_ge j n with h | h
          · exact HP.out j h
          · rw [show j = n by omega]; exact HE.out⟩
        case measure => simp [intOf]; omega
      · have hb2 : ((bitN k n : Int) != (bitN l n : Int)) = true := by simp; omega
        have HC := hid (show IsCm k l n from ⟨hn, HP.out, fun _ => hne⟩)
        clear hne
        go_wp2
        refine wp_region_class (fun X => Below W0.heap.size W0 X) (by kernel_rfl) (by kernel_rfl) (Below.drew hX) ?_
        clear hX
        repeat (first | (refine wpQuiet_load_box 22 _ rfl ga rfl rfl _ Try.underlying22 rfl 32 size22 22 _ (0, 0) (fun X hX => (hX.block _ ha).trans hA) HSK.out (fun K hK => ?_); go_simp; refine hK _ ?_; clear hK K) | (refine wpQuiet_load_box 22 _ rfl gb rfl rfl _ Try.underlying22 rfl 32 size22 22 _ (0, 0) (fun X hX => (hX.block _ hb).trans hB) HSL.out (fun K hK => ?_); go_simp; refine hK _ ?_; clear hK K) | (refine wpQuiet_callK 15 ⟨_, _, rfl⟩ rfl ?_; apply Exists.intro; refine And.intro (fun X => ?_) ?_; (· go_simp; exact rfl); apply Exists.intro; refine And.intro (fun X hX => ?_) (fun K hK => ?_); (· (with_reducible refine (rbit_in k n _ HK.out hlt).mono ?_); rintro e X' ⟨rfl, hb⟩; exact ⟨rfl, hX.trans (hb.mono hX.size)⟩); go_simp; refine hK _ ?_; clear hK K) | (refine wpQuiet_callK 15 ⟨_, _, rfl⟩ rfl ?_; apply Exists.intro; refine And.intro (fun X => ?_) ?_; (· go_simp; exact rfl); apply Exists.intro; refine And.intro (fun X hX => ?_) (fun K hK => ?_); (· (with_reducible refine (rbit_in l n _ HL.out hlt).mono ?_); rintro e X' ⟨rfl, hb⟩; exact ⟨rfl, hX.trans (hb.mono hX.size)⟩); go_simp; refine hK _ ?_; clear hK K) | (refine wpQuiet_exK rfl (fun K hK => ?_); apply Exists.intro; refine And.intro (fun X hX => ?_) ?_; (· go_simp; (try go_bits); first | exact rfl | exact ⟨rfl, rfl⟩ | (rw [if_pos (by omega)]; exact ⟨rfl, rfl⟩)); go_simp; refine hK _ ?_; clear hK K))
        refine wpQuiet_nil (fun X hX => ?_)
        go_wp2
        go_ret
        exact ⟨ret_int (by rw [HC.out.eq]), hW.trans (hX.mono hW.size)⟩
    · go_wp2
      go_ret
      have e : n = 256 := by omega
      subst e
      exact ⟨ret_int (by rw [← (show IsCm k l 256 from ⟨Nat.le_refl _, HP.out, fun h => absurd h (by decide)⟩).eq]; rfl), hW.trans (hX.mono hW.size)⟩
set_option maxRecDepth 20000 in
set_option maxHeartbeats 400000 in
theorem rless_any (k l : List UInt8) (w : World) (hk : k.length = 32) (hl : l.length = 32) :
    Calls Try.prog 16 #[.agg (bv k), .agg (bv l)] w fun e w' => e = .returned (.bool (ltB k l)) ∧ Below w.heap.size w w' := by
  have HK := hid hk
  have HL := hid hl
  have HSK := hid ((bv_size k).trans hk)
  have HSL := hid ((bv_size l).trans hl)
  have HV := hid (show ltB k l = (decide (cm k l < 256) && decide (bitN k (cm k l) = 0)) from rfl)
  have h0 : (0 : Int) ≤ (cm k l : Int) := by omega
  clear hk hl
  by_cases hlt : cm k l < 256
  · have HB : Hid ((decide (cm k l < 256) && decide (bitN k (cm k l) = 0)) = ((bitN k (cm k l) : Int) == 0)) := by
      show _ = _
      rw [decide_eq_true hlt, Bool.true_and]
      by_cases h : bitN k (cm k l) = 0 <;> simp [h]
    have hd : decide ((cm k l : Int) < 256) = true := by simp; omega
    go_enter Try.func16, Try.ntmps16
    repeat (apply wp_seq_k; intro _ _)
    apply wp_region_lit
    refine wpList_box rfl 22 _ rfl (.agg (bv k)) rfl ?_
    intro ga W1 hA1 ha1 _ hW1
    refine wpList_box rfl 22 _ rfl (.agg (bv l)) rfl ?_
    intro gb W0 hB hb _ hW2
    have hA : W0.heap[ga]? = some (.cells (bv k) 22 (0, 0)) := (hW2.block ga ha1).trans hA1
    have hW := (hW1.trans (hW2.mono hW1.size))
    have ha := Nat.lt_of_lt_of_le ha1 hW2.size
    have hX : Below W0.heap.size W0 W0 := Below.refl _ _
    clear hW1 hW2 hA1 ha1
    go_wp2_with (first | (refine wpList_load_at 22 _ rfl ga rfl rfl _ Try.underlying22 rfl 32 size22 22 _ (0, 0) ((hX.block _ ha).trans hA) HSK.out ?_) | (refine wpList_load_at 22 _ rfl gb rfl rfl _ Try.underlying22 rfl 32 size22 22 _ (0, 0) ((hX.block _ hb).trans hB) HSL.out ?_) | (go_at_call 13; (with_reducible refine (rcommon_any k l _ HK.out HL.out).mono ?_); rintro e X ⟨rfl, hX1⟩; replace hX := hX.trans (hX1.mono hX.size); clear hX1) | (go_at_call 15; (with_reducible refine (rbit_in k (cm k l) _ HK.out hlt).mono ?_); rintro e X ⟨rfl, hX1⟩; replace hX := hX.trans (hX1.mono hX.size); clear hX1))
    go_ret
    exact ⟨by rw [HV.out, HB.out]; rfl, hW.trans (hX.mono hW.size)⟩
  · have hd : decide ((cm k l : Int) < 256) = false := by simp; omega
    have HB : Hid (decide (cm k l < 256) = false) := decide_eq_false hlt
    go_enter Try.func16, Try.ntmps16
    repeat (apply wp_seq_k; intro _ _)
    apply wp_region_lit
    refine wpList_box rfl 22 _ rfl (.agg (bv k)) rfl ?_
    intro ga W1 hA1 ha1 _ hW1
    refine wpList_box rfl 22 _ rfl (.agg (bv l)) rfl ?_
    intro gb W0 hB hb _ hW2
    have hA : W0.heap[ga]? = some (.cells (bv k) 22 (0, 0)) := (hW2.block ga ha1).trans hA1
    have hW := (hW1.trans (hW2.mono hW1.size))
    have ha := Nat.lt_of_lt_of_le ha1 hW2.size
    have hX : Below W0.heap.size W0 W0 := Below.refl _ _
    clear hW1 hW2 hA1 ha1
    go_wp2_with (first | (refine wpList_load_at 22 _ rfl ga rfl rfl _ Try.underlying22 rfl 32 size22 22 _ (0, 0) ((hX.block _ ha).trans hA) HSK.out ?_) | (refine wpList_load_at 22 _ rfl gb rfl rfl _ Try.underlying22 rfl 32 size22 22 _ (0, 0) ((hX.block _ hb).trans hB) HSL.out ?_) | (go_at_call 13; (with_reducible refine (rcommon_any k l _ HK.out HL.out).mono ?_); rintro e X ⟨rfl, hX1⟩; replace hX := hX.trans (hX1.mono hX.size); clear hX1) | (go_at_call 15; (with_reducible refine (rbit_in k (cm k l) _ HK.out hlt).mono ?_); rintro e X ⟨rfl, hX1⟩; replace hX := hX.trans (hX1.mono hX.size); clear hX1))
    go_ret
    exact ⟨by rw [HV.out, HB.out]; rfl, hW.trans (hX.mono hW.size)⟩

set_option maxRecDepth 20000 in
set_option maxHeartbeats 400000 in
theorem under_any (k l : List UInt8) (i : Int) (w : World) (hk : k.length = 32) (hl : l.length = 32) :
    Calls Try.prog 17 #[.agg (bv k), .agg (bv l), .int .i64 i] w fun e w' => e = .returned (.bool (decide (min i 256 ≤ (cm k l : Int)))) ∧ Below w.heap.size w w' := by
  have HK := hid hk
  have HL := hid hl
  have HSK := hid ((bv_size k).trans hk)
  have HSL := hid ((bv_size l).trans hl)
  clear hk hl
  go_enter Try.func17, Try.ntmps17
  repeat (apply wp_seq_k; intro _ _)
  apply wp_region_lit
  refine wpList_box rfl 23 _ rfl (.agg (bv k)) rfl ?_
  intro ga W1 hA1 ha1 _ hW1
  refine wpList_box rfl 23 _ rfl (.agg (bv l)) rfl ?_
  intro gb W0 hB hb _ hW2
  have hA : W0.heap[ga]? = some (.cells (bv k) 23 (0, 0)) := (hW2.block ga ha1).trans hA1
  have hW := (hW1.trans (hW2.mono hW1.size))
  have ha := Nat.lt_of_lt_of_le ha1 hW2.size
  have hX : Below W0.heap.size W0 W0 := Below.refl _ _
  clear hW1 hW2 hA1 ha1
  go_wp2_with (first | (refine wpList_load_at 23 _ rfl ga rfl rfl _ Try.underlying23 rfl 32 size23 23 _ (0, 0) ((hX.block _ ha).trans hA) HSK.out ?_) | (refine wpList_load_at 23 _ rfl gb rfl rfl _ Try.underlying23 rfl 32 size23 23 _ (0, 0) ((hX.block _ hb).trans hB) HSL.out ?_) | (go_at_call 9; (with_reducible refine (common_any k l _ HK.out HL.out).mono ?_); rintro e X ⟨rfl, hX1⟩; replace hX := hX.trans (hX1.mono hX.size); clear hX1))
  go_ret
  exact ⟨rfl, hW.trans (hX.mono hW.size)⟩
def key80 : List UInt8 := 128 :: List.replicate 31 0
def key0 : List UInt8 := List.replicate 32 0
theorem zero23 (W : World) : (zeroValue 23).run Try.prog W = .ok (.agg (bv key0)) W := by kernel_rfl
theorem build80 (w : World) : (Instr.build 23 #[(0, .int .u8 128)]).run Try.prog w = .ok (.agg (bv key80)) w := by kernel_rfl
theorem build0 (w : World) : (Instr.build 23 #[]).run Try.prog w = .ok (.agg (bv key0)) w := by kernel_rfl
theorem cm80 : cm key80 key0 = 0 := by decide +kernel
theorem b800 : bitN key80 0 = 1 := by decide +kernel
theorem b801 : bitN key80 1 = 0 := by decide +kernel
theorem lt80 : ltB key0 key80 = true := by decide +kernel
theorem len80 : key80.length = 32 := rfl
theorem len0 : key0.length = 32 := rfl
theorem bit80_0 (w : World) : Calls Try.prog 14 #[.agg (bv key80), .int .i64 0] w fun e w' => e = .returned (.int .i64 1) ∧ Below w.heap.size w w' := by
  have h := bit_in key80 0 w len80 (by decide)
  rw [b800] at h
  exact h
theorem bit80_1 (w : World) : Calls Try.prog 14 #[.agg (bv key80), .int .i64 1] w fun e w' => e = .returned (.int .i64 0) ∧ Below w.heap.size w w' := by
  have h := bit_in key80 1 w len80 (by decide)
  rw [b801] at h
  exact h
theorem cm80_0 (w : World) : Calls Try.prog 9 #[.agg (bv key80), .agg (bv key0)] w fun e w' => e = .returned (.int .i64 0) ∧ Below w.heap.size w w' := by
  have h := common_any key80 key0 w len80 len0
  rw [cm80] at h
  exact h
theorem lt0_80 (w : World) : Calls Try.prog 11 #[.agg (bv key0), .agg (bv key80)] w fun e w' => e = .returned (.bool true) ∧ Below w.heap.size w w' := by
  have h := less_any key0 key80 w len0 len80
  rw [lt80] at h
  exact h
set_option maxRecDepth 20000 in
set_option maxHeartbeats 400000 in
theorem paths_any (w : World) : Calls Try.prog 10 #[] w fun e w' => e = .returned (.bool true) ∧ Below w.heap.size w w' := by
  have HSK := hid ((bv_size key80).trans len80)
  have HSL := hid ((bv_size key0).trans len0)
  go_enter Try.func10, Try.ntmps10
  repeat (apply wp_seq_k; intro _ _)
  apply wp_region_lit
  go_wp2_with (first | (refine wpList_buildv 23 _ rfl rfl #[(0, .int .u8 128)] ?_ (.agg (bv key80)) build80 ?_; (· simp [Act.eval])) | (refine wpList_alloc 23 rfl rfl (.agg (bv key0)) zero23 ?_; intro ga Wa hA0 ha0 hge hWa) | (refine wpList_store_box 23 _ _ rfl ga rfl rfl (bv key80) rfl 32 size23 HSK.out (bv_one key80) 23 _ hA0 HSL.out ?_; intro W0 hA hT hs; have ha : ga < W0.heap.size := (by rw [hs]; exact ha0); have hX : Below W0.heap.size W0 W0 := Below.refl _ _; have hW : Below w.heap.size w W0 := hWa.trans (hT.below hWa.size (fun i hi => by subst hi; exact hge)); clear hT hs hA0 hWa) | (refine wpList_load_at 23 _ rfl ga rfl rfl _ Try.underlying23 rfl 32 size23 23 _ (0, 0) ((hX.block _ ha).trans hA) HSK.out ?_) | (refine wpList_buildv 23 _ rfl rfl #[] ?_ (.agg (bv key0)) build0 ?_; (· simp [Act.eval])) | (go_at_call 14; (with_reducible refine (bit80_0 _).mono ?_); rintro e X ⟨rfl, hX1⟩; replace hX := hX.trans (hX1.mono hX.size); clear hX1) | (go_at_call 14; (with_reducible refine (bit80_1 _).mono ?_); rintro e X ⟨rfl, hX1⟩; replace hX := hX.trans (hX1.mono hX.size); clear hX1) | (go_at_call 9; (with_reducible refine (cm80_0 _).mono ?_); rintro e X ⟨rfl, hX1⟩; replace hX := hX.trans (hX1.mono hX.size); clear hX1) | (go_at_call 11; (with_reducible refine (lt0_80 _).mono ?_); rintro e X ⟨rfl, hX1⟩; replace hX := hX.trans (hX1.mono hX.size); clear hX1))
  go_ret
  exact ⟨rfl, hW.trans (hX.mono hW.size)⟩
/-- A key with one bit turned. -/
def flipB (k : List UInt8) (n : Nat) : List UInt8 := k.set (n / 8) (UInt8.ofNat ((k.getD (n / 8) 0).toNat ^^^ 128 / 2 ^ (n % 8)))
theorem flip_val (k : List UInt8) (n : Nat) : bits .xor .u8 (bt k (n / 8)) (128 / 2 ^ (n % 8)) = ((UInt8.ofNat ((k.getD (n / 8) 0).toNat ^^^ 128 / 2 ^ (n % 8))).toNat : Int) := by
  have e : ((128 : Int) / 2 ^ (n % 8)) = ((128 / 2 ^ (n % 8) : Nat) : Int) := by
    rw [show ((2 : Int) ^ (n % 8)) = ((2 ^ (n % 8) : Nat) : Int) by simp]
    rfl
  have h1 : 128 / 2 ^ (n % 8) < 256 := Nat.lt_of_le_of_lt (Nat.div_le_self _ _) (by decide)
  rw [e]
  generalize 128 / 2 ^ (n % 8) = v at *
  have h2 : (k.getD (n / 8) 0).toNat ^^^ v < 256 := Nat.xor_lt_two_pow (n := 8) (UInt8.toNat_lt _) h1
  rw [u8_xor _ _ (bt_ge k _) (bt_lt k _) (by omega) (by omega), bt_nat, Int.toNat_natCast, UInt8.toNat_ofNat', Nat.mod_eq_of_lt h2]
theorem flip_len (k : List UInt8) (n : Nat) : (flipB k n).length = k.length := by simp [flipB]
theorem size5 : (Try.prog.info? 5).map (·.size) = some 1 := by kernel_rfl
theorem mask_eq : ∀ p : Fin 8, 128 / 2 ^ p.val = 2 ^ (7 - p.val) := by decide
theorem flip_get (k : List UInt8) (n : Nat) (hk : k.length = 32) (hn : n < 256) (q : Nat) :
    ((flipB k n).getD q 0).toNat = if q = n / 8 then (k.getD q 0).toNat ^^^ 2 ^ (7 - n % 8) else (k.getD q 0).toNat := by
  unfold flipB
  have hm := mask_eq ⟨n % 8, Nat.mod_lt _ (by decide)⟩
  simp only at hm
  rw [hm, List.getD_eq_getElem?_getD, List.getElem?_set]
  have hlt : n / 8 < k.length := by omega
  by_cases h : n / 8 = q
  · subst h
    rw [if_pos rfl, if_pos hlt, if_pos rfl, Option.getD_some, UInt8.toNat_ofNat']
    refine Nat.mod_eq_of_lt (Nat.xor_lt_two_pow (n := 8) (UInt8.toNat_lt _) ?_)
    exact Nat.pow_lt_pow_right (by decide) (by omega)
  · rw [if_neg h, if_neg (Ne.symm h), ← List.getD_eq_getElem?_getD]
theorem flip_bit (k : List UInt8) (n : Nat) (hk : k.length = 32) (hn : n < 256) (i : Nat) : bitN (flipB k n) i = if i = n then 1 - bitN k i else bitN k i := by
  unfold bitN
  rw [flip_get k n hk hn (i / 8)]
  by_cases h : i / 8 = n / 8
  · rw [if_pos h]
    have hx := Nat.testBit_xor (k.getD (i / 8) 0).toNat (2 ^ (7 - n % 8)) (7 - i % 8)
    rw [Nat.testBit_two_pow, Nat.testBit_eq_decide_div_mod_eq, Nat.testBit_eq_decide_div_mod_eq] at hx
    have ha : (k.getD (i / 8) 0).toNat / 2 ^ (7 - i % 8) % 2 < 2 := Nat.mod_lt _ (by decide)
    have hb : ((k.getD (i / 8) 0).toNat ^^^ 2 ^ (7 - n % 8)) / 2 ^ (7 - i % 8) % 2 < 2 := Nat.mod_lt _ (by decide)
    generalize ((k.getD (i / 8) 0).toNat ^^^ 2 ^ (7 - n % 8)) / 2 ^ (7 - i % 8) % 2 = x at *
    generalize (k.getD (i / 8) 0).toNat / 2 ^ (7 - i % 8) % 2 = y at *
    by_cases h2 : i = n
    · subst h2
      simp only [decide_true, if_true] at hx ⊢
      by_cases hy : y = 1
      · simp [hy] at hx; omega
      · simp [hy] at hx; omega
    · rw [if_neg h2]
      have h3 : ¬ (7 - n % 8 = 7 - i % 8) := by omega
      simp only [h3, decide_false, Bool.xor_false, decide_eq_decide] at hx
      omega
  · rw [if_neg h, if_neg (fun e => h (by rw [e]))]
theorem flip_cm (k : List UInt8) (n : Nat) (hk : k.length = 32) (hn : n < 256) : cm (flipB k n) k = n := by
  have : IsCm (flipB k n) k n := ⟨by omega, fun j hj => by rw [flip_bit k n hk hn, if_neg (by omega)], fun _ => by
    rw [flip_bit k n hk hn, if_pos rfl]
    have := bitN_lt k n
    omega⟩
  exact this.eq.symm
theorem flip_flip (k : List UInt8) (n : Nat) (hk : k.length = 32) (hn : n < 256) : flipB (flipB k n) n = k := by
  have h1 : (flipB k n).length = 32 := (flip_len k n).trans hk
  have h2 : (flipB (flipB k n) n).length = 32 := (flip_len _ n).trans h1
  refine cm_256 h2 hk ?_
  have : IsCm (flipB (flipB k n) n) k 256 := ⟨Nat.le_refl _, fun j _ => by
    rw [flip_bit _ n h1 hn, flip_bit k n hk hn]
    by_cases h : j = n
    · rw [if_pos h, if_pos h]
      have := bitN_lt k j
      omega
    · rw [if_neg h, if_neg h], fun h => absurd h (by decide)⟩
  exact this.eq.symm
set_option maxRecDepth 20000 in
set_option maxHeartbeats 400000 in
theorem flip_in (k : List UInt8) (n : Nat) (w : World) (hk : k.length = 32) (hn : n < 256) :
    Calls Try.prog 12 #[.agg (bv k), .int .i64 n] w fun e w' => e = .returned (.agg (bv (flipB k n))) ∧ Below w.heap.size w w' := by
  have HK := hid hk
  have HSK := hid ((bv_size k).trans hk)
  have HSL := hid ((bv_size key0).trans len0)
  clear hk
  go_enter Try.func12, Try.ntmps12
  repeat (apply wp_seq_k; intro _ _)
  apply wp_region_lit
  refine wpList_box rfl 23 _ rfl (.agg (bv k)) rfl ?_
  intro ga W1 hA1 ha1 hga1 hW1
  refine wpList_alloc 23 rfl rfl (.agg (bv key0)) zero23 ?_
  intro gr W0 hR hr hgr hW2
  have hA : W0.heap[ga]? = some (.cells (bv k) 23 (0, 0)) := (hW2.block ga ha1).trans hA1
  have hW := hW1.trans (hW2.mono hW1.size)
  have ha := Nat.lt_of_lt_of_le ha1 hW2.size
  have hne : ga ≠ gr := by omega
  clear hW1 hW2 hA1
  have hX : Below W0.heap.size W0 W0 := Below.refl _ _
  have h2 := cell_of hA (i := n / 8) (by rw [HK.out]; omega)
  go_wp2_with (go_at_call 33; refine (within_in _ _ (by omega) (by omega)).mono ?_; rintro e w' ⟨rfl, rfl⟩)
  have hc : ∀ X, Below W0.heap.size W0 X → X.cell? ⟨ga, n / 8, none⟩ = some (.int .u8 (bt k (n / 8))) := fun X hX => (hX.cell (p := ⟨ga, n / 8, none⟩) ha).trans h2
  clear h2
  refine wp_region_class_tail 9 (fun X => Below W0.heap.size W0 X) (by kernel_rfl) (by kernel_rfl) (Below.drew hX) ?_
  clear hX
  simp only [List.take_succ_cons, List.take_zero, List.drop_succ_cons, List.drop_zero]
  repeat (refine wpQuiet_exK rfl (fun K hK => ?_); apply Exists.intro; refine And.intro (fun X hX => ?_) ?_; (· go_simp; (try go_bits); first | exact rfl | exact ⟨rfl, rfl⟩ | (rw [if_pos (by omega)]; exact ⟨rfl, rfl⟩)); go_simp; refine hK _ ?_; clear hK K)
  refine wpQuiet_nil (fun X hX => ?_)
  refine wpList_store_part 5 _ _ rfl ga (n / 8) rfl rfl (.int .u8 _) rfl 1 size5 rfl (by simp [Value.cells, Value.oneCell']) 23 _ ((hX.block ga ha).trans hA) (by rw [HSK.out]; omega) ?_
  intro X1 hA1 hT1 hs1
  replace hA1 : X1.heap[ga]? = some (.cells (bv (flipB k n)) 23 (0, 0)) := by
    rw [hA1]
    simp only [Value.cells]
    rw [putAt_one _ _ _ (by rw [HSK.out]; omega), flip_val, bv_set]
    rfl
  have hR1 : X1.heap[gr]? = some (.cells (bv key0) 23 (0, 0)) := ((hT1.block gr (Nat.lt_of_lt_of_le hr hX.size) (by omega)).trans (hX.block gr hr)).trans hR
  have HSF := hid ((bv_size (flipB k n)).trans ((flip_len k n).trans HK.out))
  have hB1 : Below w.heap.size w X1 := (hW.trans (hX.mono hW.size)).trans (hT1.below (Nat.le_trans hW.size hX.size) (fun i hi => by subst hi; exact hga1))
  clear hR hA hT1 hX hW hc
  go_wp2_with (first | (refine wpList_load_at 23 _ rfl ga rfl rfl _ Try.underlying23 rfl 32 size23 23 _ (0, 0) hA1 HSF.out ?_) | (refine wpList_store_box 23 _ _ rfl gr rfl rfl (bv (flipB k n)) rfl 32 size23 HSF.out (bv_one _) 23 _ hR1 HSL.out ?_; intro X2 hR2 hT2 hs2))
  refine bodyPost_ret (results_cell_row rfl _ _ gr 23 (bv (flipB k n)) (0, 0) _ rfl hR2 Try.underlying23 rfl (by rw [HSF.out]; exact size23)) rfl ⟨rfl, ?_⟩
  exact hB1.trans (hT2.below hB1.size (fun i hi => by subst hi; omega))
set_option maxRecDepth 20000 in
set_option maxHeartbeats 400000 in
theorem flip_out (k : List UInt8) (i : Int) (w : World) (hk : k.length = 32) (h : i < 0 ∨ 256 ≤ i) :
    Calls Try.prog 12 #[.agg (bv k), .int .i64 i] w fun e w' => e = .returned (.agg (bv k)) ∧ Below w.heap.size w w' := by
  have HSK := hid ((bv_size k).trans hk)
  have HSL := hid ((bv_size key0).trans len0)
  have HO := hid h
  clear hk h
  go_enter Try.func12, Try.ntmps12
  repeat (apply wp_seq_k; intro _ _)
  apply wp_region_lit
  refine wpList_box rfl 23 _ rfl (.agg (bv k)) rfl ?_
  intro ga W1 hA1 ha1 hga1 hW1
  refine wpList_alloc 23 rfl rfl (.agg (bv key0)) zero23 ?_
  intro gr W0 hR hr hgr hW2
  have hA : W0.heap[ga]? = some (.cells (bv k) 23 (0, 0)) := (hW2.block ga ha1).trans hA1
  have hW := hW1.trans (hW2.mono hW1.size)
  have hs := hW1.size
  clear hW1 hW2 hA1
  go_wp2_with (first | (go_at_call 33; refine (within_out _ _ HO.out).mono ?_; rintro e w' ⟨rfl, rfl⟩) | (refine wpList_load_at 23 _ rfl ga rfl rfl _ Try.underlying23 rfl 32 size23 23 _ (0, 0) hA HSK.out ?_) | (refine wpList_store_box 23 _ _ rfl gr rfl rfl (bv k) rfl 32 size23 HSK.out (bv_one _) 23 _ hR HSL.out ?_; intro X2 hR2 hT2 hs2))
  refine bodyPost_ret (results_cell_row rfl _ _ gr 23 (bv k) (0, 0) _ rfl hR2 Try.underlying23 rfl (by rw [HSK.out]; exact size23)) rfl ⟨rfl, ?_⟩
  exact hW.trans (hT2.below hW.size (fun i hi => by subst hi; omega))
end Go.Proofs.Ytnakbdgoaepehaa
