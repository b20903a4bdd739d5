/- ExtentAreas: the walk. -/
import Derived.Test.YthmchbdhikakhaaExtFoul
namespace Go.Proofs.Ythmchbdhikakhaa
open Go.RowKit Go.Cu
theorem of_at {e : Ex} {n : Nat} (_he : e.Ok n) {i k : Nat} (hi : i < e.count) (hk : k < e.size) {b : Int} (hb : (e.first + i * e.size + k : Nat) = b) : e.of b = i := by
  have h1 : (i + 1) * e.size ≤ e.count * e.size := Nat.mul_le_mul_right _ hi
  rw [Nat.succ_mul] at h1
  unfold Ex.of
  rw [if_neg (by omega)]
  have h2 : b - (e.first : Int) = ((i * e.size + k : Nat) : Int) := by omega
  rw [h2, ← Int.natCast_ediv]
  congr 1
  rw [Nat.mul_comm, Nat.mul_add_div (by omega), Nat.div_eq_of_lt hk, Nat.add_zero]
theorem of_none {e : Ex} {n : Nat} (he : e.Ok n) {b : Int} (h : ∀ i, i < e.count → ∀ k, k < e.size → ((e.first + i * e.size + k : Nat) : Int) ≠ b) : e.of b = -1 := by
  unfold Ex.of
  by_cases hin : b < e.first ∨ (e.first : Int) + (e.count * e.size : Nat) ≤ b
  · rw [if_pos hin]
  · exfalso
    have hs := he.s1
    obtain ⟨d, hd⟩ : ∃ d : Nat, (d : Int) = b - e.first := ⟨(b - e.first).toNat, by omega⟩
    have hlt : d < e.count * e.size := by omega
    refine h (d / e.size) ((Nat.div_lt_iff_lt_mul (by omega)).2 hlt) (d % e.size) (Nat.mod_lt _ (by omega)) ?_
    have := Nat.div_add_mod d e.size
    rw [Nat.mul_comm] at this
    omega
set_option maxHeartbeats 2000000 in
theorem rof_any {e : Ex} {n : Nat} (he : e.Ok n) (b : Int) (w : World) : Calls Try.prog 40 #[.int .i64 e.first, .int .i64 e.count, .int .i64 e.size, .int .i64 b] w fun r w' => r = .returned (.int .i64 (e.of b)) ∧ w = w' := by
  have HE := hid he
  have h1 := he.c2
  have h2 := he.s2
  have h3 := he.big
  obtain ⟨R, hR⟩ : ∃ R, R = e.of b := ⟨_, rfl⟩
  rw [← hR]
  have HR := hid hR
  clear he hR
  go_enter Try.func40, Try.ntmps40
  go_wp2_with fail
  go_loop [9] (fun v => ∃ i : Nat, i ≤ e.count ∧ v = .int .i64 i ∧ Hid (∀ i', i' < i → ∀ k, k < e.size → ((e.first + i' * e.size + k : Nat) : Int) ≠ b)) (fun v => e.count - (intOf v).toNat)
  case atStart => exact ⟨0, by omega, rfl, hid (fun i' hi => absurd hi (by omega))⟩
  case round =>
    obtain ⟨i, hi, rfl, HI⟩ := hrel
    by_cases hlt : i < e.count
    · have e1 : (i : Int) < (e.count : Int) := by omega
      have hin := HE.out.within hlt
      obtain ⟨m, hm⟩ : ∃ m : Nat, m = i * e.size := ⟨_, rfl⟩
      have em : (i : Int) * (e.size : Int) = (m : Int) := by rw [hm]; simp
      have HM := hid hm
      rw [← hm] at hin
      clear hm
      go_wp2_with fail
      go_loop [10] (fun v => ∃ k : Nat, k ≤ e.size ∧ v = .int .i64 k ∧ Hid (∀ k', k' < k → ((e.first + i * e.size + k' : Nat) : Int) ≠ b)) (fun v => e.size - (intOf v).toNat)
      case atStart => exact ⟨0, by omega, rfl, hid (fun i' hi => absurd hi (by omega))⟩
      case round =>
        obtain ⟨k, hk, rfl, HKK⟩ := hrel
        by_cases hlk : k < e.size
        · have e2 : (k : Int) < (e.size : Int) := by omega
          by_cases hb : ((e.first + m + k : Nat) : Int) = b
          · have HRR := hid (show R = i by rw [HR.out]; exact of_at HE.out hlt hlk (by rw [← HM.out]; exact hb))
            have e3 : ((e.first : Int) + (m : Int) + (k : Int) == b) = true := by rw [beq_iff_eq]; omega
            clear hb
            go_wp2_with fail
            go_ret
            rw [HRR.out]
            exact ⟨rfl, rfl⟩
          · have e3 : ((e.first : Int) + (m : Int) + (k : Int) == b) = false := by rw [beq_eq_false_iff_ne]; omega
            have HKN := hid (show ∀ k', k' < k + 1 → ((e.first + i * e.size + k' : Nat) : Int) ≠ b from fun k' hk' => by
              by_cases h : k' < k
              · exact HKK.out k' h
              · have : k' = k := by omega
                rw [this, ← HM.out]; exact hb)
            clear hb
            go_wp2_with fail
            go_round
            case rel => exact ⟨k + 1, by omega, by go_num, HKN⟩
            case measure => simp [intOf]; omega
        · have e2 : ¬ (k : Int) < (e.size : Int) := by omega
          have HIN := hid (show ∀ i', i' < i + 1 → ∀ k, k < e.size → ((e.first + i' * e.size + k : Nat) : Int) ≠ b from fun i' hi' k' hk' => by
            by_cases h : i' < i
            · exact HI.out i' h k' hk'
            · have : i' = i := by omega
              subst this; exact HKK.out k' (by omega))
          go_wp2_with fail
          go_round
          case rel => exact ⟨i + 1, by omega, by go_num, HIN⟩
          case measure => simp [intOf]; omega
    · have e1 : ¬ (i : Int) < (e.count : Int) := by omega
      have HRR := hid (show R = -1 by rw [HR.out]; exact of_none HE.out (fun i' hi' => HI.out i' (by omega)))
      go_wp2_with fail
      go_ret
      rw [HRR.out]
      exact ⟨rfl, rfl⟩
set_option maxHeartbeats 1000000 in
theorem rfine_bad {f c s n : Int} (hn0 : 0 ≤ n) (hn1 : n ≤ 8192) (hb : ¬ fine n f c s) (w : World) :
    Calls Try.prog 39 #[.int .i64 n, .int .i64 f, .int .i64 c, .int .i64 s] w fun r w' => r = .returned (.bool false) ∧ w = w' := by
  unfold fine at hb
  by_cases g0 : c < 1
  · clear hb
    go_enter Try.func39, Try.ntmps39
    go_wp2
    go_ret
    exact ⟨rfl, rfl⟩
  by_cases g1 : s < 1
  · clear hb
    go_enter Try.func39, Try.ntmps39
    go_wp2
    go_ret
    exact ⟨rfl, rfl⟩
  by_cases g2 : f < 0
  · clear hb
    go_enter Try.func39, Try.ntmps39
    go_wp2
    go_ret
    exact ⟨rfl, rfl⟩
  by_cases g3 : n < c
  · clear hb
    go_enter Try.func39, Try.ntmps39
    go_wp2
    go_ret
    exact ⟨rfl, rfl⟩
  by_cases g4 : n < s
  · clear hb
    go_enter Try.func39, Try.ntmps39
    go_wp2
    go_ret
    exact ⟨rfl, rfl⟩
  have hm1 : 0 ≤ c * s := Int.mul_nonneg (by omega) (by omega)
  have hm2 : c * s ≤ 8192 * 8192 := Int.mul_le_mul (by omega) (by omega) (by omega) (by omega)
  obtain ⟨m, hm⟩ : ∃ m, c * s = m := ⟨_, rfl⟩
  have g5 : ¬ f ≤ n - m := fun hc => hb ⟨by omega, by omega, by omega, by omega, by omega, by omega⟩
  rw [hm] at hm1 hm2
  have hm3 : m ≤ 67108864 := hm2
  clear hb hm2
  go_enter Try.func39, Try.ntmps39
  go_wp2
  go_ret
  exact ⟨rfl, rfl⟩
set_option maxHeartbeats 1000000 in
theorem rfine_ok {f c s n : Int} (hn0 : 0 ≤ n) (hn1 : n ≤ 8192) (hb : fine n f c s) (w : World) :
    Calls Try.prog 39 #[.int .i64 n, .int .i64 f, .int .i64 c, .int .i64 s] w fun r w' => r = .returned (.bool true) ∧ w = w' := by
  obtain ⟨g0, g1, g2, g3, g4, g5⟩ := hb
  have hm1 : 0 ≤ c * s := Int.mul_nonneg (by omega) (by omega)
  have hm2 : c * s ≤ 8192 * 8192 := Int.mul_le_mul (by omega) (by omega) (by omega) (by omega)
  obtain ⟨m, hm⟩ : ∃ m, c * s = m := ⟨_, rfl⟩
  rw [hm] at hm1 hm2 g5
  have hm3 : m ≤ 67108864 := hm2
  have k0 : ¬ c < 1 := by omega
  have k1 : ¬ s < 1 := by omega
  have k2 : ¬ f < 0 := by omega
  have k3 : ¬ n < c := by omega
  have k4 : ¬ n < s := by omega
  clear hm2
  go_enter Try.func39, Try.ntmps39
  go_wp2
  go_ret
  exact ⟨rfl, rfl⟩
end Go.Proofs.Ythmchbdhikakhaa
