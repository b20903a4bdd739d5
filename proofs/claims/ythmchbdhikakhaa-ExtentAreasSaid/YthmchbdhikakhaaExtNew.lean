/- New, Zero, Clear, Foul of extents. -/
import Derived.Test.YthmchbdhikakhaaExtMem
import Derived.Test.YthmchbdhikakhaaDiskJobsBody
import Derived.Deep.CutBlock
import Derived.Deep.DeepCutAuto
namespace Go.Proofs.Ythmchbdhikakhaa
open Go.RowKit Go.Cu
set_option maxHeartbeats 400000 in
theorem xnew_nil (f c s : Int) (w : World) : Calls Try.prog 30 #[.pointer none, .int .i64 f, .int .i64 c, .int .i64 s] w fun r w' => r = .returned (.tuple #[.pointer none, .int .i64 1]) ∧ w = w' := by
  go_enter Try.func30, Try.ntmps30
  go_wp2
  go_ret2
  exact ⟨rfl, rfl⟩
/-- Are the blocks there? -/
def fine (n f c s : Int) : Prop := 1 ≤ c ∧ 1 ≤ s ∧ 0 ≤ f ∧ c ≤ n ∧ s ≤ n ∧ f ≤ n - c * s
section
variable {W0 W : World} {L : List Atm} {p : Nat} {S : DS} {N : Nat}
set_option maxHeartbeats 1000000 in
theorem xnew_bad (h : St W0 (Disk p S :: L) W) (hok : S.Ok N) {f c s n : Int} (hn : n = S.now.length) (hb : ¬ fine n f c s) :
    Calls Try.prog 30 #[.pointer (some ⟨p, 0, none⟩), .int .i64 f, .int .i64 c, .int .i64 s] W fun r w' => r = .returned (.tuple #[.pointer none, .int .i64 1]) ∧ W = w' := by
  have hbig := hok.big
  have HS := hid (size_st h)
  rw [← hn] at HS
  have hn0 : 0 ≤ n := by omega
  have hn1 : n ≤ 8192 := by omega
  unfold fine at hb
  clear h hok hn hbig
  by_cases g0 : c < 1
  · clear hb
    go_enter Try.func30, Try.ntmps30
    go_wp2_with (go_at_call 29; (with_reducible refine HS.out.mono ?_); rintro x w' ⟨rfl, rfl⟩)
    go_ret2
    exact ⟨rfl, rfl⟩
  by_cases g1 : s < 1
  · clear hb
    go_enter Try.func30, Try.ntmps30
    go_wp2_with (go_at_call 29; (with_reducible refine HS.out.mono ?_); rintro x w' ⟨rfl, rfl⟩)
    go_ret2
    exact ⟨rfl, rfl⟩
  by_cases g2 : f < 0
  · clear hb
    go_enter Try.func30, Try.ntmps30
    go_wp2_with (go_at_call 29; (with_reducible refine HS.out.mono ?_); rintro x w' ⟨rfl, rfl⟩)
    go_ret2
    exact ⟨rfl, rfl⟩
  by_cases g3 : n < c
  · clear hb
    go_enter Try.func30, Try.ntmps30
    go_wp2_with (go_at_call 29; (with_reducible refine HS.out.mono ?_); rintro x w' ⟨rfl, rfl⟩)
    go_ret2
    exact ⟨rfl, rfl⟩
  by_cases g4 : n < s
  · clear hb
    go_enter Try.func30, Try.ntmps30
    go_wp2_with (go_at_call 29; (with_reducible refine HS.out.mono ?_); rintro x w' ⟨rfl, rfl⟩)
    go_ret2
    exact ⟨rfl, rfl⟩
  have hm1 : 0 ≤ c * s := Int.mul_nonneg (by omega) (by omega)
  have hm2 : c * s ≤ 8192 * 8192 := Int.mul_le_mul (by omega) (by omega) (by omega) (by omega)
  obtain ⟨m, hm⟩ : ∃ m, c * s = m := ⟨_, rfl⟩
  have g5 : n - m < f := Decidable.byContradiction fun hc => hb ⟨by omega, by omega, by omega, by omega, by omega, by omega⟩
  rw [hm] at hm1 hm2
  have hm3 : m ≤ 67108864 := hm2
  clear hb hm2
  go_enter Try.func30, Try.ntmps30
  go_wp2_with (go_at_call 29; (with_reducible refine HS.out.mono ?_); rintro x w' ⟨rfl, rfl⟩)
  go_ret2
  exact ⟨rfl, rfl⟩
set_option maxHeartbeats 1000000 in
theorem xnew_ok (h : St W0 (Disk p S :: L) W) {e : Ex} (he : e.Ok S.now.length) {f c s : Int} (hf : f = e.first) (hc : c = e.count) (hs : s = e.size) :
    Calls Try.prog 30 #[.pointer (some ⟨p, 0, none⟩), .int .i64 f, .int .i64 c, .int .i64 s] W fun r w' => ∃ x, r = .returned (.tuple #[.pointer (some ⟨x, 0, none⟩), .int .i64 0]) ∧ St W0 (Blk x (extV p e) 111 :: Disk p S :: L) w' := by
  obtain ⟨n, hn⟩ : ∃ n : Int, n = S.now.length := ⟨_, rfl⟩
  have HS := hid (size_st h)
  rw [← hn] at HS
  have h1 := he.c1
  have h2 := he.s1
  have h3 := he.c2
  have h4 := he.s2
  have h5 := he.fits
  have h6 := he.big
  have hm1 : c * s = (e.count * e.size : Nat) := by rw [hc, hs]; simp
  obtain ⟨m, hm⟩ : ∃ m, c * s = m := ⟨_, rfl⟩
  rw [hm] at hm1
  have g0 : ¬ c < 1 := by omega
  have g1 : ¬ s < 1 := by omega
  have g2 : ¬ f < 0 := by omega
  have g3 : ¬ n < c := by omega
  have g4 : ¬ n < s := by omega
  have g5 : ¬ n - m < f := by omega
  have g6 : n ≤ 8192 := by omega
  have g7 : 0 ≤ m := by omega
  have g8 : m ≤ 8192 := by omega
  have HH := hid h
  have HF := hid hf
  have HC := hid hc
  have HZ := hid hs
  clear h he hf hc hs h1 h2 h3 h4 h5 h6 hm1 hn
  go_enter Try.func30, Try.ntmps30
  go_wp2_with (go_at_call 29; (with_reducible refine HS.out.mono ?_); rintro x w' ⟨rfl, rfl⟩)
  go_ret2
  refine ⟨_, rfl, HH.out.newBlk ((Below.refl _ _).alloc (Nat.le_refl _) _) (Nat.le_refl _) ?_⟩
  rw [show extV p e = #[.pointer (some ⟨p, 0, none⟩), .int .i64 f, .int .i64 c, .int .i64 s] by unfold extV; rw [HF.out, HC.out, HZ.out]]
  exact heap_alloc_at _ _ rfl
end
end Go.Proofs.Ythmchbdhikakhaa
