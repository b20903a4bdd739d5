/- Sync. -/
import Derived.Test.YthmchbdhikakhaaDiskSettle
namespace Go.Proofs.Ythmchbdhikakhaa
open Go.RowKit Go.Cu

set_option maxHeartbeats 400000 in
theorem sync_nil (w : World) : Calls Try.prog 16 #[.pointer none] w fun e w' => e = .returned (.int .i64 1) ∧ w = w' := by
  go_enter Try.func16, Try.ntmps16
  go_wp2_with (go_at_call 58; refine (may_nil _).mono ?_; rintro e w' ⟨rfl, rfl⟩)
  go_ret
  exact ⟨rfl, rfl⟩
set_option maxHeartbeats 400000 in
theorem sync_ok {p : Nat} {F : Nat → Prop} {S : DS} {w : World} {N : Nat} (h : DiskIn w p F S) (hok : S.Ok N) (hN : N ≤ 1000000) :
    Calls Try.prog 16 #[.pointer (some ⟨p, 0, none⟩)] w fun x w' => x = .returned (.int .i64 S.sync.2) ∧ DiskIn w' p F S.sync.1 ∧ Tch F w w' := by
  have hm := hid (may_any h)
  have hs := hid (settle_sync h hok hN)
  cases ho : S.off
  · have hmay : S.may = 0 := by simp [DS.may, ho]
    rw [hmay] at hm
    have HE := hid (show S.sync = (S.settle fun _ => true, 0) by simp [DS.sync, ho])
    clear hmay ho h hok hN
    go_enter Try.func16, Try.ntmps16
    go_wp2_with (first | (go_at_call 58; refine hm.out.mono ?_; rintro e w' ⟨rfl, rfl⟩) | (go_at_call 59; refine hs.out.mono ?_; rintro e w1 ⟨rfl, hd, ht⟩; have HD := hid hd; have HT := hid ht; clear hd ht))
    go_ret
    rw [HE.out]
    exact ⟨rfl, HD.out, HT.out⟩
  · have hmay : S.may = 13 := by simp [DS.may, ho]
    rw [hmay] at hm
    have HE := hid (show S.sync = (S, 13) by simp [DS.sync, ho])
    have HD := hid h
    clear hmay ho h hok hN hs
    go_enter Try.func16, Try.ntmps16
    go_wp2_with (go_at_call 58; refine hm.out.mono ?_; rintro e w' ⟨rfl, rfl⟩)
    go_ret
    rw [HE.out]
    exact ⟨rfl, HD.out, Tch.refl _ _⟩
end Go.Proofs.Ythmchbdhikakhaa
