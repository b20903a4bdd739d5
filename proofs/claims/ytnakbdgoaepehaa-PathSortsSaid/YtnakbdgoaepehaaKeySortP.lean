/- Both sorts of keys, walked. -/
import Derived.Test.YtnakbdgoaepehaaKeySorted
namespace Go.Proofs.Ytnakbdgoaepehaa
open Go.RowKit Go.Cu
theorem all32_of {ks ms : Ks} (ha : All32 ks) (h : ∀ x, x ∈ ms ↔ x ∈ ks) : All32 ms := fun x hx => ha x ((h x).1 hx)
section
variable {W0 W : World} {L : List Atm} {A : Option Addr} {n c : Nat} {ks : Ks}
set_option maxRecDepth 20000 in
set_option maxHeartbeats 4000000 in
theorem psort_st (h : St W0 (Row (.slice A n c) 23 32 n (keysL ks) :: L) W) (hl : ks.length = n) (ha : All32 ks) (hn : n ≤ 1000) :
    Calls Try.prog 29 #[.slice A n c] W fun r w' => ∃ B m d, r = .returned (.slice B m d) ∧ m = (insAll ks).length ∧ St W0 (Row (.slice B m d) 23 32 m (keysL (insAll ks)) :: Row (.slice A n c) 23 32 n (keysL ks) :: L) w' := by
  have HH := hid h
  have HL := hid hl
  have HA := hid ha
  clear h hl ha
  go_enter Try.func29, Try.ntmps29
  go_wp2_with (first | (go_at_call 40; (with_reducible refine (kclone_st HH.out hn).mono ?_); rintro r w1 ⟨B, d, rfl, hs1⟩; have H1 := hid hs1; clear hs1) | (go_at_call 41; (with_reducible refine (ksort_st H1.out HL.out HA.out hn).mono ?_); rintro r w2 ⟨rfl, ms, hml, hwk, hmm, hs2⟩; have H2 := hid hs2; have HM := hid (And.intro hml (And.intro hwk hmm)); have HM3 := hid (all32_of HA.out hmm); clear hs2 hml hwk hmm) | (go_at_call 42; (with_reducible refine (kcompact_st H2.out HM.out.1 HM3.out hn).mono ?_); rintro r w3 ⟨B2, d2, rfl, hs3⟩; have H3 := hid hs3; clear hs3))
  have HE := hid (sorts_same HA.out HM.out.2.1 HM.out.2.2)
  go_ret
  refine ⟨B2, _, d2, rfl, congrArg List.length HE.out, ?_⟩
  rw [← HE.out]
  exact H3.out
end
end Go.Proofs.Ytnakbdgoaepehaa
