/- Does the one that wasn't used go? And no cache. -/
import Derived.Test.YtnakbdgoaepehaaCacheNew
namespace Go.Proofs.Ytnakbdgoaepehaa
open Go.RowKit Go.Cu
theorem cnone_ok (w : World) : Calls Try.prog 22 #[] w fun r w' => r = .returned (.pointer none) ∧ w = w' := by
  go_enter Try.func22, Try.ntmps22
  go_wp2
  go_ret
  exact ⟨rfl, rfl⟩
/-- The part of the small try, step by step. -/
def q1 : Pt := p0.put 2 [97] [49]
def q2 : Pt := q1.put 2 [98] [50]
def q3 : Pt := (q2.get [97]).2
def q4 : Pt := q3.put 2 [99] [51]
theorem short_small {k : Str} (h : k.length ≤ 1) : k.length ≤ maxLen := Nat.le_trans h (by decide)
section
variable {W0 W : World} {L : List Atm}
set_option maxRecDepth 20000 in
set_option maxHeartbeats 8000000 in
theorem caches_st (h : St W0 L W) : Calls Try.prog 19 #[] W fun r w' => r = .returned (.bool true) ∧ St W0 L w' := by
  have HH := hid h
  have HN := hid (show Calls Try.prog 18 #[.int .i64 1, .int .i64 2] W fun r w' => ∃ g, r = .returned (.tuple #[ptrV g, .int .i64 0]) ∧ St W0 (CacheA 0 g 2 [p0] :: L) w' from cnew_st (m := 1) (s := 2) h (by decide) (by decide) (by decide) (by decide))
  have o1 : q1.Ok 2 := (p0_ok 2).put _ _
  have s1 : Short q1 := p0_short.put (short_small (by decide)) (short_small (by decide))
  have o2 : q2.Ok 2 := o1.put _ _
  have s2 : Short q2 := s1.put (short_small (by decide)) (short_small (by decide))
  have o3 : q3.Ok 2 := o2.get _
  have s3 : Short q3 := s2.get _
  have HP1 := hid (fun X g (hX : St W0 (CacheA 0 g 2 [p0] :: L) X) => show Calls Try.prog 20 #[ptrV g, .int .i64 0, .string { data := #[97] }, .string { data := #[49] }] X fun r w' => r = .returned (.int .i64 0) ∧ St W0 (CacheA 1 g 2 [q1] :: L) w' from cput_st (i := 0) (k := [97]) (x := [49]) hX (by decide) (p0_ok 2) p0_short (by decide) (by decide) (short_small (by decide)) (short_small (by decide)))
  have HP2 := hid (fun X g (hX : St W0 (CacheA 1 g 2 [q1] :: L) X) => show Calls Try.prog 20 #[ptrV g, .int .i64 0, .string { data := #[98] }, .string { data := #[50] }] X fun r w' => r = .returned (.int .i64 0) ∧ St W0 (CacheA 2 g 2 [q2] :: L) w' from cput_st (i := 0) (k := [98]) (x := [50]) hX (by decide) o1 s1 (by decide) (by decide) (short_small (by decide)) (short_small (by decide)))
  have HG := hid (fun X g (hX : St W0 (CacheA 2 g 2 [q2] :: L) X) => show Calls Try.prog 23 #[ptrV g, .int .i64 0, .string { data := #[97] }] X fun r w' => r = .returned (.tuple #[.string { data := #[49] }, .bool true]) ∧ St W0 (CacheA 2 g 2 [q3] :: L) w' from cget_st (i := 0) (k := [97]) hX (by decide) o2 (by decide) (by decide) (short_small (by decide)))
  have HP3 := hid (fun X g (hX : St W0 (CacheA 2 g 2 [q3] :: L) X) => show Calls Try.prog 20 #[ptrV g, .int .i64 0, .string { data := #[99] }, .string { data := #[51] }] X fun r w' => r = .returned (.int .i64 0) ∧ St W0 (CacheA 3 g 2 [q4] :: L) w' from cput_st (i := 0) (k := [99]) (x := [51]) hX (by decide) o3 s3 (by decide) (by decide) (short_small (by decide)) (short_small (by decide)))
  have HNM := hid (fun X g (hX : St W0 (CacheA 3 g 2 [q4] :: L) X) => show Calls Try.prog 21 #[ptrV g, .int .i64 0] X fun r w' => ∃ B d, r = .returned (.slice B 2 d) ∧ St W0 (Row (.slice B 2 d) 9 1 2 [.string { data := #[99] }, .string { data := #[97] }] :: CacheA 3 g 2 [q4] :: L) w' from cnames_st (i := 0) hX (by decide) (by decide))
  clear h o1 s1 o2 s2 o3 s3
  go_enter Try.func19, Try.ntmps19
  go_upto_region 9 with (first | (go_at_call 18; (with_reducible refine HN.out.mono ?_); rintro r w1 ⟨g, rfl, hs1⟩; have H1 := hid hs1; clear hs1) | (go_at_call 20; first | ((with_reducible refine (HP3.out _ _ H4.out).mono ?_); rintro r w5 ⟨rfl, hs⟩; have H5 := hid hs; clear hs) | ((with_reducible refine (HP2.out _ _ H2.out).mono ?_); rintro r w3 ⟨rfl, hs⟩; have H3 := hid hs; clear hs) | ((with_reducible refine (HP1.out _ _ H1.out).mono ?_); rintro r w2 ⟨rfl, hs⟩; have H2 := hid hs; clear hs)) | (go_at_call 23; (with_reducible refine (HG.out _ _ H3.out).mono ?_); rintro r w4 ⟨rfl, hs⟩; have H4 := hid hs; clear hs) | (go_at_call 21; (with_reducible refine (HNM.out _ _ H5.out).mono ?_); rintro r w6 ⟨B, d, rfl, hs⟩; have H6 := hid hs; clear hs))
  obtain ⟨gB, rfl, y0⟩ := row_at (i := 0) H6.out rfl rfl
  obtain ⟨gB', e1, y1⟩ := row_at (i := 1) H6.out rfl rfl
  cases e1
  go_wp2_with fail
  go_ret
  exact ⟨rfl, H6.out.drop.drop⟩
end
end Go.Proofs.Ytnakbdgoaepehaa
