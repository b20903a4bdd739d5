/- JournalNews: the blocks of a journal must be there; of none nothing is told; a record's count of blocks is told; for all numbers. -/
import Derived.Test.YthmchbdhikakhaaJa4
import Derived.Test.YthmchbdhikakhaaRows
import Derived.ChangeOld
/- JournalNews: the walk. -/
namespace Go.Proofs.Ythmchbdhikakhaa
open Go.RowKit Go.Cu
section
variable {W0 W : World} {L : List Atm}
theorem joppen_zero (n s f : Nat) (h : f + s ≤ n) : ((DS.new n).wipe s f).2 = 0 ∧ ((DS.new n).wipe s f).1.now.length = n ∧ Quiet ((DS.new n).wipe s f).1 ⟨f, s, 0, 0⟩ [] ⟨f, s, 0, 0⟩ := by
  obtain ⟨h1, _, h2, h3⟩ := Zeros.fresh h
  exact ⟨h1, h2, h3⟩
end
set_option maxRecDepth 20000 in
set_option maxHeartbeats 16000000 in
theorem jnews_walk {blocks first size : Int} (hb1 : -9223372036854775808 ≤ first) (hb2 : first ≤ 9223372036854775807) (hb3 : -9223372036854775808 ≤ size) (hb4 : size ≤ 9223372036854775807) (w : World) :
    Calls Try.prog 9 #[.int .i64 blocks, .int .i64 first, .int .i64 size] w fun x w' => x = .returned (.bool true) ∧ Below w.heap.size w w' := by
  obtain ⟨m, ew, hm⟩ := u64_rem blocks 20 (by decide)
  simp only [Int.cast_ofNat_Int] at ew
  have HEW := hid ew
  obtain ⟨n, hn⟩ : ∃ n, n = m + 1 := ⟨_, rfl⟩
  have hn20 : n ≤ 20 := by omega
  have hn1 : 1 ≤ n := by omega
  have hmn : (1 : Int) + (m : Int) = (n : Int) := by omega
  have hlen : (DS.new n).now.length = n := by simp [DS.new]
  have hok : (DS.new n).Ok 0 := DS.Ok.new (by omega)
  have HN := hid (fun X (hX : St w [] X) => new_sti (m := (n : Int)) (n := n) hX rfl hn1 (by omega))
  have HFN := hid (fun X => format_nil 0 1 X)
  have HON := hid (fun X => open_nil 0 1 X)
  have HJS := hid (fun (L : List Atm) X (hX : St w L X) => journals_st hX)
  have HNO := hid (fun X => jnone_ok X)
  have HAN := hid (fun X => append_nil (v := .slice none 0 0) X)
  have HLN := hid (fun X => len_nil X)
  have HRN := hid (fun X => room_nil X)
  have HB := hid (fun s X => blocks_any s X)
  have HRB := hid (fun s X => rblocks_any s X)
  clear hm hn ew
  by_cases hfit : fitsI n first size
  rotate_left
  · have HFB := hid (fun (p : Nat) X (hX : St w [Disk p (DS.new n)] X) => format_bad (f := first) (s := size) (n := n) hX hok (by rw [hlen]) hfit)
    have HOB := hid (fun (p : Nat) X (hX : St w [Disk p (DS.new n)] X) => open_bad (f := first) (s := size) (n := n) hX hok (by rw [hlen]) hfit)
    clear hok hlen
    unfold fitsI at hfit
    by_cases g0 : first < 0
    · clear hfit
      have ew := HEW.out
      go_enter Try.func9, Try.ntmps9
      go_wp2_with (first | (go_at_call 13; (with_reducible refine (HN.out _ (St.start w)).mono ?_); rintro r w1 ⟨p, rfl, hs1⟩; have H1 := hid hs1; clear hs1) | (go_at_call 41; (with_reducible refine (HFB.out _ _ H1.out).mono ?_); rintro r w2 ⟨rfl, rfl⟩) | (go_at_call 42; (with_reducible refine (HOB.out _ _ H1.out).mono ?_); rintro r w3 ⟨rfl, rfl⟩) | (go_at_call 43; (with_reducible refine (HJS.out _ _ H1.out).mono ?_); rintro r w6 ⟨rfl, hs6⟩; have H6 := hid hs6; clear hs6 H1) | (go_at_call 41; (with_reducible refine (HFN.out _).mono ?_); rintro r w4 ⟨rfl, rfl⟩) | (go_at_call 42; (with_reducible refine (HON.out _).mono ?_); rintro r w5 ⟨rfl, rfl⟩) | (go_at_call 44; (with_reducible refine (HNO.out _).mono ?_); rintro r w6 ⟨rfl, rfl⟩) | (go_at_call 45; (with_reducible refine (HAN.out _).mono ?_); rintro r w6 ⟨rfl, rfl⟩) | (go_at_call 46; (with_reducible refine (HLN.out _).mono ?_); rintro r w6 ⟨rfl, rfl⟩) | (go_at_call 47; (with_reducible refine (HRN.out _).mono ?_); rintro r w6 ⟨rfl, rfl⟩) | (go_at_call 48; (with_reducible refine (HB.out _ _).mono ?_); rintro r w6 ⟨rfl, rfl⟩) | (go_at_call 49; (with_reducible refine (HRB.out _ _).mono ?_); rintro r w6 ⟨rfl, rfl⟩))
      go_ret
      exact ⟨rfl, H6.out.below⟩
    by_cases g1 : size < 1
    · clear hfit
      have ew := HEW.out
      go_enter Try.func9, Try.ntmps9
      go_wp2_with (first | (go_at_call 13; (with_reducible refine (HN.out _ (St.start w)).mono ?_); rintro r w1 ⟨p, rfl, hs1⟩; have H1 := hid hs1; clear hs1) | (go_at_call 41; (with_reducible refine (HFB.out _ _ H1.out).mono ?_); rintro r w2 ⟨rfl, rfl⟩) | (go_at_call 42; (with_reducible refine (HOB.out _ _ H1.out).mono ?_); rintro r w3 ⟨rfl, rfl⟩) | (go_at_call 43; (with_reducible refine (HJS.out _ _ H1.out).mono ?_); rintro r w6 ⟨rfl, hs6⟩; have H6 := hid hs6; clear hs6 H1) | (go_at_call 41; (with_reducible refine (HFN.out _).mono ?_); rintro r w4 ⟨rfl, rfl⟩) | (go_at_call 42; (with_reducible refine (HON.out _).mono ?_); rintro r w5 ⟨rfl, rfl⟩) | (go_at_call 44; (with_reducible refine (HNO.out _).mono ?_); rintro r w6 ⟨rfl, rfl⟩) | (go_at_call 45; (with_reducible refine (HAN.out _).mono ?_); rintro r w6 ⟨rfl, rfl⟩) | (go_at_call 46; (with_reducible refine (HLN.out _).mono ?_); rintro r w6 ⟨rfl, rfl⟩) | (go_at_call 47; (with_reducible refine (HRN.out _).mono ?_); rintro r w6 ⟨rfl, rfl⟩) | (go_at_call 48; (with_reducible refine (HB.out _ _).mono ?_); rintro r w6 ⟨rfl, rfl⟩) | (go_at_call 49; (with_reducible refine (HRB.out _ _).mono ?_); rintro r w6 ⟨rfl, rfl⟩))
      go_ret
      exact ⟨rfl, H6.out.below⟩
    by_cases g2 : (n : Int) < size
    · clear hfit
      have ew := HEW.out
      go_enter Try.func9, Try.ntmps9
      go_wp2_with (first | (go_at_call 13; (with_reducible refine (HN.out _ (St.start w)).mono ?_); rintro r w1 ⟨p, rfl, hs1⟩; have H1 := hid hs1; clear hs1) | (go_at_call 41; (with_reducible refine (HFB.out _ _ H1.out).mono ?_); rintro r w2 ⟨rfl, rfl⟩) | (go_at_call 42; (with_reducible refine (HOB.out _ _ H1.out).mono ?_); rintro r w3 ⟨rfl, rfl⟩) | (go_at_call 43; (with_reducible refine (HJS.out _ _ H1.out).mono ?_); rintro r w6 ⟨rfl, hs6⟩; have H6 := hid hs6; clear hs6 H1) | (go_at_call 41; (with_reducible refine (HFN.out _).mono ?_); rintro r w4 ⟨rfl, rfl⟩) | (go_at_call 42; (with_reducible refine (HON.out _).mono ?_); rintro r w5 ⟨rfl, rfl⟩) | (go_at_call 44; (with_reducible refine (HNO.out _).mono ?_); rintro r w6 ⟨rfl, rfl⟩) | (go_at_call 45; (with_reducible refine (HAN.out _).mono ?_); rintro r w6 ⟨rfl, rfl⟩) | (go_at_call 46; (with_reducible refine (HLN.out _).mono ?_); rintro r w6 ⟨rfl, rfl⟩) | (go_at_call 47; (with_reducible refine (HRN.out _).mono ?_); rintro r w6 ⟨rfl, rfl⟩) | (go_at_call 48; (with_reducible refine (HB.out _ _).mono ?_); rintro r w6 ⟨rfl, rfl⟩) | (go_at_call 49; (with_reducible refine (HRB.out _ _).mono ?_); rintro r w6 ⟨rfl, rfl⟩))
      go_ret
      exact ⟨rfl, H6.out.below⟩
    have g3 : (n : Int) - size < first := Decidable.byContradiction fun hc => hfit ⟨by omega, by omega, by omega, by omega⟩
    clear hfit
    have ew := HEW.out
    go_enter Try.func9, Try.ntmps9
    go_wp2_with (first | (go_at_call 13; (with_reducible refine (HN.out _ (St.start w)).mono ?_); rintro r w1 ⟨p, rfl, hs1⟩; have H1 := hid hs1; clear hs1) | (go_at_call 41; (with_reducible refine (HFB.out _ _ H1.out).mono ?_); rintro r w2 ⟨rfl, rfl⟩) | (go_at_call 42; (with_reducible refine (HOB.out _ _ H1.out).mono ?_); rintro r w3 ⟨rfl, rfl⟩) | (go_at_call 43; (with_reducible refine (HJS.out _ _ H1.out).mono ?_); rintro r w6 ⟨rfl, hs6⟩; have H6 := hid hs6; clear hs6 H1) | (go_at_call 41; (with_reducible refine (HFN.out _).mono ?_); rintro r w4 ⟨rfl, rfl⟩) | (go_at_call 42; (with_reducible refine (HON.out _).mono ?_); rintro r w5 ⟨rfl, rfl⟩) | (go_at_call 44; (with_reducible refine (HNO.out _).mono ?_); rintro r w6 ⟨rfl, rfl⟩) | (go_at_call 45; (with_reducible refine (HAN.out _).mono ?_); rintro r w6 ⟨rfl, rfl⟩) | (go_at_call 46; (with_reducible refine (HLN.out _).mono ?_); rintro r w6 ⟨rfl, rfl⟩) | (go_at_call 47; (with_reducible refine (HRN.out _).mono ?_); rintro r w6 ⟨rfl, rfl⟩) | (go_at_call 48; (with_reducible refine (HB.out _ _).mono ?_); rintro r w6 ⟨rfl, rfl⟩) | (go_at_call 49; (with_reducible refine (HRB.out _ _).mono ?_); rintro r w6 ⟨rfl, rfl⟩))
    go_ret
    exact ⟨rfl, H6.out.below⟩
  · obtain ⟨f0, f1, f2, f3⟩ := hfit
    obtain ⟨f, rfl⟩ := Int.eq_ofNat_of_zero_le f0
    obtain ⟨s, rfl⟩ := Int.eq_ofNat_of_zero_le (show 0 ≤ size by omega)
    obtain ⟨q1, q2, q3⟩ := joppen_zero n s f (by omega)
    have hok2 := wipe_ok' s f hok
    obtain ⟨S, hS⟩ : ∃ S, S = ((DS.new n).wipe s f).1 := ⟨_, rfl⟩
    have HFG := hid (show ∀ (p : Nat) X, St w [Disk p (DS.new n)] X → Calls Try.prog 41 #[.pointer (some ⟨p, 0, none⟩), .int .i64 f, .int .i64 s] X fun r w' => r = .returned (.int .i64 0) ∧ St w [Disk p S] w' from fun p X hX => by
      have := format_ok (first := f) (size := s) hX hok (by omega) (by rw [hlen]; omega) (by omega)
      rw [q1, ← hS] at this
      exact this)
    rw [← hS] at q2 q3 hok2
    have HOG := hid (show ∀ (p : Nat) X, St w [Disk p S] X → Calls Try.prog 42 #[.pointer (some ⟨p, 0, none⟩), .int .i64 f, .int .i64 s] X fun r w' => ∃ (j : Nat) (A : Option Addr) (c : Nat), r = .returned (.tuple #[.pointer (some ⟨j, 0, none⟩), .slice A 0 c, .int .i64 0]) ∧ St w [Blk j (jourV p ⟨f, s, 0, 0⟩) 114] w' from fun p X hX => by
      refine (open_st (first := f) (size := s) hX hok2 q3.on (by omega) (by rw [q2]; omega) (q3.read (Nat.le_refl _))).mono ?_
      rintro r w' ⟨j, A, c, xs, hr, hs⟩
      exact ⟨j, A, c, hr, hs.drop.drop.drop⟩)
    have HLG := hid (fun (p j : Nat) X (hX : St w [Blk j (jourV p ⟨f, s, 0, 0⟩) 114] X) => show Calls Try.prog 46 #[.pointer (some ⟨j, 0, none⟩)] X fun r w' => r = .returned (.int .i64 0) ∧ X = w' from len_st hX)
    have HRG := hid (fun (p j : Nat) X (hX : St w [Blk j (jourV p ⟨f, s, 0, 0⟩) 114] X) => show Calls Try.prog 47 #[.pointer (some ⟨j, 0, none⟩)] X fun r w' => r = .returned (.int .i64 s) ∧ St w [Blk j (jourV p ⟨f, s, 0, 0⟩) 114] w' from room_st (m := s) hX (Nat.zero_le _) (by show s ≤ 8192; omega) rfl)
    have g0 : ¬ (f : Int) < 0 := by omega
    have g1 : ¬ (s : Int) < 1 := by omega
    have g2 : ¬ (n : Int) < (s : Int) := by omega
    have g3 : ¬ (n : Int) - (s : Int) < (f : Int) := by omega
    have ew := HEW.out
    clear hok hlen q1 q2 q3 hok2 hS f0 f1 f2 f3
    go_enter Try.func9, Try.ntmps9
    go_wp2_with (first | (go_at_call 13; (with_reducible refine (HN.out _ (St.start w)).mono ?_); rintro r w1 ⟨p, rfl, hs1⟩; have H1 := hid hs1; clear hs1) | (go_at_call 41; (with_reducible refine (HFG.out _ _ H1.out).mono ?_); rintro r w2 ⟨rfl, hs2⟩; have H2 := hid hs2; clear hs2) | (go_at_call 42; (with_reducible refine (HOG.out _ _ H2.out).mono ?_); rintro r w3 ⟨j, A, c, rfl, hs3⟩; have H3 := hid hs3; clear hs3) | (go_at_call 43; (with_reducible refine (HJS.out _ _ H3.out).mono ?_); rintro r w6 ⟨rfl, hs6⟩; have H6 := hid hs6; clear hs6) | (go_at_call 47; (with_reducible refine (HRG.out _ _ _ H6.out).mono ?_); rintro r w7 ⟨rfl, hs7⟩; have H7 := hid hs7; clear hs7) | (go_at_call 46; (with_reducible refine (HLG.out _ _ _ H7.out).mono ?_); rintro r w8 ⟨rfl, rfl⟩) | (go_at_call 41; (with_reducible refine (HFN.out _).mono ?_); rintro r w4 ⟨rfl, rfl⟩) | (go_at_call 42; (with_reducible refine (HON.out _).mono ?_); rintro r w5 ⟨rfl, rfl⟩) | (go_at_call 44; (with_reducible refine (HNO.out _).mono ?_); rintro r w6 ⟨rfl, rfl⟩) | (go_at_call 45; (with_reducible refine (HAN.out _).mono ?_); rintro r w6 ⟨rfl, rfl⟩) | (go_at_call 46; (with_reducible refine (HLN.out _).mono ?_); rintro r w6 ⟨rfl, rfl⟩) | (go_at_call 47; (with_reducible refine (HRN.out _).mono ?_); rintro r w6 ⟨rfl, rfl⟩) | (go_at_call 48; (with_reducible refine (HB.out _ _).mono ?_); rintro r w6 ⟨rfl, rfl⟩) | (go_at_call 49; (with_reducible refine (HRB.out _ _).mono ?_); rintro r w6 ⟨rfl, rfl⟩))
    go_ret
    exact ⟨rfl, H7.out.below⟩
end Go.Proofs.Ythmchbdhikakhaa
/- JournalNews: the blocks of a journal must be there; of none nothing is told; a record's count of blocks is told; for all numbers. -/
namespace Go.Proofs.Ythmchbdhikakhaa
open Go.ChangeShapes Go.WideShapes Go.ChangeAt Go.RowKit Go.Cu
theorem own : ownKnob Try.prog.godebug = none := by kernel_rfl
theorem laidOut : laidOutB Try.prog = true := by kernel_rfl
set_option maxRecDepth 100000 in
theorem journalNews_lifted (os : Os) (started : os.Started) (H : Type) (enc : TypeId × Value → H) :
    ReturnsInHanded {} Try.checked os 9 .any (Rows.journalNewsSpec.pre6 enc Try.prog Try.f9 Rows.journalNewsRow.domain false) (Rows.journalNewsSpec.post enc Try.prog Try.f9 false true false false) := by
  refine returnsInHanded_of_change (C := Try.checked) own started (by kernel_rfl) Try.func9
    (ChangeSpec.witness6 (enc := enc) (C := Try.checked) false ⟨#[], #[.int .i64 0, .int .i64 0, .int .i64 0], []⟩ 8 (by kernel_rfl) (by kernel_rfl) (by kernel_rfl) (by kernel_rfl)) ?_
  intro W base args ds gs before hval0 hW _ _
  have hval : ∀ (j : Nat) t v, Try.f9.params[j]? = some t → args[j]? = some v → Value.okWide Try.prog W .any base t v := hval0
  have hW' := hW
  obtain ⟨p, q, hA0, hV, rfl, hfz, hnd⟩ := hW
  have hA : DataW.TrodAll enc Try.prog W 0 (fun _ => true) true Try.f9.params.toList args.toList ds p := hA0
  rw [Try.params9] at hA hval
  obtain ⟨v0, vs0, d0, ds0, p0, q0, hargs, rfl, rfl, h0, r0⟩ := trodAll_cons hA
  obtain ⟨v1, vs1, d1, ds1, p1, q1, rfl, rfl, rfl, h1, r1⟩ := trodAll_cons r0
  obtain ⟨v2, vs2, d2, ds2, p2, q2, rfl, rfl, rfl, h2, r2⟩ := trodAll_cons r1
  obtain ⟨rfl, rfl, rfl⟩ := trodAll_nil r2
  obtain rfl : args = #[v0, v1, v2] := by cases args; simp_all
  obtain ⟨rfl, rfl⟩ := trodVars_none hV
  have k0 := h0
  have lt0 : ∀ x ∈ p0, x.block < W.heap.size := by obtain ⟨m, hm⟩ := k0; exact DataW.trod_lt m _ _ _ hm
  have k1 := h1
  have lt1 : ∀ x ∈ p1, x.block < W.heap.size := by obtain ⟨m, hm⟩ := k1; exact DataW.trod_lt m _ _ _ hm
  have k2 := h2
  have lt2 : ∀ x ∈ p2, x.block < W.heap.size := by obtain ⟨m, hm⟩ := k2; exact DataW.trod_lt m _ _ _ hm
  obtain ⟨a0, rfl, rfl, rfl, w0⟩ := open_int Try.underlying3 (hval 0 3 v0 rfl rfl) h0
  obtain ⟨a1, rfl, rfl, rfl, w1⟩ := open_int Try.underlying3 (hval 1 3 v1 rfl rfl) h1
  obtain ⟨a2, rfl, rfl, rfl, w2⟩ := open_int Try.underlying3 (hval 2 3 v2 rfl rfl) h2
  clear hA0 hval0
  refine (jnews_walk (bounds_i64 w1).1 (bounds_i64 w1).2 (bounds_i64 w2).1 (bounds_i64 w2).2 W).mono fun e W' ⟨he, bel⟩ => ?_
  subst he
  exact ⟨_, rfl, _, _, _, [], _, [], hW', trodAll_mk1 (shut_bool Try.underlying4 _), (trodAll_cons_mk (Below.trod laidOut (by kernel_rfl) (of_decide_eq_true (by kernel_rfl)) k0 bel lt0) (trodAll_cons_mk (Below.trod laidOut (by kernel_rfl) (of_decide_eq_true (by kernel_rfl)) k1 bel lt1) (trodAll_cons_mk (Below.trod laidOut (by kernel_rfl) (of_decide_eq_true (by kernel_rfl)) k2 bel lt2) trodAll_mk0))), rfl, bel.frame _, fun h => by cases h⟩

theorem journalNews_holds : Rows.JournalNewsSaid :=
  OpenClaim.holds_of_wide 9 Try.f9 rfl rfl rfl rfl rfl rfl rfl ⟨rfl, rfl, rfl, rfl, rfl⟩ rfl rfl rfl rfl rfl (by kernel_rfl) Try.func9 (by kernel_rfl)
    (of_decide_eq_true (by kernel_rfl)) (by unfold Func.isWrapper; first | (rw [if_pos (by decide +kernel)]; kernel_rfl) | (rw [if_neg (by decide +kernel)]; exact ⟨rfl, rfl⟩))
    (fun os started H enc _ => journalNews_lifted os started H enc)

end Go.Proofs.Ythmchbdhikakhaa
