/- PathThree: of three keys two of the counts of bits that they begin with alike are the same, and the third is not less; for every three keys. -/
import Derived.Test.YtnakbdgoaepehaaRows
import Derived.Test.YtnakbdgoaepehaaThree
import Derived.Test.YtnakbdgoaepehaaOpen
import Derived.ChangeOld
namespace Go.Proofs.Ytnakbdgoaepehaa
open Go.ChangeShapes Go.WideShapes Go.ChangeAt Go.RowKit Go.Cu

theorem own : ownKnob Try.prog.godebug = none := by kernel_rfl
theorem laidOut : laidOutB Try.prog = true := by kernel_rfl

theorem three_walk (a b c : List UInt8) (w : World) (hka : a.length = 32) (hkb : b.length = 32) (hkc : c.length = 32) :
    Calls Try.prog 3 #[.agg (bv a), .agg (bv b), .agg (bv c)] w fun e w' => e = .returned (.bool true) ∧ Below w.heap.size w w' := by
  have t1 := cm_three a b c
  have t2 := cm_three b a c
  have t3 := cm_three a c b
  rw [cm_symm b a] at t2
  rw [cm_symm c b] at t3
  refine three_core a b c _ _ _ _ _ _ w hka hkb hkc (hid rfl) (hid rfl) (hid rfl) (hid rfl) (hid rfl) (hid rfl) (by omega) ?_
  by_cases hab : a = b
  · subst hab
    exact .inl ⟨ltB_self a, ltB_self a, by simp⟩
  · rcases ltB_total hka hkb hab with h | h
    · exact .inr (.inl ⟨h, ltB_asymm h, by simp [hab]⟩)
    · exact .inr (.inr ⟨ltB_asymm h, h, by simp [hab]⟩)

set_option maxRecDepth 100000 in
theorem pathThree_lifted (os : Os) (started : os.Started) (H : Type) (enc : TypeId × Value → H) :
    ReturnsInHanded {} Try.checked os 3 .any (Rows.pathThreeSpec.pre6 enc Try.prog Try.f3 Rows.pathThreeRow.domain false) (Rows.pathThreeSpec.post enc Try.prog Try.f3 false true false false) := by
  refine returnsInHanded_of_change (C := Try.checked) own started (by kernel_rfl) Try.func3
    (ChangeSpec.witness6 (enc := enc) (C := Try.checked) false ⟨#[], #[.agg (bv (List.replicate 32 0)), .agg (bv (List.replicate 32 0)), .agg (bv (List.replicate 32 0))], []⟩ 8 (by kernel_rfl) (by kernel_rfl) (by kernel_rfl) (by kernel_rfl)) ?_
  intro W base args ds gs before hval0 hW _ _
  have hval : ∀ (j : Nat) t v, Try.f3.params[j]? = some t → args[j]? = some v → Value.okWide Try.prog W .any base t v := hval0
  have hW' := hW
  obtain ⟨p, q, hA0, hV, rfl, hfz, hnd⟩ := hW
  have hA : DataW.TrodAll enc Try.prog W 0 (fun _ => true) true Try.f3.params.toList args.toList ds p := hA0
  rw [Try.params3] at hA hval
  obtain ⟨v0, vs0, d0, ds0, p0, q0, hargs, rfl, rfl, h0, r0⟩ := trodAll_cons hA
  obtain ⟨v1, vs1, d1, ds1, p1, q1, rfl, rfl, rfl, h1, r1⟩ := trodAll_cons r0
  obtain ⟨v2, vs2, d2, ds2, p2, q2, rfl, rfl, rfl, h2, r2⟩ := trodAll_cons r1
  obtain ⟨rfl, rfl, rfl⟩ := trodAll_nil r2
  obtain rfl : args = #[v0, v1, v2] := by cases args; simp_all
  obtain ⟨rfl, rfl⟩ := trodVars_none hV
  have k0 := h0
  have lt0 : ∀ x ∈ p0, x.block < W.heap.size := by obtain ⟨m, hm⟩ := k0; exact DataW.trod_lt m _ _ _ hm
  have k1 := h1
  have lt1 : ∀ x ∈ p1, x.block < W.heap.size := by obtain ⟨m, hm⟩ := k1; exact DataW.trod_lt m _ _ _ hm
  have k2 := h2
  have lt2 : ∀ x ∈ p2, x.block < W.heap.size := by obtain ⟨m, hm⟩ := k2; exact DataW.trod_lt m _ _ _ hm
  obtain ⟨a0, w0, rfl⟩ := open_bytes Try.underlying23 Try.underlying5 (by kernel_rfl) (by kernel_rfl) (hval 0 23 v0 rfl rfl) h0
  obtain ⟨a1, w1, rfl⟩ := open_bytes Try.underlying23 Try.underlying5 (by kernel_rfl) (by kernel_rfl) (hval 1 23 v1 rfl rfl) h1
  obtain ⟨a2, w2, rfl⟩ := open_bytes Try.underlying23 Try.underlying5 (by kernel_rfl) (by kernel_rfl) (hval 2 23 v2 rfl rfl) h2
  clear hA0 hval0
  refine (three_walk a0 a1 a2 W w0 w1 w2).mono fun e W' ⟨he, bel⟩ => ?_
  subst he
  exact ⟨_, rfl, _, _, _, [], _, [], hW', trodAll_mk1 (shut_bool Try.underlying4 _), (trodAll_cons_mk (Below.trod laidOut (by kernel_rfl) (of_decide_eq_true (by kernel_rfl)) k0 bel lt0) (trodAll_cons_mk (Below.trod laidOut (by kernel_rfl) (of_decide_eq_true (by kernel_rfl)) k1 bel lt1) (trodAll_cons_mk (Below.trod laidOut (by kernel_rfl) (of_decide_eq_true (by kernel_rfl)) k2 bel lt2) trodAll_mk0))), rfl, bel.frame _, fun h => by cases h⟩

theorem pathThree_holds : Rows.PathThreeSaid :=
  OpenClaim.holds_of_wide 3 Try.f3 rfl rfl rfl rfl rfl rfl rfl ⟨rfl, rfl, rfl, rfl, rfl⟩ rfl rfl rfl rfl rfl (by kernel_rfl) Try.func3 (by kernel_rfl)
    (of_decide_eq_true (by kernel_rfl)) (by unfold Func.isWrapper; first | (rw [if_pos (by decide +kernel)]; kernel_rfl) | (rw [if_neg (by decide +kernel)]; exact ⟨rfl, rfl⟩))
    (fun os started H enc _ => pathThree_lifted os started H enc)
end Go.Proofs.Ytnakbdgoaepehaa
