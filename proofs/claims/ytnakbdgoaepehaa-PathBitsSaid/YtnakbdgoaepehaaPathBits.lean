/- PathBits: of all keys and numbers a bit, a key with one turned, and what begins alike are told as the document says; for every two keys and every number. -/
import Derived.Test.YtnakbdgoaepehaaRows
import Derived.Test.YtnakbdgoaepehaaBitsOut
import Derived.Test.YtnakbdgoaepehaaOpen
import Derived.ChangeOld
namespace Go.Proofs.Ytnakbdgoaepehaa
open Go.ChangeShapes Go.WideShapes Go.ChangeAt Go.RowKit Go.Cu

theorem own : ownKnob Try.prog.godebug = none := by kernel_rfl
theorem laidOut : laidOutB Try.prog = true := by kernel_rfl

theorem bits_walk (k l : List UInt8) (i : Int) (w : World) (hkk : k.length = 32) (hkl : l.length = 32) :
    Calls Try.prog 4 #[.agg (bv k), .agg (bv l), .int .i64 i] w fun e w' => e = .returned (.bool true) ∧ Below w.heap.size w w' := by
  have hc := cm_le k l
  by_cases hin : 0 ≤ i ∧ i < 256
  · obtain ⟨n, rfl⟩ := Int.eq_ofNat_of_zero_le hin.1
    refine bits_in k l n (cm k l) (bitN k n) _ _ _ _ w hkk hkl (by omega) (hid rfl) (hid rfl) (bitN_lt k n) (hid rfl) (hid rfl) rfl rfl ?_
    by_cases h : (n : Int) ≤ (cm k l : Int)
    · exact .inl ⟨decide_eq_true (by omega), decide_eq_true h⟩
    · exact .inr ⟨decide_eq_false (by omega), decide_eq_false h, by rw [beq_eq_false_iff_ne]; omega⟩
  · refine bits_out k l i (cm k l) _ _ _ _ w hkk hkl (by omega) (hid rfl) (hid rfl) (hid rfl) rfl rfl ?_
    by_cases h0 : i < 0
    · exact .inl ⟨h0, decide_eq_true (by omega), decide_eq_true (by omega)⟩
    · by_cases h : i ≤ (cm k l : Int)
      · exact .inr (.inl ⟨by omega, decide_eq_true (by omega), decide_eq_true h⟩)
      · by_cases h2 : cm k l = 256
        · exact .inr (.inr (.inl ⟨by omega, decide_eq_true (by omega), decide_eq_false h, by rw [beq_iff_eq]; omega⟩))
        · exact .inr (.inr (.inr ⟨by omega, decide_eq_false (by omega), decide_eq_false h, by rw [beq_eq_false_iff_ne]; omega⟩))

set_option maxRecDepth 100000 in
theorem pathBits_lifted (os : Os) (started : os.Started) (H : Type) (enc : TypeId × Value → H) :
    ReturnsInHanded {} Try.checked os 4 .any (Rows.pathBitsSpec.pre6 enc Try.prog Try.f4 Rows.pathBitsRow.domain false) (Rows.pathBitsSpec.post enc Try.prog Try.f4 false true false false) := by
  refine returnsInHanded_of_change (C := Try.checked) own started (by kernel_rfl) Try.func4
    (ChangeSpec.witness6 (enc := enc) (C := Try.checked) false ⟨#[], #[.agg (bv (List.replicate 32 0)), .agg (bv (List.replicate 32 0)), .int .i64 0], []⟩ 8 (by kernel_rfl) (by kernel_rfl) (by kernel_rfl) (by kernel_rfl)) ?_
  intro W base args ds gs before hval0 hW _ _
  have hval : ∀ (j : Nat) t v, Try.f4.params[j]? = some t → args[j]? = some v → Value.okWide Try.prog W .any base t v := hval0
  have hW' := hW
  obtain ⟨p, q, hA0, hV, rfl, hfz, hnd⟩ := hW
  have hA : DataW.TrodAll enc Try.prog W 0 (fun _ => true) true Try.f4.params.toList args.toList ds p := hA0
  rw [Try.params4] at hA hval
  obtain ⟨v0, vs0, d0, ds0, p0, q0, hargs, rfl, rfl, h0, r0⟩ := trodAll_cons hA
  obtain ⟨v1, vs1, d1, ds1, p1, q1, rfl, rfl, rfl, h1, r1⟩ := trodAll_cons r0
  obtain ⟨v2, vs2, d2, ds2, p2, q2, rfl, rfl, rfl, h2, r2⟩ := trodAll_cons r1
  obtain ⟨rfl, rfl, rfl⟩ := trodAll_nil r2
  obtain rfl : args = #[v0, v1, v2] := by cases args; simp_all
  obtain ⟨rfl, rfl⟩ := trodVars_none hV
  have k0 := h0
  have lt0 : ∀ x ∈ p0, x.block < W.heap.size := by obtain ⟨m, hm⟩ := k0; exact DataW.trod_lt m _ _ _ hm
  have k1 := h1
  have lt1 : ∀ x ∈ p1, x.block < W.heap.size := by obtain ⟨m, hm⟩ := k1; exact DataW.trod_lt m _ _ _ hm
  have k2 := h2
  have lt2 : ∀ x ∈ p2, x.block < W.heap.size := by obtain ⟨m, hm⟩ := k2; exact DataW.trod_lt m _ _ _ hm
  obtain ⟨a0, w0, rfl⟩ := open_bytes Try.underlying23 Try.underlying5 (by kernel_rfl) (by kernel_rfl) (hval 0 23 v0 rfl rfl) h0
  obtain ⟨a1, w1, rfl⟩ := open_bytes Try.underlying23 Try.underlying5 (by kernel_rfl) (by kernel_rfl) (hval 1 23 v1 rfl rfl) h1
  obtain ⟨a2, rfl, rfl, rfl, w2⟩ := open_int Try.underlying3 (hval 2 3 v2 rfl rfl) h2
  clear hA0 hval0
  refine (bits_walk a0 a1 a2 W w0 w1).mono fun e W' ⟨he, bel⟩ => ?_
  subst he
  exact ⟨_, rfl, _, _, _, [], _, [], hW', trodAll_mk1 (shut_bool Try.underlying4 _), (trodAll_cons_mk (Below.trod laidOut (by kernel_rfl) (of_decide_eq_true (by kernel_rfl)) k0 bel lt0) (trodAll_cons_mk (Below.trod laidOut (by kernel_rfl) (of_decide_eq_true (by kernel_rfl)) k1 bel lt1) (trodAll_cons_mk (Below.trod laidOut (by kernel_rfl) (of_decide_eq_true (by kernel_rfl)) k2 bel lt2) trodAll_mk0))), rfl, bel.frame _, fun h => by cases h⟩

theorem pathBits_holds : Rows.PathBitsSaid :=
  OpenClaim.holds_of_wide 4 Try.f4 rfl rfl rfl rfl rfl rfl rfl ⟨rfl, rfl, rfl, rfl, rfl⟩ rfl rfl rfl rfl rfl (by kernel_rfl) Try.func4 (by kernel_rfl)
    (of_decide_eq_true (by kernel_rfl)) (by unfold Func.isWrapper; first | (rw [if_pos (by decide +kernel)]; kernel_rfl) | (rw [if_neg (by decide +kernel)]; exact ⟨rfl, rfl⟩))
    (fun os started H enc _ => pathBits_lifted os started H enc)
end Go.Proofs.Ytnakbdgoaepehaa
