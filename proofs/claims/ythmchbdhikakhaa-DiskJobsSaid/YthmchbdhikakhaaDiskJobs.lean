/- DiskJobs: in every row of calls a disk answers what the document's disk answers; for every number and every row. -/
import Derived.Test.YthmchbdhikakhaaRows
import Derived.Test.YthmchbdhikakhaaDiskJobsBody
import Derived.Test.YthmchbdhikakhaaOpen2
import Derived.ChangeOld
namespace Go.Proofs.Ythmchbdhikakhaa
open Go.ChangeShapes Go.WideShapes Go.ChangeAt Go.RowKit Go.Cu
theorem own : ownKnob Try.prog.godebug = none := by kernel_rfl
theorem laidOut : laidOutB Try.prog = true := by kernel_rfl
section
variable {H : Type} {enc : TypeId × Value → H} {w : World} {base : Nat} {spare : Nat → Bool} {held : Bool}
set_option maxRecDepth 20000 in
theorem job_cells {fuel : Nat} {cs : List Value} {x : DataW H × List MemPlace} (h : DataW.trod enc Try.prog w base spare held fuel 37 cs = some x) (hl : cs.length = 4) :
    ∃ (j : JobD) (Ak : Option Addr) (ck : Nat), cs = [.int .i64 j.what, .int .i64 j.at_, .int .u8 j.by_.toNat, .slice Ak j.keep.length ck] ∧ KeepIn w Ak j.keep ∧ j.keep.length ≤ 9223372036854775807 ∧
      -9223372036854775808 ≤ j.what ∧ j.what ≤ 9223372036854775807 ∧ -9223372036854775808 ≤ j.at_ ∧ j.at_ ≤ 9223372036854775807 := by
  obtain ⟨_, y0, t0⟩ := field_cells Try.underlying37 h 0 _ rfl
  obtain ⟨_, y1, t1⟩ := field_cells Try.underlying37 h 1 _ rfl
  obtain ⟨_, y2, t2⟩ := field_cells Try.underlying37 h 2 _ rfl
  obtain ⟨_, y3, t3⟩ := field_cells Try.underlying37 h 3 _ rfl
  match cs, hl with
  | [a, b, c, d], _ =>
    obtain ⟨x0, e0, _, w0⟩ := DataW.trod_int Try.underlying3 t0
    obtain ⟨x1, e1, _, w1⟩ := DataW.trod_int Try.underlying3 t1
    obtain ⟨x2, e2, _, w2⟩ := DataW.trod_int Try.underlying5 t2
    obtain ⟨Ak, ck, keep, e3, hkl, hk⟩ := bools_cells Try.underlying24 Try.underlying4 (by kernel_rfl) t3
    have b0 := bounds_i64 w0
    have b1 := bounds_i64 w1
    have b2 := bounds_u8 w2
    have c0 : [a] = [.int .i64 x0] := e0
    have c1 : [b] = [.int .i64 x1] := e1
    have c2 : [c] = [.int .u8 x2] := e2
    have c3 : [d] = [.slice Ak keep.length ck] := e3
    simp only [List.cons.injEq, and_true] at c0 c1 c2 c3
    subst c0 c1 c2 c3
    have e : ((UInt8.ofNat x2.toNat).toNat : Int) = x2 := by
      rw [UInt8.toNat_ofNat', Nat.mod_eq_of_lt (by omega)]
      omega
    unfold maxLen at hkl
    exact ⟨⟨x0, x1, UInt8.ofNat x2.toNat, keep⟩, Ak, ck, by rw [e], hk, by omega, b0.1, b0.2, b1.1, b1.2⟩
set_option maxRecDepth 20000 in
theorem jobs_open {r : Reach} {b0 : Nat} {v : Value} {d : DataW H} {p : List MemPlace} (hv : Value.okWide Try.prog w r b0 23 v) (h : DataW.Trod enc Try.prog w base spare held 23 v d p) :
    ∃ (A : Option Addr) (c : Nat) (row : List JobD), v = .slice A row.length c ∧ JobsIn w A row := by
  obtain ⟨A, len, cap, rfl, _, _, h3⟩ := param_slice Try.underlying23 (s := 4) (by kernel_rfl) (by decide) hv h
  obtain ⟨row, rfl, hp⟩ := choose_list (α := JobD) (p := fun i j => ∃ g o Ak ck, A = some ⟨g, o, none⟩ ∧ g < w.heap.size ∧ KeepIn w Ak j.keep ∧ j.keep.length ≤ 9223372036854775807 ∧
  -9223372036854775808 ≤ j.what ∧ j.what ≤ 9223372036854775807 ∧ -9223372036854775808 ≤ j.at_ ∧ j.at_ ≤ 9223372036854775807 ∧
  w.cell? ⟨g, o + i * 4, none⟩ = some (.int .i64 j.what) ∧ w.cell? ⟨g, o + i * 4 + 1, none⟩ = some (.int .i64 j.at_) ∧ w.cell? ⟨g, o + i * 4 + 2, none⟩ = some (.int .u8 j.by_.toNat) ∧ w.cell? ⟨g, o + i * 4 + 3, none⟩ = some (.slice Ak j.keep.length ck)) len (fun i hi => by
    obtain ⟨g, o, n, cs', y, hA, hg, hl, hcell, hy⟩ := h3 i hi
    obtain ⟨j, Ak, ck, rfl, hk, hkl, b⟩ := job_cells hy hl
    exact ⟨j, g, o, Ak, ck, hA, hg, hk, hkl, b.1, b.2.1, b.2.2.1, b.2.2.2, (hcell 0 (by decide)).trans rfl, (hcell 1 (by decide)).trans rfl, (hcell 2 (by decide)).trans rfl, (hcell 3 (by decide)).trans rfl⟩)
  exact ⟨A, cap, row, rfl, hp⟩
end
set_option maxRecDepth 100000 in
theorem diskJobs_lifted (os : Os) (started : os.Started) (H : Type) (enc : TypeId × Value → H) :
    ReturnsInHanded {} Try.checked os 4 .any (Rows.diskJobsSpec.pre6 enc Try.prog Try.f4 Rows.diskJobsRow.domain false) (Rows.diskJobsSpec.post enc Try.prog Try.f4 false true false false) := by
  refine returnsInHanded_of_change (C := Try.checked) own started (by kernel_rfl) Try.func4
    (ChangeSpec.witness6 (enc := enc) (C := Try.checked) false ⟨#[], #[.int .i64 0, .slice none 0 0], []⟩ 8 (by kernel_rfl) (by kernel_rfl) (by kernel_rfl) (by kernel_rfl)) ?_
  intro W base args ds gs before hval0 hW _ _
  have hval : ∀ (j : Nat) t v, Try.f4.params[j]? = some t → args[j]? = some v → Value.okWide Try.prog W .any base t v := hval0
  have hW' := hW
  obtain ⟨p, q, hA0, hV, rfl, hfz, hnd⟩ := hW
  have hA : DataW.TrodAll enc Try.prog W 0 (fun _ => true) true Try.f4.params.toList args.toList ds p := hA0
  rw [Try.params4] at hA hval
  obtain ⟨v0, vs0, d0, ds0, p0, q0, hargs, rfl, rfl, h0, r0⟩ := trodAll_cons hA
  obtain ⟨v1, vs1, d1, ds1, p1, q1, rfl, rfl, rfl, h1, r1⟩ := trodAll_cons r0
  obtain ⟨rfl, rfl, rfl⟩ := trodAll_nil r1
  obtain rfl : args = #[v0, v1] := by cases args; simp_all
  obtain ⟨rfl, rfl⟩ := trodVars_none hV
  have k0 := h0
  have lt0 : ∀ x ∈ p0, x.block < W.heap.size := by obtain ⟨m, hm⟩ := k0; exact DataW.trod_lt m _ _ _ hm
  have k1 := h1
  have lt1 : ∀ x ∈ p1, x.block < W.heap.size := by obtain ⟨m, hm⟩ := k1; exact DataW.trod_lt m _ _ _ hm
  obtain ⟨a0, rfl, rfl, rfl, w0⟩ := open_int Try.underlying3 (hval 0 3 v0 rfl rfl) h0
  obtain ⟨Aj, cj, row, rfl, hrow⟩ := jobs_open (hval 1 23 v1 rfl rfl) h1
  clear hA0 hval0
  refine (jobs_walk W hrow).mono fun e W' ⟨he, bel⟩ => ?_
  subst he
  exact ⟨_, rfl, _, _, _, [], _, [], hW', trodAll_mk1 (shut_bool Try.underlying4 _), (trodAll_cons_mk (Below.trod laidOut (by kernel_rfl) (of_decide_eq_true (by kernel_rfl)) k0 bel lt0) (trodAll_cons_mk (Below.trod laidOut (by kernel_rfl) (of_decide_eq_true (by kernel_rfl)) k1 bel lt1) trodAll_mk0)), rfl, bel.frame _, fun h => by cases h⟩

theorem diskJobs_holds : Rows.DiskJobsSaid :=
  OpenClaim.holds_of_wide 4 Try.f4 rfl rfl rfl rfl rfl rfl rfl ⟨rfl, rfl, rfl, rfl, rfl⟩ rfl rfl rfl rfl rfl (by kernel_rfl) Try.func4 (by kernel_rfl)
    (of_decide_eq_true (by kernel_rfl)) (by unfold Func.isWrapper; first | (rw [if_pos (by decide +kernel)]; kernel_rfl) | (rw [if_neg (by decide +kernel)]; exact ⟨rfl, rfl⟩))
    (fun os started H enc _ => diskJobs_lifted os started H enc)

end Go.Proofs.Ythmchbdhikakhaa
