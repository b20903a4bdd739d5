/- What a disk tells of itself, and arming it. -/
import Derived.Test.YthmchbdhikakhaaDiskMem
namespace Go.Proofs.Ythmchbdhikakhaa
open Go.RowKit Go.Cu

set_option maxHeartbeats 400000 in
theorem down_nil (w : World) : Calls Try.prog 25 #[.pointer none] w fun e w' => e = .returned (.bool true) ∧ w = w' := by
  go_enter Try.func25, Try.ntmps25
  go_wp2
  go_ret
  exact ⟨rfl, rfl⟩
set_option maxHeartbeats 400000 in
theorem down_any {p : Nat} {F : Nat → Prop} {S : DS} {w : World} (h : DiskIn w p F S) : Calls Try.prog 25 #[.pointer (some ⟨p, 0, none⟩)] w fun e w' => e = .returned (.bool S.off) ∧ w = w' := by
  obtain ⟨pn, pl, wv, _, _, _, _, h5, _⟩ := h.cells
  clear h
  go_enter Try.func25, Try.ntmps25
  go_wp2
  go_ret
  exact ⟨rfl, rfl⟩
set_option maxHeartbeats 400000 in
theorem writes_nil (w : World) : Calls Try.prog 26 #[.pointer none] w fun e w' => e = .returned (.int .i64 0) ∧ w = w' := by
  go_enter Try.func26, Try.ntmps26
  go_wp2
  go_ret
  exact ⟨rfl, rfl⟩
set_option maxHeartbeats 400000 in
theorem writes_any {p : Nat} {F : Nat → Prop} {S : DS} {w : World} (h : DiskIn w p F S) : Calls Try.prog 26 #[.pointer (some ⟨p, 0, none⟩)] w fun e w' => e = .returned (.int .i64 S.writes) ∧ w = w' := by
  obtain ⟨pn, pl, wv, _, _, h3, _, _, _⟩ := h.cells
  clear h
  go_enter Try.func26, Try.ntmps26
  go_wp2
  go_ret
  exact ⟨rfl, rfl⟩
set_option maxHeartbeats 400000 in
theorem size_nil (w : World) : Calls Try.prog 29 #[.pointer none] w fun e w' => e = .returned (.int .i64 0) ∧ w = w' := by
  go_enter Try.func29, Try.ntmps29
  go_wp2
  go_ret
  exact ⟨rfl, rfl⟩
set_option maxHeartbeats 400000 in
theorem size_any {p : Nat} {F : Nat → Prop} {S : DS} {w : World} (h : DiskIn w p F S) : Calls Try.prog 29 #[.pointer (some ⟨p, 0, none⟩)] w fun e w' => e = .returned (.int .i64 S.now.length) ∧ w = w' := by
  obtain ⟨pn, pl, wv, h0, _, _, _, _, _⟩ := h.cells
  clear h
  go_enter Try.func29, Try.ntmps29
  go_wp2
  go_ret
  exact ⟨rfl, rfl⟩
set_option maxHeartbeats 400000 in
theorem waiting_nil (w : World) : Calls Try.prog 27 #[.pointer none] w fun e w' => e = .returned (.int .i64 0) ∧ w = w' := by
  go_enter Try.func27, Try.ntmps27
  go_wp2
  go_ret
  exact ⟨rfl, rfl⟩
theorem own_slice {W : World} {b e s n : Nat} {v : Value} {xs : List Value} (h : W.ownsRow b e s v n xs) : ∃ A c, v = .slice A n c := by
  rcases h.2 with ⟨rfl, rfl⟩ | ⟨g, c, cur, rfl, _⟩
  · exact ⟨_, _, rfl⟩
  · exact ⟨_, _, rfl⟩
set_option maxHeartbeats 400000 in
theorem waiting_any {p : Nat} {F : Nat → Prop} {S : DS} {w : World} (h : DiskIn w p F S) : Calls Try.prog 27 #[.pointer (some ⟨p, 0, none⟩)] w fun e w' => e = .returned (.int .i64 S.wait.length) ∧ w = w' := by
  obtain ⟨pn, pl, wv, _, h2, _, _, _, hat⟩ := h.cells
  obtain ⟨A, c, rfl⟩ := own_slice hat.wait
  clear h hat
  go_enter Try.func27, Try.ntmps27
  go_wp2
  go_ret
  exact ⟨rfl, rfl⟩
set_option maxHeartbeats 400000 in
theorem arm_nil (i : Int) (w : World) : Calls Try.prog 23 #[.pointer none, .int .i64 i] w fun e w' => e = .returned (.tuple #[]) ∧ w = w' := by
  go_enter Try.func23, Try.ntmps23
  go_wp2
  exact bodyPost_end (results_none rfl _ _ _) rfl ⟨rfl, rfl⟩
set_option maxHeartbeats 400000 in
theorem arm_any {p : Nat} {F : Nat → Prop} {S : DS} {w : World} (h : DiskIn w p F S) (i : Int) : Calls Try.prog 23 #[.pointer (some ⟨p, 0, none⟩), .int .i64 i] w fun e w' => e = .returned (.tuple #[]) ∧ DiskIn w' p F (S.arm i) ∧ Tch F w w' := by
  obtain ⟨pn, pl, wv, h⟩ := h
  have f4 : w.frozen? ⟨p, 4, none⟩ = false := frozen_of_row w p 4 _ _ h.box
  have c4 : w.cell? ⟨p, 4, none⟩ = some (.int .i64 S.armed) := (cell_of_row w p 4 _ _ _ h.box).trans rfl
  have P4 := hid (heap_setCell_same w p 4 _ 104 (.int .i64 (max i 0)) h.box)
  have T4 := hid ((Tch.refl (· = p) w).setCell (g := p) (i := 4) rfl (.int .i64 (max i 0)))
  have FIN := hid fun (W' : World) (hp : W'.heap[p]? = some (.cells #[.slice (some ⟨pn, 0, none⟩) S.now.length S.now.length, .slice (some ⟨pl, 0, none⟩) S.now.length S.now.length, wv, .int .i64 S.writes, .int .i64 (max i 0), .bool S.off] 104 (0, 0))) (ht : Tch (· = p) w W') =>
    (show DiskIn W' p F (S.arm i) ∧ Tch F w W' from by
      have hpn2 : pn ≠ p := heap_ne h.now h.box (by decide)
      have hpl2 : pl ≠ p := heap_ne h.last h.box (by decide)
      refine ⟨⟨pn, pl, wv, h.op, h.on, h.ol, h.ow, h.ne, hp, ?_, ?_, ?_⟩, (Tch.refl F w).trans ht (fun _ h => h) (fun i _ e => by subst e; exact h.op)⟩
      · exact (ht.block pn (lt_of_heap h.now) hpn2).trans h.now
      · exact (ht.block pl (lt_of_heap h.last) hpl2).trans h.last
      · exact own_keep h.wait (fun g hg => ht.block g (own_lt h.wait hg) (fun e => own_ne h.wait h.box (by decide) (by rw [hg]; exact congrArg some e))))
  clear h
  go_enter Try.func23, Try.ntmps23
  go_wp2
  · have e : max i 0 = 0 := by omega
    rw [e] at P4 T4
    rw [e] at FIN
    exact bodyPost_end (results_none rfl _ _ _) rfl ⟨rfl, FIN.out _ (P4.out.trans rfl) T4.out⟩
  · have e : max i 0 = i := by omega
    rw [e] at P4 T4
    rw [e] at FIN
    exact bodyPost_end (results_none rfl _ _ _) rfl ⟨rfl, FIN.out _ (P4.out.trans rfl) T4.out⟩
end Go.Proofs.Ythmchbdhikakhaa
