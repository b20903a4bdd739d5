/- Read and Write of a disk at any place; of no disk. -/
import Derived.Test.YthmchbdhikakhaaDiskBad
namespace Go.Proofs.Ythmchbdhikakhaa
open Go.RowKit Go.Cu
theorem at_ok_nat {S : DS} {i : Int} (h : S.at_ i = 0) : ∃ n : Nat, i = n := by
  obtain ⟨_, h0, _⟩ := DS.at_zero h
  exact ⟨i.toNat, by omega⟩
theorem write_any {p : Nat} {F : Nat → Prop} {S : DS} {w : World} {N : Nat} (h : DiskIn w p F S) (hok : S.Ok N) (hN : N ≤ 1000000) (i : Int) {b : Bk} (hb : b.length = 128) :
    Calls Try.prog 15 #[.pointer (some ⟨p, 0, none⟩), .int .i64 i, .agg (bv b)] w fun x w' => x = .returned (.int .i64 (S.write i b).2) ∧ DiskIn w' p (fun g => F g ∨ w.heap.size ≤ g) (S.write i b).1 ∧ Tch F w w' := by
  by_cases hz : S.at_ i = 0
  · obtain ⟨n, rfl⟩ := at_ok_nat hz
    have e : S.write (n : Int) b = (S.put n b).tick := by unfold DS.write; rw [if_neg (by simpa using hz)]; simp
    rw [e]
    exact write_ok h hok hN hz hb
  · have e : S.write i b = (S, S.at_ i) := by unfold DS.write; rw [if_pos hz]
    rw [e]
    exact (write_bad hz (hid fun w' hb => at_any (h.below hb) hok i)).mono fun x w' hx => ⟨hx.1, (h.below hx.2).mono (fun g _ hf => .inl hf), Tch.of_below hx.2⟩
theorem write_nil (w : World) (i : Int) (b : Bk) : Calls Try.prog 15 #[.pointer none, .int .i64 i, .agg (bv b)] w fun x w' => x = .returned (.int .i64 1) ∧ Below w.heap.size w w' :=
  write_bad (by decide) (hid fun w' _ => at_nil i w')
theorem read_any {p : Nat} {F : Nat → Prop} {S : DS} {w : World} {N : Nat} (h : DiskIn w p F S) (hok : S.Ok N) (i : Int) :
    Calls Try.prog 18 #[.pointer (some ⟨p, 0, none⟩), .int .i64 i] w fun x w' => x = .returned (.tuple #[.agg (bv (if S.at_ i = 0 then S.now.getD i.toNat zeroB else zeroB)), .int .i64 (S.at_ i)]) ∧ Below w.heap.size w w' := by
  by_cases hz : S.at_ i = 0
  · obtain ⟨n, rfl⟩ := at_ok_nat hz
    rw [if_pos hz, hz]
    exact read_ok h hok hz
  · rw [if_neg hz]
    exact read_bad hz (hid fun w' hb => at_any (h.below hb) hok i)
theorem read_nil (w : World) (i : Int) : Calls Try.prog 18 #[.pointer none, .int .i64 i] w fun x w' => x = .returned (.tuple #[.agg (bv zeroB), .int .i64 1]) ∧ Below w.heap.size w w' :=
  read_bad (by decide) (hid fun w' _ => at_nil i w')
set_option maxHeartbeats 400000 in
theorem none_ok (w : World) : Calls Try.prog 28 #[] w fun x w' => x = .returned (.pointer none) ∧ w = w' := by
  go_enter Try.func28, Try.ntmps28
  go_wp2
  go_ret
  exact ⟨rfl, rfl⟩
/-- A block of which only the first byte is set. -/
def oneB (k : UInt8) : Bk := k :: List.replicate 127 0
theorem oneB_len (k : UInt8) : (oneB k).length = 128 := by simp [oneB]
set_option maxRecDepth 20000 in
theorem build33_1 (W : World) : (Instr.build 33 #[(0, .int .u8 1)]).run Try.prog W = .ok (.agg (bv (oneB 1))) W := by kernel_rfl
set_option maxRecDepth 20000 in
theorem build33_2 (W : World) : (Instr.build 33 #[(0, .int .u8 2)]).run Try.prog W = .ok (.agg (bv (oneB 2))) W := by kernel_rfl
set_option maxRecDepth 20000 in
theorem build33_3 (W : World) : (Instr.build 33 #[(0, .int .u8 3)]).run Try.prog W = .ok (.agg (bv (oneB 3))) W := by kernel_rfl
end Go.Proofs.Ythmchbdhikakhaa
