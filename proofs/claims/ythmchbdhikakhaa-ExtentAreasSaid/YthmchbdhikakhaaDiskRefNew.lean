/- The document's new disk; the contracts of both disks, over things side by side. -/
import Derived.Test.YthmchbdhikakhaaDiskRefSync
import Derived.Test.YthmchbdhikakhaaDiskRefRead
import Derived.Test.YthmchbdhikakhaaDiskAny
import Derived.Test.YthmchbdhikakhaaDiskSync
namespace Go.Proofs.Ythmchbdhikakhaa
open Go.RowKit Go.Cu
theorem make48 (n : Nat) (hn : n ≤ 8192) (W : World) : (Instr.makeSlice 48 (.int .i64 n) (.int .i64 n)).run Try.prog W = .ok (.slice (some ⟨W.heap.size, 0, none⟩) n n) (W.alloc (.cells (flat (List.replicate n zeroB)) 32)) := by
  obtain ⟨i0, hi, hiz, his, hib⟩ := info_parts info32
  have h := run_make (P := Try.prog) W 48 32 i0 _ Try.underlying48 hi hiz .i64 .i64 n n (by omega) (Int.le_refl _) (by rw [hib]; omega) (by omega)
  rw [his] at h
  simp only [Int.toNat_natCast] at h
  rw [show (Value.agg (bv zeroB)).cells = bv zeroB from rfl, made_flat] at h
  exact h
@[go_sem ↓] theorem mkk48 (a : Act) (dst : Option Tmp) (x y : Operand) (ty : TypeId) (pos : String) (after : Array Edge) (guard : Option (Nat × Bool)) :
    execOp a.eval { dst, op := .makeSlice 48 x y, type := ty, pos, after, guard } = makeK 48 (a.eval x) (a.eval y) := rfl
set_option maxRecDepth 20000 in
set_option maxHeartbeats 1000000 in
theorem rnew_any {n : Nat} (h2 : n ≤ 8192) (w : World) : Calls Try.prog 19 #[.int .i64 n] w fun x w' => ∃ p, x = .returned (.pointer (some ⟨p, 0, none⟩)) ∧ RefIn w' p (fun g => w.heap.size ≤ g) (DS.new n) ∧ Below w.heap.size w w' := by
  have HM : ∀ W, (makeK 48 (.int .i64 n) (.int .i64 n)).run Try.prog W = .ok (.value (.slice (some ⟨W.heap.size, 0, none⟩) n n)) (W.alloc (.cells (flat (List.replicate n zeroB)) 32)) := fun W => by
    simp only [makeK, Sem.run_bind, make48 n h2 W, Result.andThen_ok, Sem.run_pure]
  clear h2
  go_enter Try.func19, Try.ntmps19
  go_wp2
  go_ret
  have hl : (List.replicate n zeroB).length = n := List.length_replicate
  refine ⟨_, rfl, ⟨w.heap.size, .slice none 0 0, by show w.heap.size ≤ w.heap.size + 1; omega, Nat.le_refl _, fun g hg => by simp [Value.ownBlock] at hg, ?_, ?_, by simp [DS.new, waitL], .inl ⟨rfl, rfl⟩⟩, ?_⟩
  · simp only [DS.new, hl]
    exact heap_alloc_at _ _ (by simp)
  · exact (heap_alloc_past _ _ (by simp)).trans (heap_alloc_at _ _ rfl)
  · exact (((Below.refl _ _).alloc (Nat.le_refl _) _).alloc (by simp) _)

section
variable {W0 W : World} {L : List Atm} {p : Nat} {S : DS} {N : Nat}
theorem new_st (h : St W0 L W) {n : Nat} (h1 : 1 ≤ n) (h2 : n ≤ 8192) : Calls Try.prog 13 #[.int .i64 n] W fun x W' => ∃ p, x = .returned (.tuple #[.pointer (some ⟨p, 0, none⟩), .int .i64 0]) ∧ St W0 (Disk p (DS.new n) :: L) W' :=
  (new_ok h1 h2 W).mono fun _ _ ⟨p, hx, _, hd, hb⟩ => ⟨p, hx, h.push hb hd⟩
theorem write_st (h : St W0 (Disk p S :: L) W) (hok : S.Ok N) (hN : N ≤ 1000000) (i : Int) {b : Bk} (hb : b.length = 128) :
    Calls Try.prog 15 #[.pointer (some ⟨p, 0, none⟩), .int .i64 i, .agg (bv b)] W fun x W' => x = .returned (.int .i64 (S.write i b).2) ∧ St W0 (Disk p (S.write i b).1 :: L) W' := by
  obtain ⟨F, hd, _, hr⟩ := h.first
  exact (write_any hd hok hN i hb).mono fun _ _ ⟨hx, hd', ht⟩ => ⟨hx, hr _ _ hd' ht⟩
theorem sync_st (h : St W0 (Disk p S :: L) W) (hok : S.Ok N) (hN : N ≤ 1000000) :
    Calls Try.prog 16 #[.pointer (some ⟨p, 0, none⟩)] W fun x W' => x = .returned (.int .i64 S.sync.2) ∧ St W0 (Disk p S.sync.1 :: L) W' := by
  obtain ⟨F, hd, _, hr⟩ := h.first
  exact (sync_ok hd hok hN).mono fun _ _ ⟨hx, hd', ht⟩ => ⟨hx, hr _ _ (DiskIn.mono hd' fun _ _ h => .inl h) ht⟩
theorem read_st (h : St W0 (Disk p S :: L) W) (hok : S.Ok N) (i : Int) :
    Calls Try.prog 18 #[.pointer (some ⟨p, 0, none⟩), .int .i64 i] W fun x W' => x = .returned (.tuple #[.agg (bv (if S.at_ i = 0 then S.now.getD i.toNat zeroB else zeroB)), .int .i64 (S.at_ i)]) ∧ St W0 (Disk p S :: L) W' ∧ Below W.heap.size W W' := by
  obtain ⟨F, hd, _, hr⟩ := h.first
  exact (read_any hd hok i).mono fun _ _ ⟨hx, hb⟩ => ⟨hx, h.turn hb, hb⟩
/-- The words of keep lie in memory that the caller had. -/
def KeepIn (W : World) (A : Option Addr) (keep : List Bool) : Prop := ∀ j b, keep[j]? = some b → ∃ q, A = some q ∧ (q.add j).block < W.heap.size ∧ W.cell? (q.add j) = some (.bool b)
theorem keep_for (h : St W0 L W) {A : Option Addr} {keep : List Bool} (hk : KeepIn W0 A keep) {F : Nat → Prop} (hF : ∀ g, F g → W0.heap.size ≤ g) :
    ∀ j b, keep[j]? = some b → ∃ q, A = some q ∧ (q.add j).block < W.heap.size ∧ ¬ F (q.add j).block ∧ W.cell? (q.add j) = some (.bool b) := fun j b hj => by
  obtain ⟨q, hq, hl, hc⟩ := hk j b hj
  exact ⟨q, hq, Nat.lt_of_lt_of_le hl h.size, fun hf => by have := hF _ hf; omega, (h.below.cell hl).trans hc⟩
theorem crash_st (h : St W0 (Disk p S :: L) W) (hok : S.Ok N) (hN : N ≤ 1000000) {A : Option Addr} {c : Nat} {keep : List Bool} (hlen : keep.length ≤ 9223372036854775807) (hk : KeepIn W0 A keep) :
    Calls Try.prog 17 #[.pointer (some ⟨p, 0, none⟩), .slice A keep.length c] W fun x W' => x = .returned (.tuple #[]) ∧ St W0 (Disk p (S.crash keep) :: L) W' := by
  obtain ⟨F, hd, hF, hr⟩ := h.first
  exact (crash_any hd hok hN hlen (keep_for h hk fun g hg => (hF g hg).1)).mono fun _ _ ⟨hx, hd', ht⟩ => ⟨hx, hr _ _ (DiskIn.mono hd' fun _ _ h => .inl h) ht⟩
theorem arm_st (h : St W0 (Disk p S :: L) W) (i : Int) :
    Calls Try.prog 23 #[.pointer (some ⟨p, 0, none⟩), .int .i64 i] W fun x W' => x = .returned (.tuple #[]) ∧ St W0 (Disk p (S.arm i) :: L) W' := by
  obtain ⟨F, hd, _, hr⟩ := h.first
  exact (arm_any hd i).mono fun _ _ ⟨hx, hd', ht⟩ => ⟨hx, hr _ _ (DiskIn.mono hd' fun _ _ h => .inl h) ht⟩
theorem down_st (h : St W0 (Disk p S :: L) W) : Calls Try.prog 25 #[.pointer (some ⟨p, 0, none⟩)] W fun x W' => x = .returned (.bool S.off) ∧ W = W' := by
  obtain ⟨F, hd, _, _⟩ := h.first
  exact down_any hd
theorem writes_st (h : St W0 (Disk p S :: L) W) : Calls Try.prog 26 #[.pointer (some ⟨p, 0, none⟩)] W fun x W' => x = .returned (.int .i64 S.writes) ∧ W = W' := by
  obtain ⟨F, hd, _, _⟩ := h.first
  exact writes_any hd
theorem waiting_st (h : St W0 (Disk p S :: L) W) : Calls Try.prog 27 #[.pointer (some ⟨p, 0, none⟩)] W fun x W' => x = .returned (.int .i64 S.wait.length) ∧ W = W' := by
  obtain ⟨F, hd, _, _⟩ := h.first
  exact waiting_any hd
theorem size_st (h : St W0 (Disk p S :: L) W) : Calls Try.prog 29 #[.pointer (some ⟨p, 0, none⟩)] W fun x W' => x = .returned (.int .i64 S.now.length) ∧ W = W' := by
  obtain ⟨F, hd, _, _⟩ := h.first
  exact size_any hd
theorem rnew_st (h : St W0 L W) {n : Nat} (h2 : n ≤ 8192) : Calls Try.prog 19 #[.int .i64 n] W fun x W' => ∃ p, x = .returned (.pointer (some ⟨p, 0, none⟩)) ∧ St W0 (Ref p (DS.new n) :: L) W' :=
  (rnew_any h2 W).mono fun _ _ ⟨p, hx, hd, hb⟩ => ⟨p, hx, h.push hb hd⟩
theorem rwrite_st (h : St W0 (Ref p S :: L) W) (hok : S.Ok N) (hN : N ≤ 1000000) (i : Int) {b : Bk} (hb : b.length = 128) :
    Calls Try.prog 21 #[.pointer (some ⟨p, 0, none⟩), .int .i64 i, .agg (bv b)] W fun x W' => x = .returned (.int .i64 (S.write i b).2) ∧ St W0 (Ref p (S.write i b).1 :: L) W' := by
  obtain ⟨F, hd, _, hr⟩ := h.first
  exact (rwrite_any hd hok hN i hb).mono fun _ _ ⟨hx, hd', ht⟩ => ⟨hx, hr _ _ hd' ht⟩
theorem rsync_st (h : St W0 (Ref p S :: L) W) (hok : S.Ok N) (hN : N ≤ 1000000) :
    Calls Try.prog 22 #[.pointer (some ⟨p, 0, none⟩)] W fun x W' => x = .returned (.int .i64 S.sync.2) ∧ St W0 (Ref p S.sync.1 :: L) W' := by
  obtain ⟨F, hd, _, hr⟩ := h.first
  exact (rsync_any hd hok hN).mono fun _ _ ⟨hx, hd', ht⟩ => ⟨hx, hr _ _ (RefIn.mono hd' fun _ _ h => .inl h) ht⟩
theorem rread_st (h : St W0 (Ref p S :: L) W) (hok : S.Ok N) (htd : S.Tied) (hN : N ≤ 1000000) (i : Int) :
    Calls Try.prog 20 #[.pointer (some ⟨p, 0, none⟩), .int .i64 i] W fun x W' => x = .returned (.tuple #[.agg (bv (if S.at_ i = 0 then S.now.getD i.toNat zeroB else zeroB)), .int .i64 (S.at_ i)]) ∧ St W0 (Ref p S :: L) W' ∧ Below W.heap.size W W' := by
  obtain ⟨F, hd, _, hr⟩ := h.first
  exact (rread_any hd hok htd hN i).mono fun _ _ ⟨hx, hb⟩ => ⟨hx, h.turn hb, hb⟩
theorem rcrash_st (h : St W0 (Ref p S :: L) W) (hok : S.Ok N) (hN : N ≤ 1000000) {A : Option Addr} {c : Nat} {keep : List Bool} (hlen : keep.length ≤ 9223372036854775807) (hk : KeepIn W0 A keep) :
    Calls Try.prog 24 #[.pointer (some ⟨p, 0, none⟩), .slice A keep.length c] W fun x W' => x = .returned (.tuple #[]) ∧ St W0 (Ref p (S.crash keep) :: L) W' := by
  obtain ⟨F, hd, hF, hr⟩ := h.first
  exact (rcrash_any hd hok hN hlen (keep_for h hk fun g hg => (hF g hg).1)).mono fun _ _ ⟨hx, hd', ht⟩ => ⟨hx, hr _ _ (RefIn.mono hd' fun _ _ h => .inl h) ht⟩
end
end Go.Proofs.Ythmchbdhikakhaa
