/- Crash. -/
import Derived.Test.YthmchbdhikakhaaDiskSettleTwo
namespace Go.Proofs.Ythmchbdhikakhaa
open Go.RowKit Go.Cu

theorem cell_same {W W' : World} {q : Addr} (h : W'.heap[q.block]? = W.heap[q.block]?) : W'.cell? q = W.cell? q := by
  unfold World.cell?
  rw [h]
theorem tch_cell {F : Nat → Prop} {W W' : World} (h : Tch F W W') {q : Addr} (hq : q.block < W.heap.size) (hn : ¬ F q.block) : W'.cell? q = W.cell? q := cell_same (h.block _ hq hn)
set_option maxHeartbeats 400000 in
theorem crash_nil {v : Value} (w : World) : Calls Try.prog 17 #[.pointer none, v] w fun e w' => e = .returned (.tuple #[]) ∧ Below w.heap.size w w' := by
  go_enter Try.func17, Try.ntmps17
  repeat (apply wp_seq_k; intro _ _)
  apply wp_region_lit
  refine wpList_box rfl 24 _ rfl v rfl ?_
  intro gb W0 hG hgb hgeb hW
  go_wp2
  refine bodyPost_ret (results_none rfl _ _ _) rfl ⟨rfl, hW⟩
set_option maxRecDepth 20000 in
set_option maxHeartbeats 400000 in
theorem crash_any {p : Nat} {F : Nat → Prop} {S : DS} {w : World} {N : Nat} (h : DiskIn w p F S) (hok : S.Ok N) (hN : N ≤ 1000000) {keep : List Bool} {A : Option Addr} {c : Nat} (hk : keep.length ≤ 9223372036854775807)
    (hrow : ∀ j b, keep[j]? = some b → ∃ q, A = some q ∧ (q.add j).block < w.heap.size ∧ ¬ F (q.add j).block ∧ w.cell? (q.add j) = some (.bool b)) :
    Calls Try.prog 17 #[.pointer (some ⟨p, 0, none⟩), .slice A keep.length c] w fun x w' => x = .returned (.tuple #[]) ∧ DiskIn w' p F (S.crash keep) ∧ Tch F w w' := by
  have HD := hid (h.mono (G := fun g => F g ∧ g < w.heap.size) (fun g hg hf => ⟨hf, hg⟩))
  have HR := hid hrow
  have HOK := hid hok
  clear h hrow hok
  go_enter Try.func17, Try.ntmps17
  repeat (apply wp_seq_k; intro _ _)
  apply wp_region_lit
  refine wpList_box rfl 24 _ rfl (.slice A keep.length c) rfl ?_
  intro gb W0 hG hgb hgeb hW
  have HK := hid fun (k : Nat) (Y : World) (_ : k ≤ 1000000) (ht : Tch (fun g => F g ∧ g < w.heap.size) W0 Y) => crash1_ok (W := Y) (g := gb) (keep := keep) (A := A) (c := c) (k := k) ⟨by
      rw [tch_cell ht (q := ⟨gb, 0, none⟩) hgb (fun hf => by have h2 : gb < w.heap.size := hf.2; omega)]
      exact (cell_of_row W0 gb 0 _ _ _ hG).trans rfl, fun j b hj => by
      obtain ⟨q, hq, hl, hn, hc⟩ := HR.out j b hj
      refine ⟨q, hq, ?_⟩
      rw [tch_cell ht (Nat.lt_of_lt_of_le hl hW.size) (fun hf => hn hf.1), hW.cell hl]
      exact hc, hk⟩
  have HS := hid (settle_crash (HD.out.below hW) HOK.out hN gb (fun k => keep.getD k false) HK.out)
  have HW := hid hW
  clear HK HR hG
  go_wp2_with (go_at_call 59; refine HS.out.mono ?_; rintro e w1 ⟨rfl, ⟨pn, pl, wv, hat⟩, ht⟩; have f5 := frozen_of_row w1 p 5 _ _ hat.box; have f4 := frozen_of_row w1 p 4 _ _ hat.box; have c5 := (cell_of_row w1 p 5 _ _ _ hat.box).trans rfl; have c4 := (cell_of_row w1 p 4 _ _ _ hat.box).trans rfl; have HA := hid hat; have HT := hid ht; clear hat ht)
  have P5 := hid (heap_setCell_same w1 p 5 _ 104 (.bool false) HA.out.box)
  have T5 := hid ((Tch.refl (· = p) w1).setCell (g := p) (i := 5) rfl (.bool false))
  have P4 := hid (heap_setCell_same _ p 4 _ 104 (.int .i64 0) P5.out)
  have T4 := hid (T5.out.setCell (g := p) (i := 4) rfl (.int .i64 0))
  refine bodyPost_end (results_none rfl _ _ _) rfl ⟨rfl, ?_, ?_⟩
  · have hpn := heap_ne HA.out.now HA.out.box (by decide)
    have hpl := heap_ne HA.out.last HA.out.box (by decide)
    refine ⟨pn, pl, wv, HA.out.op.1, HA.out.on.1, HA.out.ol.1, fun g hg => (HA.out.ow g hg).1, HA.out.ne, P4.out.trans rfl, (T4.out.block pn (lt_of_heap HA.out.now) hpn).trans HA.out.now, (T4.out.block pl (lt_of_heap HA.out.last) hpl).trans HA.out.last, ?_⟩
    exact own_keep HA.out.wait (fun g hg => T4.out.block g (own_lt HA.out.wait hg) (fun e => own_ne HA.out.wait HA.out.box (by decide) (by rw [hg]; exact congrArg some e)))
  · exact (((Tch.of_below (F := F) HW.out).trans HT.out (fun _ h => h) (fun _ _ h => h.1))).trans T4.out (fun _ h => h) (fun i _ e => by subst e; exact HA.out.op.1)
end Go.Proofs.Ythmchbdhikakhaa
