/- A disk in memory; what it answers that only reads it. -/
import Derived.Test.YthmchbdhikakhaaProg
import Derived.Test.YthmchbdhikakhaaChunk
import Derived.Test.YthmchbdhikakhaaDiskSpec
import Derived.Test.YthmchbdhikakhaaTail
namespace Go.Proofs.Ythmchbdhikakhaa
open Go.RowKit Go.Cu

/-- The disk S lies in memory: its struct is block p; all its blocks are of F. -/
structure DiskAt (W : World) (p : Nat) (F : Nat → Prop) (S : DS) (pn pl : Nat) (wv : Value) : Prop where
  op : F p
  on : F pn
  ol : F pl
  ow : ∀ g, wv.ownBlock = some g → F g
  ne : pn ≠ pl
  box : W.heap[p]? = some (.cells #[.slice (some ⟨pn, 0, none⟩) S.now.length S.now.length, .slice (some ⟨pl, 0, none⟩) S.now.length S.now.length, wv, .int .i64 S.writes, .int .i64 S.armed, .bool S.off] 104 (0, 0))
  now : W.heap[pn]? = some (.cells (flat S.now) 33 (0, 0))
  last : W.heap[pl]? = some (.cells (flat S.last) 33 (0, 0))
  wait : W.ownsRow 0 106 129 wv S.wait.length (waitL S.wait)
def DiskIn (W : World) (p : Nat) (F : Nat → Prop) (S : DS) : Prop := ∃ pn pl wv, DiskAt W p F S pn pl wv

theorem lt_of_heap {W : World} {g : Nat} {o : Obj} (h : W.heap[g]? = some o) : g < W.heap.size := by
  rcases Nat.lt_or_ge g W.heap.size with h1 | h1
  · exact h1
  · rw [Array.getElem?_eq_none h1] at h; cases h
theorem own_lt {W : World} {b e s n : Nat} {v : Value} {xs : List Value} (h : W.ownsRow b e s v n xs) {g : Nat} (hg : v.ownBlock = some g) : g < W.heap.size := by
  rcases h.2 with ⟨rfl, _⟩ | ⟨g', c, cur, rfl, _, hh, _⟩
  · simp [Value.ownBlock] at hg
  · have : g' = g := by simpa [Value.ownBlock] using hg
    subst this
    exact lt_of_heap hh
theorem own_keep {W W' : World} {b e s n : Nat} {v : Value} {xs : List Value} (h : W.ownsRow b e s v n xs) (hk : ∀ g, v.ownBlock = some g → W'.heap[g]? = W.heap[g]?) : W'.ownsRow b e s v n xs := by
  refine ⟨h.1, ?_⟩
  rcases h.2 with h' | ⟨g, c, cur, rfl, hb, hh, r⟩
  · exact .inl h'
  · exact .inr ⟨g, c, cur, rfl, hb, (hk g (by simp [Value.ownBlock])).trans hh, r⟩

section
variable {W W' : World} {p : Nat} {F G : Nat → Prop} {S : DS} {pn pl : Nat} {wv : Value}
theorem DiskAt.keep (h : DiskAt W p F S pn pl wv) (hk : ∀ g, g < W.heap.size → F g → W'.heap[g]? = W.heap[g]?) : DiskAt W' p F S pn pl wv :=
  ⟨h.op, h.on, h.ol, h.ow, h.ne, (hk p (lt_of_heap h.box) h.op).trans h.box, (hk pn (lt_of_heap h.now) h.on).trans h.now, (hk pl (lt_of_heap h.last) h.ol).trans h.last,
    own_keep h.wait fun g hg => hk g (own_lt h.wait hg) (h.ow g hg)⟩
theorem heap_ne {g g' : Nat} {t t' : TypeId} {c c' : Array Value} {fr fr' : Nat × Nat} (h : W.heap[g]? = some (.cells c t fr)) (h' : W.heap[g']? = some (.cells c' t' fr')) (hne : t ≠ t') : g ≠ g' := by
  rintro rfl
  rw [h] at h'
  injection h' with h'
  injection h' with _ ht
  exact hne ht
theorem own_ne {b e s n : Nat} {v : Value} {xs : List Value} (h : W.ownsRow b e s v n xs) {g : Nat} {t : TypeId} {c : Array Value} {fr : Nat × Nat} (hg : W.heap[g]? = some (.cells c t fr)) (hne : e ≠ t) : v.ownBlock ≠ some g := by
  rcases h.2 with ⟨rfl, _⟩ | ⟨g', cap, cur, rfl, _, hh, _⟩
  · simp [Value.ownBlock]
  · intro he
    have : g' = g := by simpa [Value.ownBlock] using he
    subst this
    exact heap_ne hh hg hne rfl
theorem DiskAt.below (h : DiskAt W p F S pn pl wv) (hb : Below W.heap.size W W') : DiskAt W' p F S pn pl wv := h.keep fun g hg _ => hb.block g hg
theorem DiskIn.keep (h : DiskIn W p F S) (hk : ∀ g, g < W.heap.size → F g → W'.heap[g]? = W.heap[g]?) : DiskIn W' p F S := by
  obtain ⟨pn, pl, wv, h⟩ := h
  exact ⟨pn, pl, wv, h.keep hk⟩
theorem DiskIn.below (h : DiskIn W p F S) (hb : Below W.heap.size W W') : DiskIn W' p F S := h.keep fun g hg _ => hb.block g hg
theorem DiskIn.tch (h : DiskIn W p F S) (ht : Tch G W W') (hd : ∀ g, g < W.heap.size → F g → ¬ G g) : DiskIn W' p F S := h.keep fun g hg hf => ht.block g hg (hd g hg hf)
theorem DiskIn.mono (h : DiskIn W p F S) (hm : ∀ g, g < W.heap.size → F g → G g) : DiskIn W p G S := by
  obtain ⟨pn, pl, wv, h⟩ := h
  exact ⟨pn, pl, wv, hm p (lt_of_heap h.box) h.op, hm pn (lt_of_heap h.now) h.on, hm pl (lt_of_heap h.last) h.ol, fun g hg => hm g (own_lt h.wait hg) (h.ow g hg), h.ne, h.box, h.now, h.last, h.wait⟩
theorem DiskIn.lt (h : DiskIn W p F S) : p < W.heap.size := by
  obtain ⟨pn, pl, wv, h⟩ := h
  exact lt_of_heap h.box
theorem DiskIn.cells (h : DiskIn W p F S) : ∃ pn pl wv, W.cell? ⟨p, 0, none⟩ = some (.slice (some ⟨pn, 0, none⟩) S.now.length S.now.length) ∧ W.cell? ⟨p, 2, none⟩ = some wv ∧ W.cell? ⟨p, 3, none⟩ = some (.int .i64 S.writes) ∧
    W.cell? ⟨p, 4, none⟩ = some (.int .i64 S.armed) ∧ W.cell? ⟨p, 5, none⟩ = some (.bool S.off) ∧ DiskAt W p F S pn pl wv := by
  obtain ⟨pn, pl, wv, h⟩ := h
  refine ⟨pn, pl, wv, ?_, ?_, ?_, ?_, ?_, h⟩ <;> rw [cell_of_row W p _ _ _ _ h.box] <;> rfl
end

set_option maxHeartbeats 400000 in
theorem may_nil (w : World) : Calls Try.prog 58 #[.pointer none] w fun e w' => e = .returned (.int .i64 1) ∧ w = w' := by
  go_enter Try.func58, Try.ntmps58
  go_wp2
  go_ret
  exact ⟨rfl, rfl⟩
set_option maxHeartbeats 400000 in
theorem may_any {p : Nat} {F : Nat → Prop} {S : DS} {w : World} (h : DiskIn w p F S) : Calls Try.prog 58 #[.pointer (some ⟨p, 0, none⟩)] w fun e w' => e = .returned (.int .i64 S.may) ∧ w = w' := by
  obtain ⟨pn, pl, wv, _, _, _, _, h5, _⟩ := h.cells
  unfold DS.may
  cases ho : S.off
  all_goals
    rw [ho] at h5
    clear ho h
    go_enter Try.func58, Try.ntmps58
    go_wp2
    go_ret
    exact ⟨rfl, rfl⟩
set_option maxHeartbeats 400000 in
theorem at_nil (i : Int) (w : World) : Calls Try.prog 57 #[.pointer none, .int .i64 i] w fun e w' => e = .returned (.int .i64 1) ∧ w = w' := by
  go_enter Try.func57, Try.ntmps57
  go_wp2_with (go_at_call 58; refine (may_nil _).mono ?_; rintro e w' ⟨rfl, rfl⟩)
  go_ret
  exact ⟨rfl, rfl⟩
set_option maxHeartbeats 400000 in
theorem at_any {p : Nat} {F : Nat → Prop} {S : DS} {w : World} {N : Nat} (h : DiskIn w p F S) (hok : S.Ok N) (i : Int) : Calls Try.prog 57 #[.pointer (some ⟨p, 0, none⟩), .int .i64 i] w fun e w' => e = .returned (.int .i64 (S.at_ i)) ∧ w = w' := by
  have hm := hid (may_any h)
  have hb := hok.big
  obtain ⟨pn, pl, wv, h0, _, _, _, _, _⟩ := h.cells
  clear h hok
  unfold DS.at_
  cases ho : S.off
  · have hmay : S.may = 0 := by simp [DS.may, ho]
    rw [hmay] at hm
    clear hmay ho
    simp only [Bool.false_eq_true, if_false]
    by_cases h1 : i < 0
    · rw [if_pos (.inl h1)]
      go_enter Try.func57, Try.ntmps57
      go_wp2_with (go_at_call 58; refine hm.out.mono ?_; rintro e w' ⟨rfl, rfl⟩)
      go_ret
      exact ⟨rfl, rfl⟩
    · by_cases h2 : (S.now.length : Int) ≤ i
      · rw [if_pos (.inr h2)]
        go_enter Try.func57, Try.ntmps57
        go_wp2_with (go_at_call 58; refine hm.out.mono ?_; rintro e w' ⟨rfl, rfl⟩)
        go_ret
        exact ⟨rfl, rfl⟩
      · rw [if_neg (by omega)]
        go_enter Try.func57, Try.ntmps57
        go_wp2_with (go_at_call 58; refine hm.out.mono ?_; rintro e w' ⟨rfl, rfl⟩)
        go_ret
        exact ⟨rfl, rfl⟩
  · have hmay : S.may = 13 := by simp [DS.may, ho]
    rw [hmay] at hm
    clear hmay ho
    simp only [if_true]
    go_enter Try.func57, Try.ntmps57
    go_wp2_with (go_at_call 58; refine hm.out.mono ?_; rintro e w' ⟨rfl, rfl⟩)
    go_ret
    exact ⟨rfl, rfl⟩
end Go.Proofs.Ythmchbdhikakhaa
