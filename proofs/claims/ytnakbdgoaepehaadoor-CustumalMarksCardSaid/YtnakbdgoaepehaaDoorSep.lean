/- What lies in memory side by side: each thing in blocks of its own, none of them the caller's. -/
import Derived.Test.YtnakbdgoaepehaaDoorArr
namespace Go.Cu
open Go Go.RowKit
/-- Something that lies in blocks of its own: it speaks of these alone. -/
structure Atm where
  in_ : (Nat → Prop) → World → Prop
  keep : ∀ {F : Nat → Prop} {W W' : World}, in_ F W → (∀ g, g < W.heap.size → F g → W'.heap[g]? = W.heap[g]?) → in_ F W'
  mono : ∀ {F G : Nat → Prop} {W : World}, in_ F W → (∀ g, g < W.heap.size → F g → G g) → in_ G W

def Star : List Atm → (Nat → Prop) → World → Prop
  | [], _, _ => True
  | a :: L, F, W => ∃ G : Nat → Prop, a.in_ (fun g => F g ∧ G g) W ∧ Star L (fun g => F g ∧ ¬ G g) W
theorem Star.keep {W W' : World} : ∀ {L : List Atm} {F : Nat → Prop}, Star L F W → (∀ g, g < W.heap.size → F g → W'.heap[g]? = W.heap[g]?) → Star L F W'
  | [], _, _, _ => trivial
  | a :: _, _, ⟨G, h, r⟩, hk => ⟨G, a.keep h fun g hg hf => hk g hg hf.1, Star.keep r fun g hg hf => hk g hg hf.1⟩
theorem Star.mono {W : World} : ∀ {L : List Atm} {F F' : Nat → Prop}, Star L F W → (∀ g, g < W.heap.size → F g → F' g) → Star L F' W
  | [], _, _, _, _ => trivial
  | a :: _, _, _, ⟨G, h, r⟩, hk => ⟨G, a.mono h fun g hg hf => ⟨hk g hg hf.1, hf.2⟩, Star.mono r fun g hg hf => ⟨hk g hg hf.1, hf.2⟩⟩
theorem Star.swap {W : World} {a b : Atm} {L : List Atm} {F : Nat → Prop} : Star (a :: b :: L) F W → Star (b :: a :: L) F W := by
  rintro ⟨G, ha, H, hb, r⟩
  refine ⟨fun g => ¬ G g ∧ H g, b.mono hb fun g _ hf => ⟨hf.1.1, hf.1.2, hf.2⟩, G, a.mono ha fun g _ hf => ⟨⟨hf.1, fun h => h.1 hf.2⟩, hf.2⟩, r.mono fun g _ hf => ⟨⟨hf.1.1, fun h => hf.2 h.2⟩, hf.1.2⟩⟩
theorem Star.perm {W : World} {L M : List Atm} (h : L.Perm M) : ∀ {F : Nat → Prop}, Star L F W → Star M F W := by
  induction h with
  | nil => exact id
  | cons a _ ih => rintro F ⟨G, h, r⟩; exact ⟨G, h, ih r⟩
  | swap a b l => exact Star.swap
  | trans _ _ i j => exact fun h => j (i h)

/-- What the caller had is as it was; the things of L lie in blocks that came since. -/
structure St (W0 : World) (L : List Atm) (W : World) : Prop where
  below : Below W0.heap.size W0 W
  star : Star L (fun g => W0.heap.size ≤ g) W
section
variable {W0 W W' : World} {L M : List Atm} {a b c d e a' : Atm}
theorem St.start (W0 : World) : St W0 [] W0 := ⟨Below.refl _ _, trivial⟩
theorem St.size (h : St W0 L W) : W0.heap.size ≤ W.heap.size := h.below.size
theorem St.perm (h : St W0 L W) (p : L.Perm M) : St W0 M W := ⟨h.below, h.star.perm p⟩
theorem St.at2 (h : St W0 (a :: b :: L) W) : St W0 (b :: a :: L) W := ⟨h.below, h.star.swap⟩
theorem St.at3 (h : St W0 (a :: b :: c :: L) W) : St W0 (c :: a :: b :: L) W := h.perm (((List.Perm.swap c b L).cons a).trans (List.Perm.swap c a (b :: L)))
theorem St.back3 (h : St W0 (c :: a :: b :: L) W) : St W0 (a :: b :: c :: L) W := h.perm (((List.Perm.swap a c (b :: L))).trans ((List.Perm.swap b c L).cons a))
theorem St.at4 (h : St W0 (a :: b :: c :: d :: L) W) : St W0 (d :: a :: b :: c :: L) W := by
  obtain ⟨hb, G, ha, r⟩ := h
  exact (show St W0 (a :: d :: b :: c :: L) W from ⟨hb, G, ha, r.perm (((List.Perm.swap d c L).cons b).trans (List.Perm.swap d b (c :: L)))⟩).at2
theorem St.back4 (h : St W0 (d :: a :: b :: c :: L) W) : St W0 (a :: b :: c :: d :: L) W := by
  obtain ⟨hb, G, ha, r⟩ := h.at2
  exact ⟨hb, G, ha, r.perm (((List.Perm.swap b d (c :: L))).trans ((List.Perm.swap c d L).cons b))⟩
/-- The first thing: its blocks; what may become of it, with all else as it was. -/
theorem St.first (h : St W0 (a :: L) W) : ∃ F : Nat → Prop, a.in_ F W ∧ (∀ g, F g → W0.heap.size ≤ g ∧ g < W.heap.size) ∧
    ∀ (a' : Atm) (W' : World), a'.in_ (fun g => F g ∨ W.heap.size ≤ g) W' → Tch F W W' → St W0 (a' :: L) W' := by
  obtain ⟨hb, G, ha, r⟩ := h
  refine ⟨fun g => (W0.heap.size ≤ g ∧ G g) ∧ g < W.heap.size, a.mono ha fun g hg hf => ⟨hf, hg⟩, fun g hg => ⟨hg.1.1, hg.2⟩, fun a' W' ha' ht => ⟨hb.trans (ht.below hb.size fun i hi => hi.1.1), fun g => (G g ∧ g < W.heap.size) ∨ W.heap.size ≤ g, ?_, ?_⟩⟩
  · refine a'.mono ha' fun g _ hf => ?_
    have := hb.size
    rcases hf with hf | hf
    · exact ⟨hf.1.1, .inl ⟨hf.1.2, hf.2⟩⟩
    · exact ⟨by omega, .inr hf⟩
  · refine Star.mono (Star.keep (r.mono (F' := fun g => (W0.heap.size ≤ g ∧ ¬ G g) ∧ g < W.heap.size) fun g hg hf => ⟨hf, hg⟩) fun g hg hf => ht.block g hg fun hx => hf.1.2 hx.1.2) fun g _ hf => ⟨hf.1.1, ?_⟩
    rintro (h | h)
    · exact hf.1.2 h.1
    · omega
theorem St.turn (h : St W0 L W) (hb : Below W.heap.size W W') : St W0 L W' :=
  ⟨h.below.trans (hb.mono h.size), (Star.keep (h.star.mono (F' := fun g => W0.heap.size ≤ g ∧ g < W.heap.size) fun _ hg hf => ⟨hf, hg⟩) fun g _ hf => hb.block g hf.2).mono fun _ _ hf => hf.1⟩
theorem St.push (h : St W0 L W) (hb : Below W.heap.size W W') (ha : a.in_ (fun g => W.heap.size ≤ g) W') : St W0 (a :: L) W' := by
  have h' : Star L (fun g => W0.heap.size ≤ g ∧ g < W.heap.size) W' := Star.keep (h.star.mono (F' := fun g => W0.heap.size ≤ g ∧ g < W.heap.size) fun _ hg hf => ⟨hf, hg⟩) fun g hg hf => hb.block g hf.2
  have hs := h.size
  exact ⟨h.below.trans (hb.mono h.size), fun g => W.heap.size ≤ g, a.mono ha fun g _ hf => ⟨by omega, hf⟩, h'.mono fun g _ hf => ⟨hf.1, by omega⟩⟩
theorem St.drop (h : St W0 (a :: L) W) : St W0 L W := by
  obtain ⟨hb, G, ha, r⟩ := h
  exact ⟨hb, r.mono fun _ _ hf => hf.1⟩
theorem St.drop2 (h : St W0 (a :: b :: L) W) : St W0 (a :: L) W := h.at2.drop
theorem St.drop3 (h : St W0 (a :: b :: c :: L) W) : St W0 (a :: b :: L) W := h.at3.drop
end

/-- A block that is known whole. -/
def Blk (g : Nat) (cs : Array Value) (t : TypeId) : Atm :=
  ⟨fun F W => F g ∧ W.heap[g]? = some (.cells cs t (0, 0)), fun {F W W'} h hk => ⟨h.1, (hk g (by
      rcases Nat.lt_or_ge g W.heap.size with h1 | h1
      · exact h1
      · have := h.2; rw [Array.getElem?_eq_none h1] at this; cases this) h.1).trans h.2⟩, fun {F G W} h hm => ⟨hm g (by
      rcases Nat.lt_or_ge g W.heap.size with h1 | h1
      · exact h1
      · have := h.2; rw [Array.getElem?_eq_none h1] at this; cases this) h.1, h.2⟩⟩
theorem heap_lt {W : World} {g : Nat} {o : Obj} (h : W.heap[g]? = some o) : g < W.heap.size := by
  rcases Nat.lt_or_ge g W.heap.size with h1 | h1
  · exact h1
  · rw [Array.getElem?_eq_none h1] at h; cases h
/-- A slice that owns its row: v's n elements of s cells each are xs. -/
def Row (v : Value) (e s n : Nat) (xs : List Value) : Atm :=
  ⟨fun F W => (∀ g, v.ownBlock = some g → F g) ∧ W.ownsRow 0 e s v n xs, fun {F W W'} h hk => ⟨h.1, h.2.1, by
      rcases h.2.2 with h' | ⟨g, c, cur, rfl, hb, hh, r⟩
      · exact .inl h'
      · exact .inr ⟨g, c, cur, rfl, hb, (hk g (heap_lt hh) (h.1 g (by simp [Value.ownBlock]))).trans hh, r⟩⟩, fun {F G W} h hm => ⟨fun g hg => hm g (by
      rcases h.2.2 with ⟨rfl, _⟩ | ⟨g', c, cur, rfl, _, hh, _⟩
      · simp [Value.ownBlock] at hg
      · have : g' = g := by simpa [Value.ownBlock] using hg
        subst this
        exact heap_lt hh) (h.1 g hg), h.2⟩⟩
section
variable {W0 W W' : World} {L : List Atm} {g : Nat} {cs : Array Value} {t : TypeId}
theorem St.blk (h : St W0 (Blk g cs t :: L) W) : W.heap[g]? = some (.cells cs t (0, 0)) := by
  obtain ⟨F, ha, _, _⟩ := h.first
  exact ha.2
theorem St.blk_ge (h : St W0 (Blk g cs t :: L) W) : W0.heap.size ≤ g := by
  obtain ⟨F, ha, hf, _⟩ := h.first
  exact (hf _ ha.1).1
theorem St.newBlk (h : St W0 L W) (hb : Below W.heap.size W W') (hg : W.heap.size ≤ g) (hc : W'.heap[g]? = some (.cells cs t (0, 0))) : St W0 (Blk g cs t :: L) W' := h.push hb ⟨hg, hc⟩
theorem St.put {cs' : Array Value} {t' : TypeId} (h : St W0 (Blk g cs t :: L) W) (hc : W'.heap[g]? = some (.cells cs' t' (0, 0))) (ht : Tch (· = g) W W') : St W0 (Blk g cs' t' :: L) W' := by
  obtain ⟨F, ha, _, hr⟩ := h.first
  exact hr _ _ ⟨.inl ha.1, hc⟩ (ht.mono fun i _ e => by subst e; exact ha.1)
theorem St.setCell (h : St W0 (Blk g cs t :: L) W) (i : Nat) (v : Value) : St W0 (Blk g (cs.setIfInBounds i v) t :: L) (W.setCell ⟨g, i, none⟩ v) :=
  h.put (heap_setCell_same W g i cs t v h.blk) ((Tch.refl (· = g) W).setCell rfl v)
theorem St.row {v : Value} {e s n : Nat} {xs : List Value} (h : St W0 (Row v e s n xs :: L) W) : W.ownsRow 0 e s v n xs := by
  obtain ⟨F, ha, _, _⟩ := h.first
  exact ha.2
/-- Two things lie apart. -/
theorem St.blk_ne {g' : Nat} {cs' : Array Value} {t' : TypeId} (h : St W0 (Blk g cs t :: Blk g' cs' t' :: L) W) : g ≠ g' := by
  obtain ⟨_, G, ha, H, hb, _⟩ := h
  rintro rfl
  exact hb.1.1.2 ha.1.2
end
end Go.Cu
