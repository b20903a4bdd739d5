/- A cache in memory. -/
import Derived.Test.YtnakbdgoaepehaaProg
import Derived.Test.YtnakbdgoaepehaaMapMem
import Derived.Test.YtnakbdgoaepehaaGrp
import Derived.Test.YtnakbdgoaepehaaStrs
import Derived.Test.YtnakbdgoaepehaaShelf
import Derived.Test.YtnakbdgoaepehaaTail
import Derived.Sort.OwnSorted
namespace Go.Proofs.Ytnakbdgoaepehaa
open Go.RowKit Go.Cu
def partV (bm : Nat) (v : Value) (p : Pt) : Array Value := #[.map (some bm), v, .int .i64 p.hits, .int .i64 p.misses]
abbrev ptrV (b : Nat) : Value := .pointer (some ⟨b, 0, none⟩)
/-- What a part's map answers. -/
abbrev lookF (l : List (Str × Str)) : Str → Option Str := fun k => seek k l
abbrev partL (b bm n : Nat) (v : Value) (p : Pt) : List Atm := [Blk b (partV bm v p) 76, MapA Try.prog 9 9 bm n (lookF p.l), Row v 9 1 p.l.length ((names p.l).map sv)]
/-- A part of no more than N puts. -/
def PartA (N : Nat) (q : Nat × Pt) : Atm := Ex fun x : Nat × Nat × Value => Grp (Fact (x.2.1 ≤ N) :: partL q.1 x.1 x.2.1 x.2.2 q.2)
abbrev cacheL (N g size : Nat) (v : Value) (qs : List (Nat × Pt)) : List Atm := Blk g #[.int .i64 size, v] 72 :: Row v 73 1 qs.length (qs.map fun q => ptrV q.1) :: qs.map (PartA N)
/-- A cache of these parts. -/
def CacheA (N g size : Nat) (ps : List Pt) : Atm := Ex fun x : Value × List (Nat × Pt) => Grp (Fact (x.2.map (·.2) = ps) :: cacheL N g size x.1 x.2)
theorem Star.imp {ι : Type} {f f' : ι → Atm} {W : World} : ∀ {l : List ι} {F : Nat → Prop}, (∀ i, i ∈ l → ∀ F W, (f i).in_ F W → (f' i).in_ F W) → Star (l.map f) F W → Star (l.map f') F W
  | [], _, _, _ => trivial
  | i :: l, _, h, ⟨G, h1, r⟩ => ⟨G, h i (by simp) _ _ h1, Star.imp (fun j hj => h j (by simp [hj])) r⟩
theorem PartA.mono {N N' : Nat} (h : N ≤ N') (q : Nat × Pt) (F : Nat → Prop) (W : World) : (PartA N q).in_ F W → (PartA N' q).in_ F W := by
  rintro ⟨x, G, h1, r⟩
  exact ⟨x, G, Nat.le_trans h1 h, r⟩
section
variable {W0 W : World} {L : List Atm} {N g size : Nat} {ps : List Pt}
theorem _root_.Go.Cu.St.part {b : Nat} {p : Pt} (h : St W0 (PartA N (b, p) :: L) W) : ∃ bm n v, n ≤ N ∧ St W0 (partL b bm n v p ++ L) W := by
  obtain ⟨⟨bm, n, v⟩, h1⟩ := h.unex
  obtain ⟨h2, h3⟩ := h1.ungrp.unfact
  exact ⟨bm, n, v, h2, h3⟩
theorem _root_.Go.Cu.St.unpart {b bm n : Nat} {v : Value} {p : Pt} (h : St W0 (partL b bm n v p ++ L) W) (hn : n ≤ N) : St W0 (PartA N (b, p) :: L) W :=
  St.ex (P := fun x : Nat × Nat × Value => Grp (Fact (x.2.1 ≤ N) :: partL b x.1 x.2.1 x.2.2 p)) (bm, n, v) (St.grp (M := Fact (n ≤ N) :: partL b bm n v p) (h.fact hn))
theorem _root_.Go.Cu.St.cache (h : St W0 (CacheA N g size ps :: L) W) : ∃ v qs, qs.map (·.2) = ps ∧ St W0 (cacheL N g size v qs ++ L) W := by
  obtain ⟨⟨v, qs⟩, h1⟩ := h.unex
  obtain ⟨h2, h3⟩ := h1.ungrp.unfact
  exact ⟨v, qs, h2, h3⟩
theorem _root_.Go.Cu.St.uncache {v : Value} {qs : List (Nat × Pt)} (h : St W0 (cacheL N g size v qs ++ L) W) (hq : qs.map (·.2) = ps) : St W0 (CacheA N g size ps :: L) W :=
  St.ex (P := fun x : Value × List (Nat × Pt) => Grp (Fact (x.2.map (·.2) = ps) :: cacheL N g size x.1 x.2)) (v, qs) (St.grp (M := Fact (qs.map (·.2) = ps) :: cacheL N g size v qs) (h.fact hq))
theorem _root_.Go.Cu.St.more {N' : Nat} (h : St W0 (CacheA N g size ps :: L) W) (hN : N ≤ N') : St W0 (CacheA N' g size ps :: L) W := by
  obtain ⟨F, ⟨⟨v, qs⟩, G, hf, G1, h1, G2, h2, h3⟩, _, hr⟩ := h.first
  refine hr _ _ ?_ (Tch.refl _ _)
  exact (CacheA N' g size ps).mono ⟨(v, qs), G, hf, G1, h1, G2, h2, Star.imp (fun q _ F W => PartA.mono hN q F W) h3⟩ fun _ _ hf => .inl hf
end
end Go.Proofs.Ytnakbdgoaepehaa
