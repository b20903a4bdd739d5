/- Keys in order, each once, in two ways. No program. -/
import Derived.Test.YtnakbdgoaepehaaKeyMem
namespace Go.Cu
abbrev Ks := List (List UInt8)
def All32 (l : Ks) : Prop := ∀ x ∈ l, x.length = 32
def Strict (l : Ks) : Prop := l.Pairwise fun a b => ltB a b = true
theorem strict_ext : ∀ {l m : Ks}, Strict l → Strict m → (∀ x, x ∈ l ↔ x ∈ m) → l = m
  | [], [], _, _, _ => rfl
  | [], b :: m, _, _, h => absurd ((h b).2 List.mem_cons_self) (by simp)
  | a :: l, [], _, _, h => absurd ((h a).1 List.mem_cons_self) (by simp)
  | a :: l, b :: m, hl, hm, h => by
    have hl' := List.pairwise_cons.1 hl
    have hm' := List.pairwise_cons.1 hm
    have hab : a = b := by
      rcases List.mem_cons.1 ((h a).1 List.mem_cons_self) with e | e
      · exact e
      · rcases List.mem_cons.1 ((h b).2 List.mem_cons_self) with e' | e'
        · exact e'.symm
        · have h1 := hm'.1 a e
          have h2 := hl'.1 b e'
          rw [ltB_asymm h1] at h2
          cases h2
    subst hab
    have hn1 : a ∉ l := fun e => by have := hl'.1 a e; rw [ltB_self] at this; cases this
    have hn2 : a ∉ m := fun e => by have := hm'.1 a e; rw [ltB_self] at this; cases this
    rw [strict_ext hl'.2 hm'.2 fun x => ?_]
    constructor
    · intro hx
      rcases List.mem_cons.1 ((h x).1 (List.mem_cons_of_mem _ hx)) with e | e
      · subst e; exact absurd hx hn1
      · exact e
    · intro hx
      rcases List.mem_cons.1 ((h x).2 (List.mem_cons_of_mem _ hx)) with e | e
      · subst e; exact absurd hx hn2
      · exact e
/-- Neighbours that are the same, once. -/
def compactL : Ks → Ks
  | [] => []
  | [x] => [x]
  | x :: y :: l => if x = y then compactL (y :: l) else x :: compactL (y :: l)
theorem mem_compact : ∀ (l : Ks) (x : List UInt8), x ∈ compactL l ↔ x ∈ l
  | [], x => by simp [compactL]
  | [y], x => by simp [compactL]
  | y :: z :: l, x => by
    have ih := mem_compact (z :: l) x
    rw [compactL]
    split
    · rename_i e
      subst e
      rw [ih]
      simp
    · rw [List.mem_cons, ih]; simp
def Weak (l : Ks) : Prop := l.Pairwise fun a b => ltB b a = false
theorem strict_compact : ∀ {l : Ks}, All32 l → Weak l → Strict (compactL l)
  | [], _, _ => List.Pairwise.nil
  | [x], _, _ => List.pairwise_singleton _ _
  | x :: y :: l, ha, hw => by
    have hw' := List.pairwise_cons.1 hw
    have ih := strict_compact (l := y :: l) (fun z hz => ha z (List.mem_cons_of_mem _ hz)) hw'.2
    rw [compactL]
    split
    · exact ih
    · rename_i hne
      refine List.pairwise_cons.2 ⟨fun z hz => ?_, ih⟩
      rw [mem_compact] at hz
      have hx32 := ha x List.mem_cons_self
      have hy32 := ha y (List.mem_cons_of_mem _ List.mem_cons_self)
      have hxy : ltB x y = true := by
        rcases ltB_total hx32 hy32 hne with h | h
        · exact h
        · rw [hw'.1 y List.mem_cons_self] at h; cases h
      rcases List.mem_cons.1 hz with e | e
      · rw [e]; exact hxy
      · have hz32 := ha z (List.mem_cons_of_mem _ hz)
        have hyz := (List.pairwise_cons.1 hw'.2).1 z e
        by_cases hyz2 : y = z
        · rw [← hyz2]; exact hxy
        · rcases ltB_total hy32 hz32 hyz2 with h | h
          · exact ltB_trans hxy h
          · rw [hyz] at h; cases h
/-- How many stand not behind it. -/
def atOf (k : List UInt8) (out : Ks) : Nat := (out.takeWhile fun o => !ltB k o).length
def insU (out : Ks) (k : List UInt8) : Ks := if k ∈ out.takeWhile (fun o => !ltB k o) then out else out.takeWhile (fun o => !ltB k o) ++ k :: out.dropWhile (fun o => !ltB k o)
theorem mem_insU (out : Ks) (k x : List UInt8) : x ∈ insU out k ↔ x ∈ out ∨ x = k := by
  have hsp : out.takeWhile (fun o => !ltB k o) ++ out.dropWhile (fun o => !ltB k o) = out := List.takeWhile_append_dropWhile
  unfold insU
  split
  · rename_i h
    constructor
    · exact .inl
    · rintro (h' | rfl)
      · exact h'
      · rw [← hsp]; exact List.mem_append_left _ h
  · conv => rhs; rw [← hsp]
    rw [List.mem_append, List.mem_append, List.mem_cons]
    constructor
    · rintro (h | h | h)
      · exact .inl (.inl h)
      · exact .inr h
      · exact .inl (.inr h)
    · rintro ((h | h) | h)
      · exact .inl h
      · exact .inr (.inr h)
      · exact .inr (.inl h)
theorem all_takeWhile {α : Type} (p : α → Bool) : ∀ (l : List α) (x : α), x ∈ l.takeWhile p → p x = true
  | [], x, h => by cases h
  | y :: l, x, h => by
    rw [List.takeWhile_cons] at h
    split at h
    · rename_i hp
      rcases List.mem_cons.1 h with e | e
      · rw [e]; exact hp
      · exact all_takeWhile p l x e
    · cases h
theorem head_dropWhile {α : Type} (p : α → Bool) : ∀ (l : List α) (y : α) (t : List α), l.dropWhile p = y :: t → p y = false
  | [], y, t, h => by cases h
  | z :: l, y, t, h => by
    rw [List.dropWhile_cons] at h
    split at h
    · exact head_dropWhile p l y t h
    · rename_i hp
      cases h
      simpa using hp
theorem strict_insU {out : Ks} {k : List UInt8} (ha : All32 out) (hk : k.length = 32) (hs : Strict out) : Strict (insU out k) := by
  have hsp : out.takeWhile (fun o => !ltB k o) ++ out.dropWhile (fun o => !ltB k o) = out := List.takeWhile_append_dropWhile
  unfold insU
  split
  · exact hs
  · rename_i hn
    have hs2 : Strict (out.takeWhile (fun o => !ltB k o) ++ out.dropWhile (fun o => !ltB k o)) := by rw [hsp]; exact hs
    obtain ⟨p1, p2, p3⟩ := List.pairwise_append.1 hs2
    have hkd : ∀ d ∈ out.dropWhile (fun o => !ltB k o), ltB k d = true := by
      cases hd : out.dropWhile (fun o => !ltB k o) with
      | nil => intro d h; cases h
      | cons y t =>
        have hy : ltB k y = true := by simpa using head_dropWhile _ _ _ _ hd
        rw [hd] at p2
        intro d hdm
        rcases List.mem_cons.1 hdm with e | e
        · rw [e]; exact hy
        · exact ltB_trans hy ((List.pairwise_cons.1 p2).1 d e)
    refine List.pairwise_append.2 ⟨p1, List.pairwise_cons.2 ⟨hkd, p2⟩, fun a hat b hb => ?_⟩
    have hak : ltB a k = true := by
      have h1 := all_takeWhile _ _ _ hat
      have h2 : ltB k a = false := by simpa using h1
      have hne : a ≠ k := fun e => hn (e ▸ hat)
      rcases ltB_total (ha a (by rw [← hsp]; exact List.mem_append_left _ hat)) hk hne with h | h
      · exact h
      · rw [h2] at h; cases h
    rcases List.mem_cons.1 hb with e | e
    · rw [e]; exact hak
    · exact ltB_trans hak (hkd b e)
def insAll (ks : Ks) : Ks := ks.foldl insU []
theorem insAll_snoc (ks : Ks) (k : List UInt8) : insAll (ks ++ [k]) = insU (insAll ks) k := by unfold insAll; rw [List.foldl_append]; rfl
theorem insAll_ok : ∀ (ks : Ks) (out : Ks), All32 ks → All32 out → Strict out → Strict (ks.foldl insU out) ∧ ∀ x, x ∈ ks.foldl insU out ↔ x ∈ out ∨ x ∈ ks
  | [], out, _, _, hs => ⟨hs, fun x => by simp⟩
  | k :: ks, out, ha, ho, hs => by
    have hk := ha k List.mem_cons_self
    have ho2 : All32 (insU out k) := fun x hx => by
      rcases (mem_insU out k x).1 hx with h | h
      · exact ho x h
      · rw [h]; exact hk
    obtain ⟨h1, h2⟩ := insAll_ok ks (insU out k) (fun x hx => ha x (List.mem_cons_of_mem _ hx)) ho2 (strict_insU ho hk hs)
    refine ⟨h1, fun x => ?_⟩
    rw [List.foldl_cons, h2, mem_insU, List.mem_cons]
    constructor
    · rintro ((h | h) | h)
      · exact .inl h
      · exact .inr (.inl h)
      · exact .inr (.inr h)
    · rintro (h | h | h)
      · exact .inl (.inl h)
      · exact .inl (.inr h)
      · exact .inr h
theorem insAll_32 {ks : Ks} (ha : All32 ks) : All32 (insAll ks) := fun x hx => by
  rcases ((insAll_ok ks [] ha (fun _ h => by cases h) List.Pairwise.nil).2 x).1 hx with h | h
  · cases h
  · exact ha x h
/-- Both ways come to one list. -/
theorem sorts_same {ks ms : Ks} (ha : All32 ks) (hw : Weak ms) (hm : ∀ x, x ∈ ms ↔ x ∈ ks) : compactL ms = insAll ks := by
  obtain ⟨h1, h2⟩ := insAll_ok ks [] ha (fun _ h => by cases h) List.Pairwise.nil
  refine strict_ext (strict_compact (fun x hx => ha x ((hm x).1 hx)) hw) h1 fun x => ?_
  rw [mem_compact, hm]
  show _ ↔ x ∈ ks.foldl insU []
  rw [h2]
  simp
end Go.Cu
