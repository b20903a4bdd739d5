/- The operations on a map of texts by texts. -/
import Derived.Test.YtnakbdgoaepehaaMapMem
import Derived.Test.YtnakbdgoaepehaaStrs
namespace Go.Cu
open Go Go.RowKit
open Go.Maps (Keyed IsMap)
open Go.WideMaps (keyOf_string_mk)
theorem seek_front {k v : Str} {l : List (Str × Str)} : (fun j => seek j ((k, v) :: without k l)) = fun j => if j = k then some v else seek j l := by
  funext j
  rw [seek]
  by_cases h : k = j
  · rw [if_pos h, if_pos h.symm]
  · rw [if_neg h, if_neg (fun e => h e.symm), seek_without, if_neg (fun e => h e.symm)]
theorem seek_append {j : Str} : ∀ (l m : List (Str × Str)), seek j (l ++ m) = (seek j l).or (seek j m)
  | [], m => by simp [seek]
  | x :: l, m => by
    rw [List.cons_append, seek, seek]
    by_cases h : x.1 = j
    · rw [if_pos h, if_pos h]; rfl
    · rw [if_neg h, if_neg h]; exact seek_append l m
/-- The one that was used least goes. -/
theorem last_goes {l : List (Str × Str)} {s : Nat} (hl : l.length = s + 1) (hd : (keys l).Nodup) : ∃ k, (names l)[0]? = some k ∧ names (l.take s) = (names l).drop 1 ∧ (fun j => seek j (l.take s)) = fun j => if j = k then none else seek j l := by
  have hx : l = l.take s ++ [l[s]'(by omega)] := by
    rw [List.take_append_getElem, List.take_of_length_le (by omega)]
  obtain ⟨m, hm⟩ : ∃ m, m = l.take s := ⟨_, rfl⟩
  obtain ⟨x, hxx⟩ : ∃ x, x = l[s]'(by omega) := ⟨_, rfl⟩
  rw [← hm, ← hxx] at hx
  rw [← hm]
  have hn : names l = x.1 :: names m := by rw [hx]; unfold names keys; simp
  refine ⟨x.1, by rw [hn]; rfl, by rw [hn]; rfl, ?_⟩
  have hnot : x.1 ∉ keys m := by
    rw [hx] at hd
    unfold keys at hd ⊢
    rw [List.map_append, List.nodup_append] at hd
    intro hc
    exact hd.2.2 _ hc _ (by simp) rfl
  funext j
  rw [hx, seek_append]
  by_cases hj : j = x.1
  · subst hj
    rw [if_pos rfl]
    exact seek_none.2 hnot
  · rw [if_neg hj]
    have : seek j [x] = none := by rw [seek, if_neg (fun e => hj e.symm)]; rfl
    rw [this, Option.or_none]
section
variable {P : Program} {k e t : TypeId} {W0 w : World} {L : List Atm} {b n : Nat} {f : Str → Option Str} {ops : Array Oper} {rest : List Oper} {o : Oper} {a : Act} {Q : Exit → Act → World → Prop}
theorem wpList_seek (hg : o.guard = none) (m x : Operand) (hop : o.op = Op.lookup t m x true) (ht : P.underlying t = some (.map k e)) (hk : P.underlying k = some .string) (he : P.underlying e = some .string)
    (hz : (zeroValue e).run P w = .ok (.string ByteArray.empty) w) (hS : St W0 (MapA P k e b n f :: L) w) (hm : a.eval m = .map (some b)) (key : Str) (hx : a.eval x = .string (strB key)) (hl : key.length ≤ maxLen)
    (hK : wpList P ops Q rest (a.put o.dst (.tuple #[.string (strB ((f key).getD [])), .bool (f key).isSome])) w) : wpList P ops Q (o :: rest) a w := by
  obtain ⟨D, ho, hr⟩ := hS.mapA
  have hkey : keyOf P k (.string (strB key)) = some (.string key) := by
    rw [keyOf_string_mk hk (by rw [strB_size]; exact hl), strB_data]
  have hz0 : plainElem (H := Unit) P e (.string ByteArray.empty) = some (.lit (.string []), []) := by
    rw [plainElem_string he (by decide)]
    rfl
  refine wpList_lookup_own_ok w hg m x t hop k e (Maps.string_keyed hk) ht (plainElem P e) hz (.lit (.string [])) [] hz0 b n D hm ho (.string (strB key)) (.string key) hx hkey fun v ps hv => ?_
  obtain ⟨s, rfl, hc, _⟩ := plainElem_string_inv he hv
  obtain ⟨h1, h2⟩ := hr.2 key
  rw [h1]
  have hs : s = strB ((f key).getD []) := by
    cases hf : f key with
    | none =>
      rw [Maps.atKey_of_not_has (by rw [h1, hf]; rfl)] at hc
      simp only [Prod.mk.injEq, DataW.lit.injEq, Lit.string.injEq] at hc
      rw [strB_of s, ← hc.1]
      rfl
    | some v =>
      rw [h2 v hf] at hc
      simp only [Prod.mk.injEq, DataW.lit.injEq, Lit.string.injEq] at hc
      rw [strB_of s, ← hc.1]
      rfl
  rw [hs]
  exact hK
theorem wpList_mapPut (hg : o.guard = none) (m x v : Operand) (hop : o.op = Op.mapUpdate t m x v) (ht : P.underlying t = some (.map k e)) (hk : P.underlying k = some .string) (he : P.underlying e = some .string)
    (hS : St W0 (MapA P k e b n f :: L) w) (hm : a.eval m = .map (some b)) (key val : Str) (hx : a.eval x = .string (strB key)) (hv : a.eval v = .string (strB val)) (hl : key.length ≤ maxLen) (hl2 : val.length ≤ maxLen) (hn : n < maxLen)
    (hK : ∀ w', St W0 (MapA P k e b (n + 1) (fun j => if j = key then some val else f j) :: L) w' → wpList P ops Q rest (a.put o.dst undef) w') : wpList P ops Q (o :: rest) a w := by
  obtain ⟨D, ho, hr⟩ := hS.mapA
  have hkey : keyOf P k (.string (strB key)) = some (.string key) := by
    rw [keyOf_string_mk hk (by rw [strB_size]; exact hl), strB_data]
  have hval : plainElem (H := Unit) P e (.string (strB val)) = some (.lit (.string val), []) := by
    rw [plainElem_string he (by rw [strB_size]; exact hl2), strB_data]
  exact wpList_mapUpdate_own w hg m x v t hop k e (Maps.string_keyed hk) ht (plainElem P e) b n D hm ho hn _ _ _ hx hv hkey _ [] hval fun w' ho' hg' => hK w' (hS.mapPut ho' (hr.put key val) hg')
theorem wpList_mapDel (hg : o.guard = none) (m x : Operand) (hop : o.op = Op.call { callee := Callee.builtin Builtin.delete, args := #[m, x], argTypes := #[t, k] }) (ht : P.underlying t = some (.map k e)) (hk : P.underlying k = some .string)
    (hS : St W0 (MapA P k e b n f :: L) w) (hm : a.eval m = .map (some b)) (key : Str) (hx : a.eval x = .string (strB key)) (hl : key.length ≤ maxLen)
    (hK : ∀ w', St W0 (MapA P k e b n (fun j => if j = key then none else f j) :: L) w' → wpList P ops Q rest (a.put o.dst (.tuple #[])) w') : wpList P ops Q (o :: rest) a w := by
  obtain ⟨D, ho, hr⟩ := hS.mapA
  have hkey : keyOf P k (.string (strB key)) = some (.string key) := by
    rw [keyOf_string_mk hk (by rw [strB_size]; exact hl), strB_data]
  exact wpList_delete_own w hg m x t k hop e (Maps.string_keyed hk) ht (plainElem P e) b n D hm ho _ _ hx hkey fun w' ho' ht' => hK w' (hS.mapPut ho' (hr.del key) ht'.grown)
theorem wpList_newMap (hg : o.guard = none) (hop : o.op = Op.makeMap t none) (hS : St W0 L w)
    (hK : ∀ g w', St W0 (MapA P k e g 0 (fun _ => none) :: L) w' → Below w.heap.size w w' → wpList P ops Q rest (a.put o.dst (.map (some g))) w') : wpList P ops Q (o :: rest) a w := by
  refine wpList_plain hg fun K' hK' => ?_
  unfold Oper.wp
  simp [execOp, hop, run_makeMap, Result.andThen]
  exact hK' _ _ (hK _ _ hS.mapNew ((Below.refl _ _).alloc (Nat.le_refl _) _))
end
end Go.Cu
