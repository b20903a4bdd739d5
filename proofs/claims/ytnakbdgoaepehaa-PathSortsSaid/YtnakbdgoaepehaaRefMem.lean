/- The document's part in memory. -/
import Derived.Test.YtnakbdgoaepehaaCacheJob
namespace Go.Cu
open Go Go.RowKit
def pairL (x : Str × Str) : List Value := [.string (strB x.1), .string (strB x.2)]
def pairsL (l : List (Str × Str)) : List Value := l.flatMap pairL
theorem pairsL_len : ∀ l : List (Str × Str), (pairsL l).length = l.length * 2
  | [] => rfl
  | x :: l => by
    unfold pairsL at *
    rw [List.flatMap_cons, List.length_append, List.length_cons]
    have := pairsL_len l
    unfold pairsL at this
    rw [this]
    show 2 + _ = _
    omega
theorem pairsL_get : ∀ (l : List (Str × Str)) (i : Nat) (x : Str × Str), l[i]? = some x → (pairsL l)[i * 2]? = some (.string (strB x.1)) ∧ (pairsL l)[i * 2 + 1]? = some (.string (strB x.2))
  | y :: l, 0, x, h => by
    obtain rfl : y = x := by simpa using h
    exact ⟨rfl, rfl⟩
  | y :: l, i + 1, x, h => by
    have := pairsL_get l i x (by simpa using h)
    unfold pairsL at *
    rw [List.flatMap_cons]
    have e1 : (i + 1) * 2 = i * 2 + 1 + 1 := by omega
    rw [e1]
    exact this
theorem pairsL_append (l m : List (Str × Str)) : pairsL (l ++ m) = pairsL l ++ pairsL m := List.flatMap_append
theorem pairsL_take (l : List (Str × Str)) (n : Nat) (h : n ≤ l.length) : (pairsL l).take (n * 2) = pairsL (l.take n) := by
  have e : pairsL l = pairsL (l.take n) ++ pairsL (l.drop n) := by rw [← pairsL_append, List.take_append_drop]
  have hl : (pairsL (l.take n)).length = n * 2 := by rw [pairsL_len, List.length_take]; congr 1; omega
  rw [e, ← hl, List.take_left]
theorem pairsL_one1 (x : Str × Str) : pairsL [x] = pairL x := by unfold pairsL; simp
theorem pairsL_one (l : List (Str × Str)) : ∀ u ∈ pairsL l, u.oneCell' = true := by
  intro u hu
  unfold pairsL at hu
  obtain ⟨x, _, hx⟩ := List.mem_flatMap.1 hu
  simp only [pairL, List.mem_cons, List.not_mem_nil, or_false] at hx
  rcases hx with rfl | rfl <;> rfl
theorem without_take {name : Str} {l : List (Str × Str)} {k : Nat} {x : Str × Str} (hx : l[k]? = some x) : without name (l.take (k + 1)) = without name (l.take k) ++ (if x.1 = name then [] else [x]) := by
  have e : l.take (k + 1) = l.take k ++ [x] := by rw [List.take_add_one, hx]; rfl
  rw [e]
  unfold without
  rw [List.filter_append]
  congr 1
  by_cases h : x.1 = name
  · rw [if_pos h, List.filter_cons_of_neg (by simpa using h)]; rfl
  · rw [if_neg h, List.filter_cons_of_pos (by simpa using h)]; rfl
theorem seek_take {name : Str} {l : List (Str × Str)} {k : Nat} {x : Str × Str} (hd : (keys l).Nodup) (hx : l[k]? = some x) : seek name (l.take (k + 1)) = if x.1 = name then some x.2 else seek name (l.take k) := by
  have e : l.take (k + 1) = l.take k ++ [x] := by rw [List.take_add_one, hx]; rfl
  rw [e, seek_append]
  by_cases h : x.1 = name
  · rw [if_pos h]
    have h1 : seek name (l.take k) = none := by
      rw [seek_none]
      have hn : (keys (l.take (k + 1))).Nodup := by
        unfold keys at *
        rw [List.map_take]
        exact hd.sublist (List.take_sublist _ _)
      rw [e] at hn
      unfold keys at hn ⊢
      rw [List.map_append, List.nodup_append] at hn
      intro hc
      exact hn.2.2 _ hc _ (by simp) h.symm
    rw [h1, seek, if_pos h]
    rfl
  · rw [if_neg h]
    have h2 : seek name [x] = none := by rw [seek, if_neg h]; rfl
    rw [h2, Option.or_none]
section
variable {W0 W : World} {L : List Atm} {v : Value} {xs : List Value}
theorem row_ats {e n s : Nat} (h : St W0 (Row v e s n xs :: L) W) {A : Option Addr} {c : Nat} (hv : v = .slice A n c) {i : Nat} {x : Value} (hx : xs[i]? = some x) : ∃ g, A = some ⟨g, 0, none⟩ ∧ W.cell? ⟨g, i, none⟩ = some x := by
  have hxl := h.row.1
  have hi : i < n * s := by
    rcases Nat.lt_or_ge i (n * s) with h | h
    · exact h
    · rw [List.getElem?_eq_none (by omega)] at hx; cases hx
  rcases h.row.2 with ⟨_, h0⟩ | ⟨g, c', cur, e1, _, hh, _, _, hs, ht⟩
  · rw [h0, Nat.zero_mul] at hi; omega
  · rw [hv] at e1
    injection e1 with e2 _ _
    refine ⟨g, e2, (cell_of_row W g i _ _ _ hh).trans ?_⟩
    rw [← Array.getElem?_toList]
    rw [← ht, List.getElem?_take_of_lt (by omega)] at hx
    exact hx
theorem blk_at {g : Nat} {cs : Array Value} {t : TypeId} (h : St W0 (Blk g cs t :: L) W) (i : Nat) : W.cell? ⟨g, i, none⟩ = cs[i]? := cell_of_row W g i _ _ _ h.blk
end
end Go.Cu
namespace Go.Proofs.Ytnakbdgoaepehaa
open Go.RowKit Go.Cu
theorem zeroPair (W : World) : (zeroValue 85).run Try.prog W = .ok (.agg #[.string ByteArray.empty, .string ByteArray.empty]) W := by kernel_rfl
theorem sizePair : (Try.prog.info? 85).map (·.size) = some 2 := by kernel_rfl
theorem infoPair : (Try.prog.info? 85).map (fun i => (i.zero, i.size, i.bytes)) = some (some (.agg #[.string ByteArray.empty, .string ByteArray.empty]), 2, 32) := by kernel_rfl
section
variable {W0 W : World} {L : List Atm} {b o : Nat} {cs : Array Value} {t : TypeId} {v : Value} {l : List (Str × Str)}
set_option maxRecDepth 20000 in
set_option maxHeartbeats 8000000 in
theorem without_st (h : St W0 (Blk b cs t :: Row v 85 2 l.length (pairsL l) :: L) W) (h1 : cs[o + 1]? = some v) (hd : (keys l).Nodup) (hl : l.length ≤ 100000) (name : Str) :
    Calls Try.prog 39 #[.pointer (some ⟨b, o, none⟩), .string (strB name)] W fun r w' => ∃ B d, r = .returned (.tuple #[.slice B (without name l).length d, .string (strB ((seek name l).getD [])), .bool (seek name l).isSome]) ∧
      St W0 (Row (.slice B (without name l).length d) 85 2 (without name l).length (pairsL (without name l)) :: Blk b cs t :: Row v 85 2 l.length (pairsL l) :: L) w' := by
  obtain ⟨A, c, rfl, _⟩ := row_slice h.at2
  have HH := hid h
  have H1 := hid h1
  have HD := hid hd
  obtain ⟨ip, hi, hiz, his, hib⟩ := info_parts infoPair
  have HI := hid (And.intro hi (And.intro hiz (And.intro his hib)))
  clear h h1 hd hi hiz his hib
  go_enter Try.func39, Try.ntmps39
  go_wp2_with fail
  go_loopw [7, 8, 9, 10] (fun ov wv bv kv X => ∃ (k : Nat) (B : Option Addr) (d : Nat), k ≤ l.length ∧ kv = .int .i64 k ∧ ov = .slice B (without name (l.take k)).length d ∧ wv = .string (strB ((seek name (l.take k)).getD [])) ∧ bv = .bool (seek name (l.take k)).isSome ∧
    Hid (St W0 (Row (.slice B (without name (l.take k)).length d) 85 2 (without name (l.take k)).length (pairsL (without name (l.take k))) :: Blk b cs t :: Row (.slice A l.length c) 85 2 l.length (pairsL l) :: L) X)) (fun _ _ _ kv _ => l.length - (intOf kv).toNat)
  case atStart => exact ⟨0, none, 0, Nat.zero_le _, rfl, rfl, rfl, rfl, hid (HH.out.nilRow 85 2)⟩
  case round =>
    clear HH
    obtain ⟨k, B, d, hk, rfl, rfl, rfl, rfl, HS⟩ := hrel
    have k0 : (0 : Int) ≤ (k : Int) := by omega
    have x1 := (blk_at HS.out.at2 (o + 1)).trans H1.out
    by_cases hlt : k < l.length
    · have e1 : (k : Int) < (l.length : Int) := by omega
      obtain ⟨x, hx⟩ : ∃ x, l[k]? = some x := ⟨_, List.getElem?_eq_getElem hlt⟩
      obtain ⟨ga, rfl, y0⟩ := row_ats HS.out.at3 rfl (pairsL_get l k x hx).1
      obtain ⟨ga', ea, y1⟩ := row_ats HS.out.at3 rfl (pairsL_get l k x hx).2
      cases ea
      have HW := hid (without_take (name := name) hx)
      have HSK := hid (seek_take (name := name) HD.out hx)
      obtain ⟨m, hm⟩ : ∃ m, m = (without name (l.take k)).length := ⟨_, rfl⟩
      have hmk : m ≤ 100000 := by
        have h1 : (without name (l.take k)).length ≤ (l.take k).length := List.length_filter_le _ _
        have h2 : (l.take k).length ≤ k := by rw [List.length_take]; omega
        omega
      have HMM := hid hm
      rw [← hm] at HS ⊢
      clear hx hm
      by_cases hn : x.1 = name
      · have HWn := hid (show without name (l.take (k + 1)) = without name (l.take k) by rw [HW.out, if_pos hn, List.append_nil])
        have HSn := hid (show seek name (l.take (k + 1)) = some x.2 by rw [HSK.out, if_pos hn])
        clear HW HSK
        go_wp2_with fail
        refine ⟨⟨k + 1, B, d, by omega, by go_num, by rw [HWn.out, ← HMM.out], by rw [HSn.out]; rfl, by rw [HSn.out]; rfl, ?_⟩, by simp [intOf]; omega⟩
        rw [HWn.out, ← HMM.out]
        exact HS
      · have HWn := hid (show without name (l.take (k + 1)) = without name (l.take k) ++ [x] by rw [HW.out, if_neg hn])
        have HSn := hid (show seek name (l.take (k + 1)) = seek name (l.take k) by rw [HSK.out, if_neg hn])
        have hne : ((strB x.1).toList == (strB name).toList) = false := (Lib.bytes_beq_false_iff _ _).2 fun e => hn (strB_inj e)
        clear HW HSK
        go_wp2_with (first | (refine wpList_buildSlice1 _ rfl (.agg #[.string (strB x.1), .string (strB x.2)]) (by simp [Act.eval, Act.put]) rfl Try.underlying51 zeroPair sizePair (by decide) (by decide) rfl ?_; intro gn X4 hS hgs hges hX1b; have H4 := hid (HS.out.turn hX1b); have HNW := hid (news_box hS (pairL x) rfl); clear hS hgs hges hX1b x1 y0 y1) | (refine wpList_append_at _ _ _ rfl (.slice B m d) rfl ⟨gn, 0, none⟩ 1 1 rfl rfl 85 ip (.agg #[.string ByteArray.empty, .string ByteArray.empty]) 2 32 Try.underlying51 HI.out.1 HI.out.2.1 HI.out.2.2.1 HI.out.2.2.2 rfl (by decide) m _ H4.out.row (pairL x) rfl HNW.out (by simp [pairL, Value.oneCell']) (by unfold maxLen; omega) (by omega) ?_; intro v' X5 hO2 hT2 hfr; have H5 := hid (H4.out.grow hO2 hT2 hfr); clear hO2 hT2 hfr; obtain ⟨B1, d1, hv', _⟩ := row_slice H5.out; subst hv'))
        have H6 := H5.out
        rw [← pairsL_one1 x, ← pairsL_append, ← HWn.out] at H6
        have hl9 : (without name (l.take (k + 1))).length = m + 1 := by rw [HWn.out, List.length_append, ← HMM.out]; rfl
        refine ⟨⟨k + 1, B1, d1, by omega, by go_num, by rw [hl9], by rw [HSn.out], by rw [HSn.out], ?_⟩, by simp [intOf]; omega⟩
        rw [hl9]
        exact hid H6
    · have e1 : ¬ (k : Int) < (l.length : Int) := by omega
      obtain rfl : k = l.length := by omega
      go_wp2_with fail
      go_ret3
      rw [List.take_length] at HS
      exact ⟨B, d, rfl, HS.out⟩
end
end Go.Proofs.Ytnakbdgoaepehaa
