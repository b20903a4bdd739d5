/- The reference's sort of keys, walked. -/
import Derived.Test.YtnakbdgoaepehaaKeySortP
namespace Go.Cu
theorem insU_len (out : Ks) (k : List UInt8) : (insU out k).length ≤ out.length + 1 := by
  have hsp : (out.takeWhile (fun o => !ltB k o)).length + (out.dropWhile (fun o => !ltB k o)).length = out.length := by
    rw [← List.length_append, List.takeWhile_append_dropWhile]
  unfold insU
  split
  · omega
  · rw [List.length_append, List.length_cons]; omega
theorem insAll_take {ks : Ks} {i : Nat} {k : List UInt8} (hk : ks[i]? = some k) : insAll (ks.take (i + 1)) = insU (insAll (ks.take i)) k := by
  rw [List.take_add_one, hk, Option.toList_some, insAll_snoc]
theorem insAll_len {ks : Ks} : ∀ i, i ≤ ks.length → (insAll (ks.take i)).length ≤ i
  | 0, _ => by simp [insAll]
  | i + 1, h => by
    have ih := insAll_len (ks := ks) i (by omega)
    rw [insAll_take (List.getElem?_eq_getElem (by omega : i < ks.length))]
    have := insU_len (insAll (ks.take i)) ks[i]
    omega
section
variable {α : Type} {p : α → Bool}
theorem takeWhile_take (p : α → Bool) : ∀ (l : List α) (a : Nat), a ≤ (l.takeWhile p).length → l.take a = (l.takeWhile p).take a
  | [], a, h => by simp
  | x :: l, 0, h => by simp
  | x :: l, a + 1, h => by
    rw [List.takeWhile_cons] at h ⊢
    split at h
    · rename_i hp
      rw [if_pos hp, List.take_succ_cons, List.take_succ_cons, takeWhile_take p l a (by simpa using h)]
    · simp at h
theorem takeWhile_in (p : α → Bool) : ∀ (l : List α) (a : Nat) (x : α), a < (l.takeWhile p).length → l[a]? = some x → p x = true
  | [], a, x, h, hx => by simp at hx
  | y :: l, 0, x, h, hx => by
    rw [List.takeWhile_cons] at h
    split at h
    · rename_i hp
      have : y = x := by simpa using hx
      rw [← this]; exact hp
    · simp at h
  | y :: l, a + 1, x, h, hx => by
    rw [List.takeWhile_cons] at h
    split at h
    · exact takeWhile_in p l a x (by simpa using h) (by simpa using hx)
    · simp at h
theorem takeWhile_out (p : α → Bool) : ∀ (l : List α) (x : α), l[(l.takeWhile p).length]? = some x → p x = false
  | [], x, hx => by simp at hx
  | y :: l, x, hx => by
    rw [List.takeWhile_cons] at hx
    split at hx
    · exact takeWhile_out p l x (by simpa using hx)
    · rename_i hp
      have : y = x := by simpa using hx
      rw [← this]; simpa using hp
theorem dropWhile_drop (p : α → Bool) : ∀ l : List α, l.dropWhile p = l.drop (l.takeWhile p).length
  | [] => rfl
  | y :: l => by
    rw [List.dropWhile_cons, List.takeWhile_cons]
    split
    · rw [List.length_cons, List.drop_succ_cons, dropWhile_drop p l]
    · rfl
end
theorem atOf_le (k : List UInt8) (out : Ks) : atOf k out ≤ out.length := by
  unfold atOf
  exact List.Sublist.length_le (List.takeWhile_sublist _)
theorem insU_at (out : Ks) (k : List UInt8) : insU out k = if k ∈ out.take (atOf k out) then out else out.take (atOf k out) ++ k :: out.drop (atOf k out) := by
  have e1 : out.take (atOf k out) = out.takeWhile fun o => !ltB k o := by
    unfold atOf
    rw [takeWhile_take _ out _ (Nat.le_refl _), List.take_length]
  have e2 : out.drop (atOf k out) = out.dropWhile fun o => !ltB k o := (dropWhile_drop _ out).symm
  rw [e1, e2]
  rfl
/-- One more of them looked at. -/
theorem same_step {out : Ks} {k x : List UInt8} {a : Nat} (hx : out[a]? = some x) : decide (k ∈ out.take (a + 1)) = (decide (k ∈ out.take a) || decide (x = k)) := by
  rw [List.take_add_one, hx, Option.toList_some]
  by_cases h1 : k ∈ out.take a
  · simp [h1]
  · by_cases h2 : x = k
    · simp [h2]
    · have h3 : ¬ k = x := fun e => h2 e.symm
      simp [h1, h2, h3]
/-- A hole moved down by one. -/
theorem hole_down {out : Ks} {z e : List UInt8} {j : Nat} (hj : out[j]? = some e) : (out.take (j + 1) ++ z :: out.drop (j + 1)).set (j + 1) e = out.take j ++ e :: out.drop j := by
  have hl : j < out.length := (List.getElem?_eq_some_iff.1 hj).1
  have h1 : (out.take (j + 1)).length = j + 1 := by rw [List.length_take]; omega
  rw [List.set_append_right _ _ (by omega), h1, Nat.sub_self, List.set_cons_zero, List.take_add_one, hj, Option.toList_some, List.append_assoc, List.singleton_append]
  congr 2
  have := List.drop_eq_getElem_cons hl
  rw [this]
  congr 1
  exact (Option.some.inj ((List.getElem?_eq_getElem hl).symm.trans hj)).symm
theorem hole_fill {out : Ks} {z k : List UInt8} {j : Nat} (hj : j ≤ out.length) : (out.take j ++ z :: out.drop j).set j k = out.take j ++ k :: out.drop j := by
  have h1 : (out.take j).length = j := by rw [List.length_take]; omega
  rw [List.set_append_right _ _ (by omega), h1, Nat.sub_self, List.set_cons_zero]
theorem hole_get {out : Ks} {z e : List UInt8} {j : Nat} (hj : out[j]? = some e) : (out.take (j + 1) ++ z :: out.drop (j + 1))[j]? = some e := by
  have hl : j < out.length := (List.getElem?_eq_some_iff.1 hj).1
  rw [List.getElem?_append_left (by rw [List.length_take]; omega), List.getElem?_take_of_lt (by omega)]
  exact hj
theorem hole_len {out : Ks} {z : List UInt8} {j : Nat} (hj : j ≤ out.length) : (out.take j ++ z :: out.drop j).length = out.length + 1 := by
  rw [List.length_append, List.length_cons, List.length_take, List.length_drop]; omega
theorem All32.hole {out : Ks} {z : List UInt8} (ha : All32 out) (hz : z.length = 32) (j : Nat) : All32 (out.take j ++ z :: out.drop j) := fun x hx => by
  rcases List.mem_append.1 hx with h | h
  · exact ha x (List.mem_of_mem_take h)
  · rcases List.mem_cons.1 h with h | h
    · rw [h]; exact hz
    · exact ha x (List.mem_of_mem_drop h)
end Go.Cu
namespace Go.Proofs.Ytnakbdgoaepehaa
open Go.RowKit Go.Cu
section
variable {W0 W : World} {L : List Atm} {A : Option Addr} {n c : Nat} {ks : Ks}
set_option maxRecDepth 20000 in
set_option maxHeartbeats 8000000 in
theorem rsort_st (h : St W0 (Row (.slice A n c) 22 32 n (keysL ks) :: L) W) (hl : ks.length = n) (ha : All32 ks) (hn : n ≤ 1000) :
    Calls Try.prog 30 #[.slice A n c] W fun r w' => ∃ B m d, r = .returned (.slice B m d) ∧ m = (insAll ks).length ∧ St W0 (Row (.slice B m d) 22 32 m (keysL (insAll ks)) :: Row (.slice A n c) 22 32 n (keysL ks) :: L) w' := by
  have HH := hid h
  have HL := hid hl
  have HA := hid ha
  clear h hl ha
  obtain ⟨ip, hi, hiz, his, hib⟩ := info_parts info22
  have HI := hid (And.intro hi (And.intro hiz (And.intro his hib)))
  clear hi hiz his hib
  go_enter Try.func30, Try.ntmps30
  go_wp2_with (refine wpList_buildSlice0 rfl rfl Try.underlying64 size22 ?_; intro gs X1 hS hgs hges hX1; have H1 := hid (HH.out.newRow0 (e := 22) (s := 32) hX1 hges hS); clear hS hgs hges hX1)
  go_loopw [3, 4, 5, 6, 7] (fun bv iv _ _ _ X => ∃ (gb m d i : Nat), bv = .slice (some ⟨gb, 0, none⟩) m d ∧ iv = .int .i64 i ∧ i ≤ n ∧ m ≤ i ∧ Hid (m = (insAll (ks.take i)).length) ∧ Hid (St W0 (Row (.slice (some ⟨gb, 0, none⟩) m d) 22 32 m (keysL (insAll (ks.take i))) :: Row (.slice A n c) 22 32 n (keysL ks) :: L) X)) (fun _ iv _ _ _ _ => n - (intOf iv).toNat)
  case atStart => exact ⟨gs, 0, 0, 0, rfl, by go_num, by omega, by omega, hid rfl, H1⟩
  case round =>
    clear HH H1
    obtain ⟨gb, m, d, i, rfl, rfl, hin, hmi, HM, HS⟩ := hrel
    have i0 : (0 : Int) ≤ (i : Int) := by omega
    by_cases hlt : i < n
    · have f1 : (i : Int) < (n : Int) := by omega
      obtain ⟨k, hk⟩ : ∃ k, ks[i]? = some k := ⟨_, List.getElem?_eq_getElem (by have := HL.out; omega)⟩
      obtain ⟨out, hout⟩ : ∃ out, out = insAll (ks.take i) := ⟨_, rfl⟩
      rw [← hout] at HM HS
      obtain ⟨ga, hga⟩ : ∃ ga, A = some ⟨ga, 0, none⟩ := by
        obtain ⟨g, _, h1, _⟩ := krow_block HS.out.at2 (by omega)
        exact ⟨g, h1⟩
      subst hga
      have HO32 := hid (show All32 out by rw [hout]; exact insAll_32 (HA.out.take i))
      have h32 := HA.out k (List.mem_of_getElem? hk)
      have HNX := hid ((insAll_take hk).trans (by rw [← hout]))
      have HK := hid hk
      have HK32 := hid h32
      have hle : atOf k out ≤ m := by rw [HM.out]; exact atOf_le k out
      have HLK := hid (show ∀ X M, St W0 (Row (.slice (some ⟨ga, 0, none⟩) n c) 22 32 n (keysL ks) :: M) X → (loadK 22 (.pointer (some ⟨ga, i * 32, none⟩))).run Try.prog X = .ok (.value (.agg (bv k))) X from fun X M hX => by
        obtain ⟨g1, e1, h1⟩ := krow_load (t := 22) hX HA.out HL.out HK.out Try.underlying22 rfl size22
        cases e1
        exact h1 _ rfl)
      clear hout h32 hk
      go_upto_block 2 with fail
      go_cut [5, 6] (fun av sv wx => ∃ (a : Nat) (sm : Bool), a ≤ m ∧ av = .int .i64 a ∧ sv = .bool sm ∧ Hid (a = atOf k out) ∧ Hid (sm = decide (k ∈ out.take a)) ∧ Hid (St W0 (Row (.slice (some ⟨gb, 0, none⟩) m d) 22 32 m (keysL out) :: Row (.slice (some ⟨ga, 0, none⟩) n c) 22 32 n (keysL ks) :: L) wx))
      case first =>
        go_wp2_with fail
        go_loopw [5, 6] (fun av sv X => ∃ (a : Nat) (sm : Bool), av = .int .i64 a ∧ sv = .bool sm ∧ a ≤ atOf k out ∧ Hid (sm = decide (k ∈ out.take a)) ∧ Hid (St W0 (Row (.slice (some ⟨gb, 0, none⟩) m d) 22 32 m (keysL out) :: Row (.slice (some ⟨ga, 0, none⟩) n c) 22 32 n (keysL ks) :: L) X)) (fun av _ _ => m - (intOf av).toNat)
        case atStart => exact ⟨0, false, by go_num, rfl, Nat.zero_le _, hid (by simp), HS⟩
        case round =>
          clear HS
          obtain ⟨a, sm, rfl, rfl, hat, HSM, HS2⟩ := hrel
          have a0 : (0 : Int) ≤ (a : Int) := by omega
          by_cases hmm : a = m
          · have f2 : ¬ (a : Int) < (m : Int) := by omega
            have hdl : decide (a < m) = false := decide_eq_false (by omega)
            have HMM := hid hmm
            clear hmm
            go_wp2_with fail
            refine wp_region_ord [] [(0, 1), (1, 1), (2, 1), (3, 1), (4, 1), (5, 1), (6, 1), (7, 1), (8, 1), (9, 1), (10, 1), (11, 1), (12, 1), (13, 2), (14, 1), (15, 1)] (fun X => St W0 (Row (.slice (some ⟨gb, 0, none⟩) m d) 22 32 m (keysL out) :: Row (.slice (some ⟨ga, 0, none⟩) n c) 22 32 n (keysL ks) :: L) X) (by kernel_rfl) (by kernel_rfl) (fun d _ c _ _ h => by cases d <;> exact h) (HS2.out.turn (Below.drew (Below.refl _ _))) (fun X hXe hX => ?_)
            clear hXe
            clear HS2
            repeat (first | (apply wpOrd_class; ((· first | (rw [List.getElem?_toArray, List.getElem?_cons_zero]; done) | (simp only [List.getElem?_toArray, List.getElem?_cons_succ, List.getElem?_cons_zero]; exact rfl))); (· exact rfl); intro K hK; apply Exists.intro; refine And.intro (fun X' hX' => ?_) ?_; (· go_simp; (try go_bits); first | done | exact rfl | exact ⟨rfl, rfl⟩); go_simp; refine hK _ _ ?_; clear hK K) | (apply wpOrd_skip1; ((· first | (rw [List.getElem?_toArray, List.getElem?_cons_zero]; done) | (simp only [List.getElem?_toArray, List.getElem?_cons_succ, List.getElem?_cons_zero]; exact rfl))); (· exact rfl); intro K hK; go_simp; refine hK _ _ ?_; clear hK K))
            (apply wpOrd_comes; ((· first | (rw [List.getElem?_toArray, List.getElem?_cons_zero]; done) | (simp only [List.getElem?_toArray, List.getElem?_cons_succ, List.getElem?_cons_zero]; exact rfl))); intro N hN)
            go_wp2_with fail
            refine hN _ _ (fun _ => hX) ?_
            clear hN N
            repeat (first | (apply wpOrd_class; ((· first | (rw [List.getElem?_toArray, List.getElem?_cons_zero]; done) | (simp only [List.getElem?_toArray, List.getElem?_cons_succ, List.getElem?_cons_zero]; exact rfl))); (· exact rfl); intro K hK; apply Exists.intro; refine And.intro (fun X' hX' => ?_) ?_; (· go_simp; (try go_bits); first | done | exact rfl | exact ⟨rfl, rfl⟩); go_simp; refine hK _ _ ?_; clear hK K) | (apply wpOrd_skip1; ((· first | (rw [List.getElem?_toArray, List.getElem?_cons_zero]; done) | (simp only [List.getElem?_toArray, List.getElem?_cons_succ, List.getElem?_cons_zero]; exact rfl))); (· exact rfl); intro K hK; go_simp; refine hK _ _ ?_; clear hK K))
            refine wpOrd_done ?_
            have H3 := hid hX
            clear hX
            go_wp2_with fail
            go_meet
            case rel => exact ⟨a, sm, by omega, rfl, rfl, hid (by have := HMM.out; omega), HSM, H3⟩
          · have f2 : (a : Int) < (m : Int) := by omega
            obtain ⟨x, hx⟩ : ∃ x, out[a]? = some x := ⟨_, List.getElem?_eq_getElem (by have := HM.out; omega)⟩
            have HX32 := hid (HO32.out x (List.mem_of_getElem? hx))
            have HF := hid (show ∀ X, St W0 (Row (.slice (some ⟨gb, 0, none⟩) m d) 22 32 m (keysL out) :: Row (.slice (some ⟨ga, 0, none⟩) n c) 22 32 n (keysL ks) :: L) X → (loadK 22 (.pointer (some ⟨ga, i * 32, none⟩))).run Try.prog X = .ok (.value (.agg (bv k))) X ∧ (loadK 22 (.pointer (some ⟨gb, a * 32, none⟩))).run Try.prog X = .ok (.value (.agg (bv x))) X from fun X hX => by
              obtain ⟨g1, e1, h1⟩ := krow_load (t := 22) hX HO32.out HM.out.symm hx Try.underlying22 rfl size22
              cases e1
              exact ⟨HLK.out X _ hX.at2, h1 _ rfl⟩)
            have HC := hid (fun X (hX : St W0 (Row (.slice (some ⟨gb, 0, none⟩) m d) 22 32 m (keysL out) :: Row (.slice (some ⟨ga, 0, none⟩) n c) 22 32 n (keysL ks) :: L) X) => (rless_any k x X HK32.out HX32.out).mono fun e w' h => show e = .returned (.bool (ltB k x)) ∧ St W0 (Row (.slice (some ⟨gb, 0, none⟩) m d) 22 32 m (keysL out) :: Row (.slice (some ⟨ga, 0, none⟩) n c) 22 32 n (keysL ks) :: L) w' from ⟨h.1, hX.turn h.2⟩)
            by_cases hae : a = atOf k out
            · have hlt2 : ltB k x = true := by
                have h := takeWhile_out (fun o => !ltB k o) out x (by rw [← hx, hae]; rfl)
                simpa using h
              simp only [hlt2] at HC
              have HAE := hid hae
              clear hlt2 hx hae
              go_wp2_with fail
              refine wp_region_ord [] [(0, 1), (1, 1), (2, 1), (3, 1), (4, 1), (5, 1), (6, 1), (7, 1), (8, 1), (9, 1), (10, 1), (11, 1), (12, 1), (13, 2), (14, 1), (15, 1)] (fun X => St W0 (Row (.slice (some ⟨gb, 0, none⟩) m d) 22 32 m (keysL out) :: Row (.slice (some ⟨ga, 0, none⟩) n c) 22 32 n (keysL ks) :: L) X) (by kernel_rfl) (by kernel_rfl) (fun d _ c _ _ h => by cases d <;> exact h) (HS2.out.turn (Below.drew (Below.refl _ _))) (fun X hXe hX => ?_)
              clear hXe
              clear HS2
              repeat (apply wpOrd_class; ((· first | (rw [List.getElem?_toArray, List.getElem?_cons_zero]; done) | (simp only [List.getElem?_toArray, List.getElem?_cons_succ, List.getElem?_cons_zero]; exact rfl))); (· exact rfl); intro K hK; apply Exists.intro; refine And.intro (fun X' hX' => ?_) ?_; (· obtain ⟨hq1, hq2⟩ := HF.out _ hX'; clear hX'; go_simp; (try go_bits); first | done | exact rfl | exact ⟨rfl, rfl⟩); go_simp; refine hK _ _ ?_; clear hK K)
              (apply wpOrd_comes; ((· first | (rw [List.getElem?_toArray, List.getElem?_cons_zero]; done) | (simp only [List.getElem?_toArray, List.getElem?_cons_succ, List.getElem?_cons_zero]; exact rfl))); intro N hN)
              go_wp2_with (go_at_call 16; (with_reducible refine (HC.out _ hX).mono ?_); rintro e X1 ⟨rfl, hX1⟩)
              refine hN _ _ (fun _ => hX1) ?_
              clear hN N hX
              repeat (apply wpOrd_class; ((· first | (rw [List.getElem?_toArray, List.getElem?_cons_zero]; done) | (simp only [List.getElem?_toArray, List.getElem?_cons_succ, List.getElem?_cons_zero]; exact rfl))); (· exact rfl); intro K hK; apply Exists.intro; refine And.intro (fun X' hX' => ?_) ?_; (· obtain ⟨hq1, hq2⟩ := HF.out _ hX'; clear hX'; go_simp; (try go_bits); first | done | exact rfl | exact ⟨rfl, rfl⟩); go_simp; refine hK _ _ ?_; clear hK K)
              refine wpOrd_done ?_
              have H3 := hid hX1
              clear hX1 HC
              go_wp2_with fail
              go_meet
              case rel => exact ⟨a, sm, by omega, rfl, rfl, HAE, HSM, H3⟩
            · have hlt2 : ltB k x = false := by
                have h := takeWhile_in (fun o => !ltB k o) out a x (by unfold atOf at hae hat; omega) hx
                simpa using h
              simp only [hlt2] at HC
              have HST := hid (same_step (k := k) hx)
              have HAE := hid hae
              clear hlt2 hx hae
              go_wp2_with fail
              refine wp_region_ord [] [(0, 1), (1, 1), (2, 1), (3, 1), (4, 1), (5, 1), (6, 1), (7, 1), (8, 1), (9, 1), (10, 1), (11, 1), (12, 1), (13, 2), (14, 1), (15, 1)] (fun X => St W0 (Row (.slice (some ⟨gb, 0, none⟩) m d) 22 32 m (keysL out) :: Row (.slice (some ⟨ga, 0, none⟩) n c) 22 32 n (keysL ks) :: L) X) (by kernel_rfl) (by kernel_rfl) (fun d _ c _ _ h => by cases d <;> exact h) (HS2.out.turn (Below.drew (Below.refl _ _))) (fun X hXe hX => ?_)
              clear hXe
              clear HS2
              repeat (apply wpOrd_class; ((· first | (rw [List.getElem?_toArray, List.getElem?_cons_zero]; done) | (simp only [List.getElem?_toArray, List.getElem?_cons_succ, List.getElem?_cons_zero]; exact rfl))); (· exact rfl); intro K hK; apply Exists.intro; refine And.intro (fun X' hX' => ?_) ?_; (· obtain ⟨hq1, hq2⟩ := HF.out _ hX'; clear hX'; go_simp; (try go_bits); first | done | exact rfl | exact ⟨rfl, rfl⟩); go_simp; refine hK _ _ ?_; clear hK K)
              (apply wpOrd_comes; ((· first | (rw [List.getElem?_toArray, List.getElem?_cons_zero]; done) | (simp only [List.getElem?_toArray, List.getElem?_cons_succ, List.getElem?_cons_zero]; exact rfl))); intro N hN)
              go_wp2_with (go_at_call 16; (with_reducible refine (HC.out _ hX).mono ?_); rintro e X1 ⟨rfl, hX1⟩)
              refine hN _ _ (fun _ => hX1) ?_
              clear hN N hX
              repeat (apply wpOrd_class; ((· first | (rw [List.getElem?_toArray, List.getElem?_cons_zero]; done) | (simp only [List.getElem?_toArray, List.getElem?_cons_succ, List.getElem?_cons_zero]; exact rfl))); (· exact rfl); intro K hK; apply Exists.intro; refine And.intro (fun X' hX' => ?_) ?_; (· obtain ⟨hq1, hq2⟩ := HF.out _ hX'; clear hX'; go_simp; (try go_bits); first | done | exact rfl | exact ⟨rfl, rfl⟩); go_simp; refine hK _ _ ?_; clear hK K)
              refine wpOrd_done ?_
              have H3 := hid hX1
              clear hX1 HC
              cases sm with
              | true =>
                go_wp2_with fail
                refine wp_region_ord [] [(0, 1), (1, 1), (2, 1), (3, 1), (4, 1), (5, 1), (6, 1), (7, 1), (8, 1), (9, 1), (10, 1), (11, 1), (12, 1)] (fun X => St W0 (Row (.slice (some ⟨gb, 0, none⟩) m d) 22 32 m (keysL out) :: Row (.slice (some ⟨ga, 0, none⟩) n c) 22 32 n (keysL ks) :: L) X) (by kernel_rfl) (by kernel_rfl) (fun d _ c _ _ h => by cases d <;> exact h) (H3.out.turn (Below.drew (Below.refl _ _))) (fun X hXe hX => ?_)
                clear hXe H3
                repeat (first | (apply wpOrd_class; ((· first | (rw [List.getElem?_toArray, List.getElem?_cons_zero]; done) | (simp only [List.getElem?_toArray, List.getElem?_cons_succ, List.getElem?_cons_zero]; exact rfl))); (· exact rfl); intro K hK; apply Exists.intro; refine And.intro (fun X' hX' => ?_) ?_; (· go_simp; (try go_bits); first | done | exact rfl | exact ⟨rfl, rfl⟩); go_simp; refine hK _ _ ?_; clear hK K) | (apply wpOrd_skip1; ((· first | (rw [List.getElem?_toArray, List.getElem?_cons_zero]; done) | (simp only [List.getElem?_toArray, List.getElem?_cons_succ, List.getElem?_cons_zero]; exact rfl))); (· exact rfl); intro K hK; go_simp; refine hK _ _ ?_; clear hK K))
                refine wpOrd_done ?_
                have H4 := hid hX
                clear hX HF
                go_wp2_with fail
                go_roundw
                case rel => exact ⟨a + 1, true, by go_num, rfl, by have := HAE.out; omega, hid (by rw [HST.out, ← HSM.out]; rfl), H4⟩
                case measure => (simp [intOf] <;> omega)
              | false =>
                have CM := fun (p q : Operand) (W : World) => run_cmpK_eql (P := Try.prog) guard22 Try.underlying22 be5 cells5 HX32.out HK32.out p q W
                obtain ⟨s2, hs2⟩ : ∃ s2, s2 = decide (x = k) := ⟨_, rfl⟩
                simp only [← hs2] at CM
                have HS2' := hid hs2
                clear hs2
                go_wp2_with fail
                refine wp_region_ord [] [(0, 1), (1, 1), (2, 1), (3, 1), (4, 1), (5, 1), (6, 1), (7, 1), (8, 1), (9, 1), (10, 1), (11, 1), (12, 1)] (fun X => St W0 (Row (.slice (some ⟨gb, 0, none⟩) m d) 22 32 m (keysL out) :: Row (.slice (some ⟨ga, 0, none⟩) n c) 22 32 n (keysL ks) :: L) X) (by kernel_rfl) (by kernel_rfl) (fun d _ c _ _ h => by cases d <;> exact h) (H3.out.turn (Below.drew (Below.refl _ _))) (fun X hXe hX => ?_)
                clear hXe H3
                repeat (first | (apply wpOrd_class; ((· first | (rw [List.getElem?_toArray, List.getElem?_cons_zero]; done) | (simp only [List.getElem?_toArray, List.getElem?_cons_succ, List.getElem?_cons_zero]; exact rfl))); (· exact rfl); intro K hK; apply Exists.intro; refine And.intro (fun X' hX' => ?_) ?_; (· obtain ⟨hq1, hq2⟩ := HF.out _ hX'; clear hX'; go_simp; (try go_bits); first | done | exact rfl | exact ⟨rfl, rfl⟩); go_simp; refine hK _ _ ?_; clear hK K) | (apply wpOrd_skip1; ((· first | (rw [List.getElem?_toArray, List.getElem?_cons_zero]; done) | (simp only [List.getElem?_toArray, List.getElem?_cons_succ, List.getElem?_cons_zero]; exact rfl))); (· exact rfl); intro K hK; go_simp; refine hK _ _ ?_; clear hK K))
                refine wpOrd_done ?_
                have H4 := hid hX
                clear hX HF CM
                go_wp2_with fail
                go_roundw
                case rel => exact ⟨a + 1, s2, by go_num, rfl, by have := HAE.out; omega, hid (by rw [HST.out, ← HSM.out, HS2'.out]; rfl), H4⟩
                case measure => (simp [intOf] <;> omega)
      case rest =>
        clear HS
        obtain ⟨a, sm, ham, rfl, rfl, HAT, HSM, HS⟩ := hcut
        have a0 : (0 : Int) ≤ (a : Int) := by omega
        cases sm with
        | true =>
          have HE := hid (show insU out k = out by rw [insU_at, ← HAT.out, if_pos (of_decide_eq_true HSM.out.symm)])
          go_wp2_with fail
          go_roundw
          case rel => exact ⟨gb, m, d, i + 1, rfl, by go_num, by omega, by omega, hid (by rw [HNX.out, HE.out]; exact HM.out), hid (by rw [HNX.out, HE.out]; exact HS.out)⟩
          case measure => (simp [intOf] <;> omega)
        | false =>
          have HE := hid (show insU out k = out.take a ++ k :: out.drop a by rw [insU_at, ← HAT.out, if_neg (of_decide_eq_false HSM.out.symm)])
          have LK := HLK.out wc _ HS.out.at2
          go_upto_block 3 with (first | (refine wpList_buildSlice1 _ rfl (.agg (bv k)) (by simp [Act.eval, Act.put]) rfl Try.underlying64 zero22a size22 (by decide) (by decide) ((bv_size k).trans HK32.out) ?_; intro gn X4 hS hgs hges hX1b; have H4 := hid (HS.out.turn hX1b); have HNW := hid (news_box hS (bvL k) rfl); clear hS hgs hges hX1b LK) | (refine wpList_append_at _ _ _ rfl (.slice (some ⟨gb, 0, none⟩) m d) rfl ⟨gn, 0, none⟩ 1 1 rfl rfl 22 ip (.agg (bv key0)) 32 32 Try.underlying64 HI.out.1 HI.out.2.1 HI.out.2.2.1 HI.out.2.2.2 key0_size (by decide) m _ H4.out.row (bvL k) ((bvL_len k).trans (HK32.out.trans (by decide))) HNW.out (bvL_one k) (by unfold maxLen; omega) (by omega) ?_; intro v' X5 hO2 hT2 hfr; have H5 := hid (H4.out.grow hO2 hT2 hfr); clear hO2 hT2 hfr; obtain ⟨B1, d1, hv', _⟩ := row_slice H5.out; subst hv'))
          rw [← keysL_snoc] at H5
          obtain ⟨gc, hgc⟩ : ∃ gc, B1 = some ⟨gc, 0, none⟩ := by
            obtain ⟨g, _, h1, _⟩ := krow_block H5.out (by omega)
            exact ⟨g, h1⟩
          subst hgc
          have hol : out ++ [k] = out.take m ++ k :: out.drop m := by
            rw [HM.out, List.take_length, List.drop_length]
          rw [hol] at H5
          clear hol H4 HNW
          go_loopw [7] (fun jv X => ∃ (j : Nat) (z : List UInt8), a ≤ j ∧ j ≤ m ∧ jv = .int .i64 j ∧ Hid (z.length = 32) ∧ Hid (St W0 (Row (.slice (some ⟨gc, 0, none⟩) (m + 1) d1) 22 32 (m + 1) (keysL (out.take j ++ z :: out.drop j)) :: Row (.slice (some ⟨ga, 0, none⟩) n c) 22 32 n (keysL ks) :: L) X)) (fun jv _ => (intOf jv).toNat)
          case atStart => exact ⟨m, k, ham, Nat.le_refl _, by go_num, HK32, H5⟩
          case round =>
            clear H5 HS
            obtain ⟨j, z, haj, hjm, rfl, HZ, HS⟩ := hrel
            have HAO := hid (HO32.out.hole HZ.out j)
            have HLO := hid ((hole_len (z := z) (j := j) (by have := HM.out; omega)).trans (by rw [← HM.out]) : (out.take j ++ z :: out.drop j).length = m + 1)
            by_cases hja : a < j
            · obtain ⟨q, rfl⟩ : ∃ q, j = q + 1 := ⟨j - 1, by omega⟩
              have f3 : (a : Int) < ((q + 1 : Nat) : Int) := by omega
              have f4 : (a : Int) < (q : Int) + 1 := by omega
              have f5 : (q : Int) + 1 < (m : Int) + 1 := by omega
              have f6 : (q : Int) < (m : Int) + 1 := by omega
              have q0 : (0 : Int) ≤ (q : Int) := by omega
              obtain ⟨e, he⟩ : ∃ e, out[q]? = some e := ⟨_, List.getElem?_eq_getElem (by have := HM.out; omega)⟩
              have LQ : (loadK 22 (.pointer (some ⟨gc, q * 32, none⟩))).run Try.prog wr = .ok (.value (.agg (bv e))) wr := by
                obtain ⟨g1, e1, h1⟩ := krow_load (t := 22) HS.out HAO.out HLO.out (hole_get he) Try.underlying22 rfl size22
                cases e1
                exact h1 _ rfl
              have HE32 := hid (HO32.out e (List.mem_of_getElem? he))
              have HDN := hid (hole_down (z := z) he)
              clear he
              go_wp2_with (refine wpList_kstore _ _ rfl HS.out HAO.out HLO.out (i := q + 1) (by omega) rfl rfl rfl HE32.out rfl size22 ?_; intro W5 hs5; rw [HDN.out] at hs5; have H6 := hid hs5; clear hs5 LQ)
              go_roundw
              case rel => exact ⟨q, e, by omega, by omega, by go_num, HE32, H6⟩
              case measure => (simp [intOf] <;> omega)
            · obtain rfl : a = j := by omega
              have f7 : (a : Int) < (m : Int) + 1 := by omega
              have LK := HLK.out wr _ HS.out.at2
              go_wp2_with (refine wpList_kstore _ _ rfl HS.out HAO.out HLO.out (i := a) (by omega) rfl rfl rfl HK32.out rfl size22 ?_; intro W5 hs5; rw [hole_fill (by have := HM.out; omega)] at hs5; have H6 := hid hs5; clear hs5 LK)
              go_roundw
              case rel => exact ⟨gc, m + 1, d1, i + 1, rfl, by go_num, by omega, by omega, hid (by rw [HNX.out, HE.out, hole_len (by have := HM.out; omega), ← HM.out]), hid (by rw [HNX.out, HE.out]; exact H6.out)⟩
              case measure => (simp [intOf] <;> omega)
    · have f1 : ¬ (i : Int) < (n : Int) := by omega
      obtain rfl : n = i := by omega
      have hta : ks.take n = ks := List.take_of_length_le (by have := HL.out; omega)
      rw [hta] at HM HS
      clear hta
      go_wp2_with fail
      go_ret
      exact ⟨_, m, d, rfl, HM.out, HS.out⟩
end
end Go.Proofs.Ytnakbdgoaepehaa
