/- Is a part the document's? -/
import Derived.Test.YtnakbdgoaepehaaRefDoc
namespace Go.Proofs.Ytnakbdgoaepehaa
open Go.RowKit Go.Cu
section
variable {W0 W : World} {L : List Atm} {N g size b o : Nat} {cs : Array Value} {t : TypeId} {v : Value} {ps : List Pt}
set_option maxRecDepth 20000 in
set_option maxHeartbeats 8000000 in
theorem same_st {i : Nat} (hi : i < ps.length) (h : St W0 (CacheA N g size ps :: Blk b cs t :: Row v 85 2 ps[i].l.length (pairsL ps[i].l) :: L) W) (hr : RefAt cs o size v ps[i]) (hl : ps[i].l.length ≤ 100000) :
    Calls Try.prog 28 #[ptrV g, .int .i64 i, .pointer (some ⟨b, o, none⟩)] W fun r w' => r = .returned (.bool true) ∧ St W0 (CacheA N g size ps :: Blk b cs t :: Row v 85 2 ps[i].l.length (pairsL ps[i].l) :: L) w' := by
  have HN := hid (cnames_st h hi hl)
  have HH := hid (fun X (M : List Atm) (hX : St W0 (CacheA N g size ps :: M) X) => chits_st hX hi)
  obtain ⟨p, hp⟩ : ∃ p, p = ps[i] := ⟨_, rfl⟩
  rw [← hp] at HN HH hr hl h ⊢
  have HR := hid hr
  obtain ⟨A, c, rfl, _⟩ := row_slice h.at3
  obtain ⟨n, hn⟩ : ∃ n, n = p.l.length := ⟨_, rfl⟩
  have HNN := hid hn
  have HR := hid (show RefAt cs o size (.slice A n c) p from by rw [hn]; exact hr)
  rw [← hn] at HN hl ⊢
  clear h hp hr hn
  go_enter Try.func28, Try.ntmps28
  go_upto_region 3 with (first | (go_at_call 21; (with_reducible refine HN.out.mono ?_); rintro r w1 ⟨B, d, rfl, hs1⟩; have H1 := hid hs1; clear hs1) | (go_at_call 24; (with_reducible refine (HH.out _ _ H1.out.at2).mono ?_); rintro r w2 ⟨rfl, hs2⟩; have H2 := hid hs2.at2; clear hs2))
  clear H1 HN HH
  obtain ⟨x0, x1, x2, x3⟩ := ref_cells H2.out.at3 HR.out
  go_wp2_with fail
  clear x0 x1 x2 x3
  go_loopw [10] (fun kv X => ∃ k : Nat, k ≤ n ∧ kv = .int .i64 k ∧ Hid (St W0 (Row (.slice B n d) 9 1 n ((keys p.l).map sv) :: CacheA N g size ps :: Blk b cs t :: Row (.slice A n c) 85 2 n (pairsL p.l) :: L) X)) (fun kv _ => n - (intOf kv).toNat)
  case atStart => exact ⟨0, Nat.zero_le _, rfl, H2⟩
  case round =>
    clear H2
    obtain ⟨k, hk, rfl, HS⟩ := hrel
    have k0 : (0 : Int) ≤ (k : Int) := by omega
    by_cases hlt : k < n
    · have e1 : (k : Int) < (n : Int) := by omega
      obtain ⟨x, hx⟩ : ∃ x, p.l[k]? = some x := ⟨_, List.getElem?_eq_getElem (by rw [← HNN.out]; exact hlt)⟩
      have hkx : ((keys p.l).map sv)[k]? = some (.string (strB x.1)) := by
        unfold keys
        rw [List.getElem?_map, List.getElem?_map, hx]
        rfl
      have hpx := (pairsL_get p.l k x hx).1
      obtain ⟨gb, rfl, _⟩ := row_at HS.out rfl hkx
      obtain ⟨ga, rfl, _⟩ := row_ats HS.out.at4 rfl hpx
      have HF := hid (show ∀ X, St W0 (Row (.slice (some ⟨gb, 0, none⟩) n d) 9 1 n ((keys p.l).map sv) :: CacheA N g size ps :: Blk b cs t :: Row (.slice (some ⟨ga, 0, none⟩) n c) 85 2 n (pairsL p.l) :: L) X → X.cell? ⟨gb, k, none⟩ = some (.string (strB x.1)) ∧ X.cell? ⟨b, o + 1, none⟩ = some (.slice (some ⟨ga, 0, none⟩) n c) ∧ X.cell? ⟨ga, k * 2, none⟩ = some (.string (strB x.1)) from fun X hX => by
        obtain ⟨g1, e1, h1⟩ := row_at hX rfl hkx
        obtain ⟨g2, e2, h2⟩ := row_ats hX.at4 rfl hpx
        cases e1
        cases e2
        exact ⟨h1, (ref_cells hX.at3 HR.out).2.1, h2⟩)
      clear hx hkx hpx
      go_wp2_with fail
      refine wp_region_ord [] [(0, 1), (1, 1), (2, 1), (3, 1), (4, 1), (5, 1), (6, 1), (7, 1), (8, 1), (9, 1), (10, 1), (11, 1), (12, 1)] (fun X => St W0 (Row (.slice (some ⟨gb, 0, none⟩) n d) 9 1 n ((keys p.l).map sv) :: CacheA N g size ps :: Blk b cs t :: Row (.slice (some ⟨ga, 0, none⟩) n c) 85 2 n (pairsL p.l) :: L) X) (by kernel_rfl) (by kernel_rfl) (fun d _ c _ _ h => by cases d <;> exact h) (HS.out.turn (Below.drew (Below.refl _ _))) (fun X hXe hX => ?_)
      clear hXe HS
      repeat (apply wpOrd_class; ((· first | (rw [List.getElem?_toArray, List.getElem?_cons_zero]; done) | (simp only [List.getElem?_toArray, List.getElem?_cons_succ, List.getElem?_cons_zero]; exact rfl))); (· exact rfl); intro K hK; apply Exists.intro; refine And.intro (fun X' hX' => ?_) ?_; (· obtain ⟨hq1, hq2, hq3⟩ := HF.out _ hX'; clear hX'; go_simp; (try go_bits); first | done | exact rfl | exact ⟨rfl, rfl⟩); go_simp; refine hK _ _ ?_; clear hK K)
      refine wpOrd_done ?_
      have H3 := hid hX
      clear hX HF
      go_wp2_with fail
      go_roundw
      case rel => exact ⟨k + 1, by omega, by go_num, H3⟩
      case measure => simp [intOf]; omega
    · have e1 : ¬ (k : Int) < (n : Int) := by omega
      go_wp2_with fail
      go_ret
      exact ⟨rfl, HS.out.drop⟩
end
end Go.Proofs.Ytnakbdgoaepehaa
