/- ExtentAreas: the walk. -/
import Derived.Test.YthmchbdhikakhaaExtAreasPlain
namespace Go.Proofs.Ythmchbdhikakhaa
open Go.RowKit Go.Cu
/-- A pair of numbers as cells. -/
def pairV (c s : Int) : Array Value := #[.int .i64 c, .int .i64 s]
set_option maxRecDepth 20000 in
set_option maxHeartbeats 4000000 in
theorem areas_bad {blocks f c s : Int} {m : Nat} (em : (IntKind.u64.wrap blocks).tmod 100 = m) (hm : m < 100) (hb : ¬ fine ((m + 1 : Nat) : Int) f c s) (w : World) :
    Calls Try.prog 7 #[.int .i64 blocks, .int .i64 f, .agg (pairV c s)] w fun x w' => x = .returned (.bool true) ∧ Below w.heap.size w w' := by
  have HB := hid hb
  have HXB := hid (fun (X : World) (p : Nat) (L : List Atm) (h : St w (Disk p (DS.new (m + 1)) :: L) X) => xnew_bad (f := f) (c := c) (s := s) (n := ((m + 1 : Nat) : Int)) h (DS.Ok.new (by omega)) (by simp [DS.new]) hb)
  have HFI := hid (fun (X : World) => rfine_bad (f := f) (c := c) (s := s) (n := 1 + (m : Int)) (by omega) (by omega) (by rw [show 1 + (m : Int) = ((m + 1 : Nat) : Int) by omega]; exact hb) X)
  clear hb
  go_enter Try.func7, Try.ntmps7
  repeat (apply wp_seq_k; intro _ _)
  apply wp_region_lit
  refine wpList_box rfl 63 _ rfl (.agg (pairV c s)) rfl ?_
  intro gs W1 hG hgl hgg hW1
  have H1 := hid ((St.start w).newBlk hW1 hgg hG)
  have q0 : W1.cell? ⟨gs, 0, none⟩ = some (.int .i64 c) := (blk_cell H1.out 0).trans rfl
  have q1 : W1.cell? ⟨gs, 1, none⟩ = some (.int .i64 s) := (blk_cell H1.out 1).trans rfl
  clear hG hgl hgg hW1
  go_wp2_with (first | (go_at_call 13; (with_reducible refine (new_sti H1.out (n := m + 1) (by omega) (by omega) (by omega)).mono ?_); rintro r w2 ⟨p, rfl, hs2⟩; have p0 : w2.cell? ⟨gs, 0, none⟩ = some (.int .i64 c) := (blk_cell hs2.at2 0).trans rfl; have p1 : w2.cell? ⟨gs, 1, none⟩ = some (.int .i64 s) := (blk_cell hs2.at2 1).trans rfl; have H2 := hid hs2; clear hs2) | (go_at_call 30; (with_reducible refine (HXB.out _ _ _ H2.out).mono ?_); rintro r w3 ⟨rfl, rfl⟩) | (go_at_call 30; (with_reducible refine (xnew_nil _ _ _ _).mono ?_); rintro r w3 ⟨rfl, rfl⟩) | (go_at_call 34; (with_reducible refine (xnone_ok _).mono ?_); rintro r w3 ⟨rfl, rfl⟩) | (go_at_call 35; (with_reducible refine (area_nil _ _).mono ?_); rintro r w3 ⟨rfl, rfl⟩) | (go_at_call 33; (with_reducible refine (clear_nil _ _).mono ?_); rintro r w3 ⟨rfl, rfl⟩) | (go_at_call 36; (with_reducible refine (foul_nil _).mono ?_); rintro r w3 ⟨rfl, rfl⟩) | (go_at_call 32; (with_reducible refine (zero_nil _ _).mono ?_); rintro r w3 ⟨rfl, rfl⟩) | (go_at_call 37; (with_reducible refine (count_nil _).mono ?_); rintro r w3 ⟨rfl, rfl⟩) | (go_at_call 31; (with_reducible refine (extents_st H2.out).mono ?_); rintro r w3 ⟨rfl, hs3⟩; have r0 : w3.cell? ⟨gs, 0, none⟩ = some (.int .i64 c) := (blk_cell hs3.at2 0).trans rfl; have r1 : w3.cell? ⟨gs, 1, none⟩ = some (.int .i64 s) := (blk_cell hs3.at2 1).trans rfl; have H3 := hid hs3; clear hs3) | (go_at_call 38; (with_reducible refine (of_nil _ _).mono ?_); rintro r w4 ⟨rfl, hb4⟩; have hs4 := H3.out.turn hb4; have s0 : w4.cell? ⟨gs, 0, none⟩ = some (.int .i64 c) := (blk_cell hs4.at2 0).trans rfl; have s1 : w4.cell? ⟨gs, 1, none⟩ = some (.int .i64 s) := (blk_cell hs4.at2 1).trans rfl; have H4 := hid hs4; clear hs4 hb4) | (go_at_call 39; (with_reducible refine (HFI.out _).mono ?_); rintro r w3 ⟨rfl, rfl⟩))
  go_ret
  exact ⟨rfl, H4.out.below⟩
set_option maxRecDepth 20000 in
set_option maxHeartbeats 8000000 in
theorem areas_ok {blocks : Int} {e : Ex} {m : Nat} (em : (IntKind.u64.wrap blocks).tmod 100 = m) (hm : m < 100) (he : e.Ok (m + 1)) (w : World) :
    Calls Try.prog 7 #[.int .i64 blocks, .int .i64 e.first, .agg (pairV e.count e.size)] w fun x w' => x = .returned (.bool true) ∧ Below w.heap.size w w' := by
  have HE := hid he
  have HXN := hid (fun (X : World) (p : Nat) (L : List Atm) (h : St w (Disk p (DS.new (m + 1)) :: L) X) => xnew_ok (f := (e.first : Int)) (c := (e.count : Int)) (s := (e.size : Int)) h (by show e.Ok (List.replicate (m + 1) zeroB).length; rw [List.length_replicate]; exact he) rfl rfl rfl)
  have hfine : fine (1 + (m : Int)) e.first e.count e.size := by
    have := he.fits
    have h1 := he.c1
    have h2 := he.s1
    have h3 := he.c2
    have h4 := he.s2
    have hp : (e.count : Int) * (e.size : Int) = ((e.count * e.size : Nat) : Int) := by simp
    exact ⟨by omega, by omega, by omega, by omega, by omega, by rw [hp]; omega⟩
  have HFI := hid (fun (X : World) => rfine_ok (n := 1 + (m : Int)) (by omega) (by omega) hfine X)
  have hcm := he.c2
  have hsm := he.s2
  have hfm := he.fits
  clear he hfine
  go_enter Try.func7, Try.ntmps7
  repeat (apply wp_seq_k; intro _ _)
  apply wp_region_lit
  refine wpList_box rfl 63 _ rfl (.agg (pairV e.count e.size)) rfl ?_
  intro gs W1 hG hgl hgg hW1
  have H1 := hid ((St.start w).newBlk hW1 hgg hG)
  have q0 : W1.cell? ⟨gs, 0, none⟩ = some (.int .i64 e.count) := (blk_cell H1.out 0).trans rfl
  have q1 : W1.cell? ⟨gs, 1, none⟩ = some (.int .i64 e.size) := (blk_cell H1.out 1).trans rfl
  clear hG hgl hgg hW1
  go_wp2_with (first | (go_at_call 13; (with_reducible refine (new_sti H1.out (n := m + 1) (by omega) (by omega) (by omega)).mono ?_); rintro r w2 ⟨p, rfl, hs2⟩; have p0 : w2.cell? ⟨gs, 0, none⟩ = some (.int .i64 e.count) := (blk_cell hs2.at2 0).trans rfl; have p1 : w2.cell? ⟨gs, 1, none⟩ = some (.int .i64 e.size) := (blk_cell hs2.at2 1).trans rfl; have H2 := hid hs2; clear hs2) | (go_at_call 30; (with_reducible refine (HXN.out _ _ _ H2.out).mono ?_); rintro r w3 ⟨x, rfl, hs3⟩; have H3 := hid hs3; clear hs3) | (go_at_call 30; (with_reducible refine (xnew_nil _ _ _ _).mono ?_); rintro r w3 ⟨rfl, rfl⟩) | (go_at_call 34; (with_reducible refine (xnone_ok _).mono ?_); rintro r w3 ⟨rfl, rfl⟩) | (go_at_call 35; (with_reducible refine (area_nil _ _).mono ?_); rintro r w3 ⟨rfl, rfl⟩) | (go_at_call 33; (with_reducible refine (clear_nil _ _).mono ?_); rintro r w3 ⟨rfl, rfl⟩) | (go_at_call 36; (with_reducible refine (foul_nil _).mono ?_); rintro r w3 ⟨rfl, rfl⟩) | (go_at_call 32; (with_reducible refine (zero_nil _ _).mono ?_); rintro r w3 ⟨rfl, rfl⟩) | (go_at_call 37; (with_reducible refine (count_nil _).mono ?_); rintro r w3 ⟨rfl, rfl⟩) | (go_at_call 31; (with_reducible refine (extents_st H3.out).mono ?_); rintro r w4 ⟨rfl, hs4⟩; have H4 := hid hs4; clear hs4) | (go_at_call 38; (with_reducible refine (of_nil _ _).mono ?_); rintro r w5 ⟨rfl, hb5⟩; have hs5 := H4.out.turn hb5; have s0 : w5.cell? ⟨gs, 0, none⟩ = some (.int .i64 e.count) := (blk_cell hs5.at3 0).trans rfl; have s1 : w5.cell? ⟨gs, 1, none⟩ = some (.int .i64 e.size) := (blk_cell hs5.at3 1).trans rfl; have H5 := hid hs5; clear hs5 hb5) | (go_at_call 39; (with_reducible refine (HFI.out _).mono ?_); rintro r w3 ⟨rfl, rfl⟩))
  refine wp_region_ord [] [(0, 1), (1, 1), (2, 1), (3, 1), (5, 1), (6, 1), (4, 2), (7, 1), (8, 1), (9, 1), (10, 1), (11, 1), (13, 1), (14, 1), (15, 1), (16, 1), (17, 1), (18, 1), (12, 2), (19, 2), (20, 1), (21, 1)] (fun X => St w [Blk x (extV p e) 111, Disk p (DS.new (m + 1)), Blk gs (pairV e.count e.size) 63] X) (by kernel_rfl) (by kernel_rfl) (fun d _ c _ _ h => by cases d <;> exact h) (H5.out.turn (Below.drew (Below.refl _ _))) (fun X hXe hX => ?_)
  clear hXe
  clear s0 s1 p0 p1 q0 q1
  repeat (apply wpOrd_class; ((· first | (rw [List.getElem?_toArray, List.getElem?_cons_zero]; done) | (simp only [List.getElem?_toArray, List.getElem?_cons_succ, List.getElem?_cons_zero]; exact rfl))); (· exact rfl); intro K hK; apply Exists.intro; refine And.intro (fun X' hX' => ?_) ?_; (· have hq0 : X'.cell? ⟨gs, 0, none⟩ = some (.int .i64 e.count) := (blk_cell hX'.at3 0).trans rfl; have hq1 : X'.cell? ⟨gs, 1, none⟩ = some (.int .i64 e.size) := (blk_cell hX'.at3 1).trans rfl; clear hX'; go_simp; (try go_bits); first | done | exact rfl | exact ⟨rfl, rfl⟩); go_simp; refine hK _ _ ?_; clear hK K)
  (apply wpOrd_comes; ((· first | (rw [List.getElem?_toArray, List.getElem?_cons_zero]; done) | (simp only [List.getElem?_toArray, List.getElem?_cons_succ, List.getElem?_cons_zero]; exact rfl))); intro N hN)
  go_wp2_with (go_at_call 37; (with_reducible refine (count_any hX.blk).mono ?_); rintro r w' ⟨rfl, rfl⟩)
  refine hN _ _ (fun _ => hX) ?_
  clear hN N
  repeat (apply wpOrd_class; ((· first | (rw [List.getElem?_toArray, List.getElem?_cons_zero]; done) | (simp only [List.getElem?_toArray, List.getElem?_cons_succ, List.getElem?_cons_zero]; exact rfl))); (· exact rfl); intro K hK; apply Exists.intro; refine And.intro (fun X' hX' => ?_) ?_; (· have hq0 : X'.cell? ⟨gs, 0, none⟩ = some (.int .i64 e.count) := (blk_cell hX'.at3 0).trans rfl; have hq1 : X'.cell? ⟨gs, 1, none⟩ = some (.int .i64 e.size) := (blk_cell hX'.at3 1).trans rfl; clear hX'; go_simp; (try go_bits); first | done | exact rfl | exact ⟨rfl, rfl⟩); go_simp; refine hK _ _ ?_; clear hK K)
  (apply wpOrd_comes; ((· first | (rw [List.getElem?_toArray, List.getElem?_cons_zero]; done) | (simp only [List.getElem?_toArray, List.getElem?_cons_succ, List.getElem?_cons_zero]; exact rfl))); intro N hN)
  go_wp2_with (go_at_call 38; (with_reducible refine (of_any hX.blk HE.out blocks).mono ?_); rintro r X2 ⟨rfl, hb⟩; have hX2 := hX.turn hb; clear hb)
  refine hN _ _ (fun _ => hX2) ?_
  clear hN N
  (apply wpOrd_comes; ((· first | (rw [List.getElem?_toArray, List.getElem?_cons_zero]; done) | (simp only [List.getElem?_toArray, List.getElem?_cons_succ, List.getElem?_cons_zero]; exact rfl))); intro N hN)
  go_wp2_with (go_at_call 40; (with_reducible refine (rof_any HE.out blocks _).mono ?_); rintro r w' ⟨rfl, rfl⟩)
  refine hN _ _ (fun _ => hX2) ?_
  clear hN N
  repeat (apply wpOrd_class; ((· first | (rw [List.getElem?_toArray, List.getElem?_cons_zero]; done) | (simp only [List.getElem?_toArray, List.getElem?_cons_succ, List.getElem?_cons_zero]; exact rfl))); (· exact rfl); intro K hK; apply Exists.intro; refine And.intro (fun X' hX' => ?_) ?_; (· have hq0 : X'.cell? ⟨gs, 0, none⟩ = some (.int .i64 e.count) := (blk_cell hX'.at3 0).trans rfl; have hq1 : X'.cell? ⟨gs, 1, none⟩ = some (.int .i64 e.size) := (blk_cell hX'.at3 1).trans rfl; clear hX'; go_simp; (try go_bits); first | done | exact rfl | exact ⟨rfl, rfl⟩); go_simp; refine hK _ _ ?_; clear hK K)
  refine wpOrd_done ?_
  have H6 := hid hX2
  clear hX hX2
  go_wp2_with fail
  go_loopw [21] (fun v X => ∃ b : Int, -1 ≤ b ∧ b ≤ m + 2 ∧ v = .int .i64 b ∧ Hid (St w [Blk x (extV p e) 111, Disk p (DS.new (m + 1)), Blk gs (pairV e.count e.size) 63] X)) (fun v _ => ((m : Int) + 2 - intOf v).toNat)
  case atStart => exact ⟨-1, by omega, by omega, rfl, H6⟩
  case round =>
    clear H1 H2 H3 H4 H5 H6
    obtain ⟨b, hb0, hb1, rfl, HS⟩ := hrel
    by_cases hlt : b ≤ 1 + (m : Int)
    · go_wp2_with fail
      refine wp_region_ord [] [(0, 1), (1, 1), (3, 1), (4, 1), (5, 1), (6, 1), (7, 1), (8, 1), (2, 2), (9, 2), (10, 1)] (fun X => St w [Blk x (extV p e) 111, Disk p (DS.new (m + 1)), Blk gs (pairV e.count e.size) 63] X) (by kernel_rfl) (by kernel_rfl) (fun d _ c _ _ h => by cases d <;> exact h) (HS.out.turn (Below.drew (Below.refl _ _))) (fun X hXe hX => ?_)
      clear hXe
      repeat (apply wpOrd_class; ((· first | (rw [List.getElem?_toArray, List.getElem?_cons_zero]; done) | (simp only [List.getElem?_toArray, List.getElem?_cons_succ, List.getElem?_cons_zero]; exact rfl))); (· exact rfl); intro K hK; apply Exists.intro; refine And.intro (fun X' hX' => ?_) ?_; (· have hq0 : X'.cell? ⟨gs, 0, none⟩ = some (.int .i64 e.count) := (blk_cell hX'.at3 0).trans rfl; have hq1 : X'.cell? ⟨gs, 1, none⟩ = some (.int .i64 e.size) := (blk_cell hX'.at3 1).trans rfl; clear hX'; go_simp; (try go_bits); first | done | exact rfl | exact ⟨rfl, rfl⟩); go_simp; refine hK _ _ ?_; clear hK K)
      (apply wpOrd_comes; ((· first | (rw [List.getElem?_toArray, List.getElem?_cons_zero]; done) | (simp only [List.getElem?_toArray, List.getElem?_cons_succ, List.getElem?_cons_zero]; exact rfl))); intro N hN)
      go_wp2_with (go_at_call 38; (with_reducible refine (of_any hX.blk HE.out b).mono ?_); rintro r X2 ⟨rfl, hb⟩; have hX2 := hX.turn hb; clear hb)
      refine hN _ _ (fun _ => hX2) ?_
      clear hN N
      (apply wpOrd_comes; ((· first | (rw [List.getElem?_toArray, List.getElem?_cons_zero]; done) | (simp only [List.getElem?_toArray, List.getElem?_cons_succ, List.getElem?_cons_zero]; exact rfl))); intro N hN)
      go_wp2_with (go_at_call 40; (with_reducible refine (rof_any HE.out b _).mono ?_); rintro r w' ⟨rfl, rfl⟩)
      refine hN _ _ (fun _ => hX2) ?_
      clear hN N
      repeat (apply wpOrd_class; ((· first | (rw [List.getElem?_toArray, List.getElem?_cons_zero]; done) | (simp only [List.getElem?_toArray, List.getElem?_cons_succ, List.getElem?_cons_zero]; exact rfl))); (· exact rfl); intro K hK; apply Exists.intro; refine And.intro (fun X' hX' => ?_) ?_; (· have hq0 : X'.cell? ⟨gs, 0, none⟩ = some (.int .i64 e.count) := (blk_cell hX'.at3 0).trans rfl; have hq1 : X'.cell? ⟨gs, 1, none⟩ = some (.int .i64 e.size) := (blk_cell hX'.at3 1).trans rfl; clear hX'; go_simp; (try go_bits); first | done | exact rfl | exact ⟨rfl, rfl⟩); go_simp; refine hK _ _ ?_; clear hK K)
      refine wpOrd_done ?_
      have H7 := hid hX2
      clear hX hX2
      go_wp2_with fail
      go_roundw
      case rel => exact ⟨b + 1, by omega, by omega, by go_num, H7⟩
      case measure => simp [intOf]; omega
    · have hcc := HS.out.at3
      have s0 : wr.cell? ⟨gs, 0, none⟩ = some (.int .i64 e.count) := (blk_cell hcc 0).trans rfl
      clear hcc
      go_wp2_with fail
      clear s0
      go_loopw [22] (fun v X => ∃ i : Int, -1 ≤ i ∧ i ≤ e.count + 1 ∧ v = .int .i64 i ∧ Hid (St w [Blk x (extV p e) 111, Disk p (DS.new (m + 1)), Blk gs (pairV e.count e.size) 63] X)) (fun v _ => ((e.count : Int) + 1 - intOf v).toNat)
      case atStart => exact ⟨-1, by omega, by omega, rfl, HS⟩
      case round =>
        clear HS
        obtain ⟨i, hi0, hi1, rfl, HS⟩ := hrel
        have s0 : wr.cell? ⟨gs, 0, none⟩ = some (.int .i64 e.count) := (blk_cell HS.out.at3 0).trans rfl
        by_cases hle : i ≤ (e.count : Int)
        · by_cases hi : i < 0
          · have HA := hid (area_out (i := i) HS.out.blk HE.out (.inl hi))
            go_wp2_with (go_at_call 35; (with_reducible refine HA.out.mono ?_); rintro r w' ⟨rfl, rfl⟩)
            go_roundw
            case rel => exact ⟨i + 1, by omega, by omega, by go_num, HS⟩
            case measure => simp [intOf]; omega
          · by_cases hic : (e.count : Int) ≤ i
            · have HA := hid (area_out (i := i) HS.out.blk HE.out (.inr hic))
              go_wp2_with (go_at_call 35; (with_reducible refine HA.out.mono ?_); rintro r w' ⟨rfl, rfl⟩)
              go_roundw
              case rel => exact ⟨i + 1, by omega, by omega, by go_num, HS⟩
              case measure => simp [intOf]; omega
            · obtain ⟨k, rfl⟩ := Int.eq_ofNat_of_zero_le (show 0 ≤ i by omega)
              have hkc : k < e.count := by omega
              have hin := HE.out.within hkc
              have HA := hid (area_in (i := k) HS.out.blk HE.out hkc)
              obtain ⟨mm, hmm⟩ : ∃ mm : Nat, mm = k * e.size := ⟨_, rfl⟩
              have emm : (k : Int) * (e.size : Int) = (mm : Int) := by rw [hmm]; simp
              rw [← hmm] at HA hin
              have ecast : ((e.first + mm : Nat) : Int) = (e.first : Int) + (mm : Int) := by omega
              rw [ecast] at HA
              clear hmm ecast hic
              go_wp2_with (go_at_call 35; (with_reducible refine HA.out.mono ?_); rintro r w' ⟨rfl, hb⟩; have hs8 := HS.out.turn hb; have z0 : w'.cell? ⟨gs, 0, none⟩ = some (.int .i64 e.count) := (blk_cell hs8.at3 0).trans rfl; have z1 : w'.cell? ⟨gs, 1, none⟩ = some (.int .i64 e.size) := (blk_cell hs8.at3 1).trans rfl; have H8 := hid hs8; clear hs8 hb)
              go_roundw
              case rel => exact ⟨(k : Int) + 1, by omega, by omega, by go_num, H8⟩
              case measure => simp [intOf]; omega
        · go_wp2_with fail
          go_ret
          exact ⟨rfl, HS.out.below⟩
theorem areas_walk (blocks f c s : Int) (w : World) : Calls Try.prog 7 #[.int .i64 blocks, .int .i64 f, .agg (pairV c s)] w fun x w' => x = .returned (.bool true) ∧ Below w.heap.size w w' := by
  obtain ⟨m, em, hm⟩ := u64_rem blocks 100 (by decide)
  simp only [Int.cast_ofNat_Int] at em
  by_cases hb : fine ((m + 1 : Nat) : Int) f c s
  · obtain ⟨g0, g1, g2, g3, g4, g5⟩ := hb
    obtain ⟨f, rfl⟩ := Int.eq_ofNat_of_zero_le g2
    obtain ⟨c, rfl⟩ := Int.eq_ofNat_of_zero_le (show 0 ≤ c by omega)
    obtain ⟨s, rfl⟩ := Int.eq_ofNat_of_zero_le (show 0 ≤ s by omega)
    have hp : (c : Int) * (s : Int) = ((c * s : Nat) : Int) := by simp
    rw [hp] at g5
    exact areas_ok (e := ⟨f, c, s⟩) em hm ⟨by show 1 ≤ c; omega, by show 1 ≤ s; omega, by show c ≤ m + 1; omega, by show s ≤ m + 1; omega, by show f + c * s ≤ m + 1; omega, by omega⟩ w
  · exact areas_bad em hm hb w
end Go.Proofs.Ythmchbdhikakhaa
