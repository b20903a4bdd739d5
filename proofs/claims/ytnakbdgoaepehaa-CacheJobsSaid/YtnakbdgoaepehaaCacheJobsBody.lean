/- CacheJobs: the walk. -/
import Derived.Test.YtnakbdgoaepehaaRefAll
import Derived.Test.YtnakbdgoaepehaaCacheApartBody
namespace Go.Proofs.Ytnakbdgoaepehaa
open Go.RowKit Go.Cu
def initL (s : Int) (k : Nat) : List Value := (List.range 8).flatMap fun i => [.int .i64 (if i < k then s else 0), .slice none 0 0, .int .i64 0, .int .i64 0]
theorem init_set (s : Int) : ∀ k, k < 8 → (initL s k).toArray.setIfInBounds (k * 4) (.int .i64 s) = (initL s (k + 1)).toArray
  | 0, _ => rfl
  | 1, _ => rfl
  | 2, _ => rfl
  | 3, _ => rfl
  | 4, _ => rfl
  | 5, _ => rfl
  | 6, _ => rfl
  | 7, _ => rfl
theorem init_get (s : Int) : ∀ k, k < 8 → (initL s k).toArray[k * 4]? = some (.int .i64 0)
  | 0, _ => rfl
  | 1, _ => rfl
  | 2, _ => rfl
  | 3, _ => rfl
  | 4, _ => rfl
  | 5, _ => rfl
  | 6, _ => rfl
  | 7, _ => rfl
theorem init_all (s : Nat) : (initL s 8).toArray = refC s (List.replicate 8 (.slice none 0 0, p0)) := rfl
theorem zero54 (W : World) : (zeroValue 54).run Try.prog W = .ok (.agg (initL 0 0).toArray) W := by kernel_rfl
theorem mem_set {α : Type} {P : α → Prop} {l : List α} {i : Nat} {x : α} (h : ∀ y ∈ l, P y) (hx : P x) : ∀ y ∈ l.set i x, P y := fun y hy => by
  rcases List.mem_or_eq_of_mem_set hy with h1 | h1
  · exact h y h1
  · rw [h1]; exact hx
set_option maxRecDepth 20000 in
set_option maxHeartbeats 16000000 in
theorem cjobs_walk {a b : Int} {A : Option Addr} {c : Nat} {row : List CJob} (w : World) (hin : CJobsIn w A row) :
    Calls Try.prog 6 #[.int .i64 a, .int .i64 b, .slice A row.length c] w fun x w' => x = .returned (.bool true) ∧ Below w.heap.size w w' := by
  have HIN := hid hin
  have HC := hid (fun X (M : List Atm) (hX : St w M X) => caches_st hX)
  clear hin
  by_cases hbad : a < 1 ∨ 8 < a ∨ b < 1 ∨ 256 < b
  · have HNB := hid (fun X => cnew_bad X hbad)
    go_enter Try.func6, Try.ntmps6
    go_upto_region 6 with (first | (go_at_call 22; (with_reducible refine (cnone_ok _).mono ?_); rintro r w1 ⟨rfl, rfl⟩) | (go_at_call 23; (with_reducible refine (cget_nil _ _ _).mono ?_); rintro r w1 ⟨rfl, rfl⟩) | (go_at_call 24; (with_reducible refine (chits_nil _ _).mono ?_); rintro r w1 ⟨rfl, rfl⟩) | (go_at_call 20; (with_reducible refine (cput_nil _ _ _ _).mono ?_); rintro r w1 ⟨rfl, rfl⟩) | (go_at_call 25; (with_reducible refine (cdrop_nil _ _).mono ?_); rintro r w1 ⟨rfl, rfl⟩) | (go_at_call 21; (with_reducible refine (cnms_nil _ _).mono ?_); rintro r w1 ⟨rfl, rfl⟩) | (go_at_call 19; (with_reducible refine (HC.out _ _ (St.start w)).mono ?_); rintro r w2 ⟨rfl, hs⟩; have H2 := hid hs; clear hs) | (go_at_call 18; (with_reducible refine (HNB.out _).mono ?_); rintro r w3 ⟨rfl, rfl⟩))
    clear HNB HC
    by_cases g0 : a < 1
    · clear hbad
      go_wp2_with fail
      go_ret
      exact ⟨rfl, H2.out.below⟩
    by_cases g1 : 8 < a
    · clear hbad
      go_wp2_with fail
      go_ret
      exact ⟨rfl, H2.out.below⟩
    by_cases g2 : b < 1
    · clear hbad
      go_wp2_with fail
      go_ret
      exact ⟨rfl, H2.out.below⟩
    have g3 : 256 < b := by omega
    clear hbad
    go_wp2_with fail
    go_ret
    exact ⟨rfl, H2.out.below⟩
  · obtain ⟨m, rfl⟩ : ∃ m : Nat, a = m := ⟨a.toNat, by omega⟩
    obtain ⟨s, rfl⟩ : ∃ s : Nat, b = s := ⟨b.toNat, by omega⟩
    have hm1 : 1 ≤ m := by omega
    have hm2 : m ≤ 8 := by omega
    have hs1 : 1 ≤ s := by omega
    have hs2 : s ≤ 256 := by omega
    have g0 : ¬ (m : Int) < 1 := by omega
    have g1 : ¬ (8 : Int) < (m : Int) := by omega
    have g2 : ¬ (s : Int) < 1 := by omega
    have g3 : ¬ (256 : Int) < (s : Int) := by omega
    have HNW := hid (fun X (M : List Atm) (hX : St w M X) => cnew_st hX hm1 hm2 hs1 hs2)
    clear hbad
    go_enter Try.func6, Try.ntmps6
    go_wp2_with (first | (go_at_call 22; (with_reducible refine (cnone_ok _).mono ?_); rintro r w1 ⟨rfl, rfl⟩) | (go_at_call 23; (with_reducible refine (cget_nil _ _ _).mono ?_); rintro r w1 ⟨rfl, rfl⟩) | (go_at_call 24; (with_reducible refine (chits_nil _ _).mono ?_); rintro r w1 ⟨rfl, rfl⟩) | (go_at_call 20; (with_reducible refine (cput_nil _ _ _ _).mono ?_); rintro r w1 ⟨rfl, rfl⟩) | (go_at_call 25; (with_reducible refine (cdrop_nil _ _).mono ?_); rintro r w1 ⟨rfl, rfl⟩) | (go_at_call 21; (with_reducible refine (cnms_nil _ _).mono ?_); rintro r w1 ⟨rfl, rfl⟩) | (go_at_call 19; (with_reducible refine (HC.out _ _ (St.start w)).mono ?_); rintro r w2 ⟨rfl, hs⟩; have H2 := hid hs; clear hs) | (go_at_call 18; (with_reducible refine (HNW.out _ _ H2.out).mono ?_); rintro r w3 ⟨g, rfl, hs3⟩; have H3 := hid hs3; clear hs3) | (refine wpList_alloc 54 rfl rfl (.agg (initL 0 0).toArray) zero54 ?_; intro gw W4 h1 hl1 hg1 hW1; have H4 := hid (H3.out.newBlk hW1 hg1 h1); clear h1 hl1 hg1 hW1))
    clear H2 H3 HNW HC g0 g1 g2 g3
    go_loopw [14] (fun kv X => ∃ k : Nat, k ≤ 8 ∧ kv = .int .i64 k ∧ Hid (St w [Blk gw (initL s k).toArray 54, CacheA 0 g s (List.replicate m p0)] X)) (fun kv _ => 8 - (intOf kv).toNat)
    case atStart => exact ⟨0, Nat.zero_le _, rfl, H4⟩
    case round =>
      clear H4
      obtain ⟨k, hk, rfl, HS⟩ := hrel
      have k0 : (0 : Int) ≤ (k : Int) := by omega
      by_cases hk8 : k < 8
      · have e1 : (k : Int) < 8 := by omega
        have x0 := (blk_at HS.out (k * 4)).trans (init_get s k hk8)
        have f0 := frozen_of_row wr gw (k * 4) _ _ HS.out.blk
        go_wp2_with fail
        have H5 := hid (show St w [Blk gw (initL s (k + 1)).toArray 54, CacheA 0 g s (List.replicate m p0)] _ from by
          have h5 := HS.out.setCell (k * 4) (.int .i64 s)
          rw [init_set (s : Int) k hk8] at h5
          exact h5)
        go_roundw
        case rel => exact ⟨k + 1, by omega, by go_num, H5⟩
        case measure => simp [intOf]; omega
      · have e1 : ¬ (k : Int) < 8 := by omega
        have ek8 : k = 8 := by omega
        have e8 : ((k : Nat) : Int) = (8 : Int) := by omega
        rw [e8]
        have H6 := hid (show St w [CacheA 0 g s (List.replicate m p0), RefA gw s (List.replicate m p0 ++ List.replicate (8 - m) p0)] wr from by
          rw [List.replicate_append_replicate, show m + (8 - m) = 8 by omega]
          have h6 := HS.out
          rw [ek8, init_all] at h6
          exact h6.refNew.at2)
        clear HS k0 hk hk8 e1 e8 ek8 k
        go_wp2_with fail
        go_loopw [15, 16, 17, 18, 19, 20, 21, 22, 23, 24, 25, 26] (fun kv _ _ _ _ _ _ _ _ _ _ _ X => ∃ (k : Nat) (ps : List Pt), k ≤ 50 ∧ kv = .int .i64 k ∧ ps.length = m ∧ Hid (∀ p ∈ ps, p.Ok s ∧ Short p ∧ Pt.asked p ≤ k) ∧ Hid (St w [CacheA k g s ps, RefA gw s (ps ++ List.replicate (8 - m) p0)] X)) (fun kv _ _ _ _ _ _ _ _ _ _ _ _ => 50 - (intOf kv).toNat)
        case atStart => exact ⟨0, List.replicate m p0, Nat.zero_le _, rfl, List.length_replicate, hid (fun p hp => by rw [(List.mem_replicate.1 hp).2]; exact ⟨p0_ok s, p0_short, Nat.le_refl _⟩), H6⟩
        case round =>
          clear H6
          obtain ⟨k, ps, hk, rfl, hpl, HPS0, HS⟩ := hrel
          have HLN0 := hid hpl
          clear hpl
          have k0 : (0 : Int) ≤ (k : Int) := by omega
          by_cases hk1 : k < row.length
          · have f1 : (k : Int) < (row.length : Int) := by omega
            by_cases hk2 : k < 50
            · have f2 : (k : Int) < 50 := by omega
              obtain ⟨j, hj⟩ : ∃ j, row[k]? = some j := ⟨_, List.getElem?_eq_getElem hk1⟩
              obtain ⟨ga, o, rfl, hgl, hn1, hn2, b1, b2, b3, b4, c0, c1, c2, c3⟩ := HIN.out k j hj
              have d0 := (HS.out.below.cell (p := ⟨ga, o + k * 4, none⟩) hgl).trans c0
              have d1 := (HS.out.below.cell (p := ⟨ga, o + k * 4 + 1, none⟩) hgl).trans c1
              have d2 := (HS.out.below.cell (p := ⟨ga, o + k * 4 + 2, none⟩) hgl).trans c2
              have d3 := (HS.out.below.cell (p := ⟨ga, o + k * 4 + 3, none⟩) hgl).trans c3
              clear hj c0 c1 c2 c3 hgl
              go_upto_region 17 with (first | (refine wpList_alloc 56 rfl rfl zero56v zero56 ?_; intro gj W1 hJ hjl hjg hW1) | (refine wpList_store_box 56 _ _ rfl gj rfl rfl (cjobV j) rfl 4 size56 rfl (cjobV_one j) 56 _ hJ rfl ?_; intro W2 hJ2 hT2 hs2; have H2 := hid ((HS.out.newBlk hW1 hjg hJ).put hJ2 hT2).back3; clear hJ2 hT2 hs2 hJ hjl hjg hW1))
              clear d0 d1 d2 d3 HS
              by_cases hpart : j.part < 0 ∨ (m : Int) ≤ j.part
              · obtain ⟨Ac, cc, x1⟩ := cache_slice H2.out
                rw [HLN0.out] at x1
                have HGo := hid (cget_out x1 hpart)
                have HHo := hid (chits_out x1 hpart)
                have HPo := hid (cput_out x1 hpart)
                have HDo := hid (cdrop_out x1 hpart)
                have HNo := hid (cnms_out x1 hpart)
                obtain ⟨e0, e1, e2, e3⟩ := cjob_cells H2.out.at3.blk
                clear x1
                by_cases hneg : j.part < 0
                · clear hpart
                  go_wp2_with (first | (go_at_call 23; (with_reducible refine (HGo.out _).mono ?_); rintro r w1 ⟨rfl, rfl⟩) | (go_at_call 24; (with_reducible refine HHo.out.mono ?_); rintro r w1 ⟨rfl, rfl⟩) | (go_at_call 20; (with_reducible refine (HPo.out _ _).mono ?_); rintro r w1 ⟨rfl, rfl⟩) | (go_at_call 25; (with_reducible refine HDo.out.mono ?_); rintro r w1 ⟨rfl, rfl⟩) | (go_at_call 21; (with_reducible refine HNo.out.mono ?_); rintro r w1 ⟨rfl, rfl⟩))
                  go_roundw
                  case rel => exact ⟨k + 1, ps, by omega, by go_num, HLN0.out, hid (fun p hp => ⟨(HPS0.out p hp).1, (HPS0.out p hp).2.1, by have := (HPS0.out p hp).2.2; omega⟩), hid (H2.out.drop3.more (by omega))⟩
                  case measure => simp [intOf]; omega
                · have hpos : (m : Int) ≤ j.part := by omega
                  clear hpart
                  go_wp2_with (first | (go_at_call 23; (with_reducible refine (HGo.out _).mono ?_); rintro r w1 ⟨rfl, rfl⟩) | (go_at_call 24; (with_reducible refine HHo.out.mono ?_); rintro r w1 ⟨rfl, rfl⟩) | (go_at_call 20; (with_reducible refine (HPo.out _ _).mono ?_); rintro r w1 ⟨rfl, rfl⟩) | (go_at_call 25; (with_reducible refine HDo.out.mono ?_); rintro r w1 ⟨rfl, rfl⟩) | (go_at_call 21; (with_reducible refine HNo.out.mono ?_); rintro r w1 ⟨rfl, rfl⟩))
                  go_roundw
                  case rel => exact ⟨k + 1, ps, by omega, by go_num, HLN0.out, hid (fun p hp => ⟨(HPS0.out p hp).1, (HPS0.out p hp).2.1, by have := (HPS0.out p hp).2.2; omega⟩), hid (H2.out.drop3.more (by omega))⟩
                  case measure => simp [intOf]; omega
              · obtain ⟨i, hi⟩ : ∃ i : Nat, j.part = i := ⟨j.part.toNat, by omega⟩
                have him : i < m := by omega
                have i0 : (0 : Int) ≤ (i : Int) := by omega
                have i1 : (i : Int) < (m : Int) := by omega
                have i8 : (i : Int) < 8 := by omega
                have HCJ := hid (show ∀ X (M : List Atm), St w (Blk gj (cjobV j) 56 :: M) X → X.cell? ⟨gj, 0, none⟩ = some (.int .i64 j.what) ∧ X.cell? ⟨gj, 1, none⟩ = some (.int .i64 (i : Int)) ∧ X.cell? ⟨gj, 2, none⟩ = some (.string (strB j.name)) ∧ X.cell? ⟨gj, 3, none⟩ = some (.string (strB j.kept)) from fun X M hX => by
                  have := cjob_cells hX.blk
                  rw [hi] at this
                  exact this)
                clear hpart hi b3 b4
                have hip : i < ps.length := by rw [HLN0.out]; exact him
                obtain ⟨p, hp⟩ : ∃ p, p = ps[i] := ⟨_, rfl⟩
                have HPI := hid (show p.Ok s ∧ Short p ∧ Pt.asked p ≤ k by rw [hp]; exact HPS0.out _ (List.getElem_mem hip))
                have hrp : i < (ps ++ List.replicate (8 - m) p0).length := by rw [List.length_append]; omega
                have hre : (ps ++ List.replicate (8 - m) p0)[i] = p := by rw [hp]; exact List.getElem_append_left hip
                have HSET := hid (show ∀ p', (ps ++ List.replicate (8 - m) p0).set i p' = ps.set i p' ++ List.replicate (8 - m) p0 from fun p' => List.set_append_left _ _ hip)
                have HUP := hid (show ∀ p', p'.Ok s ∧ Short p' ∧ Pt.asked p' ≤ k + 1 → ∀ y ∈ ps.set i p', y.Ok s ∧ Short y ∧ Pt.asked y ≤ k + 1 from fun p' hp' => mem_set (fun y hy => ⟨(HPS0.out y hy).1, (HPS0.out y hy).2.1, by have := (HPS0.out y hy).2.2; omega⟩) hp')
                have HLS := hid (show ∀ p', (ps.set i p').length = m from fun p' => by rw [List.length_set]; exact HLN0.out)
                have hask : p.hits + p.misses ≤ 1000000 := by have := HPI.out.2.2; unfold Pt.asked at this; omega
                have HGC := hid (fun X (M : List Atm) (hX : St w (CacheA k g s ps :: M) X) => show Calls Try.prog 23 #[ptrV g, .int .i64 i, .string (strB j.name)] X fun r w' => r = .returned (.tuple #[.string (strB ((p.get j.name).1.getD [])), .bool (p.get j.name).1.isSome]) ∧ St w (CacheA k g s (ps.set i (p.get j.name).2) :: M) w' from by
                  have h9 := cget_st (k := j.name) hX hip (by rw [← hp]; exact HPI.out.1) hs2 (by rw [← hp]; exact hask) hn1
                  rw [← hp] at h9
                  exact h9)
                have HGR := hid (fun X (M : List Atm) (hX : St w (RefA gw s (ps ++ List.replicate (8 - m) p0) :: M) X) => show Calls Try.prog 26 #[.pointer (some ⟨gw, i * 4, none⟩), .string (strB j.name)] X fun r w' => r = .returned (.tuple #[.string (strB ((p.get j.name).1.getD [])), .bool (p.get j.name).1.isSome]) ∧ St w (RefA gw s (ps.set i (p.get j.name).2 ++ List.replicate (8 - m) p0) :: M) w' from by
                  have h9 := rget_st hX hrp (by rw [hre]; exact HPI.out.1) hs2 (by rw [hre]; exact hask) j.name
                  rw [hre, HSET.out] at h9
                  exact h9)
                have HPC := hid (fun X (M : List Atm) (hX : St w (CacheA k g s ps :: M) X) => show Calls Try.prog 20 #[ptrV g, .int .i64 i, .string (strB j.name), .string (strB j.kept)] X fun r w' => r = .returned (.int .i64 0) ∧ St w (CacheA (k + 1) g s (ps.set i (p.put s j.name j.kept)) :: M) w' from by
                  have h9 := cput_st (k := j.name) (x := j.kept) hX hip (by rw [← hp]; exact HPI.out.1) (by rw [← hp]; exact HPI.out.2.1) hs2 (by omega) hn1 hn2
                  rw [← hp] at h9
                  exact h9)
                have HPR := hid (fun X (M : List Atm) (hX : St w (RefA gw s (ps ++ List.replicate (8 - m) p0) :: M) X) => show Calls Try.prog 27 #[.pointer (some ⟨gw, i * 4, none⟩), .string (strB j.name), .string (strB j.kept)] X fun r w' => r = .returned (.tuple #[]) ∧ St w (RefA gw s (ps.set i (p.put s j.name j.kept) ++ List.replicate (8 - m) p0) :: M) w' from by
                  have h9 := rput_st hX hrp (by rw [hre]; exact HPI.out.1) hs2 j.name j.kept
                  rw [hre, HSET.out] at h9
                  exact h9)
                have HDC := hid (fun X (M : List Atm) (hX : St w (CacheA k g s ps :: M) X) => show Calls Try.prog 25 #[ptrV g, .int .i64 i] X fun r w' => r = .returned (.int .i64 0) ∧ St w (CacheA k g s (ps.set i p.drop) :: M) w' from by
                  have h9 := cdrop_st hX hip
                  rw [← hp] at h9
                  exact h9)
                have HDR := hid (fun X (M : List Atm) (hX : St w (RefA gw s (ps ++ List.replicate (8 - m) p0) :: M) X) => show (∃ v, X.cell? ⟨gw, i * 4 + 1, none⟩ = some v) ∧ X.frozen? ⟨gw, i * 4 + 1, none⟩ = false ∧ St w (RefA gw s (ps.set i p.drop ++ List.replicate (8 - m) p0) :: M) (X.setCell ⟨gw, i * 4 + 1, none⟩ (.slice none 0 0)) from by
                  have h9 := rdrop_at hX hrp
                  rw [hre, HSET.out] at h9
                  exact h9)
                obtain ⟨e0, e1, e2, e3⟩ := HCJ.out _ _ H2.out.at3
                obtain ⟨rr, er, hr4⟩ := u64_rem j.what 4 (by decide)
                simp only [Int.cast_ofNat_Int] at er
                have HSP := hid (HPI.out.2.1.put (size := s) hn1 hn2)
                clear hip hp hrp hre hask hn1 hn2 HIN
                match rr, hr4 with
                | 0, _ =>
                  have dm : decide (m ≤ i) = false := decide_eq_false (by omega)
                  replace er : (IntKind.u64.wrap j.what).tmod 4 = (0 : Int) := er
                  go_wp2_with fail
                  have HPS := hid (show ∀ p ∈ ps, p.Ok s ∧ Short p ∧ Pt.asked p ≤ k + 1 from fun p hp => ⟨(HPS0.out p hp).1, (HPS0.out p hp).2.1, by have := (HPS0.out p hp).2.2; omega⟩)
                  have HLN := HLN0
                  have H9 := hid (show St w [CacheA (k + 1) g s ps, RefA gw s (ps ++ List.replicate (8 - m) p0), Blk gj (cjobV j) 56] W2 from H2.out.more (by omega))
                  clear H2 e0 e1 e2 e3
                  go_loopw [26] (fun kv X => ∃ q : Nat, q ≤ m ∧ kv = .int .i64 q ∧ Hid (St w [CacheA (k + 1) g s ps, RefA gw s (ps ++ List.replicate (8 - m) p0), Blk gj (cjobV j) 56] X)) (fun kv _ => m - (intOf kv).toNat)
                  case atStart => exact ⟨0, Nat.zero_le _, rfl, H9⟩
                  case round =>
                    obtain ⟨q, hq, rfl, HS3⟩ := hrel
                    have q0 : (0 : Int) ≤ (q : Int) := by omega
                    by_cases hqm : q < m
                    · have q1 : (q : Int) < (m : Int) := by omega
                      have q8 : (q : Int) < 8 := by omega
                      have HSA := hid (rsame_st (i := q) HS3.out (by rw [HLN.out]; exact hqm) (by rw [List.length_append, HLN.out]; omega) (List.getElem_append_left (by rw [HLN.out]; exact hqm)) (by have := (HPS.out _ (List.getElem_mem (by rw [HLN.out]; exact hqm : q < (ps).length))).1.few; omega))
                      go_wp2_with (go_at_call 28; (with_reducible refine HSA.out.mono ?_); rintro r w9 ⟨rfl, hs9⟩; have H9 := hid hs9; clear hs9)
                      go_roundw
                      case rel => exact ⟨q + 1, by omega, by go_num, H9⟩
                      case measure => simp [intOf]; omega
                    · have q1 : ¬ (q : Int) < (m : Int) := by omega
                      go_wp2_with fail
                      go_roundw
                      case rel => exact ⟨k + 1, ps, by omega, by go_num, HLN.out, HPS, hid HS3.out.drop3⟩
                      case measure => simp [intOf]; omega
                | 1, _ =>
                  have HPS := hid (HUP.out _ (show (p.get j.name).2.Ok s ∧ Short (p.get j.name).2 ∧ Pt.asked (p.get j.name).2 ≤ k + 1 from ⟨HPI.out.1.get _, HPI.out.2.1.get _, by rw [get_asked]; have := HPI.out.2.2; omega⟩))
                  have HLN := hid (HLS.out (p.get j.name).2)
                  obtain ⟨P, hP⟩ : ∃ P, P = ps.set i (p.get j.name).2 := ⟨_, rfl⟩
                  obtain ⟨sx, hsx⟩ : ∃ sx, sx = strB ((p.get j.name).1.getD []) := ⟨_, rfl⟩
                  obtain ⟨bx, hbx⟩ : ∃ bx, bx = (p.get j.name).1.isSome := ⟨_, rfl⟩
                  rw [← hP, ← hsx, ← hbx] at HGC HGR
                  rw [← hP] at HPS HLN
                  clear hP hsx hbx
                  go_wp2_with (first | (go_at_call 23; (with_reducible refine (HGC.out _ _ H2.out).mono ?_); rintro r w5 ⟨rfl, hs5⟩; have H5 := hid hs5; clear hs5 e0 e1 e2 e3; obtain ⟨e0, e1, e2, e3⟩ := HCJ.out _ _ H5.out.at3) | (go_at_call 26; (with_reducible refine (HGR.out _ _ H5.out.at2).mono ?_); rintro r w6 ⟨rfl, hs6⟩; have H6 := hid hs6; clear hs6))
                  have H9 := hid (show St w [CacheA (k + 1) g s P, RefA gw s (P ++ List.replicate (8 - m) p0), Blk gj (cjobV j) 56] w6 from H6.out.at2.more (by omega))
                  clear H2 H5 H6 e0 e1 e2 e3
                  go_loopw [26] (fun kv X => ∃ q : Nat, q ≤ m ∧ kv = .int .i64 q ∧ Hid (St w [CacheA (k + 1) g s P, RefA gw s (P ++ List.replicate (8 - m) p0), Blk gj (cjobV j) 56] X)) (fun kv _ => m - (intOf kv).toNat)
                  case atStart => exact ⟨0, Nat.zero_le _, rfl, H9⟩
                  case round =>
                    obtain ⟨q, hq, rfl, HS3⟩ := hrel
                    have q0 : (0 : Int) ≤ (q : Int) := by omega
                    by_cases hqm : q < m
                    · have q1 : (q : Int) < (m : Int) := by omega
                      have q8 : (q : Int) < 8 := by omega
                      have HSA := hid (rsame_st (i := q) HS3.out (by rw [HLN.out]; exact hqm) (by rw [List.length_append, HLN.out]; omega) (List.getElem_append_left (by rw [HLN.out]; exact hqm)) (by have := (HPS.out _ (List.getElem_mem (by rw [HLN.out]; exact hqm : q < (P).length))).1.few; omega))
                      go_wp2_with (go_at_call 28; (with_reducible refine HSA.out.mono ?_); rintro r w9 ⟨rfl, hs9⟩; have H9 := hid hs9; clear hs9)
                      go_roundw
                      case rel => exact ⟨q + 1, by omega, by go_num, H9⟩
                      case measure => simp [intOf]; omega
                    · have q1 : ¬ (q : Int) < (m : Int) := by omega
                      go_wp2_with fail
                      go_roundw
                      case rel => exact ⟨k + 1, P, by omega, by go_num, HLN.out, HPS, hid HS3.out.drop3⟩
                      case measure => simp [intOf]; omega
                | 2, _ =>
                  have HPS := hid (HUP.out _ (show (p.put s j.name j.kept).Ok s ∧ Short (p.put s j.name j.kept) ∧ Pt.asked (p.put s j.name j.kept) ≤ k + 1 from ⟨HPI.out.1.put _ _, HSP.out, by have := HPI.out.2.2; show p.hits + p.misses ≤ k + 1; unfold Pt.asked at this; omega⟩))
                  have HLN := hid (HLS.out (p.put s j.name j.kept))
                  obtain ⟨P, hP⟩ : ∃ P, P = ps.set i (p.put s j.name j.kept) := ⟨_, rfl⟩
                  rw [← hP] at HPC HPR HPS HLN
                  clear hP
                  go_wp2_with (first | (go_at_call 20; (with_reducible refine (HPC.out _ _ H2.out).mono ?_); rintro r w5 ⟨rfl, hs5⟩; have H5 := hid hs5; clear hs5 e0 e1 e2 e3; obtain ⟨e0, e1, e2, e3⟩ := HCJ.out _ _ H5.out.at3) | (go_at_call 27; (with_reducible refine (HPR.out _ _ H5.out.at2).mono ?_); rintro r w6 ⟨rfl, hs6⟩; have H6 := hid hs6; clear hs6))
                  have H9 := hid (show St w [CacheA (k + 1) g s P, RefA gw s (P ++ List.replicate (8 - m) p0), Blk gj (cjobV j) 56] w6 from H6.out.at2)
                  clear H2 H5 H6 e0 e1 e2 e3
                  go_loopw [26] (fun kv X => ∃ q : Nat, q ≤ m ∧ kv = .int .i64 q ∧ Hid (St w [CacheA (k + 1) g s P, RefA gw s (P ++ List.replicate (8 - m) p0), Blk gj (cjobV j) 56] X)) (fun kv _ => m - (intOf kv).toNat)
                  case atStart => exact ⟨0, Nat.zero_le _, rfl, H9⟩
                  case round =>
                    obtain ⟨q, hq, rfl, HS3⟩ := hrel
                    have q0 : (0 : Int) ≤ (q : Int) := by omega
                    by_cases hqm : q < m
                    · have q1 : (q : Int) < (m : Int) := by omega
                      have q8 : (q : Int) < 8 := by omega
                      have HSA := hid (rsame_st (i := q) HS3.out (by rw [HLN.out]; exact hqm) (by rw [List.length_append, HLN.out]; omega) (List.getElem_append_left (by rw [HLN.out]; exact hqm)) (by have := (HPS.out _ (List.getElem_mem (by rw [HLN.out]; exact hqm : q < (P).length))).1.few; omega))
                      go_wp2_with (go_at_call 28; (with_reducible refine HSA.out.mono ?_); rintro r w9 ⟨rfl, hs9⟩; have H9 := hid hs9; clear hs9)
                      go_roundw
                      case rel => exact ⟨q + 1, by omega, by go_num, H9⟩
                      case measure => simp [intOf]; omega
                    · have q1 : ¬ (q : Int) < (m : Int) := by omega
                      go_wp2_with fail
                      go_roundw
                      case rel => exact ⟨k + 1, P, by omega, by go_num, HLN.out, HPS, hid HS3.out.drop3⟩
                      case measure => simp [intOf]; omega
                | 3, _ =>
                  have HPS := hid (HUP.out _ (show p.drop.Ok s ∧ Short p.drop ∧ Pt.asked p.drop ≤ k + 1 from ⟨Pt.Ok.drop s, Short.drop p, by have := HPI.out.2.2; show p.hits + p.misses ≤ k + 1; unfold Pt.asked at this; omega⟩))
                  have HLN := hid (HLS.out p.drop)
                  obtain ⟨P, hP⟩ : ∃ P, P = ps.set i p.drop := ⟨_, rfl⟩
                  rw [← hP] at HDC HDR HPS HLN
                  clear hP
                  go_upto_region 36 with (go_at_call 25; (with_reducible refine (HDC.out _ _ H2.out).mono ?_); rintro r w5 ⟨rfl, hs5⟩; have H5 := hid hs5; clear hs5 e0 e1 e2 e3)
                  obtain ⟨⟨vd, hvd⟩, hfd, hsd⟩ := HDR.out _ _ H5.out.at2
                  have H6 := hid hsd
                  clear hsd
                  go_wp2_with fail
                  have H9 := hid (show St w [CacheA (k + 1) g s P, RefA gw s (P ++ List.replicate (8 - m) p0), Blk gj (cjobV j) 56] _ from H6.out.at2.more (by omega))
                  clear H2 H5 H6 hvd hfd
                  go_loopw [26] (fun kv X => ∃ q : Nat, q ≤ m ∧ kv = .int .i64 q ∧ Hid (St w [CacheA (k + 1) g s P, RefA gw s (P ++ List.replicate (8 - m) p0), Blk gj (cjobV j) 56] X)) (fun kv _ => m - (intOf kv).toNat)
                  case atStart => exact ⟨0, Nat.zero_le _, rfl, H9⟩
                  case round =>
                    obtain ⟨q, hq, rfl, HS3⟩ := hrel
                    have q0 : (0 : Int) ≤ (q : Int) := by omega
                    by_cases hqm : q < m
                    · have q1 : (q : Int) < (m : Int) := by omega
                      have q8 : (q : Int) < 8 := by omega
                      have HSA := hid (rsame_st (i := q) HS3.out (by rw [HLN.out]; exact hqm) (by rw [List.length_append, HLN.out]; omega) (List.getElem_append_left (by rw [HLN.out]; exact hqm)) (by have := (HPS.out _ (List.getElem_mem (by rw [HLN.out]; exact hqm : q < (P).length))).1.few; omega))
                      go_wp2_with (go_at_call 28; (with_reducible refine HSA.out.mono ?_); rintro r w9 ⟨rfl, hs9⟩; have H9 := hid hs9; clear hs9)
                      go_roundw
                      case rel => exact ⟨q + 1, by omega, by go_num, H9⟩
                      case measure => simp [intOf]; omega
                    · have q1 : ¬ (q : Int) < (m : Int) := by omega
                      go_wp2_with fail
                      go_roundw
                      case rel => exact ⟨k + 1, P, by omega, by go_num, HLN.out, HPS, hid HS3.out.drop3⟩
                      case measure => simp [intOf]; omega
            · have f2 : ¬ (k : Int) < 50 := by omega
              go_wp2_with fail
              go_ret
              exact ⟨rfl, HS.out.below⟩
          · have f1 : ¬ (k : Int) < (row.length : Int) := by omega
            go_wp2_with fail
            go_ret
            exact ⟨rfl, HS.out.below⟩
end Go.Proofs.Ytnakbdgoaepehaa
