/- What the four listed tables say of memory. -/
import Derived.Test.YtnakbdgoaepehaaDoorShaLaid
import Derived.Test.YtnakbdgoaepehaaDoorSha5Press
import Derived.Test.YtnakbdgoaepehaaDoorOpen2
namespace Go.Cu
def start5L : List UInt64 := [7640891576956012808, 13503953896175478587, 4354685564936845355, 11912009170470909681, 5840696475078001361, 11170449401992604703, 2270897969802886507, 6620516959819538809]
def rounds5L : List UInt64 := [4794697086780616226, 8158064640168781261, 13096744586834688815, 16840607885511220156, 4131703408338449720, 6480981068601479193, 10538285296894168987, 12329834152419229976, 15566598209576043074, 1334009975649890238, 2608012711638119052, 6128411473006802146, 8268148722764581231, 9286055187155687089, 11230858885718282805, 13951009754708518548, 16472876342353939154, 17275323862435702243, 1135362057144423861, 2597628984639134821, 3308224258029322869, 5365058923640841347, 6679025012923562964, 8573033837759648693, 10970295158949994411, 12119686244451234320, 12683024718118986047, 13788192230050041572, 14330467153632333762, 15395433587784984357, 489312712824947311, 1452737877330783856, 2861767655752347644, 3322285676063803686, 5560940570517711597, 5996557281743188959, 7280758554555802590, 8532644243296465576, 9350256976987008742, 10552545826968843579, 11727347734174303076, 12113106623233404929, 14000437183269869457, 14369950271660146224, 15101387698204529176, 15463397548674623760, 17586052441742319658, 1182934255886127544, 1847814050463011016, 2177327727835720531, 2830643537854262169, 3796741975233480872, 4115178125766777443, 5681478168544905931, 6601373596472566643, 7507060721942968483, 8399075790359081724, 8693463985226723168, 9568029438360202098, 10144078919501101548, 10430055236837252648, 11840083180663258601, 13761210420658862357, 14299343276471374635, 14566680578165727644, 15097957966210449927, 16922976911328602910, 17689382322260857208, 500013540394364858, 748580250866718886, 1242879168328830382, 1977374033974150939, 2944078676154940804, 3659926193048069267, 4368137639120453308, 4836135668995329356, 5532061633213252278, 6448918945643986474, 6902733635092675308, 7801388544844847127]
theorem start5L_len : start5L.length = 8 := by decide
theorem rounds5L_len : rounds5L.length = 80 := by decide
section
open Go.ChangeShapes
variable {H : Type} {enc : TypeId × Value → H} {P : Program} {w : World} {base : Nat} {spare : Nat → Bool} {held : Bool}
theorem param_bytes2 {r : Reach} {b0 : Nat} {t e : TypeId} {v : Value} {d : DataW H} {p : List MemPlace} (ht : P.underlying t = some (.slice e)) (he : P.underlying e = some (.int .u8)) (hc : P.cellsOf e = 1)
    (hv : Value.okWide P w r b0 t v) (h : DataW.Trod enc P w base spare held t v d p) : ∃ (A : Option Addr) (c : Nat) (l : List UInt8), v = .slice A l.length c ∧ l.length ≤ c ∧ c ≤ maxLen ∧ BytesIn w A l := by
  obtain ⟨fuel, hf⟩ := h
  obtain ⟨A, c, l, hcs, h1, h2⟩ := bytes_cells ht he hc hf
  obtain ⟨A', len, cap, hcs', h3, h4, _⟩ := slice_cells ht hc (by omega) hf
  have e1 := hcs.symm.trans hcs'
  simp only [List.cons.injEq, Value.slice.injEq, and_true] at e1
  obtain ⟨_, e2, e3⟩ := e1
  exact ⟨A, c, l, slice_value ht hv hcs, by omega, by omega, h2⟩
end
end Go.Cu
namespace Go.Proofs.YtnakbdgoaepehaaDoor
open Go.ChangeShapes Go.WideShapes Go.ChangeAt Go.RowKit Go.Cu
theorem g5Start : Tryd.prog.globalNamed "custumal/sha5.start" = some 0 := by kernel_rfl
theorem g5Rounds : Tryd.prog.globalNamed "custumal/sha5.rounds" = some 2 := by kernel_rfl
theorem gt5Start : (Tryd.prog.globals[0]?).map (·.type) = some 91 := by kernel_rfl
theorem gt5Rounds : (Tryd.prog.globals[2]?).map (·.type) = some 113 := by kernel_rfl
/-- An array of words that reads as these. -/
theorem words64_cells {H : Type} {enc : TypeId × Value → H} {P : Program} {w : World} {base : Nat} {sp : Nat → Bool} {held : Bool} {fuel t e n : Nat} {cs : List Value} {l : List UInt64} {p : List MemPlace}
    (ht : P.underlying t = some (.array n e)) (he : P.underlying e = some (.int .u64)) (hc : P.cellsOf e = 1) (hct : P.cellsOf t = n) (hl : l.length = n)
    (h : DataW.trod enc P w base sp held fuel t cs = some (.agg (l.map fun x => .lit (.int .u64 x.toNat)), p)) : cs = l.map fun x => Value.int .u64 x.toNat := by
  obtain ⟨xs, m, rfl, hx, hlen, hn, hel⟩ := DataW.trod_array ht h
  rw [hc] at hel
  rw [hct] at hlen
  simp only [Prod.mk.injEq, DataW.agg.injEq] at hx
  apply List.ext_getElem?
  intro i
  by_cases hi : i < n
  · have h1 := hel i hi
    have hxi : i < xs.length := by omega
    rw [List.getElem?_eq_getElem hxi] at h1
    obtain ⟨k, e1, e2, _⟩ := DataW.trod_int he h1
    have hcs : i < cs.length := by omega
    have e3 : (cs.drop (i * 1)).take 1 = [cs[i]] := by
      rw [Nat.mul_one, List.drop_eq_getElem_cons hcs, List.take_succ_cons, List.take_zero]
    rw [e3] at e1
    have hli : i < l.length := by omega
    have e4 : (xs.map (·.1))[i]? = (l.map fun x => DataW.lit (H := H) (.int .u64 x.toNat))[i]? := by rw [hx.1]
    rw [List.getElem?_map, List.getElem?_map, List.getElem?_eq_getElem hxi, List.getElem?_eq_getElem hli, e2] at e4
    simp only [Option.map_some, Option.some.injEq, DataW.lit.injEq, Lit.int.injEq, true_and] at e4
    rw [List.getElem?_map, List.getElem?_eq_getElem hcs, List.getElem?_eq_getElem hli]
    simp only [List.cons.injEq, and_true] at e1
    rw [e1, e4]
    rfl
  · rw [List.getElem?_eq_none (by omega), List.getElem?_eq_none (by simp; omega)]
set_option maxRecDepth 20000 in
theorem start5_datum : (Rows.laid_custumal_sha5_start : DataW Unit) = .agg (start5L.map fun x => .lit (.int .u64 x.toNat)) := by rfl
set_option maxRecDepth 20000 in
theorem rounds5_datum : (Rows.laid_custumal_sha5_rounds : DataW Unit) = .agg (rounds5L.map fun x => .lit (.int .u64 x.toNat)) := by rfl
/-- The tables lie where the program looks for them. -/
theorem globs_of_laid {W : World} (h : laidMetH Tryd.prog [("custumal/sha2.start", Rows.laid_custumal_sha2_start), ("custumal/sha2.rounds", Rows.laid_custumal_sha2_rounds), ("custumal/sha5.start", Rows.laid_custumal_sha5_start), ("custumal/sha5.rounds", Rows.laid_custumal_sha5_rounds)] W) : Glob W ∧ Glob5 W := by
  rw [MakeChecks.laidMetH_plain _ _ _ (by kernel_rfl)] at h
  obtain ⟨ps, ⟨g0, t0, cs0, f0, p0, q0, hg0, ht0, hv0, hd0, ⟨g1, t1, cs1, f1, p1, q1, hg1, ht1, hv1, hd1, ⟨g2, t2, cs2, f2, p2, q2, hg2, ht2, hv2, hd2, ⟨g3, t3, cs3, f3, p3, q3, hg3, ht3, hv3, hd3, _, _⟩, _⟩, _⟩, _⟩, _, _⟩ := h
  obtain rfl := Option.some.inj (gStart.symm.trans hg0)
  obtain rfl := Option.some.inj (gRounds.symm.trans hg1)
  obtain rfl := Option.some.inj (g5Start.symm.trans hg2)
  obtain rfl := Option.some.inj (g5Rounds.symm.trans hg3)
  obtain rfl := Option.some.inj (gtStart.symm.trans ht0)
  obtain rfl := Option.some.inj (gtRounds.symm.trans ht1)
  obtain rfl := Option.some.inj (gt5Start.symm.trans ht2)
  obtain rfl := Option.some.inj (gt5Rounds.symm.trans ht3)
  have hd0' := hd0
  have hd1' := hd1
  have hd2' := hd2
  have hd3' := hd3
  rw [start_datum] at hd0'
  rw [rounds_datum] at hd1'
  rw [start5_datum] at hd2'
  rw [rounds5_datum] at hd3'
  have c0 := words_cells Tryd.underlying109 Tryd.underlying108 (by kernel_rfl) (by kernel_rfl) startL_len hd0'
  have c1 := words_cells Tryd.underlying123 Tryd.underlying108 (by kernel_rfl) (by kernel_rfl) roundsL_len hd1'
  have c2 := words64_cells Tryd.underlying91 Tryd.underlying65 (by kernel_rfl) (by kernel_rfl) start5L_len hd2'
  have c3 := words64_cells Tryd.underlying113 Tryd.underlying65 (by kernel_rfl) (by kernel_rfl) rounds5L_len hd3'
  obtain ⟨a0, b0, h0⟩ := var_block gStart hv0
  obtain ⟨a1, b1, h1⟩ := var_block gRounds hv1
  obtain ⟨a2, b2, h2⟩ := var_block g5Start hv2
  obtain ⟨a3, b3, h3⟩ := var_block g5Rounds hv3
  refine ⟨⟨a0, b0, a1, b1, ?_, ?_⟩, ⟨start5L, rounds5L, a2, b2, a3, b3, start5L_len, rounds5L_len, ?_, ?_⟩⟩
  · rw [h0]
    congr 2
    obtain ⟨l⟩ := cs0
    exact congrArg List.toArray c0
  · rw [h1]
    congr 2
    obtain ⟨l⟩ := cs1
    exact congrArg List.toArray c1
  · rw [h2]
    congr 2
    obtain ⟨l⟩ := cs2
    exact congrArg List.toArray c2
  · rw [h3]
    congr 2
    obtain ⟨l⟩ := cs3
    exact congrArg List.toArray c3
end Go.Proofs.YtnakbdgoaepehaaDoor
