/- JournalForged: records whose bytes look like heads and the blocks behind them are never told for others; for all records, bytes and words. -/
import Derived.Test.YthmchbdhikakhaaJa4
import Derived.Deep.CutBlock
import Derived.Deep.DeepCutAuto
import Derived.Test.YthmchbdhikakhaaRows
import Derived.ChangeOld
/- Texts appended to a row of texts. -/
namespace Go.Cu
open Go Go.RowKit
section
variable {P : Program}
theorem wpList_append_texts {ops : Array Oper} {rest : List Oper} {o : Oper} {a : Act} {w : World} {Q : Exit → Act → World → Prop} (s x : Operand) (t : TypeId)
    (ho : o.op = .call { callee := .builtin .append, args := #[s, x], argTypes := #[t, t] }) (v : Value) (hs : a.eval s = v) (B : Option Addr) (c : Nat) (rs : List (List UInt8)) (hx : a.eval x = .slice B rs.length c) (hw : Region.wanted o (yielded ops a.tmps) = true)
    (e : TypeId) (i : TypeInfo) (z : Value) (ht : P.underlying t = some (.slice e)) (hi : P.info? e = some i) (hz : i.zero = some z) (hzs : z.cells.size = 1)
    (hsize : i.size = 1) (hby : i.bytes = 16)
    (n : Nat) (xs : List Value) (hown : w.ownsRow 0 e 1 v n xs) (hb : TextsIn w B rs)
    (h63 : n + rs.length ≤ 1000000)
    (h : ∀ v' w', w'.ownsRow 0 e 1 v' (n + rs.length) (xs ++ rs.map sv) → Tch (fun g => v.ownBlock = some g) w w' → (v'.ownBlock = v.ownBlock ∨ v'.ownBlock = some w.heap.size) → wpList P ops Q rest (a.put o.dst v') w') : wpList P ops Q (o :: rest) a w := by
  match rs, hb, h63, h, hx with
  | [], hb, h63, h, hx =>
    refine wpList_wanted hw fun K hK => ?_
    have hrun := run_append_zero 0 t o.type e i 1 ht hi v n xs hown B c
    unfold Oper.wp execOp
    simp only [ho, resolve, invoke, builtin, Sem.run_bind, Sem.run_pure, Result.andThen_ok, List.map_toArray, List.map_cons, List.map_nil, hs, hx, List.length_nil, hrun]
    exact hK _ _ (h v w (by simpa using hown) (Tch.refl _ _) (.inl rfl))
  | r :: rs, hb, h63, h, hx =>
    obtain ⟨g, o', rfl, _⟩ := hb 0 r rfl
    refine wpList_append_at s x t ho v hs ⟨g, o', none⟩ (r :: rs).length c hx hw e i z 1 16 ht hi hz hsize hby hzs (by decide) n xs hown ((r :: rs).map sv) (by simp) (fun j u hj => ?_) (fun u hu => ?_) (by unfold maxLen; omega) (by omega) h
    · rw [List.getElem?_map] at hj
      cases hq : (r :: rs)[j]? with
      | none => rw [hq] at hj; cases hj
      | some q =>
        rw [hq] at hj
        obtain rfl : sv q = u := by simpa using hj
        obtain ⟨g', o2, e', hc⟩ := hb j q hq
        cases e'
        have e3 : (⟨g, o', none⟩ : Addr).add j = ⟨g, o' + j, none⟩ := by unfold Addr.add; split <;> simp_all
        rw [e3]
        exact hc
    · obtain ⟨q, _, rfl⟩ := List.mem_map.1 hu
      rfl
end
section
variable {W0 W : World} {L : List Atm}
/-- One of the records, behind a slice of that one alone. -/
theorem recsIn_one {A : Option Addr} {rs : List (List UInt8)} {X : World} (h : RecsIn X A rs) {k : Nat} {r : List UInt8} (hr : rs[k]? = some r) {g o : Nat} (hA : A = some ⟨g, o, none⟩) : RecsIn X (some ⟨g, o + k, none⟩) [r] := fun i q hq => by
  match i with
  | i + 1 => cases hq
  | 0 =>
    obtain rfl : r = q := by simpa using hq
    obtain ⟨g', o', B, c, e, hc, h1, h2, h3⟩ := h k r hr
    rw [hA] at e
    cases e
    exact ⟨g, o + k, B, c, rfl, hc, h1, h2, h3⟩
end
end Go.Cu
/- JournalFalls' first parameter, opened. -/
namespace Go.Proofs.Ythmchbdhikakhaa
open Go.ChangeShapes Go.WideShapes Go.ChangeAt Go.RowKit Go.Cu
/-- The cells of a fall. -/
def fallV (A : Option Addr) (n c : Nat) (o : Int) (K : Option Addr) (kn kc : Nat) (a : Int) (M : Option Addr) (mn mc : Nat) : Array Value := #[.slice A n c, .int .i64 o, .slice K kn kc, .int .i64 a, .slice M mn mc]
section
variable {H : Type} {enc : TypeId × Value → H} {w : World} {base : Nat} {spare : Nat → Bool} {held : Bool}
set_option maxRecDepth 20000 in
theorem fall_open {r : Reach} {b0 : Nat} {v : Value} {d : DataW H} {p : List MemPlace} (hv : Value.okWide Try.prog w r b0 98 v) (h : DataW.Trod enc Try.prog w base spare held 98 v d p) :
    ∃ (A : Option Addr) (c : Nat) (rs : List (List UInt8)) (o : Int) (K : Option Addr) (kc : Nat) (keep : List Bool) (a : Int) (M : Option Addr) (mc : Nat) (other : List Bool), v = .agg (fallV A rs.length c o K keep.length kc a M other.length mc) ∧ RecsIn w A rs ∧
      keep.length ≤ maxLen ∧ KeepIn w K keep ∧ other.length ≤ maxLen ∧ KeepIn w M other := by
  simp only [Value.okWide, Try.underlying98] at hv
  obtain ⟨cs, rfl, hsz, _⟩ := hv
  obtain ⟨fuel, hf⟩ := h
  obtain ⟨_, y0, t0⟩ := field_cells Try.underlying98 hf 0 _ rfl
  obtain ⟨_, y1, t1⟩ := field_cells Try.underlying98 hf 1 _ rfl
  obtain ⟨_, y2, t2⟩ := field_cells Try.underlying98 hf 2 _ rfl
  obtain ⟨_, y3, t3⟩ := field_cells Try.underlying98 hf 3 _ rfl
  obtain ⟨_, y4, t4⟩ := field_cells Try.underlying98 hf 4 _ rfl
  have hl : cs.toList.length = 5 := by
    have : Try.prog.cellsOf 98 = 5 := by kernel_rfl
    rw [Array.length_toList]; omega
  obtain ⟨cl⟩ := cs
  match cl, hl with
  | [a, b, c, d, e], _ =>
    obtain ⟨A, ca, rs, e0, hr⟩ := recs_cells Try.underlying81 Try.underlying22 Try.underlying5 (by kernel_rfl) (by kernel_rfl) t0
    obtain ⟨x1, e1, _, _⟩ := DataW.trod_int Try.underlying3 t1
    obtain ⟨K, kc, keep, e2, hk, hki⟩ := bools_cells Try.underlying24 Try.underlying4 (by kernel_rfl) t2
    obtain ⟨x3, e3, _, _⟩ := DataW.trod_int Try.underlying3 t3
    obtain ⟨M, mc, other, e4, hm, hmi⟩ := bools_cells Try.underlying24 Try.underlying4 (by kernel_rfl) t4
    have c0 : [a] = [.slice A rs.length ca] := e0
    have c1 : [b] = [.int .i64 x1] := e1
    have c2 : [c] = [.slice K keep.length kc] := e2
    have c3 : [d] = [.int .i64 x3] := e3
    have c4 : [e] = [.slice M other.length mc] := e4
    simp only [List.cons.injEq, and_true] at c0 c1 c2 c3 c4
    subst c0 c1 c2 c3 c4
    exact ⟨A, ca, rs, x1, K, kc, keep, x3, M, mc, other, rfl, hr, hk, hki, hm, hmi⟩
end
end Go.Proofs.Ythmchbdhikakhaa
/- JournalFalls: the walk. -/
namespace Go.Proofs.Ythmchbdhikakhaa
open Go.RowKit Go.Cu
theorem fall_cells {W : World} {g : Nat} {A : Option Addr} {n c : Nat} {o : Int} {K : Option Addr} {kn kc : Nat} {a : Int} {M : Option Addr} {mn mc : Nat} (h : W.heap[g]? = some (.cells (fallV A n c o K kn kc a M mn mc) 98 (0, 0))) :
    W.cell? ⟨g, 0, none⟩ = some (.slice A n c) ∧ W.cell? ⟨g, 1, none⟩ = some (.int .i64 o) ∧ W.cell? ⟨g, 2, none⟩ = some (.slice K kn kc) ∧ W.cell? ⟨g, 3, none⟩ = some (.int .i64 a) ∧ W.cell? ⟨g, 4, none⟩ = some (.slice M mn mc) :=
  ⟨(cell_of_row W g 0 _ _ _ h).trans rfl, (cell_of_row W g 1 _ _ _ h).trans rfl, (cell_of_row W g 2 _ _ _ h).trans rfl, (cell_of_row W g 3 _ _ _ h).trans rfl, (cell_of_row W g 4 _ _ _ h).trans rfl⟩
/-- An open on a quiet disk. -/
theorem open_quiet {W0 X : World} {M : List Atm} {p : Nat} {S : DS} {N s : Nat} {rs : List (List UInt8)} {J : Jn} (hX : St W0 (Disk p S :: M) X) (hok : S.Ok N) (hq : Quiet S ⟨3, s, 0, 0⟩ rs J) (hl : S.now.length = s + 4) (hs : 1 ≤ s) {m : Int} (hm : m = s) :
    Calls Try.prog 42 #[.pointer (some ⟨p, 0, none⟩), .int .i64 3, .int .i64 m] X fun r w' => ∃ (j2 : Nat) (A2 : Option Addr) (c2 : Nat), r = .returned (.tuple #[.pointer (some ⟨j2, 0, none⟩), .slice A2 rs.length c2, .int .i64 0]) ∧
        St W0 (Recs (.slice A2 rs.length c2) rs :: Disk p S :: Blk j2 (jourV p J) 114 :: M) w' := by
  subst hm
  refine (open_st (first := 3) (size := s) hX hok hq.on hs (by rw [hl]; omega) (hq.read (Nat.le_refl _))).mono ?_
  rintro r w' ⟨j2, A2, c2, xs2, hr, hs⟩
  exact ⟨j2, A2, c2, hr, hs.recs⟩
theorem fill_ok : ∀ (rs : List (List UInt8)) {S : DS} {N : Nat} (J : Jn), S.Ok N → (∀ r ∈ rs, r.length ≤ 65535) → (DS.fill rs S J).2.1.Ok (N + 700 * rs.length)
  | [], _, _, _, h, _ => h
  | r :: rs, S, N, J, h, hl => by
    have h1 := append_ok h J (rec := r) (hl r (by simp))
    rw [DS.fill]
    split
    · exact h1.mono (by simp; omega)
    · exact (fill_ok rs _ h1 fun q hq => hl q (by simp [hq])).mono (by simp; omega)
theorem fill_len : ∀ (rs : List (List UInt8)) (S : DS) (J : Jn), (DS.fill rs S J).2.1.now.length = S.now.length
  | [], _, _ => rfl
  | r :: rs, S, J => by
    rw [DS.fill]
    split
    · exact append_len' _ _ _
    · exact (fill_len rs _ _).trans (append_len' _ _ _)
theorem fill_few : ∀ (rs : List (List UInt8)) (S : DS) (J : Jn), (DS.fill rs S J).1.length ≤ rs.length
  | [], _, _ => Nat.le_refl _
  | r :: rs, S, J => by
    rw [DS.fill]
    split
    · exact Nat.zero_le _
    · simpa using fill_few rs _ _
theorem only2 {W0 X : World} {L : List Atm} {a b : Atm} (h : St W0 (a :: b :: L) X) : St W0 [a, b] X := (h.perm (List.perm_append_comm (l₁ := [a, b]) (l₂ := L))).sub
theorem textsIn_len {W0 X : World} {L : List Atm} {A : Option Addr} {c n : Nat} {rs : List (List UInt8)} (h : St W0 (Row (.slice A n c) 9 1 n (rs.map sv) :: L) X) (hn : n = rs.length) : TextsIn X A rs := by
  subst hn
  exact St.textsIn h
theorem textsIn_app {W0 X : World} {L : List Atm} {A : Option Addr} {c : Nat} {rs ss : List (List UInt8)} (h : St W0 (Row (.slice A (rs.length + ss.length) c) 9 1 (rs.length + ss.length) ((rs ++ ss).map sv) :: L) X) : TextsIn X A (rs ++ ss) := textsIn_len h List.length_append.symm
theorem recs_addr {W0 X : World} {L : List Atm} {A : Option Addr} {c : Nat} {rs : List (List UInt8)} (h : St W0 (Recs (.slice A rs.length c) rs :: L) X) (h0 : 0 < rs.length) : ∃ g, A = some ⟨g, 0, none⟩ ∧ rs.length ≤ c := by
  obtain ⟨xs, hx⟩ := h.unrecs
  rcases hx.row.2 with ⟨_, h1⟩ | ⟨g, cap, _, hv, _, _, hc, _⟩
  · omega
  · injection hv with h1 _ h3
    exact ⟨g, h1, by omega⟩
theorem fewL_le {rs : List (List UInt8)} {m s : Nat} : ∀ r ∈ fewL rs m s, r.length ≤ s := by
  intro r hr
  unfold fewL at hr
  obtain ⟨q, _, rfl⟩ := List.mem_map.1 hr
  rw [List.length_take]; omega
theorem fewL_len {rs : List (List UInt8)} {m s : Nat} : (fewL rs m s).length ≤ m := by
  unfold fewL
  rw [List.length_map, List.length_take]; omega
set_option maxRecDepth 20000 in
set_option maxHeartbeats 16000000 in
theorem jfalls_walk {A : Option Addr} {c : Nat} {recs : List (List UInt8)} {o : Int} {Kk : Option Addr} {kc : Nat} {keep : List Bool} {a : Int} {Mk : Option Addr} {mc : Nat} {other : List Bool} {B : Option Addr} {d : Nat} {more : List (List UInt8)} (w : World)
    (hin : RecsIn w A recs) (hkl : keep.length ≤ maxLen) (hk : KeepIn w Kk keep) (hol : other.length ≤ maxLen) (ho : KeepIn w Mk other) (hin2 : RecsIn w B more) :
    Calls Try.prog 12 #[.agg (fallV A recs.length c o Kk keep.length kc a Mk other.length mc), .slice B more.length d] w fun x w' => x = .returned (.bool true) ∧ Below w.heap.size w w' := by
  unfold maxLen at hkl hol
  obtain ⟨o1, eo, ho1⟩ := u64_rem o 25 (by decide)
  obtain ⟨a1, ea, ha1⟩ := u64_rem a 25 (by decide)
  simp only [Int.cast_ofNat_Int] at eo ea
  have HEO := hid eo
  have HEA := hid ea
  obtain ⟨F, hF⟩ : ∃ F, F = fallV A recs.length c o Kk keep.length kc a Mk other.length mc := ⟨_, rfl⟩
  have HFC := hid (show ∀ (g : Nat) X (M : List Atm), St w (Blk g F 98 :: M) X → X.cell? ⟨g, 0, none⟩ = some (.slice A recs.length c) ∧ X.cell? ⟨g, 1, none⟩ = some (.int .i64 o) ∧ X.cell? ⟨g, 2, none⟩ = some (.slice Kk keep.length kc) ∧ X.cell? ⟨g, 3, none⟩ = some (.int .i64 a) ∧ X.cell? ⟨g, 4, none⟩ = some (.slice Mk other.length mc) from fun g X M hX => by
    have := hX.blk
    rw [hF] at this
    exact fall_cells this)
  obtain ⟨ins, hins⟩ : ∃ ins, ins = fewL recs 10 400 := ⟨_, rfl⟩
  obtain ⟨ins2, hins2⟩ : ∃ ins2, ins2 = fewL more 10 400 := ⟨_, rfl⟩
  have HI1 := hid (show ∀ r ∈ ins, r.length ≤ 65535 from fun r hr => by rw [hins] at hr; have := fewL_le r hr; omega)
  have HI2 := hid (show ∀ r ∈ ins2, r.length ≤ 65535 from fun r hr => by rw [hins2] at hr; have := fewL_le r hr; omega)
  have HI4 := hid (show ∀ r ∈ ins, r.length ≤ 400 from fun r hr => by rw [hins] at hr; exact fewL_le r hr)
  have hn1 : ins.length ≤ 10 := by rw [hins]; exact fewL_len
  have hn2 : ins2.length ≤ 10 := by rw [hins2]; exact fewL_len
  have HFR := hid (fun (L : List Atm) X (hX : St w L X) => fresh_st (s := 20) (m := 20) hX (by decide) (by decide) rfl)
  have HJS := hid (fun (L : List Atm) X (hX : St w L X) => journals_st hX)
  have HF1 := hid (fun (L : List Atm) X (hX : St w L X) => show Calls Try.prog 51 #[.slice A recs.length c, .int .i64 10, .int .i64 400] X fun r w' => ∃ B d, r = .returned (.slice B ins.length d) ∧ St w (Recs (.slice B ins.length d) ins :: L) w' from by
    rw [hins]; exact few_st (most := 10) (size := 400) hX hin (by decide) (by decide))
  have HF2 := hid (fun (L : List Atm) X (hX : St w L X) => show Calls Try.prog 51 #[.slice B more.length d, .int .i64 10, .int .i64 400] X fun r w' => ∃ B d, r = .returned (.slice B ins2.length d) ∧ St w (Recs (.slice B ins2.length d) ins2 :: L) w' from by
    rw [hins2]; exact few_st (most := 10) (size := 400) hX hin2 (by decide) (by decide))
  clear hins hins2
  obtain ⟨q1, q2, q3, q4⟩ := fresh_quiet 20
  have hok := freshD_ok (s := 20) (by decide)
  obtain ⟨S0, hS0⟩ : ∃ S0, S0 = freshD 20 := ⟨_, rfl⟩
  rw [← hS0] at q2 q3 q4 hok HFR
  -- the first fall
  obtain ⟨S1, hS1⟩ : ∃ S1, S1 = S0.arm (o1 : Int) := ⟨_, rfl⟩
  have HAR1 := hid (fun (p : Nat) (M : List Atm) X (hX : St w (Disk p S0 :: M) X) => show Calls Try.prog 23 #[.pointer (some ⟨p, 0, none⟩), .int .i64 o1] X fun x W' => x = .returned (.tuple #[]) ∧ St w (Disk p S1 :: M) W' from by rw [hS1]; exact arm_st hX (o1 : Int))
  have hQ1 : Quiet S1 ⟨3, 20, 0, 0⟩ [] ⟨3, 20, 0, 0⟩ := by rw [hS1]; exact q4.arm _
  have hk1 : S1.Ok 1000 := by rw [hS1]; exact hok.arm (by omega)
  have hl1 : S1.now.length = 24 := by rw [hS1]; exact q3
  obtain ⟨O, T, K, hfil⟩ : ∃ O T K, DS.fill ins S1 ⟨3, 20, 0, 0⟩ = (O, T, K) := ⟨_, _, _, rfl⟩
  have hOn := fill_few ins S1 ⟨3, 20, 0, 0⟩
  have hTk := fill_ok ins ⟨3, 20, 0, 0⟩ hk1 HI1.out
  have hTl := fill_len ins S1 ⟨3, 20, 0, 0⟩
  obtain ⟨got, K1, hrd, hq, hor⟩ := hQ1.fall HI1.out keep
  rw [hfil] at hOn hTk hTl hrd hq hor
  dsimp only at hOn hTk hTl hrd hq hor
  have HFL1 := hid (fun (p j : Nat) (A1 : Option Addr) (c1 : Nat) (xs : List Value) (M : List Atm) X (hX : St w (Disk p S1 :: Blk j (jourV p ⟨3, 20, 0, 0⟩) 114 :: Row (.slice A1 ins.length c1) 22 1 ins.length xs :: Vals xs ins :: M) X) =>
    fill_st (c := c1) (A := A1) hX hk1 ⟨by rw [hl1]; decide, by decide, by decide, by rw [hl1]; decide⟩ (by omega) ((recsAll_row hX.drop.drop).imp fun Y hY => ⟨M, hY⟩) HI1.out hfil)
  obtain ⟨S2, hS2⟩ : ∃ S2, S2 = T.crash keep := ⟨_, rfl⟩
  rw [← hS2] at hq
  have hk2 : S2.Ok 8000 := by rw [hS2]; exact (hTk.crash keep).mono (by omega)
  have hl2 : S2.now.length = 24 := by rw [hS2, crash_len, hTl, hl1]
  have HCR1 := hid (fun (p : Nat) (M : List Atm) X (hX : St w (Disk p T :: M) X) => show Calls Try.prog 17 #[.pointer (some ⟨p, 0, none⟩), .slice Kk keep.length kc] X fun r X' => r = .returned (.tuple #[]) ∧ St w (Disk p S2 :: M) X' from by rw [hS2]; exact crash_st hX hTk (by omega) hkl hk)
  have HOP1 := hid (fun (p : Nat) (M : List Atm) X (hX : St w (Disk p S2 :: M) X) => open_quiet (m := 20) hX hk2 hq hl2 (by decide) rfl)
  have HOR1 := hid (show T.off = false ∧ got = O ∨ T.off = true ∧ ∃ r, ins[O.length]? = some r ∧ (got = O ∨ got = O ++ [r]) from hor)
  have HDN1 := hid (fun (p : Nat) (M : List Atm) X (hX : St w (Disk p T :: M) X) => down_st hX)
  have hgn : got.length ≤ 11 := by
    rcases hor with ⟨_, h⟩ | ⟨_, r, _, h | h⟩
    · rw [h]; simpa using (by omega : O.length ≤ 11)
    · rw [h]; simpa using (by omega : O.length ≤ 11)
    · rw [h]; simp; omega
  -- the second
  obtain ⟨f1, f2, f3, f4, f5⟩ := hq.laid.facts (by decide)
  have f1' : K1.first = 3 := f1
  have f2' : K1.size = 20 := f2
  have f3' : K1.n = got.length := by have : K1.n = 0 + got.length := f3; omega
  have f4' : got.length ≤ K1.used := by have : 0 + got.length ≤ K1.used := f4; omega
  obtain ⟨S3, hS3⟩ : ∃ S3, S3 = S2.arm (a1 : Int) := ⟨_, rfl⟩
  have HAR2 := hid (fun (p : Nat) (M : List Atm) X (hX : St w (Disk p S2 :: M) X) => show Calls Try.prog 23 #[.pointer (some ⟨p, 0, none⟩), .int .i64 a1] X fun x W' => x = .returned (.tuple #[]) ∧ St w (Disk p S3 :: M) W' from by rw [hS3]; exact arm_st hX (a1 : Int))
  have hQ3 : Quiet S3 ⟨3, 20, 0, 0⟩ got K1 := by rw [hS3]; exact hq.arm _
  have hk3 : S3.Ok 8000 := by rw [hS3]; exact hk2.arm (by omega)
  have hl3 : S3.now.length = 24 := by rw [hS3]; exact hl2
  obtain ⟨O2, T2, K2, hfil2⟩ : ∃ O T K, DS.fill ins2 S3 K1 = (O, T, K) := ⟨_, _, _, rfl⟩
  have hOn2 := fill_few ins2 S3 K1
  have hTk2 := fill_ok ins2 K1 hk3 HI2.out
  have hTl2 := fill_len ins2 S3 K1
  obtain ⟨got2, K3, hrd2, hq2, hor2⟩ := hQ3.fall HI2.out other
  rw [hfil2] at hOn2 hTk2 hTl2 hrd2 hq2 hor2
  dsimp only at hOn2 hTk2 hTl2 hrd2 hq2 hor2
  have HFL2 := hid (fun (p j : Nat) (A1 : Option Addr) (c1 : Nat) (xs : List Value) (M : List Atm) X (hX : St w (Disk p S3 :: Blk j (jourV p K1) 114 :: Row (.slice A1 ins2.length c1) 22 1 ins2.length xs :: Vals xs ins2 :: M) X) =>
    fill_st (c := c1) (A := A1) hX hk3 ⟨by rw [hl3]; omega, by rw [f2']; omega, by omega, by rw [hl3]; decide⟩ (by omega) ((recsAll_row hX.drop.drop).imp fun Y hY => ⟨M, hY⟩) HI2.out hfil2)
  obtain ⟨S4, hS4⟩ : ∃ S4, S4 = T2.crash other := ⟨_, rfl⟩
  rw [← hS4] at hq2
  have hk4 : S4.Ok 20000 := by rw [hS4]; exact (hTk2.crash other).mono (by omega)
  have hl4 : S4.now.length = 24 := by rw [hS4, crash_len, hTl2, hl3]
  have HCR2 := hid (fun (p : Nat) (M : List Atm) X (hX : St w (Disk p T2 :: M) X) => show Calls Try.prog 17 #[.pointer (some ⟨p, 0, none⟩), .slice Mk other.length mc] X fun r X' => r = .returned (.tuple #[]) ∧ St w (Disk p S4 :: M) X' from by rw [hS4]; exact crash_st hX hTk2 (by omega) hol ho)
  have HOP2 := hid (fun (p : Nat) (M : List Atm) X (hX : St w (Disk p S4 :: M) X) => open_quiet (m := 20) hX hk4 hq2 hl4 (by decide) rfl)
  have HOR2 := hid (show T2.off = false ∧ got2 = got ++ O2 ∨ T2.off = true ∧ ∃ r, ins2[O2.length]? = some r ∧ (got2 = got ++ O2 ∨ got2 = got ++ O2 ++ [r]) from hor2)
  have HDN2 := hid (fun (p : Nat) (M : List Atm) X (hX : St w (Disk p T2 :: M) X) => down_st hX)
  have hgn2 : got2.length ≤ 22 := by
    rcases hor2 with ⟨_, h⟩ | ⟨_, r, _, h | h⟩
    · rw [h]; simp; omega
    · rw [h]; simp; omega
    · rw [h]; simp; omega
  have HTX := hid (fun (rs : List (List UInt8)) (A2 : Option Addr) (c2 : Nat) X (M : List Atm) (hX : St w (Recs (.slice A2 rs.length c2) rs :: M) X) (hl : rs.length ≤ 100) => texts_st (c := c2) hX (fun Y hY => hY.recsIn) (by omega))
  have HSM := hid (fun (rs ss : List (List UInt8)) (v : Bool) (hv : (rs == ss) = v) (n : Nat) (hn : n = ss.length) (B3 C3 : Option Addr) (d3 e3 : Nat) X (h1 : TextsIn X B3 rs) (h2 : TextsIn X C3 ss) (hl : rs.length ≤ 100) => show Calls Try.prog 53 #[.slice B3 rs.length d3, .slice C3 n e3] X fun r w' => r = .returned (.bool v) ∧ Below X.heap.size X w' from by
    rw [← hv, hn]
    exact same_ok (c := d3) (d := e3) X h1 h2 (by omega))
  clear q1 q2 q3 q4 hok hS0 hS1 hQ1 hk1 hl1 hfil hTk hTl hrd hq hor hS2 hk2 hl2 f1 f2 f3 f4 f5 f1' f2' f3' f4' hS3 hQ3 hk3 hl3 hfil2 hTk2 hTl2 hrd2 hq2 hor2 hS4 hk4 hl4 eo ea
  rw [← hF]
  clear hF
  go_enter Try.func12, Try.ntmps12
  have eo := HEO.out
  go_upto_if 41 with (first | (go_at_call 25; (with_reducible refine (HDN1.out _ _ _ H6.out.at2).mono ?_); rintro r w7 ⟨rfl, rfl⟩) | (refine wpList_box rfl 98 _ rfl (.agg F) rfl ?_; intro gx W1 hx hxl hxg hW1; have H1 := hid ((St.start w).newBlk hW1 hxg hx); clear hx hxl hxg hW1) | (go_at_call 50; (with_reducible refine (HFR.out _ _ H1.out).mono ?_); rintro r w2 ⟨p, j, rfl, hs2⟩; have H2 := hid hs2; clear hs2) | (go_at_call 43; (with_reducible refine (HJS.out _ _ H2.out).mono ?_); rintro r w3 ⟨rfl, hs3⟩; have H3 := hid hs3; clear hs3; obtain ⟨x0, x1, x2, x3, x4⟩ := HFC.out _ _ _ H3.out.at3) | (go_at_call 23; (with_reducible refine (HAR1.out _ _ _ H3.out).mono ?_); rintro r w4 ⟨rfl, hs4⟩; have H4 := hid hs4; clear hs4 x0 x1 x2 x3 x4; obtain ⟨x0, x1, x2, x3, x4⟩ := HFC.out _ _ _ H4.out.at3) | (go_at_call 51; (with_reducible refine (HF1.out _ _ H4.out).mono ?_); rintro r w5 ⟨B1, d1, rfl, hs5⟩; obtain ⟨xs, hxs⟩ := hs5.unrecs; have H5 := hid hxs.rot2; clear hs5 hxs) | (go_at_call 55; (with_reducible refine (HFL1.out _ _ _ _ _ _ _ H5.out).mono ?_); rintro r w6 ⟨C, e, rfl, hs6⟩; have H6 := hid (show St w [Strs (.slice C O.length e) O, Disk p T, Blk gx F 98] w6 from hs6.at3.drop.at3.drop.at3.drop); clear hs6 x0 x1 x2 x3 x4; obtain ⟨x0, x1, x2, x3, x4⟩ := HFC.out _ _ _ H6.out.at3))
  go_cut [9, 10] (fun u h wx => ∃ un : List UInt8, u = .string (strB un) ∧ h = .bool T.off ∧ Hid (T.off = true → ins[O.length]? = some un) ∧ Hid (St w [Strs (.slice C O.length e) O, Disk p T, Blk gx F 98] wx))
  case first =>
    cases hoff : T.off
    · go_wp2_with fail
      go_meet
      case rel => exact ⟨[], rfl, by rw [hoff], hid (fun h => by rw [hoff] at h; cases h), H6⟩
    · obtain ⟨un, hun⟩ : ∃ un, ins[O.length]? = some un := by
        rcases HOR1.out with ⟨h, _⟩ | ⟨_, r, h, _⟩
        · rw [hoff] at h; cases h
        · exact ⟨r, h⟩
      have HUN := hid hun
      have hlt := (List.getElem?_eq_some_iff.1 hun).1
      have e1 : (O.length : Int) + 1 ≤ (ins.length : Int) := by omega
      have HAL := hid (fun (A2 : Option Addr) (c2 g : Nat) (hA : A2 = some ⟨g, 0, none⟩) (c3 : Nat) X (hX : St w [Recs (.slice A2 ins.length c2) ins, Strs (.slice C O.length e) O, Disk p T, Blk gx F 98] X) => show Calls Try.prog 56 #[.slice (some ⟨g, O.length, none⟩) 1 c3] X fun r w' => r = .returned (.string (strB un)) ∧ St w [Strs (.slice C O.length e) O, Disk p T, Blk gx F 98] w' from by
        have h4 := HI4.out un (List.mem_of_getElem? HUN.out)
        have := all_st (c := c3) (rs := [un]) hX (fun Y hY => by have h := recsIn_one hY.recsIn HUN.out hA; rw [Nat.zero_add] at h; exact h) (by simp) (fun k => by
          cases k with
          | zero => simp
          | succ k => simp; omega)
        rw [show [un].flatten = un by simp] at this
        exact this.mono fun r w' hx => ⟨hx.1, hx.2.drop⟩)
      have hpos : 0 < ins.length := by omega
      clear hun hlt
      go_wp2_with (first | (go_at_call 51; ((with_reducible refine (HF1.out _ _ H6.out).mono ?_); rintro r w7 ⟨A2, c2, rfl, hs7⟩; have H7 := hid hs7; obtain ⟨gA, hgA, hcap⟩ := recs_addr hs7 hpos; subst hgA; have hcap2 : (O.length : Int) + 1 ≤ (c2 : Int) := (by omega); clear hs7)) | (go_at_call 56; (with_reducible refine (HAL.out _ _ _ rfl _ _ H7.out).mono ?_); rintro r w8 ⟨rfl, hs8⟩; have H8 := hid hs8; clear hs8))
      go_meet
      case rel => exact ⟨un, rfl, by rw [hoff], hid (fun _ => HUN.out), H8⟩
  case rest =>
    clear eo H1 H2 H3 H4 H5 H6 x0 x1 x2 x3 x4
    obtain ⟨un, rfl, rfl, HUN, HS⟩ := hcut
    obtain ⟨x0, x1, x2, x3, x4⟩ := HFC.out _ _ _ HS.out.at3
    go_upto_region 13 with (first | (go_at_call 17; (with_reducible refine (HCR1.out _ _ _ HS.out.at2).mono ?_); rintro r w7 ⟨rfl, hs7⟩; have H7 := hid hs7; clear hs7 x0 x1 x2 x3 x4) | (go_at_call 42; (with_reducible refine (HOP1.out _ _ _ H7.out).mono ?_); rintro r w8 ⟨j2, A2, c2, rfl, hs8⟩; have H8 := hid hs8; clear hs8) | (go_at_call 54; (with_reducible refine (HTX.out got _ _ _ _ H8.out (by omega)).mono ?_); rintro r w9 ⟨B4, d4, rfl, hs9⟩; have H9 := hid (show St w [Strs (.slice B4 got.length d4) got, Disk p S2, Blk j2 (jourV p K1) 114, Strs (.slice C O.length e) O, Blk gx F 98] w9 from hs9.drop2); clear hs9))
    go_cut [10, 85] (fun h t wx => h = .bool T.off ∧ t = .bool false ∧ Hid (St w [Strs (.slice B4 got.length d4) got, Disk p S2, Blk j2 (jourV p K1) 114, Blk gx F 98] wx))
    case first =>
      obtain ⟨i9, hi, hiz, his, hib⟩ := info_parts info9
      have HI := hid (And.intro hi (And.intro hiz (And.intro his hib)))
      clear hi hiz his hib
      by_cases hgo : got = O
      · have HS1 := hid (HSM.out got O true (by rw [hgo]; simp) _ rfl)
        clear hgo
        have hg100 : got.length ≤ 100 := by omega
        go_wp2_with (go_at_call 53; (with_reducible refine (HS1.out _ _ _ _ _ H9.out.textsIn H9.out.at4.textsIn hg100).mono ?_); rintro r w10 ⟨rfl, hb⟩; have H10 := hid (H9.out.turn hb); clear hb)
        go_meet
        case rel => exact ⟨rfl, rfl, hid H10.out.at4.drop⟩
      · obtain ⟨hoff, hgo2⟩ : T.off = true ∧ got = O ++ [un] := by
          rcases HOR1.out with ⟨_, h⟩ | ⟨h1, r, h2, h3 | h3⟩
          · exact absurd h hgo
          · exact absurd h3 hgo
          · refine ⟨h1, ?_⟩
            have := HUN.out h1
            rw [h2] at this
            rw [h3, Option.some.inj this]
        have HS1 := hid (HSM.out got O false (by rw [beq_eq_false_iff_ne]; exact hgo) _ rfl)
        have HS2 := hid (HSM.out got (O ++ [un]) true (by rw [hgo2]; simp) (O.length + 1) (by simp))
        have hg100 : got.length ≤ 100 := by omega
        clear hgo hgo2
        go_wp2_with (first | (go_at_call 53; first | ((with_reducible refine (HS1.out _ _ _ _ _ H9.out.textsIn H9.out.at4.textsIn hg100).mono ?_); rintro r w10 ⟨rfl, hb⟩; have H10 := hid (H9.out.turn hb); clear hb) | ((with_reducible refine (HS2.out _ _ _ _ _ H13.out.at2.textsIn H13.out.textsIn hg100).mono ?_); rintro r w14 ⟨rfl, hb⟩; have H14 := hid (H13.out.drop.turn hb); clear hb)) | (refine wpList_buildSlice0 rfl rfl Try.underlying90 size9 ?_; intro gs X1 hS hgs hges hX1; have H11 := hid (H10.out.newRow0 (e := 9) (s := 1) hX1 hges hS); clear hS hgs hges hX1) | (refine wpList_append_texts _ _ 90 rfl (.slice (some ⟨gs, 0, none⟩) 0 0) rfl C e O rfl rfl 9 i9 (.string ByteArray.empty) Try.underlying90 HI.out.1 HI.out.2.1 rfl HI.out.2.2.1 HI.out.2.2.2 0 [] H11.out.row H11.out.at5.textsIn (by omega) ?_; intro v' X3 hO2 hT2 hfr; have H12 := hid (H11.out.grow hO2 hT2 hfr); clear hO2 hT2 hfr) | (refine wpList_buildSlice1 _ rfl (.string (strB un)) (by simp [Act.eval]) rfl Try.underlying90 zero9 size9 (by decide) (by decide) rfl ?_; intro gn X2 hS hgs hges hX1b; have HS2b := hid (H12.out.turn hX1b); have HNW := hid (news_box hS [sv un] rfl); clear hS hgs hges hX1b) | (refine wpList_append_at _ _ _ rfl v' rfl ⟨gn, 0, none⟩ 1 1 rfl rfl 9 i9 (.string ByteArray.empty) 1 16 Try.underlying90 HI.out.1 HI.out.2.1 HI.out.2.2.1 HI.out.2.2.2 rfl (by decide) (0 + O.length) ([] ++ O.map sv) HS2b.out.row [sv un] rfl HNW.out (by simp [sv, Value.oneCell']) (by unfold maxLen; omega) (by omega) ?_; intro v2 X5 hO2 hT2 hfr; have H13a := hid (HS2b.out.grow hO2 hT2 hfr); clear hO2 hT2 hfr; obtain ⟨C5, e5, rfl, _⟩ := row_slice H13a.out; have H13 := hid (show St w (Strs (.slice C5 (O ++ [un]).length e5) (O ++ [un]) :: [Strs (.slice B4 got.length d4) got, Disk p S2, Blk j2 (jourV p K1) 114, Strs (.slice C O.length e) O, Blk gx F 98]) X5 from (by have h := H13a.out; rw [List.nil_append, Nat.zero_add] at h; unfold Strs; rw [List.map_append, List.length_append]; exact h))))
        go_meet
        case rel => exact ⟨by rw [hoff], rfl, hid H14.out.at4.drop⟩
    case rest =>
      clear H7 H8 H9 HS HUN
      obtain ⟨rfl, rfl, HS⟩ := hcut
      have ea := HEA.out
      obtain ⟨i9, hi, hiz, his, hib⟩ := info_parts info9
      have HI := hid (And.intro hi (And.intro hiz (And.intro his hib)))
      clear hi hiz his hib
      obtain ⟨x0, x1, x2, x3, x4⟩ := HFC.out _ _ _ HS.out.at4
      go_upto_if 105 with (first | (go_at_call 23; (with_reducible refine (HAR2.out _ _ _ HS.out.at2).mono ?_); rintro r w11 ⟨rfl, hs⟩; have H1 := hid hs; clear hs x0 x1 x2 x3 x4) | (go_at_call 51; (with_reducible refine (HF2.out _ _ H1.out).mono ?_); rintro r w12 ⟨A3, c3, rfl, hs⟩; obtain ⟨xs3, hxs⟩ := hs.unrecs; have H2 := hid (show St w [Disk p S3, Blk j2 (jourV p K1) 114, Row (.slice A3 ins2.length c3) 22 1 ins2.length xs3, Vals xs3 ins2, Strs (.slice B4 got.length d4) got, Blk gx F 98] w12 from hxs.at5.at4); clear hs hxs) | (go_at_call 55; (with_reducible refine (HFL2.out _ _ _ _ _ _ _ H2.out).mono ?_); rintro r w13 ⟨C2, e2, rfl, hs⟩; have H3 := hid hs; clear hs) | (refine wpList_buildSlice0 rfl rfl Try.underlying90 size9 ?_; intro gs X1 hS hgs hges hX1; have H4 := hid (H3.out.newRow0 (e := 9) (s := 1) hX1 hges hS); clear hS hgs hges hX1) | (refine wpList_append_texts _ _ 90 rfl (.slice (some ⟨gs, 0, none⟩) 0 0) rfl B4 d4 got rfl rfl 9 i9 (.string ByteArray.empty) Try.underlying90 HI.out.1 HI.out.2.1 rfl HI.out.2.2.1 HI.out.2.2.2 0 [] H4.out.row H4.out.at7.textsIn (by omega) ?_; intro v1 X3 hO2 hT2 hfr; have H5 := hid (H4.out.grow hO2 hT2 hfr); clear hO2 hT2 hfr) | (refine wpList_append_texts _ _ 90 rfl v1 rfl C2 e2 O2 rfl rfl 9 i9 (.string ByteArray.empty) Try.underlying90 HI.out.1 HI.out.2.1 rfl HI.out.2.2.1 HI.out.2.2.2 (0 + got.length) ([] ++ got.map sv) H5.out.row H5.out.at2.textsIn (by omega) ?_; intro v2 X4 hO2 hT2 hfr; have H6 := hid (H5.out.grow hO2 hT2 hfr); clear hO2 hT2 hfr; obtain ⟨C5, e5, rfl, _⟩ := row_slice H6.out; have H7 := hid (show St w [Row (.slice C5 (got.length + O2.length) e5) 9 1 (got.length + O2.length) ((got ++ O2).map sv), Strs (.slice C2 O2.length e2) O2, Disk p T2, Blk j2 (jourV p K2) 114, Row (.slice A3 ins2.length c3) 22 1 ins2.length xs3, Vals xs3 ins2, Strs (.slice B4 got.length d4) got, Blk gx F 98] X4 from (by have h := H6.out; rw [List.nil_append, Nat.zero_add] at h; rw [List.map_append]; exact h))) | (go_at_call 25; (with_reducible refine (HDN2.out _ _ _ H7.out.at3).mono ?_); rintro r w14 ⟨rfl, rfl⟩))
      go_cut [9, 10] (fun u h wx => ∃ un2 : List UInt8, u = .string (strB un2) ∧ h = .bool T2.off ∧ Hid (T2.off = true → ins2[O2.length]? = some un2) ∧ Hid (St w [Row (.slice C5 (got.length + O2.length) e5) 9 1 (got.length + O2.length) ((got ++ O2).map sv), Disk p T2, Blk gx F 98] wx))
      case first =>
        have H8 := hid (H7.out.drop2.at3.drop.at3.drop.at3.drop.at3.drop)
        cases hoff : T2.off
        · go_wp2_with fail
          go_meet
          case rel => exact ⟨un, rfl, by rw [hoff], hid (fun h => by rw [hoff] at h; cases h), H8⟩
        · obtain ⟨un2, hun⟩ : ∃ un, ins2[O2.length]? = some un := by
            rcases HOR2.out with ⟨h, _⟩ | ⟨_, r, h, _⟩
            · rw [hoff] at h; cases h
            · exact ⟨r, h⟩
          have HUN := hid hun
          have hlt := (List.getElem?_eq_some_iff.1 hun).1
          have e1 : (O2.length : Int) < (ins2.length : Int) := by omega
          obtain ⟨g7, o7, B7, c7, rfl, hr1, hr2, hr3⟩ := recsAll_row H7.out.drop.drop.drop.drop _ _ hun
          obtain ⟨hc7, hb7⟩ := hr3 _ ⟨_, H7.out.drop.drop.drop.drop⟩
          have CV := conv_bytes hb7 un2.length c7 rfl
          rw [sv_eq] at CV
          clear hun hlt hr3 hb7
          go_wp2_with fail
          go_meet
          case rel => exact ⟨un2, rfl, by rw [hoff], hid (fun _ => HUN.out), H8⟩
      case rest =>
        clear H1 H2 H3 H4 H5 H6 H7 HS ea
        obtain ⟨un2, rfl, rfl, HUN, HS⟩ := hcut
        obtain ⟨x0, x1, x2, x3, x4⟩ := HFC.out _ _ _ HS.out.at3
        have hg100 : got2.length ≤ 100 := by omega
        by_cases hgo : got2 = got ++ O2
        · have HS1 := hid (HSM.out got2 (got ++ O2) true (by rw [hgo]; simp) (got.length + O2.length) (by simp))
          clear hgo
          go_wp2_with (first | (go_at_call 17; (with_reducible refine (HCR2.out _ _ _ HS.out.at2).mono ?_); rintro r w15 ⟨rfl, hs⟩; have H1 := hid hs; clear hs x0 x1 x2 x3 x4) | (go_at_call 42; (with_reducible refine (HOP2.out _ _ _ H1.out).mono ?_); rintro r w16 ⟨j3, A7, c7, rfl, hs⟩; have H2 := hid hs; clear hs) | (go_at_call 54; (with_reducible refine (HTX.out got2 _ _ _ _ H2.out (by omega)).mono ?_); rintro r w17 ⟨B7, d7, rfl, hs⟩; have H3 := hid (show St w [Strs (.slice B7 got2.length d7) got2, Row (.slice C5 (got.length + O2.length) e5) 9 1 (got.length + O2.length) ((got ++ O2).map sv)] w17 from only2 hs.drop2.at4.at2); clear hs; have HT1 := hid H3.out.textsIn; have HT2 := hid (textsIn_app H3.out.at2)) | (go_at_call 53; (with_reducible refine (HS1.out _ _ _ _ _ HT1.out HT2.out hg100).mono ?_); rintro r w18 ⟨rfl, hb⟩; have H4 := hid (H3.out.turn hb); clear hb))
          go_ret
          exact ⟨rfl, H4.out.below⟩
        · obtain ⟨hoff, hgo2⟩ : T2.off = true ∧ got2 = got ++ O2 ++ [un2] := by
            rcases HOR2.out with ⟨_, h⟩ | ⟨h1, r, h2, h3 | h3⟩
            · exact absurd h hgo
            · exact absurd h3 hgo
            · refine ⟨h1, ?_⟩
              have := HUN.out h1
              rw [h2] at this
              rw [h3, Option.some.inj this]
          have HS1 := hid (HSM.out got2 (got ++ O2) false (by rw [beq_eq_false_iff_ne]; exact hgo) (got.length + O2.length) (by simp))
          have HS2 := hid (HSM.out got2 (got ++ O2 ++ [un2]) true (by rw [hgo2]; simp) (got.length + O2.length + 1) (by simp; omega))
          have HLN := hid (show (got ++ O2).length = got.length + O2.length from List.length_append)
          obtain ⟨sure, hsure⟩ : ∃ sure, sure = got ++ O2 := ⟨_, rfl⟩
          rw [← hsure] at HS1 HS2 HLN HS
          clear hgo hgo2 hsure
          go_wp2_with (first | (go_at_call 17; (with_reducible refine (HCR2.out _ _ _ HS.out.at2).mono ?_); rintro r w15 ⟨rfl, hs⟩; have H1 := hid hs; clear hs x0 x1 x2 x3 x4) | (go_at_call 42; (with_reducible refine (HOP2.out _ _ _ H1.out).mono ?_); rintro r w16 ⟨j3, A7, c7, rfl, hs⟩; have H2 := hid hs; clear hs) | (go_at_call 54; (with_reducible refine (HTX.out got2 _ _ _ _ H2.out (by omega)).mono ?_); rintro r w17 ⟨B7, d7, rfl, hs⟩; have H3 := hid (show St w [Strs (.slice B7 got2.length d7) got2, Row (.slice C5 (got.length + O2.length) e5) 9 1 (got.length + O2.length) (sure.map sv)] w17 from only2 hs.drop2.at4.at2); clear hs; have HT1 := hid H3.out.textsIn; have HT2 := hid (textsIn_len H3.out.at2 HLN.out.symm)) | (go_at_call 53; first | ((with_reducible refine (HS1.out _ _ _ _ _ HT1.out HT2.out hg100).mono ?_); rintro r w18 ⟨rfl, hb⟩; have H4 := hid (H3.out.turn hb); clear hb) | ((with_reducible refine (HS2.out _ _ _ _ _ H8.out.at2.textsIn H8.out.textsIn hg100).mono ?_); rintro r w19 ⟨rfl, hb⟩; have H9 := hid (H8.out.turn hb); clear hb)) | (refine wpList_buildSlice0 rfl rfl Try.underlying90 size9 ?_; intro gs X1 hS hgs hges hX1; have H5 := hid (H4.out.newRow0 (e := 9) (s := 1) hX1 hges hS); have HT3 := hid (textsIn_len H5.out.at3 HLN.out.symm); clear hS hgs hges hX1) | (refine wpList_append_texts _ _ 90 rfl (.slice (some ⟨gs, 0, none⟩) 0 0) rfl C5 e5 sure (by first | exact (congrArg (fun n => Value.slice C5 n e5) HLN.out.symm) | rfl) rfl 9 i9 (.string ByteArray.empty) Try.underlying90 HI.out.1 HI.out.2.1 rfl HI.out.2.2.1 HI.out.2.2.2 0 [] H5.out.row HT3.out (by rw [HLN.out]; omega) ?_; intro v' X3 hO2 hT2 hfr; rw [HLN.out] at hO2; have H6 := hid (H5.out.grow hO2 hT2 hfr); clear hO2 hT2 hfr) | (refine wpList_buildSlice1 _ rfl (.string (strB un2)) (by simp [Act.eval]) rfl Try.underlying90 zero9 size9 (by decide) (by decide) rfl ?_; intro gn X2 hS hgs hges hX1b; have HS2b := hid (H6.out.turn hX1b); have HNW := hid (news_box hS [sv un2] rfl); clear hS hgs hges hX1b) | (refine wpList_append_at _ _ _ rfl v' rfl ⟨gn, 0, none⟩ 1 1 rfl rfl 9 i9 (.string ByteArray.empty) 1 16 Try.underlying90 HI.out.1 HI.out.2.1 HI.out.2.2.1 HI.out.2.2.2 rfl (by decide) (0 + (got.length + O2.length)) ([] ++ sure.map sv) HS2b.out.row [sv un2] rfl HNW.out (by simp [sv, Value.oneCell']) (by unfold maxLen; omega) (by omega) ?_; intro v2 X5 hO2 hT2 hfr; have H7 := hid (HS2b.out.grow hO2 hT2 hfr); clear hO2 hT2 hfr; obtain ⟨C8, e8, rfl, _⟩ := row_slice H7.out; have H8 := hid (show St w (Strs (.slice C8 (sure ++ [un2]).length e8) (sure ++ [un2]) :: [Strs (.slice B7 got2.length d7) got2, Row (.slice C5 (got.length + O2.length) e5) 9 1 (got.length + O2.length) (sure.map sv)]) X5 from (by have h := H7.out; rw [List.nil_append, Nat.zero_add] at h; unfold Strs; rw [List.map_append, List.length_append, HLN.out]; exact h))))
          go_ret
          exact ⟨rfl, H9.out.below⟩
end Go.Proofs.Ythmchbdhikakhaa
/- JournalLays: the walk. -/
namespace Go.Cu
theorem Laid.split {L : List Blk8} : ∀ {a b : List (List UInt8)} {J J2 : Jn}, Laid L J (a ++ b) J2 → ∃ J1, Laid L J a J1 ∧ Laid L J1 b J2
  | [], b, J, J2, h => ⟨J, rfl, h⟩
  | r :: a, b, J, J2, h => by
    obtain ⟨h1, h2, h3, h4⟩ := h
    obtain ⟨J1, h5, h6⟩ := Laid.split h4
    exact ⟨J1, ⟨h1, h2, h3, h5⟩, h6⟩
/-- The blocks of what was appended last. -/
theorem Quiet.lastBlocks {S T : DS} {J0 J K : Jn} {rs : List (List UInt8)} {r : List UInt8} (h : Quiet S J0 rs J) (h2 : Quiet T J0 (rs ++ [r]) K) : ∀ k, k < blocksN r.length → T.now.getD (J.first + J.used + k) zeroB = blockB J.n k r := by
  obtain ⟨J1, h3, h4⟩ := h2.laid.split
  obtain rfl := h3.same h.laid
  rw [h2.now]
  exact h4.2.2.1
end Go.Cu
namespace Go.Proofs.Ythmchbdhikakhaa
open Go.RowKit Go.Cu
theorem layV_get {n nb k : Nat} {r : List UInt8} (hk : k < nb) : ∀ i, i < 128 → (layV n nb r)[k * 128 + i]? = (bvL (blockB n k r))[i]? := by
  intro i hi
  induction nb with
  | zero => cases hk
  | succ m ih =>
    rw [layV_succ]
    rcases Nat.lt_or_ge k m with h | h
    · rw [List.getElem?_append_left (by rw [layV_len]; omega)]
      exact ih h
    · obtain rfl : k = m := by omega
      rw [List.getElem?_append_right (by rw [layV_len]; omega), layV_len]
      congr 1
      omega
theorem lay_load {W0 X : World} {L : List Atm} {B : Option Addr} {d n nb k : Nat} {r : List UInt8} (h : St W0 (Row (.slice B nb d) 32 128 nb (layV n nb r) :: L) X) (hk : k < nb) :
    ∃ g, B = some ⟨g, 0, none⟩ ∧ ∀ Y, St W0 (Row (.slice B nb d) 32 128 nb (layV n nb r) :: L) Y → (loadK 32 (.pointer (some ⟨g, k * 128, none⟩))).run Try.prog Y = .ok (.value (.agg (bv (blockB n k r)))) Y := by
  have hs : (bv (blockB n k r)).size = 128 := (bv_size _).trans (blockB_len _ _ _)
  have key : ∀ Y, St W0 (Row (.slice B nb d) 32 128 nb (layV n nb r) :: L) Y → ∃ g, B = some ⟨g, 0, none⟩ ∧ (loadK 32 (.pointer (some ⟨g, k * 128, none⟩))).run Try.prog Y = .ok (.value (.agg (bv (blockB n k r)))) Y := by
    intro Y hY
    rcases hY.row.2 with ⟨_, h0⟩ | ⟨g, cap, cur, hv, _, hg, hcap, hmax, hcs, htk⟩
    · omega
    · have e1 : B = some ⟨g, 0, none⟩ := by injection hv
      refine ⟨g, e1, run_loadK hg Try.underlying32 rfl size32 hs (fun i hi => ?_)⟩
      rw [hs] at hi
      have h1 := layV_get (n := n) (r := r) hk i hi
      rw [← htk, List.getElem?_take_of_lt (by omega)] at h1
      have h2 : (bv (blockB n k r))[i]? = (bvL (blockB n k r))[i]? := by rw [bv_eq, List.getElem?_toArray]
      rw [h2, ← h1]
      simp
  obtain ⟨g, e1, _⟩ := key X h
  refine ⟨g, e1, fun Y hY => ?_⟩
  obtain ⟨g', e2, h2⟩ := key Y hY
  rw [e1] at e2
  cases e2
  exact h2
set_option maxRecDepth 20000 in
set_option maxHeartbeats 16000000 in
theorem jlays_walk {size : Int} {A : Option Addr} {c : Nat} {recs : List (List UInt8)} (w : World) (hin : RecsIn w A recs) :
    Calls Try.prog 10 #[.int .i64 size, .slice A recs.length c] w fun x w' => x = .returned (.bool true) ∧ Below w.heap.size w w' := by
  obtain ⟨m, ew, hm⟩ := u64_rem size 12 (by decide)
  simp only [Int.cast_ofNat_Int] at ew
  have HEW := hid ew
  obtain ⟨s, hn⟩ : ∃ n, n = m + 1 := ⟨_, rfl⟩
  have hs12 : s ≤ 12 := by omega
  have hs1 : 1 ≤ s := by omega
  have hmn : (1 : Int) + (m : Int) = (s : Int) := by omega
  clear hm hn ew
  obtain ⟨ins, hins⟩ : ∃ ins, ins = fewL recs 15 500 := ⟨_, rfl⟩
  have HIL := hid (show ∀ r ∈ ins, r.length ≤ 500 by
    intro r hr
    rw [hins] at hr
    unfold fewL at hr
    obtain ⟨q, _, rfl⟩ := List.mem_map.1 hr
    rw [List.length_take]; omega)
  have hin15 : ins.length ≤ 15 := by rw [hins]; unfold fewL; rw [List.length_map, List.length_take]; omega
  have HFR := hid (fresh_st (s := s) (m := (s : Int)) (St.start w) hs1 (by omega) rfl)
  have HJS := hid (fun (L : List Atm) X (hX : St w L X) => journals_st hX)
  have HFW := hid (fun (L : List Atm) X (hX : St w L X) => show Calls Try.prog 51 #[.slice A recs.length c, .int .i64 15, .int .i64 500] X fun r w' => ∃ B d, r = .returned (.slice B ins.length d) ∧ St w (Recs (.slice B ins.length d) ins :: L) w' from by
    rw [hins]; exact few_st (most := 15) (size := 500) hX hin (by decide) (by decide))
  obtain ⟨q1, q2, q3, q4⟩ := fresh_quiet s
  have hok := freshD_ok (s := s) (by omega)
  obtain ⟨S0, hS0⟩ : ∃ S0, S0 = freshD s := ⟨_, rfl⟩
  rw [← hS0] at q2 q3 q4 hok HFR
  have HQ0 := hid q4
  have HA0 := hid q2
  have HL0 := hid q3
  have HK0 := hid hok
  have ew := HEW.out
  clear q1 q2 q3 q4 hok hS0 hins
  go_enter Try.func10, Try.ntmps10
  go_wp2_with (first | (go_at_call 50; (with_reducible refine HFR.out.mono ?_); rintro r w1 ⟨p, j, rfl, hs1⟩; have H1 := hid hs1; clear hs1) | (go_at_call 43; (with_reducible refine (HJS.out _ _ H1.out).mono ?_); rintro r w2 ⟨rfl, hs2⟩; have H2 := hid hs2; clear hs2) | (go_at_call 51; (with_reducible refine (HFW.out _ _ H2.out).mono ?_); rintro r w3 ⟨B, d, rfl, hs3⟩; have H3 := hid hs3; clear hs3))
  clear ew HFR H1 H2
  obtain ⟨xs, hxs⟩ := H3.out.unrecs
  have HRA := hid (recsAll_row hxs)
  have H4 := hid hxs.at3.at4.at2
  clear hxs H3
  go_loopw [9, 10, 11, 12, 13, 14, 15, 16, 17] (fun wt at_ i _ _ _ _ _ _ X => ∃ (k : Nat) (S : DS) (J : Jn) (ws : List (List UInt8)) (C : Option Addr) (e : Nat), k ≤ ins.length ∧ i = .int .i64 k ∧ at_ = .int .i64 J.used ∧ wt = .slice C ws.length e ∧ J.used ≤ s ∧ Hid (J.first = 3 ∧ J.size = s ∧ J.n = ws.length ∧ J.n ≤ J.used) ∧ Hid (S.armed = 0) ∧ Hid (S.now.length = s + 4) ∧ Hid (S.Ok (1000 + 700 * k)) ∧ Hid (Quiet S ⟨3, s, 0, 0⟩ ws J) ∧
    Hid (St w (Strs (.slice C ws.length e) ws :: Disk p S :: Blk j (jourV p J) 114 :: Row (.slice B ins.length d) 22 1 ins.length xs :: [Vals xs ins]) X)) (fun _ _ i _ _ _ _ _ _ _ => ins.length - (intOf i).toNat)
  case atStart => exact ⟨0, S0, ⟨3, s, 0, 0⟩, [], none, 0, Nat.zero_le _, rfl, rfl, rfl, Nat.zero_le _, hid ⟨rfl, rfl, rfl, Nat.le_refl _⟩, HA0, HL0, HK0, HQ0, hid (H4.out.nilRow 9 1)⟩
  case round =>
    clear H4
    obtain ⟨k, S, J, ws, C, e, hk, rfl, rfl, rfl, hJu, HJ, HA, HL, HK, HQ, HS⟩ := hrel
    by_cases hlt : k < ins.length
    · have e1 : (k : Int) < (ins.length : Int) := by omega
      obtain ⟨r, hr⟩ : ∃ r, ins[k]? = some r := ⟨_, List.getElem?_eq_getElem hlt⟩
      obtain ⟨gi, oi, Br, cr, rfl, hr1, hr2, hr3⟩ := HRA.out k r hr
      have hr5 := HIL.out r (List.mem_of_getElem? hr)
      have HC := hid (fun X (M : List Atm) (hX : St w (Row (.slice (some ⟨gi, oi, none⟩) ins.length d) 22 1 ins.length xs :: Vals xs ins :: M) X) => hr3 X ⟨M, hX⟩)
      obtain ⟨hc, hcb⟩ := HC.out wr _ HS.out.drop.drop.drop
      have CV := conv_bytes hcb r.length cr rfl
      obtain ⟨nb, hnb⟩ : ∃ nb, nb = blocksN r.length := ⟨_, rfl⟩
      have hnb1 : 1 ≤ nb := by rw [hnb]; exact blocksN_pos _
      have hnb2 : nb ≤ 561 := by rw [hnb]; exact blocksN_le (by omega)
      have HNB := hid hnb
      obtain ⟨f1, f2, f3, f4⟩ := HJ.out
      obtain ⟨T, ea, hA, hTl, hTa, hT⟩ := HQ.out.append (rec := r) (by omega)
      obtain ⟨hTa1, hTa2⟩ := hTa HA.out
      have HAP := hid (show Calls Try.prog 45 #[.pointer (some ⟨j, 0, none⟩), .slice Br r.length cr] wr fun x w' => x = .returned (.int .i64 ea) ∧ St w (Strs (.slice C ws.length e) ws :: Disk p T :: Blk j (jourV p (J.after ea r.length)) 114 :: Row (.slice (some ⟨gi, oi, none⟩) ins.length d) 22 1 ins.length xs :: [Vals xs ins]) w' from by
        have := append_st (HS.out.at3.at3) HK.out (by rw [HL.out]; exact ⟨by omega, by omega, f4, by omega⟩) (by omega) (rec := r) (A := Br) (c := cr) (fun X hX => (HC.out X _ hX.drop).2) (by omega) hr1 hr2
        rw [hA] at this
        exact this.mono fun x w' hx => ⟨hx.1, hx.2.at3⟩)
      have HTK := hid (show T.Ok (1000 + 700 * (k + 1)) by have := append_ok HK.out J (rec := r) (by omega); rw [hA] at this; exact this.mono (by omega))
      have HTL := hid (hTl.trans HL.out)
      have HTA := hid hTa1
      have HBK := hid (fun X => (rblocks_any (r.length : Int) X).mono (fun x w' hx => (⟨by rw [hx.1, blocksI_nat (by omega), ← hnb], hx.2⟩ : x = .returned (.int .i64 nb) ∧ X = w')))
      have hsz : (strB r).size = r.length := strB_size r
      have HFJ := hid (And.intro f1 (And.intro f2 (And.intro f3 f4)))
      rw [f2, ← hnb] at hT
      have HT2 := hid (show (ws ++ [r]).map sv = ws.map sv ++ [sv r] by rw [List.map_append]; rfl)
      clear f1 f2 f3 f4 hA hTl hTa hTa1 hr3 hcb hr hnb
      rw [sv_eq] at CV
      rcases hT with ⟨hfull, rfl, rfl⟩ | ⟨hroom, hq⟩
      · have e2 : (s : Int) < (J.used : Int) + (nb : Int) := by omega
        have e3 : ¬ (J.used : Int) + (nb : Int) ≤ (s : Int) := by omega
        have HAP := hid (show Calls Try.prog 45 #[.pointer (some ⟨j, 0, none⟩), .slice Br r.length cr] wr fun x w' => x = .returned (.int .i64 7) ∧ St w (Strs (.slice C ws.length e) ws :: Disk p T :: Blk j (jourV p J) 114 :: Row (.slice (some ⟨gi, oi, none⟩) ins.length d) 22 1 ins.length xs :: [Vals xs ins]) w' from HAP.out)
        clear hfull hTa2
        go_wp2_with (first | (go_at_call 45; (with_reducible refine HAP.out.mono ?_); rintro x w2 ⟨rfl, hs2⟩; have H2 := hid hs2; clear hs2) | (go_at_call 49; (with_reducible refine (HBK.out _).mono ?_); rintro x w3 ⟨rfl, rfl⟩))
        go_roundw
        case rel => exact ⟨k + 1, T, J, ws, C, e, by omega, by go_num, rfl, rfl, hJu, HJ, HTA, HTL, HTK, HQ, H2⟩
        case measure => simp [intOf]; omega
      · obtain ⟨rfl, hq2⟩ : ea = 0 ∧ Quiet T ⟨3, s, 0, 0⟩ (ws ++ [r]) (J.more r.length) := by
          rcases hq with h | ⟨h, _⟩
          · exact h
          · exact absurd h hTa2
        have HQ2 := hid hq2
        have HLB := hid (HQ.out.lastBlocks hq2)
        clear hq hq2 hTa2
        have e2 : ¬ (s : Int) < (J.used : Int) + (nb : Int) := by omega
        have HAP := hid (show Calls Try.prog 45 #[.pointer (some ⟨j, 0, none⟩), .slice Br r.length cr] wr fun x w' => x = .returned (.int .i64 0) ∧ St w (Strs (.slice C ws.length e) ws :: Disk p T :: Blk j (jourV p (J.more r.length)) 114 :: Row (.slice (some ⟨gi, oi, none⟩) ins.length d) 22 1 ins.length xs :: [Vals xs ins]) w' from HAP.out)
        have HLY := hid (fun X (M : List Atm) (hX : St w M X) => show Calls Try.prog 52 #[.int .i64 ws.length, .string (strB r)] X fun x w' => ∃ B d, x = .returned (.slice B nb d) ∧ St w (Row (.slice B nb d) 32 128 nb (layV J.n nb r) :: M) w' from by
          have := lay_st (n := ws.length) (r := r) hX (by have := HFJ.out; omega) (by omega)
          rw [← HNB.out, ← HFJ.out.2.2.1] at this
          rw [← HFJ.out.2.2.1]
          exact this)
        go_wp2_with (first | (go_at_call 45; (with_reducible refine HAP.out.mono ?_); rintro x w2 ⟨rfl, hs2⟩; obtain ⟨hc2, hb2⟩ := HC.out w2 _ hs2.drop.drop.drop; have CV2 := conv_bytes hb2 r.length cr rfl; rw [sv_eq] at CV2; have H2 := hid hs2; clear hs2 hb2) | (go_at_call 49; (with_reducible refine (HBK.out _).mono ?_); rintro x w3 ⟨rfl, rfl⟩) | (go_at_call 52; (with_reducible refine (HLY.out _ _ H2.out).mono ?_); rintro x w4 ⟨D, dl, rfl, hs4⟩; have H4 := hid hs4; clear hs4))
        clear HS CV hc HAP hc2 CV2 H2
        go_loopw [15, 16, 17] (fun v _ _ X => ∃ k2 : Nat, k2 ≤ nb ∧ v = .int .i64 k2 ∧ Hid (St w (Row (.slice D nb dl) 32 128 nb (layV J.n nb r) :: Strs (.slice C ws.length e) ws :: Disk p T :: Blk j (jourV p (J.more r.length)) 114 :: Row (.slice (some ⟨gi, oi, none⟩) ins.length d) 22 1 ins.length xs :: [Vals xs ins]) X)) (fun v _ _ _ => nb - (intOf v).toNat)
        case atStart => exact ⟨0, Nat.zero_le _, rfl, H4⟩
        case round =>
          clear H4
          obtain ⟨k2, hk2, rfl, HS⟩ := hrel
          by_cases hlt2 : k2 < nb
          · have e4 : (k2 : Int) < (nb : Int) := by omega
            have e0 : (0 : Int) ≤ (k2 : Int) := by omega
            obtain ⟨gl, rfl, hld⟩ := lay_load HS.out hlt2
            have HLD := hid hld
            obtain ⟨bq, hbq⟩ : ∃ bq, bq = blockB J.n k2 r := ⟨_, rfl⟩
            have hbq2 : bq.length = 128 := by rw [hbq]; exact blockB_len _ _ _
            have HBQ := hid ((bv_size bq).trans hbq2)
            rw [← hbq] at HLD
            have HRD := hid (show ∀ (X : World) (M : List Atm), St w (Disk p T :: M) X → Calls Try.prog 18 #[.pointer (some ⟨p, 0, none⟩), .int .i64 ((3 : Int) + (J.used : Int) + (k2 : Int))] X fun x X' => x = .returned (.tuple #[.agg (bv bq), .int .i64 0]) ∧ St w (Disk p T :: M) X' from fun X M hX => by
              have hat : T.at_ ((3 + J.used + k2 : Nat) : Int) = 0 := by rw [at_in (by rw [HTL.out]; omega), HQ2.out.on]; rfl
              have hget := HLB.out k2 (by rw [← HNB.out]; exact hlt2)
              rw [HFJ.out.1] at hget
              rw [show (3 : Int) + (J.used : Int) + (k2 : Int) = ((3 + J.used + k2 : Nat) : Int) by omega]
              exact (read_rd hX HTK.out _).mono fun x X' hx => ⟨by rw [hx.1, hat, hbq]; unfold DS.rd; rw [if_pos hat, Int.toNat_natCast, hget], hx.2⟩)
            clear hbq hld
            have CM := fun (x y : Operand) (W : World) => run_cmpK_neq (P := Try.prog) guard32 Try.underlying32 be5 cells5 hbq2 hbq2 x y W
            simp only [decide_true, Bool.not_true] at CM
            go_wp2_with (first | (go_at_call 18; (with_reducible refine (HRD.out _ _ HS.out.at3).mono ?_); rintro x w6 ⟨rfl, hs6⟩; have H6 := hid hs6.back3; clear hs6) | (refine wpList_alloc 33 rfl rfl (.agg (bv zeroB)) zero33 ?_; intro gA W7 hA hal hag hW7) | (refine wpList_store_box 33 _ _ rfl gA rfl rfl (bv bq) rfl 128 size33 HBQ.out (bv_one _) 33 _ hA bvz ?_; intro W8 hA8 hT8 hs8; have H9 := hid ((H6.out.newBlk hW7 hag hA).put hA8 hT8); clear hA8 hT8 hs8 hA hal hag hW7))
            have H10 := hid (H9.out.turn (Below.drew (Below.refl _ _)))
            have LA : (loadK 33 (.pointer (some ⟨gA, 0, none⟩))).run Try.prog W8.drew = .ok (.value (.agg (bv bq))) W8.drew := run_loadK_box H10.out.blk Try.underlying33 rfl size33 HBQ.out
            have LB := HLD.out _ H10.out.drop
            clear H9 HLD
            refine wp_region_ord [] [(0, 1), (1, 1), (2, 1), (3, 1), (4, 1), (5, 1), (6, 1), (7, 1), (8, 1), (9, 1)] (fun X => X = World.drew W8) (by kernel_rfl) (by kernel_rfl) (fun d _ c _ _ h => by cases d <;> exact h) rfl (fun X hXe _ => ?_)
            subst hXe
            repeat (apply wpOrd_class; ((· first | (rw [List.getElem?_toArray, List.getElem?_cons_zero]; done) | (simp only [List.getElem?_toArray, List.getElem?_cons_succ, List.getElem?_cons_zero]; exact rfl))); (· exact rfl); intro K hK; apply Exists.intro; refine And.intro (fun X' hX' => ?_) ?_; (· go_simp; (try go_bits); first | done | exact rfl | exact ⟨rfl, rfl⟩); go_simp; refine hK _ _ ?_; clear hK K)
            refine wpOrd_done ?_
            clear LA LB
            go_wp2_with fail
            go_roundw
            case rel => exact ⟨k2 + 1, by omega, by go_num, hid H10.out.drop⟩
            case measure => simp [intOf]; omega
          · have e4 : ¬ (k2 : Int) < (nb : Int) := by omega
            obtain rfl : k2 = nb := by omega
            obtain ⟨i9, hi, hiz, his, hib⟩ := info_parts info9
            have HI := hid (And.intro hi (And.intro hiz (And.intro his hib)))
            clear hi hiz his hib
            have hw1 : ws.length ≤ 100 := by have := HFJ.out; omega
            have H5 := hid HS.out.drop
            clear HS
            go_wp2_with (first | (refine wpList_buildSlice1 _ rfl (.string (strB r)) (by simp [Act.eval]) rfl Try.underlying90 zero9 size9 (by decide) (by decide) rfl ?_; intro gn X2 hS hgs hges hX1b; have HS2 := hid (H5.out.turn hX1b); have HNW := hid (news_box hS [sv r] rfl); clear hS hgs hges hX1b) | (refine wpList_append_at _ _ _ rfl (.slice C ws.length e) rfl ⟨gn, 0, none⟩ 1 1 rfl rfl 9 i9 (.string ByteArray.empty) 1 16 Try.underlying90 HI.out.1 HI.out.2.1 HI.out.2.2.1 HI.out.2.2.2 rfl (by decide) ws.length (ws.map sv) HS2.out.row [sv r] rfl HNW.out (by simp [sv, Value.oneCell']) (by unfold maxLen; omega) (by omega) ?_; intro v' X3 hO2 hT2 hfr; have HS3 := hid (HS2.out.grow hO2 hT2 hfr); clear hO2 hT2 hfr))
            rw [← HT2.out] at HS3
            obtain ⟨C2, e2', rfl, _⟩ := row_slice HS3.out
            have hmu : (J.more r.length).used = J.used + k2 := by rw [HNB.out]; rfl
            go_roundw
            case rel => exact ⟨k + 1, T, J.more r.length, ws ++ [r], C2, e2', by omega, by go_num, by rw [hmu]; go_num, by simp, by omega, hid ⟨HFJ.out.1, HFJ.out.2.1, by show J.n + 1 = _; rw [HFJ.out.2.2.1, List.length_append]; rfl, by rw [hmu]; show J.n + 1 ≤ _; have := HFJ.out; omega⟩, HTA, HTL, HTK, HQ2, hid (by
              show St w (Row (.slice C2 (ws ++ [r]).length e2') 9 1 (ws ++ [r]).length ((ws ++ [r]).map sv) :: _) _
              rw [List.length_append]
              exact HS3.out)⟩
            case measure => simp [intOf]; omega
    · have e1 : ¬ (k : Int) < (ins.length : Int) := by omega
      obtain ⟨f1, f2, f3, f4⟩ := HJ.out
      have HJE := hid (And.intro f1 (And.intro f2 (And.intro f3 f4)))
      obtain ⟨mm, hmm⟩ : ∃ mm, mm = s - J.used := ⟨_, rfl⟩
      have em : (s : Int) - (J.used : Int) = (mm : Int) := by omega
      have hw1 : ws.length ≤ 100 := by omega
      have HN2 := hid (show (J.n : Int) = (ws.length : Int) by omega)
      have HOP := hid (show ∀ X (M : List Atm), St w (Disk p S :: M) X → Calls Try.prog 42 #[.pointer (some ⟨p, 0, none⟩), .int .i64 3, .int .i64 s] X fun r w' => ∃ (j2 : Nat) (A2 : Option Addr) (c2 : Nat), r = .returned (.tuple #[.pointer (some ⟨j2, 0, none⟩), .slice A2 ws.length c2, .int .i64 0]) ∧
        St w (Recs (.slice A2 ws.length c2) ws :: Disk p S :: Blk j2 (jourV p J) 114 :: M) w' from fun X M hX => by
        refine (open_st (first := 3) (size := s) hX HK.out HQ.out.on hs1 (by rw [HL.out]; omega) (HQ.out.read (Nat.le_refl _))).mono ?_
        rintro r w' ⟨j2, A2, c2, xs2, hr, hs⟩
        exact ⟨j2, A2, c2, hr, hs.recs⟩)
      have HTX := hid (fun (A2 : Option Addr) (c2 : Nat) X (M : List Atm) (hX : St w (Recs (.slice A2 ws.length c2) ws :: M) X) => texts_st (c := c2) hX (fun Y hY => hY.recsIn) (by omega))
      have HSM := hid (fun (B3 C3 : Option Addr) (d3 e3 : Nat) X (h1 : TextsIn X B3 ws) (h2 : TextsIn X C3 ws) => show Calls Try.prog 53 #[.slice B3 ws.length d3, .slice C3 ws.length e3] X fun r w' => r = .returned (.bool true) ∧ Below X.heap.size X w' from by
        have := same_ok (c := d3) (d := e3) X h1 h2 (by omega)
        rw [show (ws == ws) = true by simp] at this
        exact this)
      have HLN := hid (fun (j : Nat) (M : List Atm) X (hX : St w (Blk j (jourV p J) 114 :: M) X) => show Calls Try.prog 46 #[.pointer (some ⟨j, 0, none⟩)] X fun r w' => r = .returned (.int .i64 ws.length) ∧ X = w' from by
        have := len_st hX
        rw [HN2.out] at this
        exact this)
      have HRM := hid (fun (j : Nat) (M : List Atm) X (hX : St w (Blk j (jourV p J) 114 :: M) X) => show Calls Try.prog 47 #[.pointer (some ⟨j, 0, none⟩)] X fun r w' => r = .returned (.int .i64 mm) ∧ St w (Blk j (jourV p J) 114 :: M) w' from room_st hX (by omega) (by omega) (by omega))
      have HWT := hid (fun (M : List Atm) X (hX : St w (Disk p S :: M) X) => show Calls Try.prog 27 #[.pointer (some ⟨p, 0, none⟩)] X fun r w' => r = .returned (.int .i64 0) ∧ X = w' from by
        have := waiting_st hX
        rw [HQ.out.wait] at this
        exact this)
      clear f1 f2 f3 f4 hmm
      go_wp2_with (first | (go_at_call 42; (with_reducible refine (HOP.out _ _ HS.out.at2).mono ?_); rintro r w2 ⟨j2, A2, c2, rfl, hs2⟩; have H2 := hid hs2; clear hs2) | (go_at_call 54; (with_reducible refine (HTX.out _ _ _ _ H2.out).mono ?_); rintro r w3 ⟨B3, d3, rfl, hs3⟩; have H3 := hid hs3; clear hs3) | (go_at_call 53; (with_reducible refine (HSM.out _ _ _ _ _ H3.out.textsIn H3.out.at5.textsIn).mono ?_); rintro r w4 ⟨rfl, hb4⟩; have H4 := hid (H3.out.drop.drop.turn hb4).at3.drop; clear hb4) | (go_at_call 46; (first | (with_reducible refine (HLN.out j2 _ _ H4.out.at2).mono ?_) | (with_reducible refine (HLN.out j _ _ H4.out.at3).mono ?_)); rintro r w5 ⟨rfl, rfl⟩) | (go_at_call 47; first | (with_reducible refine (HRM.out j2 _ _ H4.out.at2).mono ?_; rintro r w7 ⟨rfl, hs7⟩; have H7 := hid hs7; clear hs7) | (with_reducible refine (HRM.out j _ _ H7.out.at3).mono ?_; rintro r w8 ⟨rfl, hs8⟩; have H8 := hid hs8; clear hs8)) | (go_at_call 27; (with_reducible refine (HWT.out _ _ H8.out.at3).mono ?_); rintro r w9 ⟨rfl, rfl⟩))
      go_ret
      exact ⟨rfl, H8.out.below⟩
end Go.Proofs.Ythmchbdhikakhaa
/- An order of one's own with two forks, the second behind the first one's first way. -/
namespace Go.Cu
open Go Go.RowKit
section
variable {P : Program} {ops : Array Oper} {Q : Exit → Act → World → Prop} {S : World → Prop} {loose : List Nat}
def forkE (ops : Array Oper) (loose : List Nat) (i j : Nat) (E1 E2 : Bool → Array Bool → Bool) (_ : Bool) (listed : Array Bool) : Bool :=
  decide (Region.ready .any ops listed = [i, j]) && E1 (!loose.contains i) (listed.setIfInBounds i true) && E2 (!loose.contains j) (listed.setIfInBounds j true)
def ForkF (P : Program) (ops : Array Oper) (Q : Exit → Act → World → Prop) (S : World → Prop) (loose : List Nat) (i j : Nat) (F1 F2 : Act → World → Prop) (a : Act) (w : World) : Prop :=
  wpOrd P ops (Qn Q F1) S loose [(i, 2)] a w ∧ wpOrd P ops (Qn Q F2) S loose [(j, 2)] a w
theorem wpAnyN_fork {i j n : Nat} {E1 E2 : Bool → Array Bool → Bool} {F1 F2 : Act → World → Prop}
    (h1 : ∀ s listed a w, OInv .any ops listed → E1 s listed = true → (s = true → S w) → F1 a w → wpAnyN P .any ops Q S loose n listed a w)
    (h2 : ∀ s listed a w, OInv .any ops listed → E2 s listed = true → (s = true → S w) → F2 a w → wpAnyN P .any ops Q S loose n listed a w) :
    ∀ (s : Bool) (listed : Array Bool) (a : Act) (w : World), OInv .any ops listed → forkE ops loose i j E1 E2 s listed = true → (s = true → S w) → ForkF P ops Q S loose i j F1 F2 a w → wpAnyN P .any ops Q S loose (n + 1) listed a w := by
  rintro s listed a w inv hE _ ⟨⟨oi, hoi, k1⟩, ⟨oj, hoj, k2⟩⟩
  simp only [forkE, Bool.and_eq_true, decide_eq_true_eq] at hE
  obtain ⟨⟨hr, hi⟩, hj⟩ := hE
  rw [Qn_Qn] at k1 k2
  refine ⟨fun h1 => (by rw [hr] at h1; cases h1), fun k hk => ?_⟩
  have hkk : k = i ∨ k = j := by rw [hr] at hk; simpa using hk
  rcases hkk with rfl | rfl
  · exact wpOp_mono (fun a' w' h' => ⟨h'.1, h1 _ _ a' w' (inv.set hk) hi (fun hs => h'.1 (by simpa using hs)) h'.2⟩) (wpOp_of_one hoi k1)
  · exact wpOp_mono (fun a' w' h' => ⟨h'.1, h2 _ _ a' w' (inv.set hk) hj (fun hs => h'.1 (by simpa using hs)) h'.2⟩) (wpOp_of_one hoj k2)
def endE (ops : Array Oper) (_ : Bool) (listed : Array Bool) : Bool := (Region.ready .any ops listed).isEmpty
theorem wp_region_fork2 {id : Nat} {a : Act} {w : World} {l : List Oper} {A : Nat → Nat → Nat → Act} (loose : List Nat) (order : List (Nat × Nat)) (i j : Nat) (li : List (Nat × Nat)) (i2 j2 : Nat) (la lb lj : List (Nat × Nat)) (S : World → Prop) (R : Nat → Nat → Nat → World → Prop) (hm : P.follows .mixedOrders = true)
    (hB : (Region.noSelect l.toArray && decide (la.length + 1 + li.length + 1 + order.length = l.toArray.size) && decide (lb.length = la.length) && decide (lj.length = la.length + 1 + li.length) &&
      ordrF .any l.toArray loose (forkE l.toArray loose i j (ordrF .any l.toArray loose (forkE l.toArray loose i2 j2 (ordrF .any l.toArray loose (endE l.toArray) la) (ordrF .any l.toArray loose (endE l.toArray) lb)) li) (ordrF .any l.toArray loose (endE l.toArray) lj)) order true (Array.replicate l.toArray.size false)) = true)
    (hQ : ∀ (d : Option Tmp) (v : Value) c a w, Q (.panic c) (a.put d v) w → Q (.panic c) a w) (hS : S w.drew)
    (h : ∀ X, S X → wpOrd P l.toArray (Qn Q (ForkF P l.toArray Q S loose i j
      (wpOrd P l.toArray (Qn Q (ForkF P l.toArray Q S loose i2 j2 (wpOrd P l.toArray (Qn Q fun a w => ∃ g g2 g3, R g g2 g3 w ∧ a = A g g2 g3) S loose la) (wpOrd P l.toArray (Qn Q fun a w => ∃ g g2 g3, R g g2 g3 w ∧ a = A g g2 g3) S loose lb))) S loose li)
      (wpOrd P l.toArray (Qn Q fun a w => ∃ g g2 g3, R g g2 g3 w ∧ a = A g g2 g3) S loose lj))) S loose order a X)
    (hC : ∀ g g2 g3 w, R g g2 g3 w → Q .normal (A g g2 g3) w) : (Code.region id l.toArray true).wp P Q a w := by
  simp only [Bool.and_eq_true, decide_eq_true_eq] at hB
  obtain ⟨⟨⟨⟨hsel, hlen⟩, hl1⟩, hl2⟩, hb⟩ := hB
  refine wp_region_any hm ?_
  have hend : ∀ (s : Bool) (listed : Array Bool) (a : Act) (w : World), OInv .any l.toArray listed → endE l.toArray s listed = true → (s = true → S w) → (∃ g g2 g3, R g g2 g3 w ∧ a = A g g2 g3) → wpAnyN P .any l.toArray Q S loose 0 listed a w := by
    rintro s listed a w _ hE _ ⟨g, g2, g3, hg, rfl⟩
    unfold endE at hE
    exact ⟨by simpa using hE, hC g g2 g3 w hg⟩
  have ha := fun s listed a w inv => wpAnyN_of_ordF (S := S) hsel hQ hend la s listed a w inv
  have hb' := fun s listed a w inv => wpAnyN_of_ordF (S := S) hsel hQ hend lb s listed a w inv
  have hj' := fun s listed a w inv => wpAnyN_of_ordF (S := S) hsel hQ hend lj s listed a w inv
  rw [hl1] at hb'
  rw [hl2] at hj'
  have hf2 := wpAnyN_fork (i := i2) (j := j2) ha hb'
  have hi := fun s listed a w inv => wpAnyN_of_ordF (S := S) hsel hQ hf2 li s listed a w inv
  have e1 : 0 + la.length + 1 + li.length = 0 + (la.length + 1 + li.length) := by omega
  rw [e1] at hi
  have hf1 := wpAnyN_fork (i := i) (j := j) hi hj'
  have := wpAnyN_of_ordF (md := .any) (S := S) hsel hQ hf1 order true _ a w.drew OInv.start hb (fun _ => hS) (h _ hS)
  rw [show 0 + (la.length + 1 + li.length) + 1 + order.length = l.toArray.size by omega] at this
  exact wpAny_of_N _ _ _ _ this
theorem wpOrd_end {F : Act → World → Prop} {a : Act} {w : World} (h : F a w) : wpOrd P ops (Qn Q F) S loose [] a w := h
end
end Go.Cu
/- JournalForged: the walk. -/
namespace Go.Cu
open Go Go.RowKit
theorem St.newBytes {W0 W W' : World} {L : List Atm} {g e : Nat} {r : List UInt8} (h : St W0 L W) (hb : Below W.heap.size W W') (hg : W.heap.size ≤ g) (hc : W'.heap[g]? = some (.cells (bv r) e (0, 0))) (hm : r.length ≤ maxLen) : St W0 (Row (.slice (some ⟨g, 0, none⟩) r.length r.length) e 1 r.length (bvL r) :: L) W' :=
  h.push hb ⟨fun g' hg' => by
    have : g = g' := by simpa [Value.ownBlock] using hg'
    subst this
    exact hg, by rw [bvL_len, Nat.mul_one], .inr ⟨g, r.length, bv r, rfl, Nat.zero_le _, hc, Nat.le_refl _, hm, by rw [bv_size, Nat.mul_one], by
      rw [bv_toList, Nat.mul_one]
      exact List.take_of_length_le (by rw [List.length_map]; exact Nat.le_refl _)⟩⟩
/-- Where the power goes off behind three writes, a record of four blocks isn't answered. -/
theorem forged_fill {S : DS} {r : List UInt8} {rs : List (List UInt8)} (ho : S.off = false) (ha : S.armed = 3) (hl : S.now.length = 24) (hr : r.length = 468) : ∃ T, DS.fill (r :: rs) S ⟨3, 20, 0, 0⟩ = ([], T, ⟨3, 20, 0, 0⟩) := by
  have hb : blocksN r.length = 4 := by rw [hr]; rfl
  have h1 : (S.tailS ⟨3, 20, 0, 0⟩ r 3 1).2 = 13 := tailS_falls 3 1 ho (by omega) (by omega) (by show 3 + 0 + 1 + 3 ≤ _; omega)
  have h2 : (S.append ⟨3, 20, 0, 0⟩ r).2 = 13 := by
    unfold DS.append
    rw [if_neg (by omega), if_neg (by rw [hb]; show ¬ 20 - 0 < 4; omega)]
    have hTA : (S.tailA ⟨3, 20, 0, 0⟩ r).2 = 13 := by
      unfold DS.tailA
      rw [hb, if_pos (by rw [h1]; decide)]
      exact h1
    rw [if_pos (by rw [hTA]; decide)]
    exact hTA
  exact ⟨_, by rw [fill_stop (by rw [h2]; decide)]⟩
end Go.Cu
namespace Go.Proofs.Ythmchbdhikakhaa
open Go.RowKit Go.Cu
theorem got_in {got ins : List (List UInt8)} {r0 : List UInt8} (hgot : got = [] ∨ got = [r0]) (hin0 : ins[0]? = some r0) : ∀ (k : Nat) (q : List UInt8), got[k]? = some q → ins[k]? = some q := by
  intro k q hkq
  rcases hgot with rfl | rfl
  · cases hkq
  · cases k with
    | zero => rw [hin0]; exact hkq
    | succ k => cases hkq
theorem blk_from {W0 X : World} {L : List Atm} {gb n t : Nat} {b : Bk} (h : St W0 (Blk gb (bv b) t :: L) X) : ∀ j u, (bvL (b.take n))[j]? = some u → X.cell? ((⟨gb, 0, none⟩ : Addr).add j) = some u := by
  intro j u hu
  have e : (⟨gb, 0, none⟩ : Addr).add j = ⟨gb, j, none⟩ := by unfold Addr.add; split <;> simp_all
  rw [e, cell_of_row X gb j _ _ _ h.blk, bv_eq, List.getElem?_toArray]
  unfold bvL at hu ⊢
  rw [List.getElem?_map] at hu ⊢
  cases hq : (b.take n)[j]? with
  | none => rw [hq] at hu; cases hu
  | some q =>
    rw [hq] at hu
    have : j < n := by
      rcases Nat.lt_or_ge j n with h | h
      · exact h
      · rw [List.getElem?_eq_none (by rw [List.length_take]; omega)] at hq; cases hq
    rw [List.getElem?_take_of_lt this] at hq
    rw [hq]
    exact hu
theorem lay_one {W0 W : World} {L : List Atm} {n : Nat} {r : List UInt8} (h : St W0 L W) (hn : n ≤ 1000000) (hr : r.length ≤ 50) {m : Int} (hm : m = n) :
    Calls Try.prog 52 #[.int .i64 m, .string (strB r)] W fun x w' => ∃ g d, x = .returned (.slice (some ⟨g, 0, none⟩) 1 d) ∧ (∀ Y, St W0 (Row (.slice (some ⟨g, 0, none⟩) 1 d) 32 128 1 (layV n 1 r) :: L) Y → (loadK 32 (.pointer (some ⟨g, 0, none⟩))).run Try.prog Y = .ok (.value (.agg (bv (blockB n 0 r)))) Y) ∧ St W0 (Row (.slice (some ⟨g, 0, none⟩) 1 d) 32 128 1 (layV n 1 r) :: L) w' := by
  subst hm
  have hb : blocksN r.length = 1 := by unfold blocksN; omega
  have h1 := lay_st (n := n) (r := r) h hn (by omega)
  rw [hb] at h1
  refine h1.mono ?_
  rintro x w' ⟨B, d, hx, hs⟩
  obtain ⟨g, rfl, hl⟩ := lay_load hs (k := 0) (by decide)
  exact ⟨g, d, hx, fun Y hY => by have := hl Y hY; rw [Nat.zero_mul] at this; exact this, hs⟩
set_option maxRecDepth 20000 in
set_option maxHeartbeats 16000000 in
theorem jforged_walk {A : Option Addr} {c : Nat} {recs : List (List UInt8)} {Nb : Option Addr} {nc : Nat} {numbers : List UInt8} {Kk : Option Addr} {kc : Nat} {keep : List Bool} (w : World)
    (hin : RecsIn w A recs) (hnb : BytesIn w Nb numbers) (hkl : keep.length ≤ maxLen) (hk : KeepIn w Kk keep) :
    Calls Try.prog 11 #[.slice A recs.length c, .slice Nb numbers.length nc, .slice Kk keep.length kc] w fun x w' => x = .returned (.bool true) ∧ Below w.heap.size w w' := by
  unfold maxLen at hkl
  have HIN := hid hin
  have HNB := hid hnb
  have HFR := hid (fun (L : List Atm) X (hX : St w L X) => fresh_st (s := 20) (m := 20) hX (by decide) (by decide) rfl)
  have HJS := hid (fun (L : List Atm) X (hX : St w L X) => journals_st hX)
  obtain ⟨q1, q2, q3, q4⟩ := fresh_quiet 20
  have hok := freshD_ok (s := 20) (by decide)
  obtain ⟨S0, hS0⟩ : ∃ S0, S0 = freshD 20 := ⟨_, rfl⟩
  rw [← hS0] at q2 q3 q4 hok HFR
  have HQ0 := hid q4
  have HL0 := hid q3
  have HK0 := hid hok
  obtain ⟨i5, hi, hiz, his, hib⟩ := info_parts info5
  have HI5 := hid (And.intro hi (And.intro hiz (And.intro his hib)))
  clear hi hiz his hib
  obtain ⟨i22, hi, hiz, his, hib⟩ := info_parts info22
  have HI22 := hid (And.intro hi (And.intro hiz (And.intro his hib)))
  clear hi hiz his hib
  clear q1 q2 q3 q4 hok hS0 hin hnb
  go_enter Try.func11, Try.ntmps11
  go_upto_block 0 with (first | (go_at_call 50; (with_reducible refine (HFR.out _ _ (St.start w)).mono ?_); rintro r w2 ⟨p, j, rfl, hs2⟩; have H2 := hid hs2; clear hs2) | (go_at_call 43; (with_reducible refine (HJS.out _ _ H2.out).mono ?_); rintro r w3 ⟨rfl, hs3⟩; have H3 := hid hs3; clear hs3))
  go_cut [10] (fun inn wx => ∃ (B : Option Addr) (e : Nat) (ins : List (List UInt8)) (xs : List Value), inn = .slice B ins.length e ∧ Hid (ins.length ≤ 5) ∧ Hid (∀ r ∈ ins, r.length = 468) ∧ Hid (St w [Row (.slice B ins.length e) 22 1 ins.length xs, Vals xs ins, Disk p S0, Blk j (jourV p ⟨3, 20, 0, 0⟩) 114] wx))
  case first =>
    go_wp2_with fail
    go_loopw [10, 11, 12, 13, 14] (fun inn i _ _ _ X => ∃ (k : Nat) (B : Option Addr) (e : Nat) (ins : List (List UInt8)) (xs : List Value), k ≤ recs.length ∧ k ≤ 5 ∧ i = .int .i64 k ∧ inn = .slice B k e ∧ Hid (ins.length = k) ∧ Hid (∀ r ∈ ins, r.length = 468) ∧ Hid (St w [Row (.slice B k e) 22 1 k xs, Vals xs ins, Disk p S0, Blk j (jourV p ⟨3, 20, 0, 0⟩) 114] X)) (fun _ i _ _ _ _ => recs.length - (intOf i).toNat)
    case atStart => exact ⟨0, none, 0, [], [], Nat.zero_le _, Nat.zero_le _, rfl, rfl, hid rfl, hid (by simp), hid (H3.out.vals_nil.nilRow 22 1)⟩
    case round =>
      clear H2 H3
      obtain ⟨k, B, e, ins, xs, hk1, hk5, rfl, rfl, HIL, HI4, HS⟩ := hrel
      by_cases hlt : k < recs.length
      · have e1 : (k : Int) < (recs.length : Int) := by omega
        by_cases h5 : k < 5
        · have e2 : (k : Int) < 5 := by omega
          go_wp2_with (refine wpList_mk _ _ rfl _ _ rfl rfl rfl 117 _ (make22 117 (by decide)) ?_; intro gr X2 hg hgl hgg hX; have H4 := hid (show St w [Row (.slice (some ⟨gr, 0, none⟩) 117 117) 5 1 117 (bvL (List.replicate 117 0)), Row (.slice B k e) 22 1 k xs, Vals xs ins, Disk p S0, Blk j (jourV p ⟨3, 20, 0, 0⟩) 114] X2 from (by have h := HS.out.newBytes hX hgg hg (by simp [maxLen]); rw [List.length_replicate] at h; exact h)); clear hg hgl hgg hX)
          go_loopw [12, 13, 14] (fun rc kk _ X => ∃ (k2 : Nat) (D : Option Addr) (d : Nat) (f : List UInt8), k2 ≤ 3 ∧ kk = .int .i64 k2 ∧ rc = .slice D (117 * k2 + 117) d ∧ Hid (f.length = 117 * k2 + 117) ∧ Hid (St w [Row (.slice D (117 * k2 + 117) d) 5 1 (117 * k2 + 117) (bvL f), Row (.slice B k e) 22 1 k xs, Vals xs ins, Disk p S0, Blk j (jourV p ⟨3, 20, 0, 0⟩) 114] X)) (fun _ kk _ _ => 3 - (intOf kk).toNat)
          case atStart => exact ⟨0, _, _, List.replicate 117 0, by omega, rfl, rfl, hid (by simp), H4⟩
          case round =>
            clear H4 HS
            obtain ⟨k2, D, d, f, hk2, rfl, rfl, HFL, HS⟩ := hrel
            by_cases h3 : k2 < 3
            · have e3 : (k2 : Int) < 3 := by omega
              have e0 : (0 : Int) ≤ (k : Int) := by omega
              obtain ⟨r, hr⟩ : ∃ r, recs[k]? = some r := ⟨_, List.getElem?_eq_getElem hlt⟩
              obtain ⟨gi, oi, Br, cr, rfl, hc, hr1, hr2, hb⟩ := HIN.out k r hr
              obtain ⟨rt, hrt⟩ : ∃ rt, rt = r.take 50 := ⟨_, rfl⟩
              have hrl : rt.length = min r.length 50 := by rw [hrt, List.length_take, Nat.min_comm]
              have EM : (if (50 : Int) < (r.length : Int) then (50 : Int) else (r.length : Int)) = (rt.length : Int) := by split <;> omega
              have hrs : rt.length ≤ 50 := by omega
              have hrc : (rt.length : Int) ≤ (cr : Int) := by omega
              have hrc2 : rt.length ≤ cr := by omega
              have HC := hid (show ∀ X, St w [Row (.slice D (117 * k2 + 117) d) 5 1 (117 * k2 + 117) (bvL f), Row (.slice B k e) 22 1 k xs, Vals xs ins, Disk p S0, Blk j (jourV p ⟨3, 20, 0, 0⟩) 114] X → X.cell? ⟨gi, oi + k, none⟩ = some (.slice Br r.length cr) ∧ (convert 22 9 (.slice Br rt.length cr)).run Try.prog X = .ok (.string (strB rt)) X from fun X hX => ⟨(hX.below.cell (p := ⟨gi, oi + k, none⟩) (cell_lt hc)).trans hc, by
                have := conv_bytes (W := X) (A := Br) (r := rt) (by rw [hrt]; exact (hb.below hX.below).take 50) rt.length cr rfl
                exact this⟩)
              have HLY := hid (fun X (M : List Atm) (hX : St w M X) => lay_one (n := k + k2) (r := rt) (m := (k : Int) + (k2 : Int)) hX (by omega) hrs (by omega))
              have HBS := hid ((bv_size (blockB (k + k2) 0 rt)).trans (blockB_len _ _ _))
              clear hr hc hb hrt hrl
              go_wp2_with fail
              apply wp_region_fork2 [16] [(0, 1), (1, 1), (2, 1), (3, 1), (4, 1), (5, 1), (6, 1), (7, 1), (8, 1), (9, 1), (10, 1), (11, 1), (12, 1), (13, 1), (14, 1)] 15 18 [(16, 0)] 17 18 [(18, 2), (19, 2)] [(17, 2), (19, 2)] [(15, 2), (16, 0), (17, 2), (19, 2)] (fun X => St w [Row (.slice D (117 * k2 + 117) d) 5 1 (117 * k2 + 117) (bvL f), Row (.slice B k e) 22 1 k xs, Vals xs ins, Disk p S0, Blk j (jourV p ⟨3, 20, 0, 0⟩) 114] X) (fun gb _ _ X => St w (Blk gb (bv (blockB (k + k2) 0 rt)) 32 :: [Row (.slice D (117 * k2 + 117) d) 5 1 (117 * k2 + 117) (bvL f), Row (.slice B k e) 22 1 k xs, Vals xs ins, Disk p S0, Blk j (jourV p ⟨3, 20, 0, 0⟩) 114]) X) (by kernel_rfl) (by kernel_rfl) (fun d _ c _ _ h => by cases d <;> exact h) (HS.out.turn (Below.drew (Below.refl _ _)))
              case h =>
                intro X hX
                repeat (apply wpOrd_class; ((· first | (rw [List.getElem?_toArray, List.getElem?_cons_zero]; done) | (simp only [List.getElem?_toArray, List.getElem?_cons_succ, List.getElem?_cons_zero]; exact rfl))); (· exact rfl); intro K hK; apply Exists.intro; refine And.intro (fun X' hX' => ?_) ?_; (· obtain ⟨hq1, hq2⟩ := HC.out _ hX'; clear hX'; go_simp; (try go_bits); first | done | exact rfl | exact ⟨rfl, rfl⟩); go_simp; refine hK _ _ ?_; clear hK K)
                (apply wpOrd_end; refine ⟨?_, ?_⟩)
                · (apply wpOrd_comes; ((· first | (rw [List.getElem?_toArray, List.getElem?_cons_zero]; done) | (simp only [List.getElem?_toArray, List.getElem?_cons_succ, List.getElem?_cons_zero]; exact rfl))); intro N hN)
                  go_wp2_with (go_at_call 52; (with_reducible refine (HLY.out _ _ hX).mono ?_); rintro r X2 ⟨gl, dl, rfl, hld, hX2⟩)
                  refine hN _ _ (fun _ => hX2.drop) ?_
                  clear hN N
                  apply wpOrd_end
                  (apply wpOrd_pure; ((· first | (rw [List.getElem?_toArray, List.getElem?_cons_zero]; done) | (simp only [List.getElem?_toArray, List.getElem?_cons_succ, List.getElem?_cons_zero]; exact rfl))); (· exact rfl); intro K hK; apply Exists.intro; refine And.intro (fun X' => ?_) ?_; (· go_simp; (try go_bits); first | done | exact rfl | exact ⟨rfl, rfl⟩); go_simp; refine hK _ _ ?_; clear hK K)
                  (apply wpOrd_end; refine ⟨?_, ?_⟩)
                  · have LB := hld _ hX2
                    (apply wpOrd_comes; ((· first | (rw [List.getElem?_toArray, List.getElem?_cons_zero]; done) | (simp only [List.getElem?_toArray, List.getElem?_cons_succ, List.getElem?_cons_zero]; exact rfl))); intro N hN)
                    go_wp2_with fail
                    refine hN _ _ (fun _ => hX2.drop) ?_
                    clear hN N
                    apply wpOrd_end
                    (apply wpOrd_comes; ((· first | (rw [List.getElem?_toArray, List.getElem?_cons_zero]; done) | (simp only [List.getElem?_toArray, List.getElem?_cons_succ, List.getElem?_cons_zero]; exact rfl))); intro N hN)
                    go_wp2_with (refine wpList_alloc 32 rfl rfl (.agg (bv zeroB)) zero32 ?_; intro gb X3 hB hbl hbg hX3)
                    have H5 := hid (hX2.drop.newBlk (hX3) hbg hB)
                    refine hN _ _ (fun _ => H5.out.drop) ?_
                    clear hN N hB
                    (apply wpOrd_comes; ((· first | (rw [List.getElem?_toArray, List.getElem?_cons_zero]; done) | (simp only [List.getElem?_toArray, List.getElem?_cons_succ, List.getElem?_cons_zero]; exact rfl))); intro N hN)
                    go_wp2_with (refine wpList_store_box 32 _ _ rfl gb rfl rfl (bv (blockB (k + k2) 0 rt)) rfl 128 size32 HBS.out (bv_one _) 32 _ H5.out.blk bvz ?_; intro X4 hB4 hT4 hs4)
                    refine hN _ _ (fun _ => ((H5.out).put hB4 hT4).drop) ?_
                    clear hN N
                    (apply wpOrd_end; exact ⟨gb, gl, dl, (H5.out).put hB4 hT4, rfl⟩)
                  · (apply wpOrd_comes; ((· first | (rw [List.getElem?_toArray, List.getElem?_cons_zero]; done) | (simp only [List.getElem?_toArray, List.getElem?_cons_succ, List.getElem?_cons_zero]; exact rfl))); intro N hN)
                    go_wp2_with (refine wpList_alloc 32 rfl rfl (.agg (bv zeroB)) zero32 ?_; intro gb X3 hB hbl hbg hX3)
                    have H5 := hid (hX2.newBlk hX3 hbg hB)
                    refine hN _ _ (fun _ => H5.out.drop.drop) ?_
                    clear hN N hB
                    apply wpOrd_end
                    have LB := hld _ H5.out.drop
                    (apply wpOrd_comes; ((· first | (rw [List.getElem?_toArray, List.getElem?_cons_zero]; done) | (simp only [List.getElem?_toArray, List.getElem?_cons_succ, List.getElem?_cons_zero]; exact rfl))); intro N hN)
                    go_wp2_with fail
                    refine hN _ _ (fun _ => H5.out.drop.drop) ?_
                    clear hN N
                    (apply wpOrd_comes; ((· first | (rw [List.getElem?_toArray, List.getElem?_cons_zero]; done) | (simp only [List.getElem?_toArray, List.getElem?_cons_succ, List.getElem?_cons_zero]; exact rfl))); intro N hN)
                    go_wp2_with (refine wpList_store_box 32 _ _ rfl gb rfl rfl (bv (blockB (k + k2) 0 rt)) rfl 128 size32 HBS.out (bv_one _) 32 _ H5.out.blk bvz ?_; intro X4 hB4 hT4 hs4)
                    refine hN _ _ (fun _ => ((H5.out).put hB4 hT4).drop.drop) ?_
                    clear hN N
                    (apply wpOrd_end; exact ⟨gb, gl, dl, ((H5.out).put hB4 hT4).drop2, rfl⟩)
                · (apply wpOrd_comes; ((· first | (rw [List.getElem?_toArray, List.getElem?_cons_zero]; done) | (simp only [List.getElem?_toArray, List.getElem?_cons_succ, List.getElem?_cons_zero]; exact rfl))); intro N hN)
                  go_wp2_with (refine wpList_alloc 32 rfl rfl (.agg (bv zeroB)) zero32 ?_; intro gb X3 hB hbl hbg hX3)
                  have H5 := hid (hX.newBlk hX3 hbg hB)
                  refine hN _ _ (fun _ => H5.out.drop) ?_
                  clear hN N hB
                  apply wpOrd_end
                  (apply wpOrd_comes; ((· first | (rw [List.getElem?_toArray, List.getElem?_cons_zero]; done) | (simp only [List.getElem?_toArray, List.getElem?_cons_succ, List.getElem?_cons_zero]; exact rfl))); intro N hN)
                  go_wp2_with (go_at_call 52; (with_reducible refine (HLY.out _ _ H5.out).mono ?_); rintro r X2 ⟨gl, dl, rfl, hld, hX2⟩)
                  refine hN _ _ (fun _ => hX2.drop.drop) ?_
                  clear hN N
                  (apply wpOrd_pure; ((· first | (rw [List.getElem?_toArray, List.getElem?_cons_zero]; done) | (simp only [List.getElem?_toArray, List.getElem?_cons_succ, List.getElem?_cons_zero]; exact rfl))); (· exact rfl); intro K hK; apply Exists.intro; refine And.intro (fun X' => ?_) ?_; (· go_simp; (try go_bits); first | done | exact rfl | exact ⟨rfl, rfl⟩); go_simp; refine hK _ _ ?_; clear hK K)
                  have LB := hld _ hX2
                  (apply wpOrd_comes; ((· first | (rw [List.getElem?_toArray, List.getElem?_cons_zero]; done) | (simp only [List.getElem?_toArray, List.getElem?_cons_succ, List.getElem?_cons_zero]; exact rfl))); intro N hN)
                  go_wp2_with fail
                  refine hN _ _ (fun _ => hX2.drop.drop) ?_
                  clear hN N
                  (apply wpOrd_comes; ((· first | (rw [List.getElem?_toArray, List.getElem?_cons_zero]; done) | (simp only [List.getElem?_toArray, List.getElem?_cons_succ, List.getElem?_cons_zero]; exact rfl))); intro N hN)
                  go_wp2_with (refine wpList_store_box 32 _ _ rfl gb rfl rfl (bv (blockB (k + k2) 0 rt)) rfl 128 size32 HBS.out (bv_one _) 32 _ hX2.at2.blk bvz ?_; intro X4 hB4 hT4 hs4)
                  refine hN _ _ (fun _ => (hX2.drop.put hB4 hT4).drop) ?_
                  clear hN N
                  (apply wpOrd_end; exact ⟨gb, gl, dl, hX2.drop.put hB4 hT4, rfl⟩)
              case hC =>
                rintro gb gl dl X5 hX5
                have H5 := hid hX5
                clear hX5
                by_cases hk2n : k2 < numbers.length
                · have e4 : (k2 : Int) < (numbers.length : Int) := by omega
                  have e5 : (0 : Int) ≤ (k2 : Int) := by omega
                  obtain ⟨q, hq⟩ : ∃ q, numbers[k2]? = some q := ⟨_, List.getElem?_eq_getElem hk2n⟩
                  obtain ⟨gn, on, rfl, hgn, hcn⟩ := HNB.out k2 q hq
                  have hcn2 := (H5.out.below.cell (p := ⟨gn, on + k2, none⟩) hgn).trans hcn
                  have f8 : X5.frozen? ⟨gb, 8, none⟩ = false := frozen_of_row X5 gb 8 _ _ H5.out.blk
                  have c8 : X5.cell? ⟨gb, 8, none⟩ = some (.int .u8 (bt (blockB (k + k2) 0 rt) 8)) := (blk_cell H5.out 8).trans (bv_get _ _ (by rw [blockB_len]; omega))
                  have HBL := hid (show ((blockB (k + k2) 0 rt).set 8 q).length = 128 by rw [List.length_set, blockB_len])
                  have h6 := H5.out.setCell 8 (.int .u8 (q.toNat : Int))
                  rw [bv_set] at h6
                  have H6 := hid h6
                  clear hq hcn h6
                  go_upto_region 15 with fail
                  obtain ⟨X6, hX6⟩ : ∃ X6, X6 = X5.setCell ⟨gb, 8, none⟩ (.int .u8 (q.toNat : Int)) := ⟨_, rfl⟩
                  rw [← hX6] at H6 ⊢
                  clear hX6
                  have HNW := hid (blk_from H6.out (n := 117))
                  have HDL := hid (show (bvL (((blockB (k + k2) 0 rt).set 8 q).take 117)).length = 117 * 1 by rw [bvL_len, List.length_take, HBL.out]; rfl)
                  go_wp2_with (refine wpList_append_at _ _ _ rfl (.slice D (117 * k2 + 117) d) rfl ⟨gb, 0, none⟩ 117 128 rfl rfl 5 i5 (.int .u8 0) 1 1 Try.underlying22 HI5.out.1 HI5.out.2.1 HI5.out.2.2.1 HI5.out.2.2.2 rfl (by decide) (117 * k2 + 117) (bvL f) H6.out.drop.row (bvL (((blockB (k + k2) 0 rt).set 8 q).take 117)) HDL.out HNW.out (bvL_one _) (by unfold maxLen; omega) (by omega) ?_; intro v' X7 hO hT hfr; have H7 := hid (H6.out.drop.grow hO hT hfr); clear hO hT hfr)
                  rw [show bvL f ++ bvL (((blockB (k + k2) 0 rt).set 8 q).take 117) = bvL (f ++ ((blockB (k + k2) 0 rt).set 8 q).take 117) from by unfold bvL; rw [List.map_append], show 117 * k2 + 117 + 117 = 117 * (k2 + 1) + 117 by omega] at H7
                  obtain ⟨D2, d2, rfl, _⟩ := row_slice H7.out
                  go_roundw
                  case rel => exact ⟨k2 + 1, D2, d2, f ++ ((blockB (k + k2) 0 rt).set 8 q).take 117, by omega, by go_num, rfl, hid (by rw [List.length_append, HFL.out, List.length_take, HBL.out]; omega), H7⟩
                  case measure => simp [intOf]; omega
                · have e4 : ¬ (k2 : Int) < (numbers.length : Int) := by omega
                  have HBL := hid (blockB_len (k + k2) 0 rt)
                  have HNW := hid (blk_from H5.out (n := 117))
                  have HDL := hid (show (bvL ((blockB (k + k2) 0 rt).take 117)).length = 117 * 1 by rw [bvL_len, List.length_take, HBL.out]; rfl)
                  go_wp2_with (refine wpList_append_at _ _ _ rfl (.slice D (117 * k2 + 117) d) rfl ⟨gb, 0, none⟩ 117 128 rfl rfl 5 i5 (.int .u8 0) 1 1 Try.underlying22 HI5.out.1 HI5.out.2.1 HI5.out.2.2.1 HI5.out.2.2.2 rfl (by decide) (117 * k2 + 117) (bvL f) H5.out.drop.row (bvL ((blockB (k + k2) 0 rt).take 117)) HDL.out HNW.out (bvL_one _) (by unfold maxLen; omega) (by omega) ?_; intro v' X7 hO hT hfr; have H7 := hid (H5.out.drop.grow hO hT hfr); clear hO hT hfr)
                  rw [show bvL f ++ bvL ((blockB (k + k2) 0 rt).take 117) = bvL (f ++ (blockB (k + k2) 0 rt).take 117) from by unfold bvL; rw [List.map_append], show 117 * k2 + 117 + 117 = 117 * (k2 + 1) + 117 by omega] at H7
                  obtain ⟨D2, d2, rfl, _⟩ := row_slice H7.out
                  go_roundw
                  case rel => exact ⟨k2 + 1, D2, d2, f ++ (blockB (k + k2) 0 rt).take 117, by omega, by go_num, rfl, hid (by rw [List.length_append, HFL.out, List.length_take, HBL.out]; omega), H7⟩
                  case measure => simp [intOf]; omega
            · have e3 : ¬ (k2 : Int) < 3 := by omega
              obtain rfl : k2 = 3 := by omega
              have H4 := hid ((show St w [Row (.slice D 468 d) 5 1 468 (bvL f), Row (.slice B k e) 22 1 k xs, Vals xs ins, Disk p S0, Blk j (jourV p ⟨3, 20, 0, 0⟩) 114] wr from HS.out).row_val HFL.out.symm)
              have HF4 := hid (show f.length = 468 from HFL.out)
              clear HS HFL
              go_wp2_with (first | (refine wpList_buildSlice1 _ rfl (.slice D 468 d) (by simp [Act.eval]) rfl Try.underlying81 zero22 size22 (by decide) (by decide) rfl ?_; intro gn X4 hS hgs hges hX1b; have H5 := hid (H4.out.turn hX1b); have HNW := hid (news_box hS [.slice D 468 d] rfl); clear hS hgs hges hX1b) | (refine wpList_append_at _ _ _ rfl (.slice B k e) rfl ⟨gn, 0, none⟩ 1 1 rfl rfl 22 i22 (.slice none 0 0) 1 24 Try.underlying81 HI22.out.1 HI22.out.2.1 HI22.out.2.2.1 HI22.out.2.2.2 rfl (by decide) k xs H5.out.at2.row [.slice D 468 d] rfl HNW.out (by simp [Value.oneCell']) (by unfold maxLen; omega) (by omega) ?_; intro v' X5 hO2 hT2 hfr; have H6 := hid (H5.out.at2.grow hO2 hT2 hfr); clear hO2 hT2 hfr))
              have H7 := hid H6.out.at3.at3.at2.vals_join.at2
              obtain ⟨B2, e2', rfl, _⟩ := row_slice H7.out
              go_roundw
              case rel => exact ⟨k + 1, B2, e2', ins ++ [f], xs ++ [.slice D 468 d], by omega, by omega, by go_num, rfl, hid (by rw [List.length_append, HIL.out]; rfl), hid (fun r hr => by
                rcases List.mem_append.1 hr with h | h
                · exact HI4.out r h
                · rw [List.mem_singleton.1 h]; exact HF4.out), H7⟩
              case measure => simp [intOf]; omega
        · have e2 : ¬ (k : Int) < 5 := by omega
          go_wp2_with fail
          go_meet
          case rel => exact ⟨B, e, ins, xs, by rw [HIL.out], hid (by rw [HIL.out]; exact hk5), HI4, hid (by rw [HIL.out]; exact HS.out)⟩
      · have e1 : ¬ (k : Int) < (recs.length : Int) := by omega
        go_wp2_with fail
        go_meet
        case rel => exact ⟨B, e, ins, xs, by rw [HIL.out], hid (by rw [HIL.out]; exact hk5), HI4, hid (by rw [HIL.out]; exact HS.out)⟩
  case rest =>
    clear H2 H3 HFR
    obtain ⟨B, e, ins, xs, rfl, HI5n, HI4, HS⟩ := hcut
    cases ins with
    | nil =>
      go_wp2_with fail
      go_ret
      exact ⟨rfl, HS.out.below⟩
    | cons r0 rest =>
    obtain ⟨ins, hins⟩ : ∃ ins, ins = r0 :: rest := ⟨_, rfl⟩
    have hr0 : r0.length = 468 := HI4.out r0 (by simp)
    have hin0 : ins[0]? = some r0 := by rw [hins]; rfl
    rw [← hins] at HS HI4 HI5n ⊢
    have hpos : ins.length ≠ 0 := by rw [hins]; simp
    have hbq : ((ins.length : Int) == 0) = false := by rw [beq_eq_false_iff_ne]; omega
    have HI6 := hid (show ∀ r ∈ ins, r.length ≤ 65535 from fun r hr => by have := HI4.out r hr; omega)
    have h5 := HI5n.out
    obtain ⟨S1, hS1⟩ : ∃ S1, S1 = S0.arm 3 := ⟨_, rfl⟩
    have HAR1 := hid (fun (M : List Atm) X (hX : St w (Disk p S0 :: M) X) => show Calls Try.prog 23 #[.pointer (some ⟨p, 0, none⟩), .int .i64 3] X fun x W' => x = .returned (.tuple #[]) ∧ St w (Disk p S1 :: M) W' from by rw [hS1]; exact arm_st hX 3)
    have hQ1 : Quiet S1 ⟨3, 20, 0, 0⟩ [] ⟨3, 20, 0, 0⟩ := by rw [hS1]; exact HQ0.out.arm _
    have hk1 : S1.Ok 1000 := by rw [hS1]; exact HK0.out.arm (by decide)
    have hl1 : S1.now.length = 24 := by rw [hS1]; exact HL0.out
    have ha1 : S1.armed = 3 := by rw [hS1]; rfl
    obtain ⟨T, hfil⟩ := forged_fill (rs := rest) hQ1.on ha1 hl1 hr0
    rw [← hins] at hfil
    have hTk := fill_ok ins ⟨3, 20, 0, 0⟩ hk1 HI6.out
    have hTl := fill_len ins S1 ⟨3, 20, 0, 0⟩
    obtain ⟨got, K1, hrd, hq, hor⟩ := hQ1.fall HI6.out keep
    rw [hfil] at hTk hTl hrd hq hor
    dsimp only at hTk hTl hrd hq hor
    have hgot : got = [] ∨ got = [r0] := by
      rcases hor with ⟨_, h⟩ | ⟨_, r, h1, h | h⟩
      · exact .inl h
      · exact .inl h
      · rw [List.length_nil, hin0] at h1
        rw [h, Option.some.inj h1]; exact .inr rfl
    have HFL1 := hid (fun (A1 : Option Addr) (c1 : Nat) (xs : List Value) (M : List Atm) X (hX : St w (Disk p S1 :: Blk j (jourV p ⟨3, 20, 0, 0⟩) 114 :: Row (.slice A1 ins.length c1) 22 1 ins.length xs :: Vals xs ins :: M) X) =>
      show Calls Try.prog 55 #[.pointer (some ⟨j, 0, none⟩), .slice A1 ins.length c1] X fun r w' => ∃ B d, r = .returned (.slice B 0 d) ∧ St w (Strs (.slice B 0 d) [] :: Disk p T :: Blk j (jourV p ⟨3, 20, 0, 0⟩) 114 :: Row (.slice A1 ins.length c1) 22 1 ins.length xs :: Vals xs ins :: M) w' from
      fill_st (c := c1) (A := A1) hX hk1 ⟨by rw [hl1]; decide, by decide, by decide, by rw [hl1]; decide⟩ (by omega) ((recsAll_row hX.drop.drop).imp fun Y hY => ⟨M, hY⟩) HI6.out hfil)
    obtain ⟨S2, hS2⟩ : ∃ S2, S2 = T.crash keep := ⟨_, rfl⟩
    rw [← hS2] at hq
    have hk2 : S2.Ok 8000 := by rw [hS2]; exact (hTk.crash keep).mono (by omega)
    have hl2 : S2.now.length = 24 := by rw [hS2, crash_len, hTl, hl1]
    have ha2 : S2.armed = 0 := by rw [hS2]; rfl
    have HCR1 := hid (fun (M : List Atm) X (hX : St w (Disk p T :: M) X) => show Calls Try.prog 17 #[.pointer (some ⟨p, 0, none⟩), .slice Kk keep.length kc] X fun r X' => r = .returned (.tuple #[]) ∧ St w (Disk p S2 :: M) X' from by rw [hS2]; exact crash_st hX hTk (by omega) hkl hk)
    have HOP1 := hid (fun (M : List Atm) X (hX : St w (Disk p S2 :: M) X) => open_quiet (m := 20) hX hk2 hq hl2 (by decide) rfl)
    obtain ⟨f1, f2, f3, f4, f5⟩ := hq.laid.facts (by decide)
    have f1' : K1.first = 3 := f1
    have f2' : K1.size = 20 := f2
    have f3' : K1.n = got.length := by have : K1.n = 0 + got.length := f3; omega
    have f4' : got.length ≤ K1.used := by have : 0 + got.length ≤ K1.used := f4; omega
    have f6' : K1.used ≤ 4 := by
      have hld := hq.laid
      rcases hgot with h | h
      · rw [h] at hld
        rw [show K1 = ⟨3, 20, 0, 0⟩ from hld]
        decide
      · rw [h] at hld
        rw [show K1 = (⟨3, 20, 0, 0⟩ : Jn).more r0.length from hld.2.2.2, hr0]
        decide
    have hgl : got.length ≤ 1 := by
      rcases hgot with h | h
      · rw [h]; decide
      · rw [h]; simp
    have HGI := hid (got_in hgot hin0)
    obtain ⟨S5, x1, x2, x3, x4⟩ := hq.append0 (rec := [120]) ha2 (by decide) (by rw [show blocksN ([120] : List UInt8).length = 1 from rfl, f2']; omega)
    have hk5 : S5.Ok 9000 := by have := append_ok hk2 K1 (rec := [120]) (by decide); rw [x1] at this; exact this.mono (by omega)
    have hl5 : S5.now.length = 24 := x3.trans hl2
    have HAX := hid (fun (j2 g : Nat) (M : List Atm) X (hX : St w (Vals [.slice (some ⟨g, 0, none⟩) 1 1] [[120]] :: Disk p S2 :: Blk j2 (jourV p K1) 114 :: M) X) => show Calls Try.prog 45 #[.pointer (some ⟨j2, 0, none⟩), .slice (some ⟨g, 0, none⟩) 1 1] X fun x w' => x = .returned (.int .i64 0) ∧ St w (Disk p S5 :: M) w' from by
      have := append_st (rec := [120]) (A := some ⟨g, 0, none⟩) (c := 1) hX.at3.at3 hk2 ⟨by rw [hl2]; omega, by rw [f2']; omega, by omega, by rw [hl2]; decide⟩ (by decide) (fun Y hY => vals_bytes (c := 1) (r := [120]) hY) (by decide) (by decide) (by decide)
      rw [x1] at this
      exact this.mono fun x w' hx => ⟨hx.1, hx.2.drop2.drop2⟩)
    have HOP2 := hid (fun (M : List Atm) X (hX : St w (Disk p S5 :: M) X) => open_quiet (m := 20) hX hk5 x4 hl5 (by decide) rfl)
    obtain ⟨got2, hgot2⟩ : ∃ got2, got2 = got ++ [[120]] := ⟨_, rfl⟩
    rw [← hgot2] at HOP2
    have HG2 := hid hgot2
    have HGL2 := hid (show got2.length = got.length + 1 by rw [hgot2]; simp)
    have hgl2 : got2.length ≤ 100 := by rw [HGL2.out]; omega
    have HTX := hid (fun (rs : List (List UInt8)) (A2 : Option Addr) (c2 : Nat) X (M : List Atm) (hX : St w (Recs (.slice A2 rs.length c2) rs :: M) X) (hl : rs.length ≤ 100) => texts_st (c := c2) hX (fun Y hY => hY.recsIn) (by omega))
    have HSM := hid (fun (B3 C3 : Option Addr) (d3 e3 : Nat) X (h1 : TextsIn X B3 got2) (h2 : TextsIn X C3 got2) => show Calls Try.prog 53 #[.slice B3 got2.length d3, .slice C3 (got.length + 1) e3] X fun r w' => r = .returned (.bool true) ∧ Below X.heap.size X w' from by
      have := same_ok (c := d3) (d := e3) X h1 h2 (by omega)
      rw [show (got2 == got2) = true by simp] at this
      rw [← HGL2.out]
      exact this)
    have kc := fun (w : World) (C : Array Value) (n c : Nat) => Lib.run_convert_bytes_const (P := Try.prog) w 22 5 C n c Try.underlying22 Try.underlying5
    have g1 : ¬ (1 : Int) < (got.length : Int) := by omega
    have g2 : (got.length : Int) ≤ 1 := by omega
    have hg100 : got.length ≤ 100 := by omega
    obtain ⟨i9, hi, hiz, his, hib⟩ := info_parts info9
    have HI9 := hid (And.intro hi (And.intro hiz (And.intro his hib)))
    clear hi hiz his hib hr0 hin0 hpos hS1 hQ1 hk1 hl1 ha1 hfil hTk hTl hrd hq hor hgot hS2 hk2 hl2 ha2 f1 f2 f3 f4 f5 f1' f2' f3' f4' f6' x1 x2 x3 x4 hk5 hl5 hgot2 hins
    go_upto_region 26 with (first | (go_at_call 23; (with_reducible refine (HAR1.out _ _ HS.out.at3).mono ?_); rintro r w4 ⟨rfl, hs⟩; have H4 := hid hs.at4.at2; clear hs) | (go_at_call 55; (with_reducible refine (HFL1.out _ _ _ _ _ H4.out).mono ?_); rintro r w5 ⟨C, ec, rfl, hs⟩; have H5 := hid hs.drop.drop2; clear hs) | (go_at_call 17; (with_reducible refine (HCR1.out _ _ H5.out).mono ?_); rintro r w6 ⟨rfl, hs⟩; have H6 := hid hs; clear hs) | (go_at_call 42; (with_reducible refine (HOP1.out _ _ H6.out).mono ?_); rintro r w7 ⟨j2, A7, c7, rfl, hs⟩; have H7 := hid hs; clear hs) | (go_at_call 54; (with_reducible refine (HTX.out got _ _ _ _ H7.out hg100).mono ?_); rintro r w8 ⟨B8, d8, rfl, hs⟩; have H8 := hid hs.drop2; clear hs))
    have HRA := hid (recsAll_row H8.out.drop.drop.drop)
    go_wp2_with fail
    go_loopw [20] (fun v X => ∃ k3 : Nat, k3 ≤ got.length ∧ v = .int .i64 k3 ∧ Hid (St w [Strs (.slice B8 got.length d8) got, Disk p S2, Blk j2 (jourV p K1) 114, Row (.slice B ins.length e) 22 1 ins.length xs, Vals xs ins] X)) (fun v _ => got.length - (intOf v).toNat)
    case atStart => exact ⟨0, Nat.zero_le _, rfl, H8⟩
    case round =>
      clear H4 H5 H6 H7 H8 HS
      obtain ⟨k3, hk3, rfl, HS⟩ := hrel
      by_cases hlt : k3 < got.length
      · have e1 : (k3 : Int) < (got.length : Int) := by omega
        have e0 : (0 : Int) ≤ (k3 : Int) := by omega
        obtain ⟨q, hq⟩ : ∃ q, got[k3]? = some q := ⟨_, List.getElem?_eq_getElem hlt⟩
        have hqi := HGI.out _ _ hq
        have hlt2 := (List.getElem?_eq_some_iff.1 hqi).1
        have e2 : (k3 : Int) < (ins.length : Int) := by omega
        obtain ⟨g8, o8, rfl, hc8⟩ := HS.out.textsIn k3 q hq
        obtain ⟨gi, oi, Br, cr, rfl, hr1, hr2, hr3⟩ := HRA.out _ _ hqi
        have HD := hid (HS.out.turn (Below.drew (Below.refl _ _)))
        obtain ⟨hci, hbi⟩ := hr3 wr ⟨_, HS.out.drop.drop.drop⟩
        obtain ⟨_, hbd⟩ := hr3 wr.drew ⟨_, HD.out.drop.drop.drop⟩
        have CV := conv_bytes hbd q.length cr rfl
        rw [sv_eq] at CV hc8
        clear hq hqi hlt2 hr3 hbi hbd
        go_wp2_with fail
        refine wp_region_ord [] [(0, 1), (1, 1), (2, 1), (3, 1), (4, 1), (5, 1), (6, 1), (7, 1), (8, 1), (9, 1)] (fun X => X = World.drew wr) (by kernel_rfl) (by kernel_rfl) (fun d _ c _ _ h => by cases d <;> exact h) rfl (fun X hXe _ => ?_)
        subst hXe
        repeat (apply wpOrd_class; ((· first | (rw [List.getElem?_toArray, List.getElem?_cons_zero]; done) | (simp only [List.getElem?_toArray, List.getElem?_cons_succ, List.getElem?_cons_zero]; exact rfl))); (· exact rfl); intro K hK; apply Exists.intro; refine And.intro (fun X' hX' => ?_) ?_; (· go_simp; (try go_bits); first | done | exact rfl | exact ⟨rfl, rfl⟩); go_simp; refine hK _ _ ?_; clear hK K)
        refine wpOrd_done ?_
        clear CV
        go_wp2_with fail
        go_roundw
        case rel => exact ⟨k3 + 1, by omega, by go_num, HD⟩
        case measure => simp [intOf]; omega
      · have e1 : ¬ (k3 : Int) < (got.length : Int) := by omega
        go_wp2_with (first | (go_at_call 45; (with_reducible refine (HAX.out _ _ _ _ ((HS.out.at3.at3.marked [120] 5 1 2 (by decide)))).mono ?_); rintro r w9 ⟨rfl, hs⟩; have H9 := hid hs; clear hs) | (go_at_call 42; (with_reducible refine (HOP2.out _ _ H9.out).mono ?_); rintro r w10 ⟨j3, A10, c10, rfl, hs⟩; have H10 := hid hs; clear hs) | (go_at_call 54; (with_reducible refine (HTX.out got2 _ _ _ _ H10.out hgl2).mono ?_); rintro r w11 ⟨B11, d11, rfl, hs⟩; have H11 := hid (only2 hs.at5); clear hs) | (refine wpList_buildSlice1 _ rfl (.string ⟨#[120]⟩) (by simp [Act.eval]) rfl Try.underlying90 zero9 size9 (by decide) (by decide) rfl ?_; intro gn X2 hS hgs hges hX1b; have H12 := hid (H11.out.turn hX1b); have HNW := hid (news_box hS [sv [120]] rfl); clear hS hgs hges hX1b) | (refine wpList_append_at _ _ _ rfl (.slice B8 got.length d8) rfl ⟨gn, 0, none⟩ 1 1 rfl rfl 9 i9 (.string ByteArray.empty) 1 16 Try.underlying90 HI9.out.1 HI9.out.2.1 HI9.out.2.2.1 HI9.out.2.2.2 rfl (by decide) got.length (got.map sv) H12.out.row [sv [120]] rfl HNW.out (by simp [sv, Value.oneCell']) (by unfold maxLen; omega) (by omega) ?_; intro v2 X5 hO2 hT2 hfr; have H13 := hid (H12.out.grow hO2 hT2 hfr); clear hO2 hT2 hfr; obtain ⟨C8, e8, rfl, _⟩ := row_slice H13.out; have H14 := hid (show St w [Row (.slice C8 (got.length + 1) e8) 9 1 (got.length + 1) (got2.map sv), Strs (.slice B11 got2.length d11) got2] X5 from (by rw [show got2.map sv = got.map sv ++ [sv [120]] from (by rw [HG2.out, List.map_append]; rfl)]; exact H13.out))) | (go_at_call 53; (with_reducible refine (HSM.out _ _ _ _ _ H14.out.at2.textsIn (textsIn_len H14.out HGL2.out.symm)).mono ?_); rintro r w12 ⟨rfl, hb⟩; have H15 := hid (H14.out.turn hb); clear hb))
        go_ret
        exact ⟨rfl, H15.out.below⟩
end Go.Proofs.Ythmchbdhikakhaa
/- JournalForged: records whose bytes look like heads and the blocks behind them are never told for others; for all records, bytes and words. -/
namespace Go.Proofs.Ythmchbdhikakhaa
open Go.ChangeShapes Go.WideShapes Go.ChangeAt Go.RowKit Go.Cu
theorem own : ownKnob Try.prog.godebug = none := by kernel_rfl
theorem laidOut : laidOutB Try.prog = true := by kernel_rfl
set_option maxRecDepth 100000 in
theorem journalForged_lifted (os : Os) (started : os.Started) (H : Type) (enc : TypeId × Value → H) :
    ReturnsInHanded {} Try.checked os 11 .any (Rows.journalForgedSpec.pre6 enc Try.prog Try.f11 Rows.journalForgedRow.domain false) (Rows.journalForgedSpec.post enc Try.prog Try.f11 false true false false) := by
  refine returnsInHanded_of_change (C := Try.checked) own started (by kernel_rfl) Try.func11
    (ChangeSpec.witness6 (enc := enc) (C := Try.checked) false ⟨#[], #[.slice none 0 0, .slice none 0 0, .slice none 0 0], []⟩ 8 (by kernel_rfl) (by kernel_rfl) (by kernel_rfl) (by kernel_rfl)) ?_
  intro W base args ds gs before hval0 hW _ _
  have hval : ∀ (j : Nat) t v, Try.f11.params[j]? = some t → args[j]? = some v → Value.okWide Try.prog W .any base t v := hval0
  have hW' := hW
  obtain ⟨p, q, hA0, hV, rfl, hfz, hnd⟩ := hW
  have hA : DataW.TrodAll enc Try.prog W 0 (fun _ => true) true Try.f11.params.toList args.toList ds p := hA0
  rw [Try.params11] at hA hval
  obtain ⟨v0, vs0, d0, ds0, p0, q0, hargs, rfl, rfl, h0, r0⟩ := trodAll_cons hA
  obtain ⟨v1, vs1, d1, ds1, p1, q1, rfl, rfl, rfl, h1, r1⟩ := trodAll_cons r0
  obtain ⟨v2, vs2, d2, ds2, p2, q2, rfl, rfl, rfl, h2, r2⟩ := trodAll_cons r1
  obtain ⟨rfl, rfl, rfl⟩ := trodAll_nil r2
  obtain rfl : args = #[v0, v1, v2] := by cases args; simp_all
  obtain ⟨rfl, rfl⟩ := trodVars_none hV
  have k0 := h0
  have lt0 : ∀ x ∈ p0, x.block < W.heap.size := by obtain ⟨m, hm⟩ := k0; exact DataW.trod_lt m _ _ _ hm
  have k1 := h1
  have lt1 : ∀ x ∈ p1, x.block < W.heap.size := by obtain ⟨m, hm⟩ := k1; exact DataW.trod_lt m _ _ _ hm
  have k2 := h2
  have lt2 : ∀ x ∈ p2, x.block < W.heap.size := by obtain ⟨m, hm⟩ := k2; exact DataW.trod_lt m _ _ _ hm
  obtain ⟨A0, c0, rs0, rfl, hin0⟩ := param_recs Try.underlying81 Try.underlying22 Try.underlying5 (by kernel_rfl) (by kernel_rfl) (hval 0 81 v0 rfl rfl) h0
  obtain ⟨A1, c1, nb1, rfl, hl1, hb1⟩ := param_bytes Try.underlying22 Try.underlying5 (by kernel_rfl) (hval 1 22 v1 rfl rfl) h1
  obtain ⟨A2, c2, keep2, rfl, hkl, hkp⟩ := param_bools Try.underlying24 Try.underlying4 (by kernel_rfl) (hval 2 24 v2 rfl rfl) h2
  clear hA0 hval0
  refine (jforged_walk W hin0 hb1 hkl hkp).mono fun e W' ⟨he, bel⟩ => ?_
  subst he
  exact ⟨_, rfl, _, _, _, [], _, [], hW', trodAll_mk1 (shut_bool Try.underlying4 _), (trodAll_cons_mk (Below.trod laidOut (by kernel_rfl) (of_decide_eq_true (by kernel_rfl)) k0 bel lt0) (trodAll_cons_mk (Below.trod laidOut (by kernel_rfl) (of_decide_eq_true (by kernel_rfl)) k1 bel lt1) (trodAll_cons_mk (Below.trod laidOut (by kernel_rfl) (of_decide_eq_true (by kernel_rfl)) k2 bel lt2) trodAll_mk0))), rfl, bel.frame _, fun h => by cases h⟩

theorem journalForged_holds : Rows.JournalForgedSaid :=
  OpenClaim.holds_of_wide 11 Try.f11 rfl rfl rfl rfl rfl rfl rfl ⟨rfl, rfl, rfl, rfl, rfl⟩ rfl rfl rfl rfl rfl (by kernel_rfl) Try.func11 (by kernel_rfl)
    (of_decide_eq_true (by kernel_rfl)) (by unfold Func.isWrapper; first | (rw [if_pos (by decide +kernel)]; kernel_rfl) | (rw [if_neg (by decide +kernel)]; exact ⟨rfl, rfl⟩))
    (fun os started H enc _ => journalForged_lifted os started H enc)

end Go.Proofs.Ythmchbdhikakhaa
