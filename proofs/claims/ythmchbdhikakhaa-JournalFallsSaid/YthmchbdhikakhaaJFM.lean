/- JournalFalls: behind a crash at any write, and another one in what comes then, the records are those that were answered, and perhaps the one under way; whatever bytes they have; for all falls and records. -/
import Derived.Test.YthmchbdhikakhaaJa4
import Derived.Deep.CutBlock
import Derived.Deep.DeepCutAuto
import Derived.Test.YthmchbdhikakhaaRows
import Derived.ChangeOld
/- Texts appended to a row of texts. -/
namespace Go.Cu
open Go Go.RowKit
section
variable {P : Program}
theorem wpList_append_texts {ops : Array Oper} {rest : List Oper} {o : Oper} {a : Act} {w : World} {Q : Exit → Act → World → Prop} (s x : Operand) (t : TypeId)
    (ho : o.op = .call { callee := .builtin .append, args := #[s, x], argTypes := #[t, t] }) (v : Value) (hs : a.eval s = v) (B : Option Addr) (c : Nat) (rs : List (List UInt8)) (hx : a.eval x = .slice B rs.length c) (hw : Region.wanted o (yielded ops a.tmps) = true)
    (e : TypeId) (i : TypeInfo) (z : Value) (ht : P.underlying t = some (.slice e)) (hi : P.info? e = some i) (hz : i.zero = some z) (hzs : z.cells.size = 1)
    (hsize : i.size = 1) (hby : i.bytes = 16)
    (n : Nat) (xs : List Value) (hown : w.ownsRow 0 e 1 v n xs) (hb : TextsIn w B rs)
    (h63 : n + rs.length ≤ 1000000)
    (h : ∀ v' w', w'.ownsRow 0 e 1 v' (n + rs.length) (xs ++ rs.map sv) → Tch (fun g => v.ownBlock = some g) w w' → (v'.ownBlock = v.ownBlock ∨ v'.ownBlock = some w.heap.size) → wpList P ops Q rest (a.put o.dst v') w') : wpList P ops Q (o :: rest) a w := by
  match rs, hb, h63, h, hx with
  | [], hb, h63, h, hx =>
    refine wpList_wanted hw fun K hK => ?_
    have hrun := run_append_zero 0 t o.type e i 1 ht hi v n xs hown B c
    unfold Oper.wp execOp
    simp only [ho, resolve, invoke, builtin, Sem.run_bind, Sem.run_pure, Result.andThen_ok, List.map_toArray, List.map_cons, List.map_nil, hs, hx, List.length_nil, hrun]
    exact hK _ _ (h v w (by simpa using hown) (Tch.refl _ _) (.inl rfl))
  | r :: rs, hb, h63, h, hx =>
    obtain ⟨g, o', rfl, _⟩ := hb 0 r rfl
    refine wpList_append_at s x t ho v hs ⟨g, o', none⟩ (r :: rs).length c hx hw e i z 1 16 ht hi hz hsize hby hzs (by decide) n xs hown ((r :: rs).map sv) (by simp) (fun j u hj => ?_) (fun u hu => ?_) (by unfold maxLen; omega) (by omega) h
    · rw [List.getElem?_map] at hj
      cases hq : (r :: rs)[j]? with
      | none => rw [hq] at hj; cases hj
      | some q =>
        rw [hq] at hj
        obtain rfl : sv q = u := by simpa using hj
        obtain ⟨g', o2, e', hc⟩ := hb j q hq
        cases e'
        have e3 : (⟨g, o', none⟩ : Addr).add j = ⟨g, o' + j, none⟩ := by unfold Addr.add; split <;> simp_all
        rw [e3]
        exact hc
    · obtain ⟨q, _, rfl⟩ := List.mem_map.1 hu
      rfl
end
section
variable {W0 W : World} {L : List Atm}
/-- One of the records, behind a slice of that one alone. -/
theorem recsIn_one {A : Option Addr} {rs : List (List UInt8)} {X : World} (h : RecsIn X A rs) {k : Nat} {r : List UInt8} (hr : rs[k]? = some r) {g o : Nat} (hA : A = some ⟨g, o, none⟩) : RecsIn X (some ⟨g, o + k, none⟩) [r] := fun i q hq => by
  match i with
  | i + 1 => cases hq
  | 0 =>
    obtain rfl : r = q := by simpa using hq
    obtain ⟨g', o', B, c, e, hc, h1, h2, h3⟩ := h k r hr
    rw [hA] at e
    cases e
    exact ⟨g, o + k, B, c, rfl, hc, h1, h2, h3⟩
end
end Go.Cu
/- JournalFalls' first parameter, opened. -/
namespace Go.Proofs.Ythmchbdhikakhaa
open Go.ChangeShapes Go.WideShapes Go.ChangeAt Go.RowKit Go.Cu
/-- The cells of a fall. -/
def fallV (A : Option Addr) (n c : Nat) (o : Int) (K : Option Addr) (kn kc : Nat) (a : Int) (M : Option Addr) (mn mc : Nat) : Array Value := #[.slice A n c, .int .i64 o, .slice K kn kc, .int .i64 a, .slice M mn mc]
section
variable {H : Type} {enc : TypeId × Value → H} {w : World} {base : Nat} {spare : Nat → Bool} {held : Bool}
set_option maxRecDepth 20000 in
theorem fall_open {r : Reach} {b0 : Nat} {v : Value} {d : DataW H} {p : List MemPlace} (hv : Value.okWide Try.prog w r b0 98 v) (h : DataW.Trod enc Try.prog w base spare held 98 v d p) :
    ∃ (A : Option Addr) (c : Nat) (rs : List (List UInt8)) (o : Int) (K : Option Addr) (kc : Nat) (keep : List Bool) (a : Int) (M : Option Addr) (mc : Nat) (other : List Bool), v = .agg (fallV A rs.length c o K keep.length kc a M other.length mc) ∧ RecsIn w A rs ∧
      keep.length ≤ maxLen ∧ KeepIn w K keep ∧ other.length ≤ maxLen ∧ KeepIn w M other := by
  simp only [Value.okWide, Try.underlying98] at hv
  obtain ⟨cs, rfl, hsz, _⟩ := hv
  obtain ⟨fuel, hf⟩ := h
  obtain ⟨_, y0, t0⟩ := field_cells Try.underlying98 hf 0 _ rfl
  obtain ⟨_, y1, t1⟩ := field_cells Try.underlying98 hf 1 _ rfl
  obtain ⟨_, y2, t2⟩ := field_cells Try.underlying98 hf 2 _ rfl
  obtain ⟨_, y3, t3⟩ := field_cells Try.underlying98 hf 3 _ rfl
  obtain ⟨_, y4, t4⟩ := field_cells Try.underlying98 hf 4 _ rfl
  have hl : cs.toList.length = 5 := by
    have : Try.prog.cellsOf 98 = 5 := by kernel_rfl
    rw [Array.length_toList]; omega
  obtain ⟨cl⟩ := cs
  match cl, hl with
  | [a, b, c, d, e], _ =>
    obtain ⟨A, ca, rs, e0, hr⟩ := recs_cells Try.underlying81 Try.underlying22 Try.underlying5 (by kernel_rfl) (by kernel_rfl) t0
    obtain ⟨x1, e1, _, _⟩ := DataW.trod_int Try.underlying3 t1
    obtain ⟨K, kc, keep, e2, hk, hki⟩ := bools_cells Try.underlying24 Try.underlying4 (by kernel_rfl) t2
    obtain ⟨x3, e3, _, _⟩ := DataW.trod_int Try.underlying3 t3
    obtain ⟨M, mc, other, e4, hm, hmi⟩ := bools_cells Try.underlying24 Try.underlying4 (by kernel_rfl) t4
    have c0 : [a] = [.slice A rs.length ca] := e0
    have c1 : [b] = [.int .i64 x1] := e1
    have c2 : [c] = [.slice K keep.length kc] := e2
    have c3 : [d] = [.int .i64 x3] := e3
    have c4 : [e] = [.slice M other.length mc] := e4
    simp only [List.cons.injEq, and_true] at c0 c1 c2 c3 c4
    subst c0 c1 c2 c3 c4
    exact ⟨A, ca, rs, x1, K, kc, keep, x3, M, mc, other, rfl, hr, hk, hki, hm, hmi⟩
end
end Go.Proofs.Ythmchbdhikakhaa
/- JournalFalls: the walk. -/
namespace Go.Proofs.Ythmchbdhikakhaa
open Go.RowKit Go.Cu
theorem fall_cells {W : World} {g : Nat} {A : Option Addr} {n c : Nat} {o : Int} {K : Option Addr} {kn kc : Nat} {a : Int} {M : Option Addr} {mn mc : Nat} (h : W.heap[g]? = some (.cells (fallV A n c o K kn kc a M mn mc) 98 (0, 0))) :
    W.cell? ⟨g, 0, none⟩ = some (.slice A n c) ∧ W.cell? ⟨g, 1, none⟩ = some (.int .i64 o) ∧ W.cell? ⟨g, 2, none⟩ = some (.slice K kn kc) ∧ W.cell? ⟨g, 3, none⟩ = some (.int .i64 a) ∧ W.cell? ⟨g, 4, none⟩ = some (.slice M mn mc) :=
  ⟨(cell_of_row W g 0 _ _ _ h).trans rfl, (cell_of_row W g 1 _ _ _ h).trans rfl, (cell_of_row W g 2 _ _ _ h).trans rfl, (cell_of_row W g 3 _ _ _ h).trans rfl, (cell_of_row W g 4 _ _ _ h).trans rfl⟩
/-- An open on a quiet disk. -/
theorem open_quiet {W0 X : World} {M : List Atm} {p : Nat} {S : DS} {N s : Nat} {rs : List (List UInt8)} {J : Jn} (hX : St W0 (Disk p S :: M) X) (hok : S.Ok N) (hq : Quiet S ⟨3, s, 0, 0⟩ rs J) (hl : S.now.length = s + 4) (hs : 1 ≤ s) {m : Int} (hm : m = s) :
    Calls Try.prog 42 #[.pointer (some ⟨p, 0, none⟩), .int .i64 3, .int .i64 m] X fun r w' => ∃ (j2 : Nat) (A2 : Option Addr) (c2 : Nat), r = .returned (.tuple #[.pointer (some ⟨j2, 0, none⟩), .slice A2 rs.length c2, .int .i64 0]) ∧
        St W0 (Recs (.slice A2 rs.length c2) rs :: Disk p S :: Blk j2 (jourV p J) 114 :: M) w' := by
  subst hm
  refine (open_st (first := 3) (size := s) hX hok hq.on hs (by rw [hl]; omega) (hq.read (Nat.le_refl _))).mono ?_
  rintro r w' ⟨j2, A2, c2, xs2, hr, hs⟩
  exact ⟨j2, A2, c2, hr, hs.recs⟩
theorem fill_ok : ∀ (rs : List (List UInt8)) {S : DS} {N : Nat} (J : Jn), S.Ok N → (∀ r ∈ rs, r.length ≤ 65535) → (DS.fill rs S J).2.1.Ok (N + 700 * rs.length)
  | [], _, _, _, h, _ => h
  | r :: rs, S, N, J, h, hl => by
    have h1 := append_ok h J (rec := r) (hl r (by simp))
    rw [DS.fill]
    split
    · exact h1.mono (by simp; omega)
    · exact (fill_ok rs _ h1 fun q hq => hl q (by simp [hq])).mono (by simp; omega)
theorem fill_len : ∀ (rs : List (List UInt8)) (S : DS) (J : Jn), (DS.fill rs S J).2.1.now.length = S.now.length
  | [], _, _ => rfl
  | r :: rs, S, J => by
    rw [DS.fill]
    split
    · exact append_len' _ _ _
    · exact (fill_len rs _ _).trans (append_len' _ _ _)
theorem fill_few : ∀ (rs : List (List UInt8)) (S : DS) (J : Jn), (DS.fill rs S J).1.length ≤ rs.length
  | [], _, _ => Nat.le_refl _
  | r :: rs, S, J => by
    rw [DS.fill]
    split
    · exact Nat.zero_le _
    · simpa using fill_few rs _ _
theorem only2 {W0 X : World} {L : List Atm} {a b : Atm} (h : St W0 (a :: b :: L) X) : St W0 [a, b] X := (h.perm (List.perm_append_comm (l₁ := [a, b]) (l₂ := L))).sub
theorem textsIn_len {W0 X : World} {L : List Atm} {A : Option Addr} {c n : Nat} {rs : List (List UInt8)} (h : St W0 (Row (.slice A n c) 9 1 n (rs.map sv) :: L) X) (hn : n = rs.length) : TextsIn X A rs := by
  subst hn
  exact St.textsIn h
theorem textsIn_app {W0 X : World} {L : List Atm} {A : Option Addr} {c : Nat} {rs ss : List (List UInt8)} (h : St W0 (Row (.slice A (rs.length + ss.length) c) 9 1 (rs.length + ss.length) ((rs ++ ss).map sv) :: L) X) : TextsIn X A (rs ++ ss) := textsIn_len h List.length_append.symm
theorem recs_addr {W0 X : World} {L : List Atm} {A : Option Addr} {c : Nat} {rs : List (List UInt8)} (h : St W0 (Recs (.slice A rs.length c) rs :: L) X) (h0 : 0 < rs.length) : ∃ g, A = some ⟨g, 0, none⟩ ∧ rs.length ≤ c := by
  obtain ⟨xs, hx⟩ := h.unrecs
  rcases hx.row.2 with ⟨_, h1⟩ | ⟨g, cap, _, hv, _, _, hc, _⟩
  · omega
  · injection hv with h1 _ h3
    exact ⟨g, h1, by omega⟩
theorem fewL_le {rs : List (List UInt8)} {m s : Nat} : ∀ r ∈ fewL rs m s, r.length ≤ s := by
  intro r hr
  unfold fewL at hr
  obtain ⟨q, _, rfl⟩ := List.mem_map.1 hr
  rw [List.length_take]; omega
theorem fewL_len {rs : List (List UInt8)} {m s : Nat} : (fewL rs m s).length ≤ m := by
  unfold fewL
  rw [List.length_map, List.length_take]; omega
set_option maxRecDepth 20000 in
set_option maxHeartbeats 16000000 in
theorem jfalls_walk {A : Option Addr} {c : Nat} {recs : List (List UInt8)} {o : Int} {Kk : Option Addr} {kc : Nat} {keep : List Bool} {a : Int} {Mk : Option Addr} {mc : Nat} {other : List Bool} {B : Option Addr} {d : Nat} {more : List (List UInt8)} (w : World)
    (hin : RecsIn w A recs) (hkl : keep.length ≤ maxLen) (hk : KeepIn w Kk keep) (hol : other.length ≤ maxLen) (ho : KeepIn w Mk other) (hin2 : RecsIn w B more) :
    Calls Try.prog 12 #[.agg (fallV A recs.length c o Kk keep.length kc a Mk other.length mc), .slice B more.length d] w fun x w' => x = .returned (.bool true) ∧ Below w.heap.size w w' := by
  unfold maxLen at hkl hol
  obtain ⟨o1, eo, ho1⟩ := u64_rem o 25 (by decide)
  obtain ⟨a1, ea, ha1⟩ := u64_rem a 25 (by decide)
  simp only [Int.cast_ofNat_Int] at eo ea
  have HEO := hid eo
  have HEA := hid ea
  obtain ⟨F, hF⟩ : ∃ F, F = fallV A recs.length c o Kk keep.length kc a Mk other.length mc := ⟨_, rfl⟩
  have HFC := hid (show ∀ (g : Nat) X (M : List Atm), St w (Blk g F 98 :: M) X → X.cell? ⟨g, 0, none⟩ = some (.slice A recs.length c) ∧ X.cell? ⟨g, 1, none⟩ = some (.int .i64 o) ∧ X.cell? ⟨g, 2, none⟩ = some (.slice Kk keep.length kc) ∧ X.cell? ⟨g, 3, none⟩ = some (.int .i64 a) ∧ X.cell? ⟨g, 4, none⟩ = some (.slice Mk other.length mc) from fun g X M hX => by
    have := hX.blk
    rw [hF] at this
    exact fall_cells this)
  obtain ⟨ins, hins⟩ : ∃ ins, ins = fewL recs 10 400 := ⟨_, rfl⟩
  obtain ⟨ins2, hins2⟩ : ∃ ins2, ins2 = fewL more 10 400 := ⟨_, rfl⟩
  have HI1 := hid (show ∀ r ∈ ins, r.length ≤ 65535 from fun r hr => by rw [hins] at hr; have := fewL_le r hr; omega)
  have HI2 := hid (show ∀ r ∈ ins2, r.length ≤ 65535 from fun r hr => by rw [hins2] at hr; have := fewL_le r hr; omega)
  have HI4 := hid (show ∀ r ∈ ins, r.length ≤ 400 from fun r hr => by rw [hins] at hr; exact fewL_le r hr)
  have hn1 : ins.length ≤ 10 := by rw [hins]; exact fewL_len
  have hn2 : ins2.length ≤ 10 := by rw [hins2]; exact fewL_len
  have HFR := hid (fun (L : List Atm) X (hX : St w L X) => fresh_st (s := 20) (m := 20) hX (by decide) (by decide) rfl)
  have HJS := hid (fun (L : List Atm) X (hX : St w L X) => journals_st hX)
  have HF1 := hid (fun (L : List Atm) X (hX : St w L X) => show Calls Try.prog 51 #[.slice A recs.length c, .int .i64 10, .int .i64 400] X fun r w' => ∃ B d, r = .returned (.slice B ins.length d) ∧ St w (Recs (.slice B ins.length d) ins :: L) w' from by
    rw [hins]; exact few_st (most := 10) (size := 400) hX hin (by decide) (by decide))
  have HF2 := hid (fun (L : List Atm) X (hX : St w L X) => show Calls Try.prog 51 #[.slice B more.length d, .int .i64 10, .int .i64 400] X fun r w' => ∃ B d, r = .returned (.slice B ins2.length d) ∧ St w (Recs (.slice B ins2.length d) ins2 :: L) w' from by
    rw [hins2]; exact few_st (most := 10) (size := 400) hX hin2 (by decide) (by decide))
  clear hins hins2
  obtain ⟨q1, q2, q3, q4⟩ := fresh_quiet 20
  have hok := freshD_ok (s := 20) (by decide)
  obtain ⟨S0, hS0⟩ : ∃ S0, S0 = freshD 20 := ⟨_, rfl⟩
  rw [← hS0] at q2 q3 q4 hok HFR
  -- the first fall
  obtain ⟨S1, hS1⟩ : ∃ S1, S1 = S0.arm (o1 : Int) := ⟨_, rfl⟩
  have HAR1 := hid (fun (p : Nat) (M : List Atm) X (hX : St w (Disk p S0 :: M) X) => show Calls Try.prog 23 #[.pointer (some ⟨p, 0, none⟩), .int .i64 o1] X fun x W' => x = .returned (.tuple #[]) ∧ St w (Disk p S1 :: M) W' from by rw [hS1]; exact arm_st hX (o1 : Int))
  have hQ1 : Quiet S1 ⟨3, 20, 0, 0⟩ [] ⟨3, 20, 0, 0⟩ := by rw [hS1]; exact q4.arm _
  have hk1 : S1.Ok 1000 := by rw [hS1]; exact hok.arm (by omega)
  have hl1 : S1.now.length = 24 := by rw [hS1]; exact q3
  obtain ⟨O, T, K, hfil⟩ : ∃ O T K, DS.fill ins S1 ⟨3, 20, 0, 0⟩ = (O, T, K) := ⟨_, _, _, rfl⟩
  have hOn := fill_few ins S1 ⟨3, 20, 0, 0⟩
  have hTk := fill_ok ins ⟨3, 20, 0, 0⟩ hk1 HI1.out
  have hTl := fill_len ins S1 ⟨3, 20, 0, 0⟩
  obtain ⟨got, K1, hrd, hq, hor⟩ := hQ1.fall HI1.out keep
  rw [hfil] at hOn hTk hTl hrd hq hor
  dsimp only at hOn hTk hTl hrd hq hor
  have HFL1 := hid (fun (p j : Nat) (A1 : Option Addr) (c1 : Nat) (xs : List Value) (M : List Atm) X (hX : St w (Disk p S1 :: Blk j (jourV p ⟨3, 20, 0, 0⟩) 114 :: Row (.slice A1 ins.length c1) 22 1 ins.length xs :: Vals xs ins :: M) X) =>
    fill_st (c := c1) (A := A1) hX hk1 ⟨by rw [hl1]; decide, by decide, by decide, by rw [hl1]; decide⟩ (by omega) ((recsAll_row hX.drop.drop).imp fun Y hY => ⟨M, hY⟩) HI1.out hfil)
  obtain ⟨S2, hS2⟩ : ∃ S2, S2 = T.crash keep := ⟨_, rfl⟩
  rw [← hS2] at hq
  have hk2 : S2.Ok 8000 := by rw [hS2]; exact (hTk.crash keep).mono (by omega)
  have hl2 : S2.now.length = 24 := by rw [hS2, crash_len, hTl, hl1]
  have HCR1 := hid (fun (p : Nat) (M : List Atm) X (hX : St w (Disk p T :: M) X) => show Calls Try.prog 17 #[.pointer (some ⟨p, 0, none⟩), .slice Kk keep.length kc] X fun r X' => r = .returned (.tuple #[]) ∧ St w (Disk p S2 :: M) X' from by rw [hS2]; exact crash_st hX hTk (by omega) hkl hk)
  have HOP1 := hid (fun (p : Nat) (M : List Atm) X (hX : St w (Disk p S2 :: M) X) => open_quiet (m := 20) hX hk2 hq hl2 (by decide) rfl)
  have HOR1 := hid (show T.off = false ∧ got = O ∨ T.off = true ∧ ∃ r, ins[O.length]? = some r ∧ (got = O ∨ got = O ++ [r]) from hor)
  have HDN1 := hid (fun (p : Nat) (M : List Atm) X (hX : St w (Disk p T :: M) X) => down_st hX)
  have hgn : got.length ≤ 11 := by
    rcases hor with ⟨_, h⟩ | ⟨_, r, _, h | h⟩
    · rw [h]; simpa using (by omega : O.length ≤ 11)
    · rw [h]; simpa using (by omega : O.length ≤ 11)
    · rw [h]; simp; omega
  -- the second
  obtain ⟨f1, f2, f3, f4, f5⟩ := hq.laid.facts (by decide)
  have f1' : K1.first = 3 := f1
  have f2' : K1.size = 20 := f2
  have f3' : K1.n = got.length := by have : K1.n = 0 + got.length := f3; omega
  have f4' : got.length ≤ K1.used := by have : 0 + got.length ≤ K1.used := f4; omega
  obtain ⟨S3, hS3⟩ : ∃ S3, S3 = S2.arm (a1 : Int) := ⟨_, rfl⟩
  have HAR2 := hid (fun (p : Nat) (M : List Atm) X (hX : St w (Disk p S2 :: M) X) => show Calls Try.prog 23 #[.pointer (some ⟨p, 0, none⟩), .int .i64 a1] X fun x W' => x = .returned (.tuple #[]) ∧ St w (Disk p S3 :: M) W' from by rw [hS3]; exact arm_st hX (a1 : Int))
  have hQ3 : Quiet S3 ⟨3, 20, 0, 0⟩ got K1 := by rw [hS3]; exact hq.arm _
  have hk3 : S3.Ok 8000 := by rw [hS3]; exact hk2.arm (by omega)
  have hl3 : S3.now.length = 24 := by rw [hS3]; exact hl2
  obtain ⟨O2, T2, K2, hfil2⟩ : ∃ O T K, DS.fill ins2 S3 K1 = (O, T, K) := ⟨_, _, _, rfl⟩
  have hOn2 := fill_few ins2 S3 K1
  have hTk2 := fill_ok ins2 K1 hk3 HI2.out
  have hTl2 := fill_len ins2 S3 K1
  obtain ⟨got2, K3, hrd2, hq2, hor2⟩ := hQ3.fall HI2.out other
  rw [hfil2] at hOn2 hTk2 hTl2 hrd2 hq2 hor2
  dsimp only at hOn2 hTk2 hTl2 hrd2 hq2 hor2
  have HFL2 := hid (fun (p j : Nat) (A1 : Option Addr) (c1 : Nat) (xs : List Value) (M : List Atm) X (hX : St w (Disk p S3 :: Blk j (jourV p K1) 114 :: Row (.slice A1 ins2.length c1) 22 1 ins2.length xs :: Vals xs ins2 :: M) X) =>
    fill_st (c := c1) (A := A1) hX hk3 ⟨by rw [hl3]; omega, by rw [f2']; omega, by omega, by rw [hl3]; decide⟩ (by omega) ((recsAll_row hX.drop.drop).imp fun Y hY => ⟨M, hY⟩) HI2.out hfil2)
  obtain ⟨S4, hS4⟩ : ∃ S4, S4 = T2.crash other := ⟨_, rfl⟩
  rw [← hS4] at hq2
  have hk4 : S4.Ok 20000 := by rw [hS4]; exact (hTk2.crash other).mono (by omega)
  have hl4 : S4.now.length = 24 := by rw [hS4, crash_len, hTl2, hl3]
  have HCR2 := hid (fun (p : Nat) (M : List Atm) X (hX : St w (Disk p T2 :: M) X) => show Calls Try.prog 17 #[.pointer (some ⟨p, 0, none⟩), .slice Mk other.length mc] X fun r X' => r = .returned (.tuple #[]) ∧ St w (Disk p S4 :: M) X' from by rw [hS4]; exact crash_st hX hTk2 (by omega) hol ho)
  have HOP2 := hid (fun (p : Nat) (M : List Atm) X (hX : St w (Disk p S4 :: M) X) => open_quiet (m := 20) hX hk4 hq2 hl4 (by decide) rfl)
  have HOR2 := hid (show T2.off = false ∧ got2 = got ++ O2 ∨ T2.off = true ∧ ∃ r, ins2[O2.length]? = some r ∧ (got2 = got ++ O2 ∨ got2 = got ++ O2 ++ [r]) from hor2)
  have HDN2 := hid (fun (p : Nat) (M : List Atm) X (hX : St w (Disk p T2 :: M) X) => down_st hX)
  have hgn2 : got2.length ≤ 22 := by
    rcases hor2 with ⟨_, h⟩ | ⟨_, r, _, h | h⟩
    · rw [h]; simp; omega
    · rw [h]; simp; omega
    · rw [h]; simp; omega
  have HTX := hid (fun (rs : List (List UInt8)) (A2 : Option Addr) (c2 : Nat) X (M : List Atm) (hX : St w (Recs (.slice A2 rs.length c2) rs :: M) X) (hl : rs.length ≤ 100) => texts_st (c := c2) hX (fun Y hY => hY.recsIn) (by omega))
  have HSM := hid (fun (rs ss : List (List UInt8)) (v : Bool) (hv : (rs == ss) = v) (n : Nat) (hn : n = ss.length) (B3 C3 : Option Addr) (d3 e3 : Nat) X (h1 : TextsIn X B3 rs) (h2 : TextsIn X C3 ss) (hl : rs.length ≤ 100) => show Calls Try.prog 53 #[.slice B3 rs.length d3, .slice C3 n e3] X fun r w' => r = .returned (.bool v) ∧ Below X.heap.size X w' from by
    rw [← hv, hn]
    exact same_ok (c := d3) (d := e3) X h1 h2 (by omega))
  clear q1 q2 q3 q4 hok hS0 hS1 hQ1 hk1 hl1 hfil hTk hTl hrd hq hor hS2 hk2 hl2 f1 f2 f3 f4 f5 f1' f2' f3' f4' hS3 hQ3 hk3 hl3 hfil2 hTk2 hTl2 hrd2 hq2 hor2 hS4 hk4 hl4 eo ea
  rw [← hF]
  clear hF
  go_enter Try.func12, Try.ntmps12
  have eo := HEO.out
  go_upto_if 41 with (first | (go_at_call 25; (with_reducible refine (HDN1.out _ _ _ H6.out.at2).mono ?_); rintro r w7 ⟨rfl, rfl⟩) | (refine wpList_box rfl 98 _ rfl (.agg F) rfl ?_; intro gx W1 hx hxl hxg hW1; have H1 := hid ((St.start w).newBlk hW1 hxg hx); clear hx hxl hxg hW1) | (go_at_call 50; (with_reducible refine (HFR.out _ _ H1.out).mono ?_); rintro r w2 ⟨p, j, rfl, hs2⟩; have H2 := hid hs2; clear hs2) | (go_at_call 43; (with_reducible refine (HJS.out _ _ H2.out).mono ?_); rintro r w3 ⟨rfl, hs3⟩; have H3 := hid hs3; clear hs3; obtain ⟨x0, x1, x2, x3, x4⟩ := HFC.out _ _ _ H3.out.at3) | (go_at_call 23; (with_reducible refine (HAR1.out _ _ _ H3.out).mono ?_); rintro r w4 ⟨rfl, hs4⟩; have H4 := hid hs4; clear hs4 x0 x1 x2 x3 x4; obtain ⟨x0, x1, x2, x3, x4⟩ := HFC.out _ _ _ H4.out.at3) | (go_at_call 51; (with_reducible refine (HF1.out _ _ H4.out).mono ?_); rintro r w5 ⟨B1, d1, rfl, hs5⟩; obtain ⟨xs, hxs⟩ := hs5.unrecs; have H5 := hid hxs.rot2; clear hs5 hxs) | (go_at_call 55; (with_reducible refine (HFL1.out _ _ _ _ _ _ _ H5.out).mono ?_); rintro r w6 ⟨C, e, rfl, hs6⟩; have H6 := hid (show St w [Strs (.slice C O.length e) O, Disk p T, Blk gx F 98] w6 from hs6.at3.drop.at3.drop.at3.drop); clear hs6 x0 x1 x2 x3 x4; obtain ⟨x0, x1, x2, x3, x4⟩ := HFC.out _ _ _ H6.out.at3))
  go_cut [9, 10] (fun u h wx => ∃ un : List UInt8, u = .string (strB un) ∧ h = .bool T.off ∧ Hid (T.off = true → ins[O.length]? = some un) ∧ Hid (St w [Strs (.slice C O.length e) O, Disk p T, Blk gx F 98] wx))
  case first =>
    cases hoff : T.off
    · go_wp2_with fail
      go_meet
      case rel => exact ⟨[], rfl, by rw [hoff], hid (fun h => by rw [hoff] at h; cases h), H6⟩
    · obtain ⟨un, hun⟩ : ∃ un, ins[O.length]? = some un := by
        rcases HOR1.out with ⟨h, _⟩ | ⟨_, r, h, _⟩
        · rw [hoff] at h; cases h
        · exact ⟨r, h⟩
      have HUN := hid hun
      have hlt := (List.getElem?_eq_some_iff.1 hun).1
      have e1 : (O.length : Int) + 1 ≤ (ins.length : Int) := by omega
      have HAL := hid (fun (A2 : Option Addr) (c2 g : Nat) (hA : A2 = some ⟨g, 0, none⟩) (c3 : Nat) X (hX : St w [Recs (.slice A2 ins.length c2) ins, Strs (.slice C O.length e) O, Disk p T, Blk gx F 98] X) => show Calls Try.prog 56 #[.slice (some ⟨g, O.length, none⟩) 1 c3] X fun r w' => r = .returned (.string (strB un)) ∧ St w [Strs (.slice C O.length e) O, Disk p T, Blk gx F 98] w' from by
        have h4 := HI4.out un (List.mem_of_getElem? HUN.out)
        have := all_st (c := c3) (rs := [un]) hX (fun Y hY => by have h := recsIn_one hY.recsIn HUN.out hA; rw [Nat.zero_add] at h; exact h) (by simp) (fun k => by
          cases k with
          | zero => simp
          | succ k => simp; omega)
        rw [show [un].flatten = un by simp] at this
        exact this.mono fun r w' hx => ⟨hx.1, hx.2.drop⟩)
      have hpos : 0 < ins.length := by omega
      clear hun hlt
      go_wp2_with (first | (go_at_call 51; ((with_reducible refine (HF1.out _ _ H6.out).mono ?_); rintro r w7 ⟨A2, c2, rfl, hs7⟩; have H7 := hid hs7; obtain ⟨gA, hgA, hcap⟩ := recs_addr hs7 hpos; subst hgA; have hcap2 : (O.length : Int) + 1 ≤ (c2 : Int) := (by omega); clear hs7)) | (go_at_call 56; (with_reducible refine (HAL.out _ _ _ rfl _ _ H7.out).mono ?_); rintro r w8 ⟨rfl, hs8⟩; have H8 := hid hs8; clear hs8))
      go_meet
      case rel => exact ⟨un, rfl, by rw [hoff], hid (fun _ => HUN.out), H8⟩
  case rest =>
    clear eo H1 H2 H3 H4 H5 H6 x0 x1 x2 x3 x4
    obtain ⟨un, rfl, rfl, HUN, HS⟩ := hcut
    obtain ⟨x0, x1, x2, x3, x4⟩ := HFC.out _ _ _ HS.out.at3
    go_upto_region 13 with (first | (go_at_call 17; (with_reducible refine (HCR1.out _ _ _ HS.out.at2).mono ?_); rintro r w7 ⟨rfl, hs7⟩; have H7 := hid hs7; clear hs7 x0 x1 x2 x3 x4) | (go_at_call 42; (with_reducible refine (HOP1.out _ _ _ H7.out).mono ?_); rintro r w8 ⟨j2, A2, c2, rfl, hs8⟩; have H8 := hid hs8; clear hs8) | (go_at_call 54; (with_reducible refine (HTX.out got _ _ _ _ H8.out (by omega)).mono ?_); rintro r w9 ⟨B4, d4, rfl, hs9⟩; have H9 := hid (show St w [Strs (.slice B4 got.length d4) got, Disk p S2, Blk j2 (jourV p K1) 114, Strs (.slice C O.length e) O, Blk gx F 98] w9 from hs9.drop2); clear hs9))
    go_cut [10, 85] (fun h t wx => h = .bool T.off ∧ t = .bool false ∧ Hid (St w [Strs (.slice B4 got.length d4) got, Disk p S2, Blk j2 (jourV p K1) 114, Blk gx F 98] wx))
    case first =>
      obtain ⟨i9, hi, hiz, his, hib⟩ := info_parts info9
      have HI := hid (And.intro hi (And.intro hiz (And.intro his hib)))
      clear hi hiz his hib
      by_cases hgo : got = O
      · have HS1 := hid (HSM.out got O true (by rw [hgo]; simp) _ rfl)
        clear hgo
        have hg100 : got.length ≤ 100 := by omega
        go_wp2_with (go_at_call 53; (with_reducible refine (HS1.out _ _ _ _ _ H9.out.textsIn H9.out.at4.textsIn hg100).mono ?_); rintro r w10 ⟨rfl, hb⟩; have H10 := hid (H9.out.turn hb); clear hb)
        go_meet
        case rel => exact ⟨rfl, rfl, hid H10.out.at4.drop⟩
      · obtain ⟨hoff, hgo2⟩ : T.off = true ∧ got = O ++ [un] := by
          rcases HOR1.out with ⟨_, h⟩ | ⟨h1, r, h2, h3 | h3⟩
          · exact absurd h hgo
          · exact absurd h3 hgo
          · refine ⟨h1, ?_⟩
            have := HUN.out h1
            rw [h2] at this
            rw [h3, Option.some.inj this]
        have HS1 := hid (HSM.out got O false (by rw [beq_eq_false_iff_ne]; exact hgo) _ rfl)
        have HS2 := hid (HSM.out got (O ++ [un]) true (by rw [hgo2]; simp) (O.length + 1) (by simp))
        have hg100 : got.length ≤ 100 := by omega
        clear hgo hgo2
        go_wp2_with (first | (go_at_call 53; first | ((with_reducible refine (HS1.out _ _ _ _ _ H9.out.textsIn H9.out.at4.textsIn hg100).mono ?_); rintro r w10 ⟨rfl, hb⟩; have H10 := hid (H9.out.turn hb); clear hb) | ((with_reducible refine (HS2.out _ _ _ _ _ H13.out.at2.textsIn H13.out.textsIn hg100).mono ?_); rintro r w14 ⟨rfl, hb⟩; have H14 := hid (H13.out.drop.turn hb); clear hb)) | (refine wpList_buildSlice0 rfl rfl Try.underlying90 size9 ?_; intro gs X1 hS hgs hges hX1; have H11 := hid (H10.out.newRow0 (e := 9) (s := 1) hX1 hges hS); clear hS hgs hges hX1) | (refine wpList_append_texts _ _ 90 rfl (.slice (some ⟨gs, 0, none⟩) 0 0) rfl C e O rfl rfl 9 i9 (.string ByteArray.empty) Try.underlying90 HI.out.1 HI.out.2.1 rfl HI.out.2.2.1 HI.out.2.2.2 0 [] H11.out.row H11.out.at5.textsIn (by omega) ?_; intro v' X3 hO2 hT2 hfr; have H12 := hid (H11.out.grow hO2 hT2 hfr); clear hO2 hT2 hfr) | (refine wpList_buildSlice1 _ rfl (.string (strB un)) (by simp [Act.eval]) rfl Try.underlying90 zero9 size9 (by decide) (by decide) rfl ?_; intro gn X2 hS hgs hges hX1b; have HS2b := hid (H12.out.turn hX1b); have HNW := hid (news_box hS [sv un] rfl); clear hS hgs hges hX1b) | (refine wpList_append_at _ _ _ rfl v' rfl ⟨gn, 0, none⟩ 1 1 rfl rfl 9 i9 (.string ByteArray.empty) 1 16 Try.underlying90 HI.out.1 HI.out.2.1 HI.out.2.2.1 HI.out.2.2.2 rfl (by decide) (0 + O.length) ([] ++ O.map sv) HS2b.out.row [sv un] rfl HNW.out (by simp [sv, Value.oneCell']) (by unfold maxLen; omega) (by omega) ?_; intro v2 X5 hO2 hT2 hfr; have H13a := hid (HS2b.out.grow hO2 hT2 hfr); clear hO2 hT2 hfr; obtain ⟨C5, e5, rfl, _⟩ := row_slice H13a.out; have H13 := hid (show St w (Strs (.slice C5 (O ++ [un]).length e5) (O ++ [un]) :: [Strs (.slice B4 got.length d4) got, Disk p S2, Blk j2 (jourV p K1) 114, Strs (.slice C O.length e) O, Blk gx F 98]) X5 from (by have h := H13a.out; rw [List.nil_append, Nat.zero_add] at h; unfold Strs; rw [List.map_append, List.length_append]; exact h))))
        go_meet
        case rel => exact ⟨by rw [hoff], rfl, hid H14.out.at4.drop⟩
    case rest =>
      clear H7 H8 H9 HS HUN
      obtain ⟨rfl, rfl, HS⟩ := hcut
      have ea := HEA.out
      obtain ⟨i9, hi, hiz, his, hib⟩ := info_parts info9
      have HI := hid (And.intro hi (And.intro hiz (And.intro his hib)))
      clear hi hiz his hib
      obtain ⟨x0, x1, x2, x3, x4⟩ := HFC.out _ _ _ HS.out.at4
      go_upto_if 105 with (first | (go_at_call 23; (with_reducible refine (HAR2.out _ _ _ HS.out.at2).mono ?_); rintro r w11 ⟨rfl, hs⟩; have H1 := hid hs; clear hs x0 x1 x2 x3 x4) | (go_at_call 51; (with_reducible refine (HF2.out _ _ H1.out).mono ?_); rintro r w12 ⟨A3, c3, rfl, hs⟩; obtain ⟨xs3, hxs⟩ := hs.unrecs; have H2 := hid (show St w [Disk p S3, Blk j2 (jourV p K1) 114, Row (.slice A3 ins2.length c3) 22 1 ins2.length xs3, Vals xs3 ins2, Strs (.slice B4 got.length d4) got, Blk gx F 98] w12 from hxs.at5.at4); clear hs hxs) | (go_at_call 55; (with_reducible refine (HFL2.out _ _ _ _ _ _ _ H2.out).mono ?_); rintro r w13 ⟨C2, e2, rfl, hs⟩; have H3 := hid hs; clear hs) | (refine wpList_buildSlice0 rfl rfl Try.underlying90 size9 ?_; intro gs X1 hS hgs hges hX1; have H4 := hid (H3.out.newRow0 (e := 9) (s := 1) hX1 hges hS); clear hS hgs hges hX1) | (refine wpList_append_texts _ _ 90 rfl (.slice (some ⟨gs, 0, none⟩) 0 0) rfl B4 d4 got rfl rfl 9 i9 (.string ByteArray.empty) Try.underlying90 HI.out.1 HI.out.2.1 rfl HI.out.2.2.1 HI.out.2.2.2 0 [] H4.out.row H4.out.at7.textsIn (by omega) ?_; intro v1 X3 hO2 hT2 hfr; have H5 := hid (H4.out.grow hO2 hT2 hfr); clear hO2 hT2 hfr) | (refine wpList_append_texts _ _ 90 rfl v1 rfl C2 e2 O2 rfl rfl 9 i9 (.string ByteArray.empty) Try.underlying90 HI.out.1 HI.out.2.1 rfl HI.out.2.2.1 HI.out.2.2.2 (0 + got.length) ([] ++ got.map sv) H5.out.row H5.out.at2.textsIn (by omega) ?_; intro v2 X4 hO2 hT2 hfr; have H6 := hid (H5.out.grow hO2 hT2 hfr); clear hO2 hT2 hfr; obtain ⟨C5, e5, rfl, _⟩ := row_slice H6.out; have H7 := hid (show St w [Row (.slice C5 (got.length + O2.length) e5) 9 1 (got.length + O2.length) ((got ++ O2).map sv), Strs (.slice C2 O2.length e2) O2, Disk p T2, Blk j2 (jourV p K2) 114, Row (.slice A3 ins2.length c3) 22 1 ins2.length xs3, Vals xs3 ins2, Strs (.slice B4 got.length d4) got, Blk gx F 98] X4 from (by have h := H6.out; rw [List.nil_append, Nat.zero_add] at h; rw [List.map_append]; exact h))) | (go_at_call 25; (with_reducible refine (HDN2.out _ _ _ H7.out.at3).mono ?_); rintro r w14 ⟨rfl, rfl⟩))
      go_cut [9, 10] (fun u h wx => ∃ un2 : List UInt8, u = .string (strB un2) ∧ h = .bool T2.off ∧ Hid (T2.off = true → ins2[O2.length]? = some un2) ∧ Hid (St w [Row (.slice C5 (got.length + O2.length) e5) 9 1 (got.length + O2.length) ((got ++ O2).map sv), Disk p T2, Blk gx F 98] wx))
      case first =>
        have H8 := hid (H7.out.drop2.at3.drop.at3.drop.at3.drop.at3.drop)
        cases hoff : T2.off
        · go_wp2_with fail
          go_meet
          case rel => exact ⟨un, rfl, by rw [hoff], hid (fun h => by rw [hoff] at h; cases h), H8⟩
        · obtain ⟨un2, hun⟩ : ∃ un, ins2[O2.length]? = some un := by
            rcases HOR2.out with ⟨h, _⟩ | ⟨_, r, h, _⟩
            · rw [hoff] at h; cases h
            · exact ⟨r, h⟩
          have HUN := hid hun
          have hlt := (List.getElem?_eq_some_iff.1 hun).1
          have e1 : (O2.length : Int) < (ins2.length : Int) := by omega
          obtain ⟨g7, o7, B7, c7, rfl, hr1, hr2, hr3⟩ := recsAll_row H7.out.drop.drop.drop.drop _ _ hun
          obtain ⟨hc7, hb7⟩ := hr3 _ ⟨_, H7.out.drop.drop.drop.drop⟩
          have CV := conv_bytes hb7 un2.length c7 rfl
          rw [sv_eq] at CV
          clear hun hlt hr3 hb7
          go_wp2_with fail
          go_meet
          case rel => exact ⟨un2, rfl, by rw [hoff], hid (fun _ => HUN.out), H8⟩
      case rest =>
        clear H1 H2 H3 H4 H5 H6 H7 HS ea
        obtain ⟨un2, rfl, rfl, HUN, HS⟩ := hcut
        obtain ⟨x0, x1, x2, x3, x4⟩ := HFC.out _ _ _ HS.out.at3
        have hg100 : got2.length ≤ 100 := by omega
        by_cases hgo : got2 = got ++ O2
        · have HS1 := hid (HSM.out got2 (got ++ O2) true (by rw [hgo]; simp) (got.length + O2.length) (by simp))
          clear hgo
          go_wp2_with (first | (go_at_call 17; (with_reducible refine (HCR2.out _ _ _ HS.out.at2).mono ?_); rintro r w15 ⟨rfl, hs⟩; have H1 := hid hs; clear hs x0 x1 x2 x3 x4) | (go_at_call 42; (with_reducible refine (HOP2.out _ _ _ H1.out).mono ?_); rintro r w16 ⟨j3, A7, c7, rfl, hs⟩; have H2 := hid hs; clear hs) | (go_at_call 54; (with_reducible refine (HTX.out got2 _ _ _ _ H2.out (by omega)).mono ?_); rintro r w17 ⟨B7, d7, rfl, hs⟩; have H3 := hid (show St w [Strs (.slice B7 got2.length d7) got2, Row (.slice C5 (got.length + O2.length) e5) 9 1 (got.length + O2.length) ((got ++ O2).map sv)] w17 from only2 hs.drop2.at4.at2); clear hs; have HT1 := hid H3.out.textsIn; have HT2 := hid (textsIn_app H3.out.at2)) | (go_at_call 53; (with_reducible refine (HS1.out _ _ _ _ _ HT1.out HT2.out hg100).mono ?_); rintro r w18 ⟨rfl, hb⟩; have H4 := hid (H3.out.turn hb); clear hb))
          go_ret
          exact ⟨rfl, H4.out.below⟩
        · obtain ⟨hoff, hgo2⟩ : T2.off = true ∧ got2 = got ++ O2 ++ [un2] := by
            rcases HOR2.out with ⟨_, h⟩ | ⟨h1, r, h2, h3 | h3⟩
            · exact absurd h hgo
            · exact absurd h3 hgo
            · refine ⟨h1, ?_⟩
              have := HUN.out h1
              rw [h2] at this
              rw [h3, Option.some.inj this]
          have HS1 := hid (HSM.out got2 (got ++ O2) false (by rw [beq_eq_false_iff_ne]; exact hgo) (got.length + O2.length) (by simp))
          have HS2 := hid (HSM.out got2 (got ++ O2 ++ [un2]) true (by rw [hgo2]; simp) (got.length + O2.length + 1) (by simp; omega))
          have HLN := hid (show (got ++ O2).length = got.length + O2.length from List.length_append)
          obtain ⟨sure, hsure⟩ : ∃ sure, sure = got ++ O2 := ⟨_, rfl⟩
          rw [← hsure] at HS1 HS2 HLN HS
          clear hgo hgo2 hsure
          go_wp2_with (first | (go_at_call 17; (with_reducible refine (HCR2.out _ _ _ HS.out.at2).mono ?_); rintro r w15 ⟨rfl, hs⟩; have H1 := hid hs; clear hs x0 x1 x2 x3 x4) | (go_at_call 42; (with_reducible refine (HOP2.out _ _ _ H1.out).mono ?_); rintro r w16 ⟨j3, A7, c7, rfl, hs⟩; have H2 := hid hs; clear hs) | (go_at_call 54; (with_reducible refine (HTX.out got2 _ _ _ _ H2.out (by omega)).mono ?_); rintro r w17 ⟨B7, d7, rfl, hs⟩; have H3 := hid (show St w [Strs (.slice B7 got2.length d7) got2, Row (.slice C5 (got.length + O2.length) e5) 9 1 (got.length + O2.length) (sure.map sv)] w17 from only2 hs.drop2.at4.at2); clear hs; have HT1 := hid H3.out.textsIn; have HT2 := hid (textsIn_len H3.out.at2 HLN.out.symm)) | (go_at_call 53; first | ((with_reducible refine (HS1.out _ _ _ _ _ HT1.out HT2.out hg100).mono ?_); rintro r w18 ⟨rfl, hb⟩; have H4 := hid (H3.out.turn hb); clear hb) | ((with_reducible refine (HS2.out _ _ _ _ _ H8.out.at2.textsIn H8.out.textsIn hg100).mono ?_); rintro r w19 ⟨rfl, hb⟩; have H9 := hid (H8.out.turn hb); clear hb)) | (refine wpList_buildSlice0 rfl rfl Try.underlying90 size9 ?_; intro gs X1 hS hgs hges hX1; have H5 := hid (H4.out.newRow0 (e := 9) (s := 1) hX1 hges hS); have HT3 := hid (textsIn_len H5.out.at3 HLN.out.symm); clear hS hgs hges hX1) | (refine wpList_append_texts _ _ 90 rfl (.slice (some ⟨gs, 0, none⟩) 0 0) rfl C5 e5 sure (by first | exact (congrArg (fun n => Value.slice C5 n e5) HLN.out.symm) | rfl) rfl 9 i9 (.string ByteArray.empty) Try.underlying90 HI.out.1 HI.out.2.1 rfl HI.out.2.2.1 HI.out.2.2.2 0 [] H5.out.row HT3.out (by rw [HLN.out]; omega) ?_; intro v' X3 hO2 hT2 hfr; rw [HLN.out] at hO2; have H6 := hid (H5.out.grow hO2 hT2 hfr); clear hO2 hT2 hfr) | (refine wpList_buildSlice1 _ rfl (.string (strB un2)) (by simp [Act.eval]) rfl Try.underlying90 zero9 size9 (by decide) (by decide) rfl ?_; intro gn X2 hS hgs hges hX1b; have HS2b := hid (H6.out.turn hX1b); have HNW := hid (news_box hS [sv un2] rfl); clear hS hgs hges hX1b) | (refine wpList_append_at _ _ _ rfl v' rfl ⟨gn, 0, none⟩ 1 1 rfl rfl 9 i9 (.string ByteArray.empty) 1 16 Try.underlying90 HI.out.1 HI.out.2.1 HI.out.2.2.1 HI.out.2.2.2 rfl (by decide) (0 + (got.length + O2.length)) ([] ++ sure.map sv) HS2b.out.row [sv un2] rfl HNW.out (by simp [sv, Value.oneCell']) (by unfold maxLen; omega) (by omega) ?_; intro v2 X5 hO2 hT2 hfr; have H7 := hid (HS2b.out.grow hO2 hT2 hfr); clear hO2 hT2 hfr; obtain ⟨C8, e8, rfl, _⟩ := row_slice H7.out; have H8 := hid (show St w (Strs (.slice C8 (sure ++ [un2]).length e8) (sure ++ [un2]) :: [Strs (.slice B7 got2.length d7) got2, Row (.slice C5 (got.length + O2.length) e5) 9 1 (got.length + O2.length) (sure.map sv)]) X5 from (by have h := H7.out; rw [List.nil_append, Nat.zero_add] at h; unfold Strs; rw [List.map_append, List.length_append, HLN.out]; exact h))))
          go_ret
          exact ⟨rfl, H9.out.below⟩
end Go.Proofs.Ythmchbdhikakhaa
/- JournalFalls: behind a crash at any write, and another one in what comes then, the records are those that were answered, and perhaps the one under way; whatever bytes they have; for all falls and records. -/
namespace Go.Proofs.Ythmchbdhikakhaa
open Go.ChangeShapes Go.WideShapes Go.ChangeAt Go.RowKit Go.Cu
theorem own : ownKnob Try.prog.godebug = none := by kernel_rfl
theorem laidOut : laidOutB Try.prog = true := by kernel_rfl
set_option maxRecDepth 100000 in
theorem journalFalls_lifted (os : Os) (started : os.Started) (H : Type) (enc : TypeId × Value → H) :
    ReturnsInHanded {} Try.checked os 12 .any (Rows.journalFallsSpec.pre6 enc Try.prog Try.f12 Rows.journalFallsRow.domain false) (Rows.journalFallsSpec.post enc Try.prog Try.f12 false true false false) := by
  refine returnsInHanded_of_change (C := Try.checked) own started (by kernel_rfl) Try.func12
    (ChangeSpec.witness6 (enc := enc) (C := Try.checked) false ⟨#[], #[.agg #[.slice none 0 0, .int .i64 0, .slice none 0 0, .int .i64 0, .slice none 0 0], .slice none 0 0], []⟩ 8 (by kernel_rfl) (by kernel_rfl) (by kernel_rfl) (by kernel_rfl)) ?_
  intro W base args ds gs before hval0 hW _ _
  have hval : ∀ (j : Nat) t v, Try.f12.params[j]? = some t → args[j]? = some v → Value.okWide Try.prog W .any base t v := hval0
  have hW' := hW
  obtain ⟨p, q, hA0, hV, rfl, hfz, hnd⟩ := hW
  have hA : DataW.TrodAll enc Try.prog W 0 (fun _ => true) true Try.f12.params.toList args.toList ds p := hA0
  rw [Try.params12] at hA hval
  obtain ⟨v0, vs0, d0, ds0, p0, q0, hargs, rfl, rfl, h0, r0⟩ := trodAll_cons hA
  obtain ⟨v1, vs1, d1, ds1, p1, q1, rfl, rfl, rfl, h1, r1⟩ := trodAll_cons r0
  obtain ⟨rfl, rfl, rfl⟩ := trodAll_nil r1
  obtain rfl : args = #[v0, v1] := by cases args; simp_all
  obtain ⟨rfl, rfl⟩ := trodVars_none hV
  have k0 := h0
  have lt0 : ∀ x ∈ p0, x.block < W.heap.size := by obtain ⟨m, hm⟩ := k0; exact DataW.trod_lt m _ _ _ hm
  have k1 := h1
  have lt1 : ∀ x ∈ p1, x.block < W.heap.size := by obtain ⟨m, hm⟩ := k1; exact DataW.trod_lt m _ _ _ hm
  obtain ⟨A0, c0, rs0, o0, K0, kc0, keep0, a0, M0, mc0, other0, rfl, hr, hkl, hkp, hol, hop⟩ := fall_open (hval 0 98 v0 rfl rfl) h0
  obtain ⟨A1, c1, rs1, rfl, hin1⟩ := param_recs Try.underlying81 Try.underlying22 Try.underlying5 (by kernel_rfl) (by kernel_rfl) (hval 1 81 v1 rfl rfl) h1
  clear hA0 hval0
  refine (jfalls_walk W hr hkl hkp hol hop hin1).mono fun e W' ⟨he, bel⟩ => ?_
  subst he
  exact ⟨_, rfl, _, _, _, [], _, [], hW', trodAll_mk1 (shut_bool Try.underlying4 _), (trodAll_cons_mk (Below.trod laidOut (by kernel_rfl) (of_decide_eq_true (by kernel_rfl)) k0 bel lt0) (trodAll_cons_mk (Below.trod laidOut (by kernel_rfl) (of_decide_eq_true (by kernel_rfl)) k1 bel lt1) trodAll_mk0)), rfl, bel.frame _, fun h => by cases h⟩

theorem journalFalls_holds : Rows.JournalFallsSaid :=
  OpenClaim.holds_of_wide 12 Try.f12 rfl rfl rfl rfl rfl rfl rfl ⟨rfl, rfl, rfl, rfl, rfl⟩ rfl rfl rfl rfl rfl (by kernel_rfl) Try.func12 (by kernel_rfl)
    (of_decide_eq_true (by kernel_rfl)) (by unfold Func.isWrapper; first | (rw [if_pos (by decide +kernel)]; kernel_rfl) | (rw [if_neg (by decide +kernel)]; exact ⟨rfl, rfl⟩))
    (fun os started H enc _ => journalFalls_lifted os started H enc)

end Go.Proofs.Ythmchbdhikakhaa
