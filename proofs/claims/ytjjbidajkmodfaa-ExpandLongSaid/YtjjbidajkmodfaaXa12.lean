/- Texts R1, R16 of the proof. What each theorem says stands in its own statement. No condition beyond those that it names. -/
import Derived.Test.YtjjbidajkmodfaaXa8
import Derived.Laws.OwnMore
set_option linter.unusedVariables false
set_option linter.unusedSimpArgs false
namespace Go.Proofs.Ytjjbidajkmodfaa
open Go Go.RowKit
def BadI (B : Value) (bad : Option Int) : Prop := (bad = none ∧ B = int (-1)) ∨ ∃ a : Int, 0 ≤ a ∧ bad = some a ∧ B = int a
def RX (p : Nat) (dv : Value) (st : St) (L : List Atom) (S : Seal) (w : World) : Prop :=
  Glob S ∧ ∃ F B cells, Wd S (.row 41 8 F st.fs.length cells :: .blk p #[dv, F, B] 63 :: L) w ∧ FormsC S cells st.fs ∧ BadI B st.bad
theorem RX.xs (p : Nat) (dv : Value) (st : St) : Xs (RX p dv st) := by
  intro L S w h
  obtain ⟨g, F, B, cells, h1, h2, h3⟩ := h
  exact ⟨[_, _], h1, fun L' S' w' k hw => ⟨g.mono k, F, B, cells, hw, h2.mono k, h3⟩⟩
section
variable {p : Nat} {dv : Value} {st : St} {L : List Atom} {S : Seal} {w : World}
theorem RX.alloc (h : RX p dv st L S w) (o : Obj) : RX p dv st L (S.put w.heap.size o) (w.alloc o) := by
  obtain ⟨g, F, B, cells, h1, h2, h3⟩ := h
  have k := h1.le_alloc o
  exact ⟨g.mono k, F, B, cells, h1.alloc o, h2.mono k, h3⟩
theorem RX.le_alloc (h : RX p dv st L S w) (o : Obj) : S.le (S.put w.heap.size o) := by
  obtain ⟨g, F, B, cells, h1, _⟩ := h; exact h1.le_alloc o
theorem RX.drew (h : RX p dv st L S w) : RX p dv st L S w.drew := by
  obtain ⟨g, F, B, cells, h1, h2, h3⟩ := h
  exact ⟨g, F, B, cells, h1.drew, h2, h3⟩
theorem RX.cell (h : RX p dv st L S w) {b o : Nat} {v : Value} (c : Sc S b o v) : w.cell? ⟨b, o, none⟩ = some v := by
  obtain ⟨g, F, B, cells, h1, _⟩ := h; exact h1.cell c
end
set_option maxRecDepth 100000 in
set_option maxHeartbeats 1000000 in
theorem R_put (p : Nat) (dv : Value) (st : St) (L : List Atom) (S : Seal) (w : World) (k a n x : Int) (s : Str) (ps : List Str) (ww : Int) (l : List Nat) (pv lv : Value) (r : Nat) (st' : St)
    (hX : RX p dv st L S w) (hp : StrsR S pv ps) (hl : NatsR S lv l) (hr : put st ⟨k, a, n, x, s, ps, ww, l⟩ = some (r, st')) :
    Calls Try.prog 35 #[.pointer (some ⟨p, 0, none⟩), .agg #[.int .u8 k, .int .i64 a, .int .i64 n, .int .i64 x, str s, pv, .int .u64 ww, lv]] w (Ret S (RX p dv st' L) (nat r)) := by
  obtain ⟨g, F, B, cells, hw, hc, hb⟩ := hX
  unfold put at hr
  split at hr
  case isFalse => cases hr
  rename_i hlim
  simp only [Option.some.injEq, Prod.mk.injEq] at hr
  obtain ⟨rfl, rfl⟩ := hr
  have hlt := hw.lt2
  have Hlim : st.fs.length < 1099511627776 := hlim
  obtain ⟨A1, c1, rfl, _, _⟩ := Sl.shape hp
  obtain ⟨A2, c2, rfl, _, _⟩ := Sl.shape hl
  have Hp := hid hp
  have Hl := hid hl
  have Hc := hid hc
  have Hb := hid hb
  have Hg := hid g
  have Hle := hid (hw.le_alloc (.cells #[.int .u8 k, .int .i64 a, .int .i64 n, .int .i64 x, str s, .slice A1 ps.length c1, .int .u64 ww, .slice A2 l.length c2] 41))
  have Hf : Hid (w.cell? ⟨p, 1, none⟩ = some F) := hw.blk2 1
  have Hw1 := hid (hw.alloc (.cells #[.int .u8 k, .int .i64 a, .int .i64 n, .int .i64 x, str s, .slice A1 ps.length c1, .int .u64 ww, .slice A2 l.length c2] 41))
  have Hw2 := hid (Hw1.out.alloc0 (.cells #[.int .u8 k, .int .i64 a, .int .i64 n, .int .i64 x, str s, .slice A1 ps.length c1, .int .u64 ww, .slice A2 l.length c2] 41)).drew
  have Hn := hid (cells_new (w.alloc (.cells #[.int .u8 k, .int .i64 a, .int .i64 n, .int .i64 x, str s, .slice A1 ps.length c1, .int .u64 ww, .slice A2 l.length c2] 41)) (w.heap.size + 1) (by simp)
    [.int .u8 k, .int .i64 a, .int .i64 n, .int .i64 x, str s, .slice A1 ps.length c1, .int .u64 ww, .slice A2 l.length c2] 41)
  clear hw hc hb hlim hp hl g
  go_enter Try.func35, Try.ntmps35
  go_wp2_with fail
  refine wp_plan 8 (.take 0 (.take 1 (.take 2 (.take 3 (.take 4 (.take 5 (.one 6 (.one 7 .fin)))))))) (fun w' => w'.cell? ⟨p, 1, none⟩ = some F ∧ w'.cell? ⟨w.heap.size, 0, none⟩ = some (.int .u8 k) ∧ w'.cell? ⟨w.heap.size, 1, none⟩ = some (.int .i64 a) ∧ w'.cell? ⟨w.heap.size, 2, none⟩ = some (.int .i64 n) ∧ w'.cell? ⟨w.heap.size, 3, none⟩ = some (.int .i64 x) ∧ w'.cell? ⟨w.heap.size, 4, none⟩ = some (str s) ∧ w'.cell? ⟨w.heap.size, 5, none⟩ = some (.slice A1 ps.length c1) ∧ w'.cell? ⟨w.heap.size, 6, none⟩ = some (.int .u64 ww) ∧ w'.cell? ⟨w.heap.size, 7, none⟩ = some (.slice A2 l.length c2)) (by kernel_rfl) (by kernel_rfl) (fun _ _ d_ _ _ h_ => by cases d_ <;> exact h_) (by have h := Hw1.out; exact ⟨h.blk2 1, h.cell (Sc.new rfl), h.cell (Sc.new rfl), h.cell (Sc.new rfl), h.cell (Sc.new rfl), h.cell (Sc.new rfl), h.cell (Sc.new rfl), h.cell (Sc.new rfl), h.cell (Sc.new rfl)⟩) ?_
  refine Pl.takeW rfl rfl ?v1 ?hy1 ?rest1
  case hy1 => intro w_ _; first | (go_simp; done) | (go_simp; with_reducible rfl)
  simp only [Act.put, List.setIfInBounds_toArray, List.set_cons_zero, List.set_cons_succ]
  refine Pl.takeW rfl rfl ?v2 ?hy2 ?rest2
  case hy2 => intro w_ _; first | (go_simp; done) | (go_simp; with_reducible rfl)
  simp only [Act.put, List.setIfInBounds_toArray, List.set_cons_zero, List.set_cons_succ]
  refine Pl.takeW rfl rfl ?v3 ?hy3 ?rest3
  case hy3 => intro w_ _; first | (go_simp; done) | (go_simp; with_reducible rfl)
  simp only [Act.put, List.setIfInBounds_toArray, List.set_cons_zero, List.set_cons_succ]
  refine Pl.takeW rfl rfl ?v4 ?hy4 ?rest4
  case hy4 => intro w_ _; first | (go_simp; done) | (go_simp; with_reducible rfl)
  simp only [Act.put, List.setIfInBounds_toArray, List.set_cons_zero, List.set_cons_succ]
  refine Pl.takeW rfl rfl ?v5 ?hy5 ?rest5
  case hy5 => intro w_ hS_; obtain ⟨c1, d0, d1, d2, d3, d4, d5, d6, d7⟩ := hS_; first | (go_simp; done) | (go_simp; with_reducible rfl)
  simp only [Act.put, List.setIfInBounds_toArray, List.set_cons_zero, List.set_cons_succ]
  refine Pl.takeW rfl rfl ?v6 ?hy6 ?rest6
  case hy6 => intro w_ hS_; obtain ⟨c1, d0, d1, d2, d3, d4, d5, d6, d7⟩ := hS_; first | (go_simp; done) | (go_simp; with_reducible rfl)
  simp only [Act.put, List.setIfInBounds_toArray, List.set_cons_zero, List.set_cons_succ]
  refine Pl.oneW rfl rfl (fun K_ hK_ => ?_)
  go_simp
  refine hK_ _ _ ?_ ?_
  · have h := Hw2.out; exact ⟨h.blk2 1, h.cell (Sc.new rfl), h.cell (Sc.new rfl), h.cell (Sc.new rfl), h.cell (Sc.new rfl), h.cell (Sc.new rfl), h.cell (Sc.new rfl), h.cell (Sc.new rfl), h.cell (Sc.new rfl)⟩
  refine Pl.oneW rfl rfl (fun K_ hK_ => ?_)
  refine wp_append tyForms (.tmp 9) (.tmp 11) rfl rfl Hw2.out ⟨w.heap.size + 1, 0, none⟩ 1 1 [.int .u8 k, .int .i64 a, .int .i64 n, .int .i64 x, str s, .slice A1 ps.length c1, .int .u64 ww, .slice A2 l.length c2] rfl rfl Hn.out (by simp [Value.oneCell']) (by omega) (by unfold maxLen; omega) (fun v' w' hW' => hK_ _ _ ?_ ?_)
  · have h := hW'; exact ⟨h.blk2 1, h.cell (Sc.new rfl), h.cell (Sc.new rfl), h.cell (Sc.new rfl), h.cell (Sc.new rfl), h.cell (Sc.new rfl), h.cell (Sc.new rfl), h.cell (Sc.new rfl), h.cell (Sc.new rfl)⟩
  show wpList _ _ _ _ _ _
  simp only [List.drop_succ_cons, List.drop_zero]
  have e1 : w'.cell? ⟨p, 1, none⟩ = some F := hW'.blk2 1
  have e2 : w'.frozen? ⟨p, 1, none⟩ = false := hW'.free2 1
  obtain ⟨A3, c3, rfl, _, _⟩ := hW'.rowLen
  have HW := hid hW'
  clear hW'
  go_wp2_with fail
  go_ret
  refine Ret.intro (by simp) Hle.out ⟨Hg.out.mono Hle.out, .slice A3 (st.fs.length + 1) c3, B, _, by simpa using (HW.out.swap.store 1 (.slice A3 (st.fs.length + 1) c3)).swap, ?_, Hb.out⟩
  exact (Hc.out.mono Hle.out).snoc ⟨k, a, n, x, s, ps, ww, l⟩ (Hp.out.mono Hle.out) (Hl.out.mono Hle.out)
theorem RX.d0 {p : Nat} {dv : Value} {st : St} {L : List Atom} {S : Seal} {w : World} (h : RX p dv st L S w) : w.cell? ⟨p, 0, none⟩ = some dv := by
  obtain ⟨g, F, B, cells, h1, _⟩ := h; exact h1.blk2 0
theorem RX.glob {p : Nat} {dv : Value} {st : St} {L : List Atom} {S : Seal} {w : World} (h : RX p dv st L S w) : ∃ m : Int, w.cell? ⟨0, 0, none⟩ = some (.int .i64 m) := by
  obtain ⟨⟨m, g⟩, F, B, cells, h1, _⟩ := h; exact ⟨m, h1.cell g⟩
theorem RX.bad {p : Nat} {dv : Value} {st : St} {L : List Atom} {S : Seal} {w : World} (h : RX p dv st L S w) : ∃ B, w.cell? ⟨p, 2, none⟩ = some B ∧ w.frozen? ⟨p, 2, none⟩ = false ∧ BadI B st.bad := by
  obtain ⟨g, F, B, cells, h1, h2, h3⟩ := h; exact ⟨B, h1.blk2 2, h1.free2 2, h3⟩
theorem RX.setBad {p : Nat} {dv : Value} {st : St} {L : List Atom} {S : Seal} {w : World} (h : RX p dv st L S w) {a : Int} (ha : 0 ≤ a) :
    RX p dv { st with bad := some a } L S (w.setCell ⟨p, 2, none⟩ (int a)) := by
  obtain ⟨g, F, B, cells, h1, h2, h3⟩ := h
  exact ⟨g, F, int a, cells, (h1.swap.store 2 _).swap, h2, .inr ⟨a, ha, rfl, rfl⟩⟩
section
variable (p b off c : Nat) (d : List Node) (st : St) (L : List Atom) (S : Seal) (w : World)
set_option maxHeartbeats 1000000 in
theorem R_bit (dv : Value) (at_ n : Int) (r : Nat) (st' : St) (hX : RX p dv st L S w) (hr : bit st at_ n = some (r, st')) :
    Calls Try.prog 36 #[ptr p, .int .i64 at_, .int .i64 n] w (Ret S (RX p dv st' L) (nat r)) := by
  have Hr := hid hr
  have HX := hid hX
  clear hr hX
  go_enter Try.func36, Try.ntmps36
  go_wp2_with fail
  refine (R_put p dv st L S w 2 at_ n 0 [] [] 0 [] (.slice none 0 0) (.slice none 0 0) r st' HX.out (StrsR.nil S) (NatsR.nil S) Hr.out).mono ?_
  rintro e w1 ⟨rfl, S1, k1, hX1⟩
  go_wp2_with fail
  go_ret
  exact Ret.intro rfl k1 hX1
set_option maxRecDepth 100000 in
set_option maxHeartbeats 1000000 in
theorem R_wrong (i : Nat) (hX : RX p (dval b off c d) st L S w) (hE : Env S b off c d) (hi : i < d.length) :
    Calls Try.prog 37 #[ptr p, nat i] w (Ret S (RX p (dval b off c d) (wrong d st i).2 L) (nat 0)) := by
  obtain ⟨lv, hN⟩ := hE.at_ i hi
  obtain ⟨B, e1, e2, hB⟩ := hX.bad
  have hlen := Dat.len hE
  have hiI : (i : Int) < (d.length : Int) := by omega
  have x0 := hX.d0
  have c1 := hX.cell hN.c1
  have HX := hid hX
  have Hat := hid (hE.dat.at0 i hi)
  clear hE hN hX
  rcases hB with ⟨hb, rfl⟩ | ⟨a', ha, hb, rfl⟩
  · have Hb := hid hb
    clear hb
    go_enter Try.func37, Try.ntmps37
    go_wp2_with fail
    go_ret
    refine Ret.intro rfl (Seal.le.refl S) ?_
    have := HX.out.setBad Hat.out
    simpa [wrong, wrongAt, Hb.out] using this
  · have Hb := hid hb
    clear hb
    have hq : ¬ a' < 0 := by omega
    go_enter Try.func37, Try.ntmps37
    go_wp2_with fail
    go_ret
    refine Ret.intro rfl (Seal.le.refl S) ?_
    simpa [wrong, wrongAt, Hb.out] using HX.out
theorem R_wrongR (i r : Nat) (st' : St) (hX : RX p (dval b off c d) st L S w) (hE : Env S b off c d) (hi : i < d.length) (hr : some (wrong d st i) = some (r, st')) :
    Calls Try.prog 37 #[ptr p, nat i] w (Ret S (RX p (dval b off c d) st' L) (nat r)) := by
  simp only [Option.some.injEq] at hr
  have h1 : r = 0 := by rw [show r = (wrong d st i).1 by rw [hr]]; rfl
  have h2 : st' = (wrong d st i).2 := by rw [hr]
  subst h1 h2
  exact R_wrong p b off c d st L S w i hX hE hi
end
end Go.Proofs.Ytjjbidajkmodfaa
namespace Go.Proofs.Ytjjbidajkmodfaa
open Go Go.RowKit
theorem Wd.rowStore {S : Seal} {L : List Atom} {w : World} {e size n g c : Nat} {xs : List Value} (h : Wd S (.row e size (.slice (some ⟨g, 0, none⟩) n c) n xs :: L) w) (j : Nat) (u : Value) :
    Wd S (.row e size (.slice (some ⟨g, 0, none⟩) n c) n (xs.set j u) :: L) (w.setCell ⟨g, j, none⟩ u) := by
  obtain ⟨h1, h2⟩ := (h.own _ List.mem_cons_self : w.ownsRow 0 e size _ n xs).stored j u
  exact h.turn h2.os h2.tape h2.output (fun b hb hne => h2.block b hb (fun e => hne e.symm)) h1 fun b hb => .inl hb
theorem Xs.rowStore {X : List Atom → Seal → World → Prop} (x : Xs X) {S : Seal} {L : List Atom} {w : World} {e size n g c : Nat} {xs : List Value} (h : X (.row e size (.slice (some ⟨g, 0, none⟩) n c) n xs :: L) S w) (j : Nat) (u : Value) :
    X (.row e size (.slice (some ⟨g, 0, none⟩) n c) n (xs.set j u) :: L) S (w.setCell ⟨g, j, none⟩ u) := by
  obtain ⟨H, k, b⟩ := x.front h
  exact b _ _ _ (.refl S) (k.rowStore j u)
theorem Xs.rowFree {X : List Atom → Seal → World → Prop} (x : Xs X) {S : Seal} {L : List Atom} {w : World} {e size n g c : Nat} {xs : List Value} (h : X (.row e size (.slice (some ⟨g, 0, none⟩) n c) n xs :: L) S w) (j : Nat) : w.frozen? ⟨g, j, none⟩ = false := by
  obtain ⟨H, k, b⟩ := x.front h
  exact (k.own _ List.mem_cons_self : w.ownsRow 0 e size _ n xs).frozenAt j
theorem Xs.makeRow {X : List Atom → Seal → World → Prop} (x : Xs X) {P : Program} {t e size bytes : Nat} {S : Seal} {L : List Atom} {w : World} (ht : P.underlying t = some (.slice e)) {z : Value} (hi : (P.info? e).map (fun i => (i.zero, i.size, i.bytes)) = some (some z, size, bytes))
    (h : X L S w) (n : Nat) (hb : bytes * n ≤ 281474976710656) (hm : n ≤ maxLen) :
    (Instr.makeSlice t (.int .i64 (n : Int)) (.int .i64 (n : Int))).run P w = .ok (.slice (some ⟨w.heap.size, 0, none⟩) n n) (w.alloc (.cells (madeCells z.cells (n * size)) e)) ∧
      X (.row e size (.slice (some ⟨w.heap.size, 0, none⟩) n n) n (madeCells z.cells (n * size)).toList :: L) S (w.alloc (.cells (madeCells z.cells (n * size)) e)) := by
  cases hq : P.info? e with
  | none => rw [hq] at hi; cases hi
  | some i =>
    rw [hq] at hi
    simp only [Option.map_some, Option.some.injEq, Prod.mk.injEq] at hi
    obtain ⟨hz, rfl, rfl⟩ := hi
    have h63 : ((n : Nat) : Int) ≤ 9223372036854775807 := by unfold maxLen at hm; omega
    have hb' : (i.bytes : Int) * (n : Int) ≤ 281474976710656 := by
      have h : ((i.bytes * n : Nat) : Int) ≤ 281474976710656 := by omega
      rwa [Int.natCast_mul] at h
    have hr := run_make (P := P) w t e i z ht hq hz .i64 .i64 (n : Int) (n : Int) (by omega) (Int.le_refl _) hb' h63
    simp only [Int.toNat_natCast] at hr
    refine ⟨hr, ?_⟩
    obtain ⟨H, k, b⟩ := x.front (x.allocOwn h (madeCells z.cells (n * i.size)) e)
    refine b _ _ _ (.refl S) ⟨k.os, k.tape, k.output, k.kept, fun a ha => ?_, fun a ha b hb => ?_, k.apart⟩
    · rcases List.mem_cons.1 ha with rfl | ha
      · exact World.ownsRow_lit (base := 0) (size := i.size) w _ n (Nat.zero_le _) hm (size_madeCells _ _)
      · exact k.own a (List.mem_cons_of_mem _ ha)
    · rcases List.mem_cons.1 ha with rfl | ha
      · cases hb; exact k.free _ List.mem_cons_self _ rfl
      · exact k.free a (List.mem_cons_of_mem _ ha) b hb
set_option maxRecDepth 100000 in
set_option maxHeartbeats 8000000 in
theorem R_right {X : List Atom → Seal → World → Prop} (X1 : Xs X) (L : List Atom) (S : Seal) (w : World) (A : Option Addr) (c : Nat) (kd at_ n : Int) (s : Str) (l : List Int) (hll : l.length ≤ 9223372036854775807) (hX : X L S w) :
    Calls Try.prog 34 #[.agg #[.int .u8 kd, int at_, int n, str s, .slice A l.length c]] w (Ret S (X L) (.bool (decide (Right ⟨kd, at_, n, s, l⟩)))) := by
  have Hk := hid (X1.le_alloc hX (.cells #[.int .u8 kd, int at_, int n, str s, .slice A l.length c] 60))
  have HX := hid (X1.alloc hX (.cells #[.int .u8 kd, int at_, int n, str s, .slice A l.length c] 60))
  clear hX
  by_cases hat : at_ < 0
  · skip
    rw [show decide (Right ⟨kd, at_, n, s, l⟩) = false from by (rw [decide_eq_false_iff_not]; rintro ⟨h, _⟩; exact absurd h (by dsimp only; omega))]
    skip
    go_enter Try.func34, Try.ntmps34
    go_wp2_with fail
    go_ret
    exact Ret.intro (by simp [Act.eval]) Hk.out HX.out
  have hat0 : 0 ≤ at_ := by omega
  by_cases h3 : kd = 3
  · subst h3
    cases l with
    | nil =>
      by_cases hn : n = 0
      · subst hn
        rw [show decide (Right ⟨3, at_, 0, s, []⟩) = true from by (rw [decide_eq_true_eq]; exact ⟨hat0, .inr rfl, .inr (.inr (.inl ⟨rfl, rfl⟩))⟩)]
        skip
        go_enter Try.func34, Try.ntmps34
        go_wp2_with fail
        go_ret
        exact Ret.intro (by simp [Act.eval]) Hk.out HX.out
      · have hn1 : (n == 0) = false := beq_eq_false_iff_ne.2 hn
        rw [show decide (Right ⟨3, at_, n, s, []⟩) = false from by (rw [decide_eq_false_iff_not]; rintro ⟨_, _, h | h | h | h⟩ <;> simp_all)]
        clear hn
        go_enter Try.func34, Try.ntmps34
        go_wp2_with fail
        go_ret
        exact Ret.intro (by simp [Act.eval]) Hk.out HX.out
    | cons y ys =>
      have hyl : (0 : Int) < ((y :: ys).length : Int) := by rw [List.length_cons]; omega
      rw [show decide (Right ⟨3, at_, n, s, y :: ys⟩) = false from by (rw [decide_eq_false_iff_not]; rintro ⟨_, h | h, _⟩ <;> simp_all)]
      skip
      go_enter Try.func34, Try.ntmps34
      go_wp2_with fail
      go_ret
      exact Ret.intro (by simp [Act.eval]) Hk.out HX.out
  have e3 : (kd != 3) = true := by simpa using h3
  have e3' : (kd == 3) = false := by simpa using h3
  cases s with
  | cons y ys =>
    rw [show decide (Right ⟨kd, at_, n, y :: ys, l⟩) = false from by (rw [decide_eq_false_iff_not]; rintro ⟨_, _, h | h | h | h⟩ <;> simp_all)]
    clear h3
    go_enter Try.func34, Try.ntmps34
    go_wp2_with fail
    go_ret
    exact Ret.intro (by simp [Act.eval]) Hk.out HX.out
  | nil =>
    by_cases h4 : kd = 4
    · subst h4
      by_cases hn : n = 0
      · subst hn
        rw [show decide (Right ⟨4, at_, 0, [], l⟩) = true from by (rw [decide_eq_true_eq]; exact ⟨hat0, .inl rfl, .inr (.inr (.inr ⟨rfl, rfl, rfl⟩))⟩)]
        clear h3
        go_enter Try.func34, Try.ntmps34
        go_wp2_with fail
        go_ret
        exact Ret.intro (by simp [Act.eval]) Hk.out HX.out
      · have hn1 : (n == 0) = false := beq_eq_false_iff_ne.2 hn
        rw [show decide (Right ⟨4, at_, n, [], l⟩) = false from by (rw [decide_eq_false_iff_not]; rintro ⟨_, _, h | h | h | h⟩ <;> simp_all)]
        clear hn h3
        go_enter Try.func34, Try.ntmps34
        go_wp2_with fail
        go_ret
        exact Ret.intro (by simp [Act.eval]) Hk.out HX.out
    have e4 : (kd != 4) = true := by simpa using h4
    have e4' : (kd == 4) = false := by simpa using h4
    cases l with
    | cons y ys =>
      have hyl : (0 : Int) < ((y :: ys).length : Int) := by rw [List.length_cons]; omega
      rw [show decide (Right ⟨kd, at_, n, [], y :: ys⟩) = false from by (rw [decide_eq_false_iff_not]; rintro ⟨_, h | h, _⟩ <;> simp_all)]
      clear h3 h4
      go_enter Try.func34, Try.ntmps34
      go_wp2_with fail
      go_ret
      exact Ret.intro (by simp [Act.eval]) Hk.out HX.out
    | nil =>
      by_cases h1 : kd = 1
      · subst h1
        rw [show decide (Right ⟨1, at_, n, [], []⟩) = true from by (rw [decide_eq_true_eq]; exact ⟨hat0, .inr rfl, .inl ⟨rfl, rfl⟩⟩)]
        clear h3 h4
        go_enter Try.func34, Try.ntmps34
        go_wp2_with fail
        go_ret
        exact Ret.intro (by simp [Act.eval]) Hk.out HX.out
      have e1' : (kd == 1) = false := by simpa using h1
      by_cases h2 : kd = 2
      · subst h2
        by_cases hn : n = 0
        · subst hn
          rw [show decide (Right ⟨2, at_, 0, [], []⟩) = true from by (rw [decide_eq_true_eq]; exact ⟨hat0, .inr rfl, .inr (.inl ⟨rfl, rfl, .inl rfl⟩)⟩)]
          clear h1 h3 h4
          go_enter Try.func34, Try.ntmps34
          go_wp2_with fail
          go_ret
          exact Ret.intro (by simp [Act.eval]) Hk.out HX.out
        · have hn0 : (n == 0) = false := beq_eq_false_iff_ne.2 hn
          by_cases hm : n = 1
          · subst hm
            rw [show decide (Right ⟨2, at_, 1, [], []⟩) = true from by (rw [decide_eq_true_eq]; exact ⟨hat0, .inr rfl, .inr (.inl ⟨rfl, rfl, .inr rfl⟩)⟩)]
            clear hn h1 h3 h4
            go_enter Try.func34, Try.ntmps34
            go_wp2_with fail
            go_ret
            exact Ret.intro (by simp [Act.eval]) Hk.out HX.out
          · have hm0 : (n == 1) = false := beq_eq_false_iff_ne.2 hm
            rw [show decide (Right ⟨2, at_, n, [], []⟩) = false from by (rw [decide_eq_false_iff_not]; rintro ⟨_, _, h | h | h | h⟩ <;> simp_all)]
            clear hn hm h1 h3 h4
            go_enter Try.func34, Try.ntmps34
            go_wp2_with fail
            go_ret
            exact Ret.intro (by simp [Act.eval]) Hk.out HX.out
      have e2' : (kd == 2) = false := by simpa using h2
      rw [show decide (Right ⟨kd, at_, n, [], []⟩) = false from by (rw [decide_eq_false_iff_not]; rintro ⟨_, _, h | h | h | h⟩ <;> simp_all)]
      clear h1 h2 h3 h4
      go_enter Try.func34, Try.ntmps34
      go_wp2_with fail
      go_ret
      exact Ret.intro (by simp [Act.eval]) Hk.out HX.out
def marks (seen : List Int) (n : Nat) : List Value := (List.range n).map fun j : Nat => .bool (decide ((j : Int) ∈ seen))
theorem marks_len (seen : List Int) (n : Nat) : (marks seen n).length = n := by simp [marks]
theorem marks_get (seen : List Int) {n j : Nat} (h : j < n) : (marks seen n)[j]? = some (.bool (decide ((j : Int) ∈ seen))) := by
  simp [marks, h]
theorem marks_set (seen : List Int) {n j : Nat} (h : j < n) : (marks seen n).set j (.bool true) = marks (seen ++ [(j : Int)]) n := by
  apply List.ext_getElem?
  intro k
  rw [List.getElem?_set]
  by_cases hk : k < n
  · rw [marks_get (seen ++ [(j : Int)]) hk]
    by_cases e : j = k
    · subst e; rw [if_pos rfl, if_pos (by rw [marks_len]; exact h)]; simp
    · rw [if_neg e, marks_get seen hk]
      have : ¬ ((k : Int) = (j : Int)) := by omega
      simp [this]
  · rw [List.getElem?_eq_none (by rw [marks_len]; omega), List.getElem?_eq_none (by rw [marks_len]; omega)]
    split
    · omega
    · rfl
theorem marks_made (n : Nat) : (madeCells (Value.bool false).cells (n * 1)).toList = marks [] n := by
  rw [Nat.mul_one, show (Value.bool false).cells = #[.bool false] from rfl, toList_madeCells_one]
  unfold marks
  apply List.ext_getElem?
  intro k
  by_cases hk : k < n
  · simp [hk]
  · rw [List.getElem?_eq_none (by simp; omega), List.getElem?_eq_none (by simp; omega)]
def RMayRel (X : List Atom → Seal → World → Prop) (rd : List RNode) (g e : Nat) (L : List Atom) (S : Seal) (i : Value) (wr : World) : Prop :=
  ∃ k seen S1, k ≤ rd.length ∧ i = nat k ∧ S.le S1 ∧ X (.row e 1 (.slice (some ⟨g, 0, none⟩) rd.length rd.length) rd.length (marks seen rd.length) :: L) S1 wr ∧ mayGo seen k (rd.drop k) = mayB rd
def RLinksRel (X : List Atom → Seal → World → Prop) (n k : Nat) (l : List Int) (r : Option (List Int)) (g e : Nat) (L : List Atom) (S : Seal) (i : Value) (wr : World) : Prop :=
  ∃ j seen S1, j ≤ l.length ∧ i = nat j ∧ S.le S1 ∧ X (.row e 1 (.slice (some ⟨g, 0, none⟩) n n) n (marks seen n) :: L) S1 wr ∧ linksGo k seen (l.drop j) = r
set_option maxRecDepth 100000 in
set_option maxHeartbeats 40000000 in
theorem R_May {X : List Atom → Seal → World → Prop} (X1 : Xs X) (L : List Atom) (S : Seal) (w : World) (v : Value) (rd : List RNode) (hX : X L S w) (hR : RNodesR S v rd) (hsz : rd.length ≤ 281474976710656) :
    Calls Try.prog 25 #[v] w (Ret S (X L) (.bool (mayB rd))) := by
  obtain ⟨A, cc, rfl, hr1, hr2⟩ := hR.shape
  have hlen := hR.len
  obtain ⟨hmk, hX0⟩ := X1.makeRow (P := Try.prog) (t := 83) (e := 4) (size := 1) (bytes := 1) (z := .bool false) Try.underlying83 (by kernel_rfl) hX rd.length (by omega) (by unfold maxLen; omega)
  rw [marks_made] at hX0
  generalize w.alloc _ = W0 at hmk hX0
  generalize w.heap.size = g at hmk hX0
  have HX0 := hid hX0
  have HR := hid hR
  clear hX hX0 hR
  go_enter Try.func25, Try.ntmps25
  go_wp2_with fail
  clear hmk
  go_loopw [4] (fun i wr => RMayRel X rd g 4 L S i wr) (fun i _ => rd.length - (intOf i).toNat)
  case atStart => exact ⟨0, [], S, Nat.zero_le _, rfl, Seal.le.refl S, HX0.out, rfl⟩
  case round =>
    obtain ⟨k, seen, S1, hk, rfl, hS1, hX1, hr⟩ := hrel
    by_cases hlt : k < rd.length
    · obtain ⟨b, off, rfl, lv, hN⟩ := (HR.out.mono hS1).at_ hlt
      have hd : rd.drop k = rd[k] :: rd.drop (k + 1) := List.drop_eq_getElem_cons hlt
      rw [hd, mayGo] at hr
      clear hd
      generalize rd[k] = x at *
      obtain ⟨kd, at_, n, s, l⟩ := x
      obtain ⟨A5, c5, rfl, hl5, hl6⟩ := Sl.shape hN.l
      have c0 := X1.cell hX1 hN.c0
      have c1 := X1.cell hX1 hN.c1
      have c2 := X1.cell hX1 hN.c2
      have c3 := X1.cell hX1 hN.c3
      have c4 := X1.cell hX1 hN.c4
      have hkI : (k : Int) < (rd.length : Int) := by omega
      have Hrt := hid (R_right (X1.cons _) L S1 wr A5 c5 kd at_ n s l hN.l.len hX1)
      have HS1 := hid hS1
      have HN := hid hN
      have hlln := hN.l.len
      dsimp only at *
      by_cases hRt : Right ⟨kd, at_, n, s, l⟩
      case neg =>
        rw [if_neg hRt] at hr
        rw [decide_eq_false hRt] at Hrt
        have Hno := hid hr.symm
        clear hr hRt hX1 hN hS1
        go_wp2_with fail
        refine (Hrt.out).mono ?_
        rintro e w3 ⟨rfl, S3, k3, hX3⟩
        have HX3 := hid (X1.dropAtom hX3)
        have HK3 := hid (HS1.out.trans k3)
        clear hX3 k3
        go_wp2_with fail
        go_ret
        exact Ret.intro (by simp [Act.eval, Hno.out]) HK3.out HX3.out
      rw [if_pos hRt] at hr
      rw [decide_eq_true hRt] at Hrt
      have Hyes := hid hr
      clear hr hRt hX1 hN hS1
      go_wp2_with fail
      refine (Hrt.out).mono ?_
      rintro e w3 ⟨rfl, S3, k3, hX3⟩
      have HX3 := hid hX3
      have HK3 := hid (HS1.out.trans k3)
      have HN3 := hid (HN.out.mono k3)
      clear hX3 k3 c0 c1 c2 c3 c4
      go_wp2_with fail
      go_loopw [6] (fun i wr => RLinksRel X rd.length k l (linksGo k seen l) g 4 L S3 i wr) (fun i _ => l.length - (intOf i).toNat)
      case atStart => exact ⟨0, seen, S3, Nat.zero_le _, rfl, Seal.le.refl _, HX3.out, rfl⟩
      case round =>
        obtain ⟨j, seen2, S4, hj, rfl, hS4, hX4, hr4⟩ := hrel
        have c4 := X1.cell (X1.dropAtom hX4) (HN3.out.c4.mono hS4)
        have HX4 := hid hX4
        have HS4 := hid (HK3.out.trans hS4)
        have HT4 := hid hS4
        by_cases hlt2 : j < l.length
        · obtain ⟨b5, o5, c6, hv, _, _, hc⟩ := HN3.out.l.at_ (by intro h; dsimp only at h; rw [h] at hlt2; simp at hlt2)
          simp only [Value.slice.injEq, true_and] at hv
          obtain ⟨rfl, rfl⟩ := hv
          have f1 := X1.cell (X1.dropAtom hX4) ((hc j _ (List.getElem?_eq_some_iff.2 ⟨hlt2, rfl⟩)).mono hS4)
          have hd : l.drop j = l[j] :: l.drop (j + 1) := List.drop_eq_getElem_cons hlt2
          rw [hd, linksGo_cons] at hr4
          have hjI : (j : Int) < (l.length : Int) := by omega
          generalize l[j] = q at *
          clear hd hc hX4 hS4
          by_cases hq0 : q < 0
          · rw [if_pos (.inl hq0)] at hr4
            have Hno := hid (show false = mayB rd by rw [← Hyes.out, ← hr4])
            clear hr4
            go_wp2_with fail
            go_ret
            exact Ret.intro (by simp [Act.eval, ← Hno.out]) HS4.out (X1.dropAtom HX4.out)
          by_cases hq1 : (k : Int) ≤ q
          · rw [if_pos (.inr (.inl hq1))] at hr4
            have Hno := hid (show false = mayB rd by rw [← Hyes.out, ← hr4])
            clear hr4
            go_wp2_with fail
            go_ret
            exact Ret.intro (by simp [Act.eval, ← Hno.out]) HS4.out (X1.dropAtom HX4.out)
          obtain ⟨m, rfl⟩ : ∃ m : Nat, q = (m : Int) := ⟨q.toNat, by omega⟩
          have hmk : m < k := by omega
          have hml : m < rd.length := by omega
          have hmI : (m : Int) < (rd.length : Int) := by omega
          obtain ⟨g', c7, hv, fm⟩ := X1.rowCell HX4.out (marks_get seen2 hml)
          simp only [Value.slice.injEq, Option.some.injEq, Addr.mk.injEq, true_and, and_true] at hv
          obtain ⟨rfl, rfl⟩ := hv
          by_cases hq2 : (m : Int) ∈ seen2
          · rw [if_pos (.inr (.inr hq2))] at hr4
            rw [decide_eq_true hq2] at fm
            have Hno := hid (show false = mayB rd by rw [← Hyes.out, ← hr4])
            clear hr4 hq2
            go_wp2_with fail
            go_ret
            exact Ret.intro (by simp [Act.eval, ← Hno.out]) HS4.out (X1.dropAtom HX4.out)
          · rw [if_neg (by rintro (h | h | h) <;> contradiction)] at hr4
            rw [decide_eq_false hq2] at fm
            have hX5 := X1.rowStore HX4.out m (.bool true)
            rw [marks_set seen2 hml] at hX5
            have ff := X1.rowFree HX4.out m
            have HX5 := hid hX5
            have Hr4 := hid hr4
            clear hX5 hr4 hq2
            go_wp2_with fail
            go_roundw
            case rel => exact ⟨j + 1, seen2 ++ [(m : Int)], S4, by omega, by go_num, HT4.out, HX5.out, Hr4.out⟩
            case measure => simp [intOf]; omega
        · have hj' : j = l.length := by omega
          rw [hj', List.drop_length, linksGo] at hr4
          have hy : mayGo seen2 (k + 1) (rd.drop (k + 1)) = mayB rd := by rw [← Hyes.out, ← hr4]
          have Hy := hid hy
          clear hy hr4 hX4 hS4
          go_wp2_with fail
          go_roundw
          case rel => exact ⟨k + 1, seen2, S4, by omega, by go_num, HS4.out, HX4.out, Hy.out⟩
          case measure => simp [intOf]; omega
    · have hk' : k = rd.length := by omega
      rw [hk', List.drop_length, mayGo] at hr
      have Hr := hid hr
      have HX1 := hid (X1.dropAtom hX1)
      have HS1 := hid hS1
      clear hr hX1 hS1
      go_wp2_with fail
      go_ret
      exact Ret.intro (by simp [Act.eval, ← Hr.out]) HS1.out HX1.out
end Go.Proofs.Ytjjbidajkmodfaa
