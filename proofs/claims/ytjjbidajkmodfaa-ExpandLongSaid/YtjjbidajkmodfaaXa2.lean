/- Texts P1, Res, P2, P3, P4, P5, P6 of the proof. What each theorem says stands in its own statement. No condition beyond those that it names. -/
import Derived.Test.YtjjbidajkmodfaaXa1
import Derived.Test.YtjjbidajkmodfaaProg
import Derived.Lib.IndexMore
set_option linter.unusedVariables false
set_option linter.unusedSimpArgs false
namespace Go.Proofs.Ytjjbidajkmodfaa
open Go Go.RowKit
theorem tyForms : SliceTy Try.prog 25 41 8 104 := SliceTy.of Try.underlying25 (by kernel_rfl : _ = some (some (.agg #[.int .u8 0, .int .i64 0, .int .i64 0, .int .i64 0, .string ⟨#[]⟩, .slice none 0 0, .int .u64 0, .slice none 0 0]), 8, 104)) rfl (by decide)
theorem tyInts : SliceTy Try.prog 23 3 1 8 := SliceTy.of Try.underlying23 (by kernel_rfl : _ = some (some (.int .i64 0), 1, 8)) rfl (by decide)
theorem tyStrs : SliceTy Try.prog 37 9 1 16 := SliceTy.of Try.underlying37 (by kernel_rfl : _ = some (some (.string ⟨#[]⟩), 1, 16)) rfl (by decide)
def Glob (S : Seal) : Prop := ∃ m : Int, Sc S 0 0 (.int .i64 m)
theorem Glob.mono {S S' : Seal} (k : S.le S') (h : Glob S) : Glob S' := let ⟨m, x⟩ := h; ⟨m, x.mono k⟩
def BadP (S : Seal) (B : Value) (bad : Option Int) : Prop :=
  (bad = none ∧ B = .pointer none) ∨ ∃ b o a, B = .pointer (some ⟨b, o, none⟩) ∧ Sc S b (o + 1) (.int .i64 a) ∧ bad = some a
theorem BadP.mono {S S' : Seal} (k : S.le S') {B : Value} {bad : Option Int} (h : BadP S B bad) : BadP S' B bad := by
  rcases h with h | ⟨b, o, a, h1, h2, h3⟩
  · exact .inl h
  · exact .inr ⟨b, o, a, h1, h2.mono k, h3⟩
def PX (p : Nat) (dv : Value) (st : St) (L : List Atom) (S : Seal) (w : World) : Prop :=
  Glob S ∧ ∃ F B cells, Wd S (.row 41 8 F st.fs.length cells :: .blk p #[dv, F, B] 57 :: L) w ∧ FormsC S cells st.fs ∧ BadP S B st.bad
theorem PX.xs (p : Nat) (dv : Value) (st : St) : Xs (PX p dv st) := by
  intro L S w h
  obtain ⟨g, F, B, cells, h1, h2, h3⟩ := h
  exact ⟨[_, _], h1, fun L' S' w' k hw => ⟨g.mono k, F, B, cells, hw, h2.mono k, h3.mono k⟩⟩
section
variable {p : Nat} {dv : Value} {st : St} {L : List Atom} {S : Seal} {w : World}
theorem PX.alloc (h : PX p dv st L S w) (o : Obj) : PX p dv st L (S.put w.heap.size o) (w.alloc o) := by
  obtain ⟨g, F, B, cells, h1, h2, h3⟩ := h
  have k := h1.le_alloc o
  exact ⟨g.mono k, F, B, cells, h1.alloc o, h2.mono k, h3.mono k⟩
theorem PX.le_alloc (h : PX p dv st L S w) (o : Obj) : S.le (S.put w.heap.size o) := by
  obtain ⟨g, F, B, cells, h1, _⟩ := h; exact h1.le_alloc o
theorem PX.drew (h : PX p dv st L S w) : PX p dv st L S w.drew := by
  obtain ⟨g, F, B, cells, h1, h2, h3⟩ := h
  exact ⟨g, F, B, cells, h1.drew, h2, h3⟩
theorem PX.cell (h : PX p dv st L S w) {b o : Nat} {v : Value} (c : Sc S b o v) : w.cell? ⟨b, o, none⟩ = some v := by
  obtain ⟨g, F, B, cells, h1, _⟩ := h; exact h1.cell c
theorem Wd.blk2 {a : Atom} {b : Nat} {c : Array Value} {t : TypeId} (h : Wd S (a :: .blk b c t :: L) w) (i : Nat) : w.cell? ⟨b, i, none⟩ = c[i]? := h.swap.blkCell i
theorem Wd.free2 {a : Atom} {b : Nat} {c : Array Value} {t : TypeId} (h : Wd S (a :: .blk b c t :: L) w) (i : Nat) : w.frozen? ⟨b, i, none⟩ = false := h.swap.blkFree i
theorem Wd.lt2 {a : Atom} {b : Nat} {c : Array Value} {t : TypeId} (h : Wd S (a :: .blk b c t :: L) w) : b < w.heap.size := h.swap.blkLt
end
def formCells (f : Form) (pv lv : Value) : Array Value := #[.int .u8 f.kind, .int .i64 f.at_, .int .i64 f.n, .int .i64 f.a, str f.s, pv, .int .u64 f.w, lv]
set_option maxRecDepth 100000 in
set_option maxHeartbeats 1000000 in
theorem P_put (p : Nat) (dv : Value) (st : St) (L : List Atom) (S : Seal) (w : World) (k a n x : Int) (s : Str) (ps : List Str) (ww : Int) (l : List Nat) (pv lv : Value) (r : Nat) (st' : St)
    (hX : PX p dv st L S w) (hp : StrsR S pv ps) (hl : NatsR S lv l) (hr : put st ⟨k, a, n, x, s, ps, ww, l⟩ = some (r, st')) :
    Calls Try.prog 48 #[.pointer (some ⟨p, 0, none⟩), .agg #[.int .u8 k, .int .i64 a, .int .i64 n, .int .i64 x, str s, pv, .int .u64 ww, lv]] w (Ret S (PX p dv st' L) (nat r)) := by
  obtain ⟨g, F, B, cells, hw, hc, hb⟩ := hX
  unfold put at hr
  split at hr
  case isFalse => cases hr
  rename_i hlim
  simp only [Option.some.injEq, Prod.mk.injEq] at hr
  obtain ⟨rfl, rfl⟩ := hr
  have hlt := hw.lt2
  have Hlim : st.fs.length < 1099511627776 := hlim
  obtain ⟨A1, c1, rfl, _, _⟩ := Sl.shape hp
  obtain ⟨A2, c2, rfl, _, _⟩ := Sl.shape hl
  have Hp := hid hp
  have Hl := hid hl
  have Hc := hid hc
  have Hb := hid hb
  have Hg := hid g
  have Hle := hid (hw.le_alloc (.cells #[.int .u8 k, .int .i64 a, .int .i64 n, .int .i64 x, str s, .slice A1 ps.length c1, .int .u64 ww, .slice A2 l.length c2] 41))
  have Hf : Hid (w.cell? ⟨p, 1, none⟩ = some F) := hw.blk2 1
  have Hw1 := hid (hw.alloc (.cells #[.int .u8 k, .int .i64 a, .int .i64 n, .int .i64 x, str s, .slice A1 ps.length c1, .int .u64 ww, .slice A2 l.length c2] 41))
  have Hw2 := hid (Hw1.out.alloc0 (.cells #[.int .u8 k, .int .i64 a, .int .i64 n, .int .i64 x, str s, .slice A1 ps.length c1, .int .u64 ww, .slice A2 l.length c2] 41)).drew
  have Hn := hid (cells_new (w.alloc (.cells #[.int .u8 k, .int .i64 a, .int .i64 n, .int .i64 x, str s, .slice A1 ps.length c1, .int .u64 ww, .slice A2 l.length c2] 41)) (w.heap.size + 1) (by simp)
    [.int .u8 k, .int .i64 a, .int .i64 n, .int .i64 x, str s, .slice A1 ps.length c1, .int .u64 ww, .slice A2 l.length c2] 41)
  clear hw hc hb hlim hp hl g
  go_enter Try.func48, Try.ntmps48
  go_wp2_with fail
  refine wp_plan 8 (.take 0 (.take 1 (.take 2 (.take 3 (.take 4 (.take 5 (.one 6 (.one 7 .fin)))))))) (fun w' => w'.cell? ⟨p, 1, none⟩ = some F ∧ w'.cell? ⟨w.heap.size, 0, none⟩ = some (.int .u8 k) ∧ w'.cell? ⟨w.heap.size, 1, none⟩ = some (.int .i64 a) ∧ w'.cell? ⟨w.heap.size, 2, none⟩ = some (.int .i64 n) ∧ w'.cell? ⟨w.heap.size, 3, none⟩ = some (.int .i64 x) ∧ w'.cell? ⟨w.heap.size, 4, none⟩ = some (str s) ∧ w'.cell? ⟨w.heap.size, 5, none⟩ = some (.slice A1 ps.length c1) ∧ w'.cell? ⟨w.heap.size, 6, none⟩ = some (.int .u64 ww) ∧ w'.cell? ⟨w.heap.size, 7, none⟩ = some (.slice A2 l.length c2)) (by kernel_rfl) (by kernel_rfl) (fun _ _ d_ _ _ h_ => by cases d_ <;> exact h_) (by have h := Hw1.out; exact ⟨h.blk2 1, h.cell (Sc.new rfl), h.cell (Sc.new rfl), h.cell (Sc.new rfl), h.cell (Sc.new rfl), h.cell (Sc.new rfl), h.cell (Sc.new rfl), h.cell (Sc.new rfl), h.cell (Sc.new rfl)⟩) ?_
  refine Pl.takeW rfl rfl ?v1 ?hy1 ?rest1
  case hy1 => intro w_ _; first | (go_simp; done) | (go_simp; with_reducible rfl)
  simp only [Act.put, List.setIfInBounds_toArray, List.set_cons_zero, List.set_cons_succ]
  refine Pl.takeW rfl rfl ?v2 ?hy2 ?rest2
  case hy2 => intro w_ _; first | (go_simp; done) | (go_simp; with_reducible rfl)
  simp only [Act.put, List.setIfInBounds_toArray, List.set_cons_zero, List.set_cons_succ]
  refine Pl.takeW rfl rfl ?v3 ?hy3 ?rest3
  case hy3 => intro w_ _; first | (go_simp; done) | (go_simp; with_reducible rfl)
  simp only [Act.put, List.setIfInBounds_toArray, List.set_cons_zero, List.set_cons_succ]
  refine Pl.takeW rfl rfl ?v4 ?hy4 ?rest4
  case hy4 => intro w_ _; first | (go_simp; done) | (go_simp; with_reducible rfl)
  simp only [Act.put, List.setIfInBounds_toArray, List.set_cons_zero, List.set_cons_succ]
  refine Pl.takeW rfl rfl ?v5 ?hy5 ?rest5
  case hy5 => intro w_ hS_; obtain ⟨c1, d0, d1, d2, d3, d4, d5, d6, d7⟩ := hS_; first | (go_simp; done) | (go_simp; with_reducible rfl)
  simp only [Act.put, List.setIfInBounds_toArray, List.set_cons_zero, List.set_cons_succ]
  refine Pl.takeW rfl rfl ?v6 ?hy6 ?rest6
  case hy6 => intro w_ hS_; obtain ⟨c1, d0, d1, d2, d3, d4, d5, d6, d7⟩ := hS_; first | (go_simp; done) | (go_simp; with_reducible rfl)
  simp only [Act.put, List.setIfInBounds_toArray, List.set_cons_zero, List.set_cons_succ]
  refine Pl.oneW rfl rfl (fun K_ hK_ => ?_)
  go_simp
  refine hK_ _ _ ?_ ?_
  · have h := Hw2.out; exact ⟨h.blk2 1, h.cell (Sc.new rfl), h.cell (Sc.new rfl), h.cell (Sc.new rfl), h.cell (Sc.new rfl), h.cell (Sc.new rfl), h.cell (Sc.new rfl), h.cell (Sc.new rfl), h.cell (Sc.new rfl)⟩
  refine Pl.oneW rfl rfl (fun K_ hK_ => ?_)
  refine wp_append tyForms (.tmp 9) (.tmp 11) rfl rfl Hw2.out ⟨w.heap.size + 1, 0, none⟩ 1 1 [.int .u8 k, .int .i64 a, .int .i64 n, .int .i64 x, str s, .slice A1 ps.length c1, .int .u64 ww, .slice A2 l.length c2] rfl rfl Hn.out (by simp [Value.oneCell']) (by omega) (by unfold maxLen; omega) (fun v' w' hW' => hK_ _ _ ?_ ?_)
  · have h := hW'; exact ⟨h.blk2 1, h.cell (Sc.new rfl), h.cell (Sc.new rfl), h.cell (Sc.new rfl), h.cell (Sc.new rfl), h.cell (Sc.new rfl), h.cell (Sc.new rfl), h.cell (Sc.new rfl), h.cell (Sc.new rfl)⟩
  show wpList _ _ _ _ _ _
  simp only [List.drop_succ_cons, List.drop_zero]
  have e1 : w'.cell? ⟨p, 1, none⟩ = some F := hW'.blk2 1
  have e2 : w'.frozen? ⟨p, 1, none⟩ = false := hW'.free2 1
  obtain ⟨A3, c3, rfl, _, _⟩ := hW'.rowLen
  have HW := hid hW'
  clear hW'
  go_wp2_with fail
  go_ret
  refine Ret.intro (by simp) Hle.out ⟨Hg.out.mono Hle.out, .slice A3 (st.fs.length + 1) c3, B, _, by simpa using (HW.out.swap.store 1 (.slice A3 (st.fs.length + 1) c3)).swap, ?_, Hb.out.mono Hle.out⟩
  exact (Hc.out.mono Hle.out).snoc ⟨k, a, n, x, s, ps, ww, l⟩ (Hp.out.mono Hle.out) (Hl.out.mono Hle.out)
end Go.Proofs.Ytjjbidajkmodfaa
namespace Go.Proofs.Ytjjbidajkmodfaa
open Go Go.RowKit
theorem idx_ge : ∀ (l sub : List UInt8), -1 ≤ Lib.index l sub
  | [], sub => by unfold Lib.index; split <;> omega
  | b :: l, sub => by have := idx_ge l sub; unfold Lib.index; split <;> (try split) <;> omega
theorem idx_cons (b : UInt8) (l sub : List UInt8) : (0 ≤ Lib.index (b :: l) sub) ↔ (sub.isPrefixOf (b :: l) = true ∨ 0 ≤ Lib.index l sub) := by
  have hg := idx_ge l sub
  rw [Lib.index]
  by_cases h : sub.isPrefixOf (b :: l) = true
  · simp [h]
  · rw [if_neg h]
    by_cases h2 : Lib.index l sub = -1
    · simp [h, h2]
    · have : ¬ (Lib.index l sub == -1) = true := by simpa using h2
      rw [if_neg this]; simp only [h, false_or]; constructor <;> intro _ <;> omega
theorem idx_skip (c : UInt8) (sub l : List UInt8) : ∀ u : List UInt8, (∀ x ∈ u, x ≠ c) → ((0 ≤ Lib.index (u ++ l) (c :: sub)) ↔ 0 ≤ Lib.index l (c :: sub))
  | [], _ => Iff.rfl
  | x :: u, h => by
    rw [List.cons_append, idx_cons, idx_skip c sub l u (fun y hy => h y (List.mem_cons_of_mem _ hy))]
    have hx := h x List.mem_cons_self
    have : ((c :: sub).isPrefixOf (x :: (u ++ l))) = false := by
      rw [List.isPrefixOf]; simp [Ne.symm hx]
    simp [this]
theorem prefix_word (c : UInt8) : ∀ (s w r : List UInt8), (∀ x ∈ s, x ≠ c) → (∀ x ∈ w, x ≠ c) → ((s ++ [c]).isPrefixOf (w ++ c :: r) = true ↔ s = w)
  | [], [], r, _, _ => by simp [List.isPrefixOf]
  | [], x :: w, r, _, hw => by
    have := hw x List.mem_cons_self
    simp [List.isPrefixOf, Ne.symm this]
  | y :: s, [], r, hs, _ => by
    have := hs y List.mem_cons_self
    simp [List.isPrefixOf, this]
  | y :: s, x :: w, r, hs, hw => by
    have ih := prefix_word c s w r (fun z hz => hs z (List.mem_cons_of_mem _ hz)) (fun z hz => hw z (List.mem_cons_of_mem _ hz))
    rw [List.cons_append, List.cons_append, List.isPrefixOf, Bool.and_eq_true, ih]
    simp
def wtxt (c : UInt8) : List (List UInt8) → List UInt8
  | [] => []
  | w :: ws => w ++ c :: wtxt c ws
theorem idx_words (c : UInt8) (s : List UInt8) (hs : ∀ x ∈ s, x ≠ c) : ∀ ws : List (List UInt8), (∀ w ∈ ws, ∀ x ∈ w, x ≠ c) → ((0 ≤ Lib.index (c :: wtxt c ws) (c :: (s ++ [c]))) ↔ s ∈ ws)
  | [], _ => by
    rw [idx_cons]
    have h1 : (c :: (s ++ [c])).isPrefixOf [c] = false := by cases s <;> simp [List.isPrefixOf]
    have h2 : ¬ (0 ≤ Lib.index (wtxt c []) (c :: (s ++ [c]))) := by simp [wtxt, Lib.index]
    simp only [wtxt] at h2
    simp [wtxt, h1, h2]
  | w :: ws, h => by
    have hw := h w List.mem_cons_self
    have ih := idx_words c s hs ws (fun v hv => h v (List.mem_cons_of_mem _ hv))
    rw [idx_cons, wtxt, idx_skip c (s ++ [c]) (c :: wtxt c ws) w hw, ih, List.mem_cons]
    have : (c :: (s ++ [c])).isPrefixOf (c :: (w ++ c :: wtxt c ws)) = (s ++ [c]).isPrefixOf (w ++ c :: wtxt c ws) := by
      rw [List.isPrefixOf]; simp
    rw [this, prefix_word c s w _ hs hw]
def resText : List UInt8 := [32, 113, 117, 111, 116, 101, 32, 105, 102, 32, 108, 97, 109, 98, 100, 97, 32, 115, 101, 116, 33, 32, 98, 101, 103, 105, 110, 32, 100, 101, 102, 105, 110, 101, 32, 108, 101, 116, 32, 108, 101, 116, 42, 32, 99, 111, 110, 100, 32, 101, 108, 115, 101, 32, 97, 110, 100, 32, 111, 114, 32, 119, 104, 101, 110, 32, 117, 110, 108, 101, 115, 115, 32]
theorem resText_eq : resText = 32 :: wtxt 32 reservedL := by decide
theorem idxb_ge : ∀ (s : List UInt8) (c : UInt8), -1 ≤ Lib.indexByte s c
  | [], c => by unfold Lib.indexByte; omega
  | b :: l, c => by have := idxb_ge l c; unfold Lib.indexByte; split <;> (try split) <;> omega
theorem idxb_neg (c : UInt8) : ∀ s : List UInt8, (¬ 0 ≤ Lib.indexByte s c) ↔ ∀ x ∈ s, x ≠ c
  | [] => by simp [Lib.indexByte]
  | b :: l => by
    have ih := idxb_neg c l
    have hg := idxb_ge l c
    rw [Lib.indexByte]
    by_cases h : b = c
    · subst h; simp
    · have hb : ¬ (b == c) = true := by simpa using h
      rw [if_neg hb]
      by_cases h2 : Lib.indexByte l c = -1
      · rw [if_pos (by simpa using h2)]
        have := ih.1 (by omega)
        simp only [List.mem_cons, forall_eq_or_imp]
        constructor
        · intro _; exact ⟨h, this⟩
        · intro _; omega
      · rw [if_neg (by simpa using h2)]
        simp only [List.mem_cons, forall_eq_or_imp]
        constructor
        · intro h3; omega
        · intro h3; have := ih.2 h3.2; omega
theorem res_eq (s : Str) : res s = (!(s == []) && !(decide (0 ≤ Lib.indexByte s 32)) && Lib.contains resText (32 :: (s ++ [32]))) := by
  by_cases h0 : s = []
  · subst h0; decide
  by_cases h1 : 0 ≤ Lib.indexByte s 32
  · have : res s = false := by
      rw [res]
      cases e : reservedL.contains s with
      | false => rfl
      | true =>
        have hm : s ∈ reservedL := by simpa using e
        have : ∀ t ∈ reservedL, ¬ 0 ≤ Lib.indexByte t 32 := by decide
        exact absurd h1 (this s hm)
    rw [this]; simp [h1]
  · have hs := (idxb_neg 32 s).1 h1
    have hw : ∀ w ∈ reservedL, ∀ x ∈ w, x ≠ (32 : UInt8) := by decide
    have hx := idx_words 32 s hs reservedL hw
    rw [Lib.contains, resText_eq, res]
    have h2 : (s == []) = false := by simpa using h0
    simp only [h2, Bool.not_false, Bool.true_and, decide_eq_false h1]
    rw [Bool.eq_iff_iff]
    simp only [decide_eq_true_eq]
    rw [show ((32 : UInt8) :: (s ++ [32])) = 32 :: (s ++ [32]) from rfl, hx]
    simp
end Go.Proofs.Ytjjbidajkmodfaa
namespace Go.Proofs.Ytjjbidajkmodfaa
open Go Go.RowKit
theorem cell_alloc {w : World} {a : Addr} {v : Value} (h : w.cell? a = some v) (o : Obj) : (w.alloc o).drew.cell? a = some v :=
  (World.cell?_alloc_lt _ _ _ (World.block_lt_of_cell? _ _ h)).trans h
theorem ret_bool {a b : Bool} (h : a = b) : Ending.returned (.bool a) = .returned (.bool b) := by rw [h]
set_option maxRecDepth 100000 in
set_option maxHeartbeats 1000000 in
theorem P_reserved (s : Str) (w : World) (m : Int) (hm : w.cell? ⟨0, 0, none⟩ = some (.int .i64 m)) (hs : s.length ≤ 281474976710656) :
    Calls Try.prog 15 #[str s] w fun e w' => e = .returned (.bool (res s)) ∧ w' = w := by
  have hr := hid (res_eq s)
  cases s with
  | nil =>
    clear hm hs
    go_enter Try.func15, Try.ntmps15
    go_wp2_with fail
    go_ret
    exact ⟨ret_bool (by rw [hr.out]; rfl), rfl⟩
  | cons c t =>
    have hone := Try.strings_Contains_one (bs (c :: t)) 32 w
    by_cases h1 : 0 ≤ Lib.indexByte (c :: t) 32
    · rw [show decide (0 ≤ Lib.indexByte (bs (c :: t)).data.toList 32) = true from decide_eq_true h1] at hone
      have Ho := hid hone
      have H1 := hid h1
      clear hone hm hs h1
      go_enter Try.func15, Try.ntmps15
      go_wp2_with fail
      refine Ho.out.mono ?_
      rintro e w' ⟨rfl, rfl⟩
      go_wp2_with fail
      go_ret
      exact ⟨ret_bool (by rw [hr.out]; simp [H1.out]), rfl⟩
    · rw [show decide (0 ≤ Lib.indexByte (bs (c :: t)).data.toList 32) = false from decide_eq_false h1] at hone
      have htwo := Try.strings_Contains (bs resText) (⟨#[32]⟩ ++ bs (c :: t) ++ ⟨#[32]⟩) m w (by decide) hm
      have e2 : (ByteArray.mk #[32] ++ bs (c :: t) ++ ByteArray.mk #[32]).data.toList = 32 :: ((c :: t) ++ [32]) := by simp [ByteArray.append]
      rw [e2] at htwo
      have Ho := hid hone
      have H1 := hid h1
      have H2 := hid htwo
      have hz : t.length ≤ 281474976710656 := by simp at hs; omega
      clear hone hm hs h1 htwo e2
      go_enter Try.func15, Try.ntmps15
      go_wp2_with fail
      refine Ho.out.mono ?_
      rintro e w' ⟨rfl, rfl⟩
      go_wp2_with fail
      refine H2.out.mono ?_
      rintro e w' ⟨rfl, rfl⟩
      go_wp2_with fail
      go_ret
      exact ⟨ret_bool (by rw [hr.out]; simp [H1.out]), rfl⟩
structure Dat (d : List Node) : Prop where
  kind : ∀ i, i < d.length → 1 ≤ (nd d i).kind ∧ (nd d i).kind ≤ 4
  par : ∀ i, i < d.length → ∀ j ∈ (nd d i).l, j < i
  lst : ∀ i, i < d.length → (nd d i).kind ≠ 4 → (nd d i).l = []
  str : ∀ i, i < d.length → (nd d i).s.length ≤ 140737488355328
  at0 : ∀ i, i < d.length → 0 ≤ (nd d i).at_
  ll : ∀ i, i < d.length → (nd d i).l.length ≤ 1099511627776
structure Env (S : Seal) (b off c : Nat) (d : List Node) : Prop where
  at_ : ∀ i, i < d.length → ∃ lv, NodeAt S b (off + i * 5) (nd d i) lv
  cap : d.length ≤ c
  max : c ≤ maxLen
  dat : Dat d
theorem Env.mono {S S' : Seal} (k : S.le S') {b off c : Nat} {d : List Node} (h : Env S b off c d) : Env S' b off c d :=
  ⟨fun i hi => let ⟨lv, x⟩ := h.at_ i hi; ⟨lv, x.mono k⟩, h.cap, h.max, h.dat⟩
abbrev dval (b off c : Nat) (d : List Node) : Value := .slice (some ⟨b, off, none⟩) d.length c
abbrev elem (b off i : Nat) : Value := .pointer (some ⟨b, off + i * 5, none⟩)
abbrev ptr (p : Nat) : Value := .pointer (some ⟨p, 0, none⟩)
theorem PX.d0 {p : Nat} {dv : Value} {st : St} {L : List Atom} {S : Seal} {w : World} (h : PX p dv st L S w) : w.cell? ⟨p, 0, none⟩ = some dv := by
  obtain ⟨g, F, B, cells, h1, _⟩ := h; exact h1.blk2 0
theorem Xs.d0x {p : Nat} {dv : Value} {st : St} (_x : Xs (PX p dv st)) {L : List Atom} {S : Seal} {w : World} (h : PX p dv st L S w) : w.cell? ⟨p, 0, none⟩ = some dv := by
  obtain ⟨g, F, B, cells, h1, _⟩ := h; exact h1.blk2 0
theorem PX.alloc0 {p : Nat} {dv : Value} {st : St} {L : List Atom} {S : Seal} {w : World} (h : PX p dv st L S w) (o : Obj) : PX p dv st L S (w.alloc o).drew := by
  obtain ⟨g, F, B, cells, h1, h2, h3⟩ := h
  exact ⟨g, F, B, cells, (h1.alloc0 o).drew, h2, h3⟩
theorem PX.glob {p : Nat} {dv : Value} {st : St} {L : List Atom} {S : Seal} {w : World} (h : PX p dv st L S w) : ∃ m : Int, w.cell? ⟨0, 0, none⟩ = some (.int .i64 m) := by
  obtain ⟨⟨m, g⟩, F, B, cells, h1, _⟩ := h; exact ⟨m, h1.cell g⟩
theorem Dat.len {S : Seal} {b off c : Nat} {d : List Node} (h : Env S b off c d) : d.length ≤ 9223372036854775807 := by
  have h1 := h.cap; have h2 := h.max; unfold maxLen at h2; omega
section
variable (p b off c : Nat) (d : List Node) (st : St) (L : List Atom) (S : Seal) (w : World)
set_option maxRecDepth 100000 in
set_option maxHeartbeats 1000000 in
theorem P_name (i : Nat) (hX : PX p (dval b off c d) st L S w) (hE : Env S b off c d) (hi : i < d.length) :
    Calls Try.prog 47 #[ptr p, nat i] w (Ret S (PX p (dval b off c d) st L) (.tuple #[str (nd d i).s, .bool (!(nameOf d i == []))])) := by
  obtain ⟨lv, hN⟩ := hE.at_ i hi
  have hlen := Dat.len hE
  have hs := hE.dat.str i hi
  obtain ⟨A1, cc, hlv, _, _⟩ := Sl.shape hN.l
  subst hlv
  obtain ⟨m, hm⟩ := hX.glob
  have x0 := hX.d0
  have c0 := hX.cell hN.c0
  have c1 := hX.cell hN.c1
  have c2 := hX.cell hN.c2
  have c3 := hX.cell hN.c3
  have c4 := hX.cell hN.c4
  have HX := hid (hX.alloc (.cells #[.int .u8 (nd d i).kind, .int .i64 (nd d i).at_, .int .i64 (nd d i).n, str (nd d i).s, .slice A1 (nd d i).l.length cc] 60))
  have Hle := hid (hX.le_alloc (.cells #[.int .u8 (nd d i).kind, .int .i64 (nd d i).at_, .int .i64 (nd d i).n, str (nd d i).s, .slice A1 (nd d i).l.length cc] 60))
  have hne : nameOf d i = if (nd d i).kind = 3 ∧ res (nd d i).s = false then (nd d i).s else [] := rfl
  have Hne := hid hne
  clear hX hE hN hne
  generalize nd d i = x at *
  obtain ⟨kd, at_, nn, s, l⟩ := x
  dsimp only at *
  by_cases hk : kd = 3
  · subst hk
    cases s with
    | nil =>
      clear hm
      go_enter Try.func47, Try.ntmps47
      go_wp2_with fail
      refine wp_plan 17 (.take 0 (.take 1 (.take 2 (.take 3 (.take 4 (.take 5 (.take 6 (.take 7 (.take 8 (.take 9 (.take 10 (.take 11 (.take 12 (.one 13 (.take 14 (.take 15 (.take 16 .fin))))))))))))))))) (fun w' => w'.cell? ⟨w.heap.size, 0, none⟩ = some (.int .u8 3) ∧ w'.cell? ⟨w.heap.size, 3, none⟩ = some (str [])) (by kernel_rfl) (by kernel_rfl) (fun _ _ d_ _ _ h_ => by cases d_ <;> exact h_) (by exact ⟨HX.out.drew.cell (Sc.new rfl), HX.out.drew.cell (Sc.new rfl)⟩) ?_
      refine Pl.takeW rfl rfl ?v1 ?hy1 ?rest1
      case hy1 => intro w_ _; first | (go_simp; done) | (go_simp; with_reducible rfl)
      simp only [Act.put, List.setIfInBounds_toArray, List.set_cons_zero, List.set_cons_succ]
      refine Pl.takeW rfl rfl ?v2 ?hy2 ?rest2
      case hy2 => intro w_ hS_; obtain ⟨d0, d3⟩ := hS_; first | (go_simp; done) | (go_simp; with_reducible rfl)
      simp only [Act.put, List.setIfInBounds_toArray, List.set_cons_zero, List.set_cons_succ]
      refine Pl.takeW rfl rfl ?v3 ?hy3 ?rest3
      case hy3 => intro w_ _; first | (go_simp; done) | (go_simp; with_reducible rfl)
      simp only [Act.put, List.setIfInBounds_toArray, List.set_cons_zero, List.set_cons_succ]
      refine Pl.takeW rfl rfl ?v4 ?hy4 ?rest4
      case hy4 => intro w_ hS_; obtain ⟨d0, d3⟩ := hS_; first | (go_simp; done) | (go_simp; with_reducible rfl)
      simp only [Act.put, List.setIfInBounds_toArray, List.set_cons_zero, List.set_cons_succ]
      refine Pl.takeW rfl rfl ?v5 ?hy5 ?rest5
      case hy5 => intro w_ _; first | (go_simp; done) | (go_simp; with_reducible rfl)
      simp only [Act.put, List.setIfInBounds_toArray, List.set_cons_zero, List.set_cons_succ]
      refine Pl.takeW rfl rfl ?v6 ?hy6 ?rest6
      case hy6 => intro w_ _; first | (go_simp; done) | (go_simp; with_reducible rfl)
      simp only [Act.put, List.setIfInBounds_toArray, List.set_cons_zero, List.set_cons_succ]
      first
        | (refine Pl.takeW rfl rfl ?v7 ?hy7 ?rest7
           case hy7 => intro w_ _; first | (go_simp; done) | (go_simp; with_reducible rfl))
        | refine Pl.takeU rfl rfl ?rest7
      simp only [Act.put, List.setIfInBounds_toArray, List.set_cons_zero, List.set_cons_succ]
      first
        | (refine Pl.takeW rfl rfl ?v8 ?hy8 ?rest8
           case hy8 => intro w_ hS_; obtain ⟨d0, d3⟩ := hS_; first | (go_simp; done) | (go_simp; with_reducible rfl))
        | refine Pl.takeU rfl rfl ?rest8
      simp only [Act.put, List.setIfInBounds_toArray, List.set_cons_zero, List.set_cons_succ]
      first
        | (refine Pl.takeW rfl rfl ?v9 ?hy9 ?rest9
           case hy9 => intro w_ _; first | (go_simp; done) | (go_simp; with_reducible rfl))
        | refine Pl.takeU rfl rfl ?rest9
      simp only [Act.put, List.setIfInBounds_toArray, List.set_cons_zero, List.set_cons_succ]
      refine Pl.takeW rfl rfl ?v10 ?hy10 ?rest10
      case hy10 => intro w_ _; first | (go_simp; done) | (go_simp; with_reducible rfl)
      simp only [Act.put, List.setIfInBounds_toArray, List.set_cons_zero, List.set_cons_succ]
      refine Pl.takeW rfl rfl ?v11 ?hy11 ?rest11
      case hy11 => intro w_ _; first | (go_simp; done) | (go_simp; with_reducible rfl)
      simp only [Act.put, List.setIfInBounds_toArray, List.set_cons_zero, List.set_cons_succ]
      first
        | (refine Pl.takeW rfl rfl ?v12 ?hy12 ?rest12
           case hy12 => intro w_ _; first | (go_simp; done) | (go_simp; with_reducible rfl))
        | refine Pl.takeU rfl rfl ?rest12
      simp only [Act.put, List.setIfInBounds_toArray, List.set_cons_zero, List.set_cons_succ]
      first
        | (refine Pl.takeW rfl rfl ?v13 ?hy13 ?rest13
           case hy13 => intro w_ hS_; obtain ⟨d0, d3⟩ := hS_; first | (go_simp; done) | (go_simp; with_reducible rfl))
        | refine Pl.takeU rfl rfl ?rest13
      simp only [Act.put, List.setIfInBounds_toArray, List.set_cons_zero, List.set_cons_succ]
      refine Pl.oneU rfl rfl (⟨HX.out.drew.cell (Sc.new rfl), HX.out.drew.cell (Sc.new rfl)⟩) ?_
      simp only [Act.put, List.setIfInBounds_toArray, List.set_cons_zero, List.set_cons_succ]
      first
        | (refine Pl.takeW rfl rfl ?v14 ?hy14 ?rest14
           case hy14 => intro w_ _; first | (go_simp; done) | (go_simp; with_reducible rfl))
        | refine Pl.takeU rfl rfl ?rest14
      simp only [Act.put, List.setIfInBounds_toArray, List.set_cons_zero, List.set_cons_succ]
      refine Pl.takeW rfl rfl ?v15 ?hy15 ?rest15
      case hy15 => intro w_ _; first | (go_simp; done) | (go_simp; with_reducible rfl)
      simp only [Act.put, List.setIfInBounds_toArray, List.set_cons_zero, List.set_cons_succ]
      refine Pl.takeW rfl rfl ?v16 ?hy16 ?rest16
      case hy16 => intro w_ _; first | (go_simp; done) | (go_simp; with_reducible rfl)
      simp only [Act.put, List.setIfInBounds_toArray, List.set_cons_zero, List.set_cons_succ]
      show wpList _ _ _ _ _ _
      simp only [List.drop_succ_cons, List.drop_zero]
      go_wp2_with fail
      go_ret2
      exact Ret.intro (by simp [Act.eval, Hne.out]) Hle.out HX.out.drew
    | cons z t =>
      have Hc := hid (P_reserved (z :: t) (w.alloc (.cells #[.int .u8 3, .int .i64 at_, .int .i64 nn, str (z :: t), .slice A1 l.length cc] 60)).drew m (cell_alloc hm _) (by simp at hs ⊢; omega))
      clear hm
      go_enter Try.func47, Try.ntmps47
      go_wp2_with fail
      refine wp_plan 17 (.take 0 (.take 1 (.take 2 (.take 3 (.take 4 (.take 5 (.take 6 (.take 7 (.take 8 (.take 9 (.take 10 (.take 11 (.take 12 (.one 13 (.take 14 (.take 15 (.take 16 .fin))))))))))))))))) (fun w' => w'.cell? ⟨w.heap.size, 0, none⟩ = some (.int .u8 3) ∧ w'.cell? ⟨w.heap.size, 3, none⟩ = some (str (z :: t))) (by kernel_rfl) (by kernel_rfl) (fun _ _ d_ _ _ h_ => by cases d_ <;> exact h_) (by exact ⟨HX.out.drew.cell (Sc.new rfl), HX.out.drew.cell (Sc.new rfl)⟩) ?_
      refine Pl.takeW rfl rfl ?v17 ?hy17 ?rest17
      case hy17 => intro w_ _; first | (go_simp; done) | (go_simp; with_reducible rfl)
      simp only [Act.put, List.setIfInBounds_toArray, List.set_cons_zero, List.set_cons_succ]
      refine Pl.takeW rfl rfl ?v18 ?hy18 ?rest18
      case hy18 => intro w_ hS_; obtain ⟨d0, d3⟩ := hS_; first | (go_simp; done) | (go_simp; with_reducible rfl)
      simp only [Act.put, List.setIfInBounds_toArray, List.set_cons_zero, List.set_cons_succ]
      refine Pl.takeW rfl rfl ?v19 ?hy19 ?rest19
      case hy19 => intro w_ _; first | (go_simp; done) | (go_simp; with_reducible rfl)
      simp only [Act.put, List.setIfInBounds_toArray, List.set_cons_zero, List.set_cons_succ]
      refine Pl.takeW rfl rfl ?v20 ?hy20 ?rest20
      case hy20 => intro w_ hS_; obtain ⟨d0, d3⟩ := hS_; first | (go_simp; done) | (go_simp; with_reducible rfl)
      simp only [Act.put, List.setIfInBounds_toArray, List.set_cons_zero, List.set_cons_succ]
      refine Pl.takeW rfl rfl ?v21 ?hy21 ?rest21
      case hy21 => intro w_ _; first | (go_simp; done) | (go_simp; with_reducible rfl)
      simp only [Act.put, List.setIfInBounds_toArray, List.set_cons_zero, List.set_cons_succ]
      refine Pl.takeW rfl rfl ?v22 ?hy22 ?rest22
      case hy22 => intro w_ _; first | (go_simp; done) | (go_simp; with_reducible rfl)
      simp only [Act.put, List.setIfInBounds_toArray, List.set_cons_zero, List.set_cons_succ]
      first
        | (refine Pl.takeW rfl rfl ?v23 ?hy23 ?rest23
           case hy23 => intro w_ _; first | (go_simp; done) | (go_simp; with_reducible rfl))
        | refine Pl.takeU rfl rfl ?rest23
      simp only [Act.put, List.setIfInBounds_toArray, List.set_cons_zero, List.set_cons_succ]
      first
        | (refine Pl.takeW rfl rfl ?v24 ?hy24 ?rest24
           case hy24 => intro w_ hS_; obtain ⟨d0, d3⟩ := hS_; first | (go_simp; done) | (go_simp; with_reducible rfl))
        | refine Pl.takeU rfl rfl ?rest24
      simp only [Act.put, List.setIfInBounds_toArray, List.set_cons_zero, List.set_cons_succ]
      first
        | (refine Pl.takeW rfl rfl ?v25 ?hy25 ?rest25
           case hy25 => intro w_ _; first | (go_simp; done) | (go_simp; with_reducible rfl))
        | refine Pl.takeU rfl rfl ?rest25
      simp only [Act.put, List.setIfInBounds_toArray, List.set_cons_zero, List.set_cons_succ]
      refine Pl.takeW rfl rfl ?v26 ?hy26 ?rest26
      case hy26 => intro w_ _; first | (go_simp; done) | (go_simp; with_reducible rfl)
      simp only [Act.put, List.setIfInBounds_toArray, List.set_cons_zero, List.set_cons_succ]
      refine Pl.takeW rfl rfl ?v27 ?hy27 ?rest27
      case hy27 => intro w_ _; first | (go_simp; done) | (go_simp; with_reducible rfl)
      simp only [Act.put, List.setIfInBounds_toArray, List.set_cons_zero, List.set_cons_succ]
      first
        | (refine Pl.takeW rfl rfl ?v28 ?hy28 ?rest28
           case hy28 => intro w_ _; first | (go_simp; done) | (go_simp; with_reducible rfl))
        | refine Pl.takeU rfl rfl ?rest28
      simp only [Act.put, List.setIfInBounds_toArray, List.set_cons_zero, List.set_cons_succ]
      first
        | (refine Pl.takeW rfl rfl ?v29 ?hy29 ?rest29
           case hy29 => intro w_ hS_; obtain ⟨d0, d3⟩ := hS_; first | (go_simp; done) | (go_simp; with_reducible rfl))
        | refine Pl.takeU rfl rfl ?rest29
      simp only [Act.put, List.setIfInBounds_toArray, List.set_cons_zero, List.set_cons_succ]
      refine Pl.oneW rfl rfl (fun K_ hK_ => ?_)
      go_simp
      refine Hc.out.mono ?_
      rintro e w' ⟨rfl, rfl⟩
      refine hK_ _ _ ⟨HX.out.drew.cell (Sc.new rfl), HX.out.drew.cell (Sc.new rfl)⟩ ?_
      first
        | (refine Pl.takeW rfl rfl ?v30 ?hy30 ?rest30
           case hy30 => intro w_ _; first | (go_simp; done) | (go_simp; with_reducible rfl))
        | refine Pl.takeU rfl rfl ?rest30
      simp only [Act.put, List.setIfInBounds_toArray, List.set_cons_zero, List.set_cons_succ]
      refine Pl.takeW rfl rfl ?v31 ?hy31 ?rest31
      case hy31 => intro w_ _; first | (go_simp; done) | (go_simp; with_reducible rfl)
      simp only [Act.put, List.setIfInBounds_toArray, List.set_cons_zero, List.set_cons_succ]
      refine Pl.takeW rfl rfl ?v32 ?hy32 ?rest32
      case hy32 => intro w_ _; first | (go_simp; done) | (go_simp; with_reducible rfl)
      simp only [Act.put, List.setIfInBounds_toArray, List.set_cons_zero, List.set_cons_succ]
      show wpList _ _ _ _ _ _
      simp only [List.drop_succ_cons, List.drop_zero]
      go_wp2_with fail
      go_ret2
      refine Ret.intro ?_ Hle.out HX.out.drew
      rw [Hne.out]
      cases h : res (z :: t) <;> simp [Act.eval]
  · have hk' : (kd == 3) = false := by simpa using hk
    have Hk := hid hk
    clear hk hm
    go_enter Try.func47, Try.ntmps47
    go_wp2_with fail
    refine wp_plan 17 (.take 0 (.take 1 (.take 2 (.take 3 (.take 4 (.take 5 (.take 6 (.take 7 (.take 8 (.take 9 (.take 10 (.take 11 (.take 12 (.one 13 (.take 14 (.take 15 (.take 16 .fin))))))))))))))))) (fun w' => w'.cell? ⟨w.heap.size, 0, none⟩ = some (.int .u8 kd) ∧ w'.cell? ⟨w.heap.size, 3, none⟩ = some (str s)) (by kernel_rfl) (by kernel_rfl) (fun _ _ d_ _ _ h_ => by cases d_ <;> exact h_) (by exact ⟨HX.out.drew.cell (Sc.new rfl), HX.out.drew.cell (Sc.new rfl)⟩) ?_
    refine Pl.takeW rfl rfl ?v33 ?hy33 ?rest33
    case hy33 => intro w_ _; first | (go_simp; done) | (go_simp; with_reducible rfl)
    simp only [Act.put, List.setIfInBounds_toArray, List.set_cons_zero, List.set_cons_succ]
    refine Pl.takeW rfl rfl ?v34 ?hy34 ?rest34
    case hy34 => intro w_ hS_; obtain ⟨d0, d3⟩ := hS_; first | (go_simp; done) | (go_simp; with_reducible rfl)
    simp only [Act.put, List.setIfInBounds_toArray, List.set_cons_zero, List.set_cons_succ]
    refine Pl.takeW rfl rfl ?v35 ?hy35 ?rest35
    case hy35 => intro w_ _; first | (go_simp; done) | (go_simp; with_reducible rfl)
    simp only [Act.put, List.setIfInBounds_toArray, List.set_cons_zero, List.set_cons_succ]
    refine Pl.takeW rfl rfl ?v36 ?hy36 ?rest36
    case hy36 => intro w_ hS_; obtain ⟨d0, d3⟩ := hS_; first | (go_simp; done) | (go_simp; with_reducible rfl)
    simp only [Act.put, List.setIfInBounds_toArray, List.set_cons_zero, List.set_cons_succ]
    refine Pl.takeW rfl rfl ?v37 ?hy37 ?rest37
    case hy37 => intro w_ _; first | (go_simp; done) | (go_simp; with_reducible rfl)
    simp only [Act.put, List.setIfInBounds_toArray, List.set_cons_zero, List.set_cons_succ]
    refine Pl.takeW rfl rfl ?v38 ?hy38 ?rest38
    case hy38 => intro w_ _; first | (go_simp; done) | (go_simp; with_reducible rfl)
    simp only [Act.put, List.setIfInBounds_toArray, List.set_cons_zero, List.set_cons_succ]
    first
      | (refine Pl.takeW rfl rfl ?v39 ?hy39 ?rest39
         case hy39 => intro w_ _; first | (go_simp; done) | (go_simp; with_reducible rfl))
      | refine Pl.takeU rfl rfl ?rest39
    simp only [Act.put, List.setIfInBounds_toArray, List.set_cons_zero, List.set_cons_succ]
    first
      | (refine Pl.takeW rfl rfl ?v40 ?hy40 ?rest40
         case hy40 => intro w_ hS_; obtain ⟨d0, d3⟩ := hS_; first | (go_simp; done) | (go_simp; with_reducible rfl))
      | refine Pl.takeU rfl rfl ?rest40
    simp only [Act.put, List.setIfInBounds_toArray, List.set_cons_zero, List.set_cons_succ]
    first
      | (refine Pl.takeW rfl rfl ?v41 ?hy41 ?rest41
         case hy41 => intro w_ _; first | (go_simp; done) | (go_simp; with_reducible rfl))
      | refine Pl.takeU rfl rfl ?rest41
    simp only [Act.put, List.setIfInBounds_toArray, List.set_cons_zero, List.set_cons_succ]
    refine Pl.takeW rfl rfl ?v42 ?hy42 ?rest42
    case hy42 => intro w_ _; first | (go_simp; done) | (go_simp; with_reducible rfl)
    simp only [Act.put, List.setIfInBounds_toArray, List.set_cons_zero, List.set_cons_succ]
    refine Pl.takeW rfl rfl ?v43 ?hy43 ?rest43
    case hy43 => intro w_ _; first | (go_simp; done) | (go_simp; with_reducible rfl)
    simp only [Act.put, List.setIfInBounds_toArray, List.set_cons_zero, List.set_cons_succ]
    first
      | (refine Pl.takeW rfl rfl ?v44 ?hy44 ?rest44
         case hy44 => intro w_ _; first | (go_simp; done) | (go_simp; with_reducible rfl))
      | refine Pl.takeU rfl rfl ?rest44
    simp only [Act.put, List.setIfInBounds_toArray, List.set_cons_zero, List.set_cons_succ]
    first
      | (refine Pl.takeW rfl rfl ?v45 ?hy45 ?rest45
         case hy45 => intro w_ hS_; obtain ⟨d0, d3⟩ := hS_; first | (go_simp; done) | (go_simp; with_reducible rfl))
      | refine Pl.takeU rfl rfl ?rest45
    simp only [Act.put, List.setIfInBounds_toArray, List.set_cons_zero, List.set_cons_succ]
    refine Pl.oneU rfl rfl (⟨HX.out.drew.cell (Sc.new rfl), HX.out.drew.cell (Sc.new rfl)⟩) ?_
    simp only [Act.put, List.setIfInBounds_toArray, List.set_cons_zero, List.set_cons_succ]
    first
      | (refine Pl.takeW rfl rfl ?v46 ?hy46 ?rest46
         case hy46 => intro w_ _; first | (go_simp; done) | (go_simp; with_reducible rfl))
      | refine Pl.takeU rfl rfl ?rest46
    simp only [Act.put, List.setIfInBounds_toArray, List.set_cons_zero, List.set_cons_succ]
    refine Pl.takeW rfl rfl ?v47 ?hy47 ?rest47
    case hy47 => intro w_ _; first | (go_simp; done) | (go_simp; with_reducible rfl)
    simp only [Act.put, List.setIfInBounds_toArray, List.set_cons_zero, List.set_cons_succ]
    refine Pl.takeW rfl rfl ?v48 ?hy48 ?rest48
    case hy48 => intro w_ _; first | (go_simp; done) | (go_simp; with_reducible rfl)
    simp only [Act.put, List.setIfInBounds_toArray, List.set_cons_zero, List.set_cons_succ]
    show wpList _ _ _ _ _ _
    simp only [List.drop_succ_cons, List.drop_zero]
    go_wp2_with fail
    go_ret2
    exact Ret.intro (by simp [Act.eval, Hne.out, Hk.out]) Hle.out HX.out.drew
set_option maxRecDepth 100000 in
set_option maxHeartbeats 1000000 in
theorem P_list (i : Nat) (hX : PX p (dval b off c d) st L S w) (hE : Env S b off c d) (hi : i < d.length) :
    ∃ lv, NatsR S lv (nd d i).l ∧ Calls Try.prog 49 #[ptr p, nat i] w (Ret S (PX p (dval b off c d) st L) (.tuple #[lv, .bool ((nd d i).kind == 4)])) := by
  obtain ⟨lv, hN⟩ := hE.at_ i hi
  refine ⟨lv, hN.l, ?_⟩
  have hlen := Dat.len hE
  obtain ⟨A1, cc, hlv, _, _⟩ := Sl.shape hN.l
  subst hlv
  have x0 := hX.d0
  have c0 := hX.cell hN.c0
  have c1 := hX.cell hN.c1
  have c2 := hX.cell hN.c2
  have c3 := hX.cell hN.c3
  have c4 := hX.cell hN.c4
  have HX := hid (hX.alloc (.cells #[.int .u8 (nd d i).kind, .int .i64 (nd d i).at_, .int .i64 (nd d i).n, str (nd d i).s, .slice A1 (nd d i).l.length cc] 60))
  have Hle := hid (hX.le_alloc (.cells #[.int .u8 (nd d i).kind, .int .i64 (nd d i).at_, .int .i64 (nd d i).n, str (nd d i).s, .slice A1 (nd d i).l.length cc] 60))
  clear hX hE hN
  generalize nd d i = x at *
  obtain ⟨kd, at_, nn, s, l⟩ := x
  dsimp only at *
  go_enter Try.func49, Try.ntmps49
  go_wp2_with fail
  refine wp_plan 6 (.take 0 (.take 1 (.take 2 (.take 3 (.take 4 (.take 5 .fin)))))) (fun w' => w'.cell? ⟨w.heap.size, 0, none⟩ = some (.int .u8 kd) ∧ w'.cell? ⟨w.heap.size, 4, none⟩ = some (.slice A1 l.length cc)) (by kernel_rfl) (by kernel_rfl) (fun _ _ d_ _ _ h_ => by cases d_ <;> exact h_) (by exact ⟨HX.out.drew.cell (Sc.new rfl), HX.out.drew.cell (Sc.new rfl)⟩) ?_
  refine Pl.takeW rfl rfl ?v49 ?hy49 ?rest49
  case hy49 => intro w_ _; first | (go_simp; done) | (go_simp; with_reducible rfl)
  simp only [Act.put, List.setIfInBounds_toArray, List.set_cons_zero, List.set_cons_succ]
  refine Pl.takeW rfl rfl ?v50 ?hy50 ?rest50
  case hy50 => intro w_ hS_; obtain ⟨d0, d4⟩ := hS_; first | (go_simp; done) | (go_simp; with_reducible rfl)
  simp only [Act.put, List.setIfInBounds_toArray, List.set_cons_zero, List.set_cons_succ]
  refine Pl.takeW rfl rfl ?v51 ?hy51 ?rest51
  case hy51 => intro w_ _; first | (go_simp; done) | (go_simp; with_reducible rfl)
  simp only [Act.put, List.setIfInBounds_toArray, List.set_cons_zero, List.set_cons_succ]
  refine Pl.takeW rfl rfl ?v52 ?hy52 ?rest52
  case hy52 => intro w_ hS_; obtain ⟨d0, d4⟩ := hS_; first | (go_simp; done) | (go_simp; with_reducible rfl)
  simp only [Act.put, List.setIfInBounds_toArray, List.set_cons_zero, List.set_cons_succ]
  refine Pl.takeW rfl rfl ?v53 ?hy53 ?rest53
  case hy53 => intro w_ _; first | (go_simp; done) | (go_simp; with_reducible rfl)
  simp only [Act.put, List.setIfInBounds_toArray, List.set_cons_zero, List.set_cons_succ]
  refine Pl.takeW rfl rfl ?v54 ?hy54 ?rest54
  case hy54 => intro w_ _; first | (go_simp; done) | (go_simp; with_reducible rfl)
  simp only [Act.put, List.setIfInBounds_toArray, List.set_cons_zero, List.set_cons_succ]
  show wpList _ _ _ _ _ _
  simp only [List.drop_succ_cons, List.drop_zero]
  go_wp2_with fail
  go_ret2
  exact Ret.intro (by simp [Act.eval]) Hle.out HX.out.drew
end
end Go.Proofs.Ytjjbidajkmodfaa
namespace Go.Proofs.Ytjjbidajkmodfaa
open Go Go.RowKit
def idxI (l : List Str) (s : Str) : Int := match l.findIdx? (· == s) with | some k => (k : Int) | none => -1
theorem idxI_at {l : List Str} {s : Str} {k : Nat} (hk : l[k]? = some s) (h : ∀ j, j < k → l[j]? ≠ some s) : idxI l s = k := by
  have : l.findIdx? (· == s) = some k := by
    rw [List.findIdx?_eq_some_iff_getElem]
    obtain ⟨hk1, hk2⟩ := List.getElem?_eq_some_iff.1 hk
    refine ⟨hk1, by simpa using hk2, fun j hj => ?_⟩
    have := h j hj
    intro hc
    exact this (List.getElem?_eq_some_iff.2 ⟨by omega, by simpa using hc⟩)
  rw [idxI, this]
theorem idxI_none {l : List Str} {s : Str} (h : ∀ j, j < l.length → l[j]? ≠ some s) : idxI l s = -1 := by
  have : l.findIdx? (· == s) = none := by
    rw [List.findIdx?_eq_none_iff]
    intro x hx
    obtain ⟨j, hj, rfl⟩ := List.getElem_of_mem hx
    cases e : (l[j] == s) with
    | false => rfl
    | true => exact absurd (List.getElem?_eq_some_iff.2 ⟨hj, by simpa using e⟩) (h j hj)
  rw [idxI, this]
theorem idxI_ge (l : List Str) (s : Str) : decide (0 ≤ idxI l s) = l.contains s := by
  rw [idxI]
  cases h : l.findIdx? (· == s) with
  | none =>
    rw [List.findIdx?_eq_none_iff] at h
    cases e : l.contains s with
    | false => rfl
    | true => have := h s (by simpa using e); simp at this
  | some k =>
    rw [List.findIdx?_eq_some_iff_getElem] at h
    obtain ⟨h1, h2, _⟩ := h
    have : s ∈ l := by have := List.getElem_mem h1; rw [show l[k] = s by simpa using h2] at this; exact this
    simp [this]
set_option maxHeartbeats 1000000 in
theorem S_index (l : List Str) (s : Str) (v : Value) (w : World) (h : StrsW w v l) :
    Calls Try.prog 100 #[v, str s] w fun e w' => e = .returned (.int .i64 (idxI l s)) ∧ w' = w := by
  obtain ⟨hlen, A, c, rfl, hc⟩ := h
  have Hc := hid hc
  clear hc
  go_enter Try.func100, Try.ntmps100
  go_wp2_with fail
  go_loop [8] (fun i => ∃ k : Nat, k ≤ l.length ∧ i = nat k ∧ Hid (∀ j, j < k → l[j]? ≠ some s)) (fun i => l.length - (intOf i).toNat)
  case atStart => exact ⟨0, Nat.zero_le _, rfl, hid fun j hj => by omega⟩
  case round =>
    obtain ⟨k, hk, rfl, Hn⟩ := hrel
    by_cases hlt : k < l.length
    · obtain ⟨b, off, rfl, hcell⟩ : ∃ b off, A = some ⟨b, off, none⟩ ∧ w.cell? ⟨b, off + k, none⟩ = some (str l[k]) := by
        rcases Hc.out with h0 | ⟨b, off, hA, h1⟩
        · subst h0; simp at hlt
        · exact ⟨b, off, hA, h1 k _ (List.getElem?_eq_some_iff.2 ⟨hlt, rfl⟩)⟩
      have Hx := hid (List.getElem?_eq_some_iff.2 ⟨hlt, rfl⟩ : l[k]? = some l[k])
      generalize l[k] = x at *
      by_cases hx : s = x
      · subst hx
        have hb : (s == s) = true := by simp
        go_wp2_with fail
        go_ret
        exact ⟨ret_v (by rw [idxI_at Hx.out Hn.out]; rfl), rfl⟩
      · have hb : (s == x) = false := by simpa using hx
        have Hxx := hid hx
        clear hx
        go_wp2_with fail
        go_round
        case rel => exact ⟨k + 1, by omega, by go_num, hid fun j hj => by
          rcases Nat.lt_or_ge j k with h | h
          · exact Hn.out j h
          · have : j = k := by omega
            subst this; rw [Hx.out]; intro e; cases e; exact Hxx.out rfl⟩
        case measure => simp [intOf]; omega
    · have hk' : k = l.length := by omega
      go_wp2_with fail
      go_ret
      exact ⟨ret_v (by rw [idxI_none fun j hj => Hn.out j (by omega)]; rfl), rfl⟩
set_option maxHeartbeats 1000000 in
theorem S_contains (l : List Str) (s : Str) (v : Value) (w : World) (h : StrsW w v l) :
    Calls Try.prog 70 #[v, str s] w fun e w' => e = .returned (.bool (l.contains s)) ∧ w' = w := by
  have Hc := hid (S_index l s v w h)
  have Hg := hid (idxI_ge l s)
  clear h
  generalize idxI l s = z at *
  go_enter Try.func70, Try.ntmps70
  go_wp2_with fail
  refine Hc.out.mono ?_
  rintro e w' ⟨rfl, rfl⟩
  go_wp2_with fail
  go_ret
  exact ⟨ret_v (by rw [← Hg.out]; rfl), rfl⟩
section
variable (p b off c : Nat) (d : List Node) (st : St) (L : List Atom) (S : Seal) (w : World)
set_option maxHeartbeats 1000000 in
theorem P_truth (dv : Value) (at_ n : Int) (r : Nat) (st' : St) (hX : PX p dv st L S w) (hr : bit st at_ n = some (r, st')) :
    Calls Try.prog 54 #[ptr p, .int .i64 at_, .int .i64 n] w (Ret S (PX p dv st' L) (nat r)) := by
  have Hr := hid hr
  have HX := hid hX
  clear hr hX
  go_enter Try.func54, Try.ntmps54
  go_wp2_with fail
  refine (P_put p dv st L S w 2 at_ n 0 [] [] 0 [] (.slice none 0 0) (.slice none 0 0) r st' HX.out (StrsR.nil S) (NatsR.nil S) Hr.out).mono ?_
  rintro e w1 ⟨rfl, S1, k1, hX1⟩
  go_wp2_with fail
  go_ret
  exact Ret.intro rfl k1 hX1
set_option maxHeartbeats 1000000 in
theorem P_asks (dv : Value) (at_ : Int) (x y z : Nat) (r : Nat) (st' : St) (hX : PX p dv st L S w) (hr : asks st at_ x y z = some (r, st')) :
    Calls Try.prog 101 #[ptr p, .int .i64 at_, nat x, nat y, nat z] w (Ret S (PX p dv st' L) (nat r)) := by
  have Hr := hid hr
  have HX := hid (hX.alloc (.cells #[nat x, nat y, nat z] 3))
  have Hle := hid (hX.le_alloc (.cells #[nat x, nat y, nat z] 3))
  clear hr hX
  go_enter Try.func101, Try.ntmps101
  go_wp2_with fail
  refine (P_put p dv st L _ _ 5 at_ 0 0 [] [] 0 [x, y, z] (.slice none 0 0) (.slice (some ⟨w.heap.size, 0, none⟩) 3 3) r st' HX.out (StrsR.nil _) (NatsR.new S w.heap.size 3 [x, y, z] (by unfold maxLen; simp)) Hr.out).mono ?_
  rintro e w1 ⟨rfl, S1, k1, hX1⟩
  go_wp2_with fail
  go_ret
  exact Ret.intro rfl (Hle.out.trans k1) hX1
theorem PX.bad {p : Nat} {dv : Value} {st : St} {L : List Atom} {S : Seal} {w : World} (h : PX p dv st L S w) : ∃ B, w.cell? ⟨p, 2, none⟩ = some B ∧ w.frozen? ⟨p, 2, none⟩ = false ∧ BadP S B st.bad := by
  obtain ⟨g, F, B, cells, h1, h2, h3⟩ := h; exact ⟨B, h1.blk2 2, h1.free2 2, h3⟩
theorem PX.setBad {p : Nat} {dv : Value} {st : St} {L : List Atom} {S : Seal} {w : World} (h : PX p dv st L S w) {b o : Nat} {a : Int} (hc : Sc S b (o + 1) (.int .i64 a)) :
    PX p dv { st with bad := some a } L S (w.setCell ⟨p, 2, none⟩ (.pointer (some ⟨b, o, none⟩))) := by
  obtain ⟨g, F, B, cells, h1, h2, h3⟩ := h
  exact ⟨g, F, .pointer (some ⟨b, o, none⟩), cells, (h1.swap.store 2 _).swap, h2, .inr ⟨b, o, a, rfl, hc, rfl⟩⟩
set_option maxHeartbeats 1000000 in
theorem P_wrong (i : Nat) (hX : PX p (dval b off c d) st L S w) (hE : Env S b off c d) (hi : i < d.length) :
    Calls Try.prog 46 #[ptr p, elem b off i] w (Ret S (PX p (dval b off c d) (wrong d st i).2 L) (nat 0)) := by
  obtain ⟨lv, hN⟩ := hE.at_ i hi
  obtain ⟨B, e1, e2, hB⟩ := hX.bad
  have HX := hid hX
  have HN := hid hN
  clear hE hN hX
  rcases hB with ⟨hb, rfl⟩ | ⟨b', o', a', rfl, hc, hb⟩
  · have Hb := hid hb
    clear hb
    go_enter Try.func46, Try.ntmps46
    go_wp2_with fail
    go_ret
    refine Ret.intro rfl (Seal.le.refl S) ?_
    have := HX.out.setBad HN.out.c1
    simpa [wrong, wrongAt, Hb.out] using this
  · have Hb := hid hb
    clear hb
    go_enter Try.func46, Try.ntmps46
    go_wp2_with fail
    go_ret
    refine Ret.intro rfl (Seal.le.refl S) ?_
    simpa [wrong, wrongAt, Hb.out] using HX.out
theorem P_wrongR (i r : Nat) (st' : St) (hX : PX p (dval b off c d) st L S w) (hE : Env S b off c d) (hi : i < d.length) (hr : some (wrong d st i) = some (r, st')) :
    Calls Try.prog 46 #[ptr p, elem b off i] w (Ret S (PX p (dval b off c d) st' L) (nat r)) := by
  simp only [Option.some.injEq] at hr
  have h1 : r = 0 := by rw [show r = (wrong d st i).1 by rw [hr]]; rfl
  have h2 : st' = (wrong d st i).2 := by rw [hr]
  subst h1 h2
  exact P_wrong p b off c d st L S w i hX hE hi
end
end Go.Proofs.Ytjjbidajkmodfaa
namespace Go.Proofs.Ytjjbidajkmodfaa
open Go Go.RowKit
def headStr (d : List Node) (i : Nat) : Str := if (nd d i).kind = 4 ∧ (nd d i).l ≠ [] then headName d i else []
theorem NatsR.cons {S : Seal} {v : Value} {x : Nat} {l : List Nat} (h : NatsR S v (x :: l)) : ∃ b off c, v = .slice (some ⟨b, off, none⟩) (x :: l).length c ∧ (x :: l).length ≤ c ∧ c ≤ maxLen ∧ Sc S b off (nat x) := by
  obtain ⟨b, off, c, h1, h2, h3, h4⟩ := h.at_ (by simp)
  exact ⟨b, off, c, h1, h2, h3, h4 0 x rfl⟩
section
variable (p b off c : Nat) (d : List Node) (st : St) (L : List Atom) (S : Seal) (w : World)
set_option maxRecDepth 100000 in
set_option maxHeartbeats 2000000 in
theorem P_heads (i : Nat) (hX : PX p (dval b off c d) st L S w) (hE : Env S b off c d) (hi : i < d.length) :
    Calls Try.prog 31 #[ptr p, elem b off i] w (Ret S (PX p (dval b off c d) st L) (.tuple #[str (headStr d i), .bool (heads d i)])) := by
  obtain ⟨lv, hN⟩ := hE.at_ i hi
  have hlen := Dat.len hE
  have hpar := hE.dat.par i hi
  have x0 := hX.d0
  have c0 := hX.cell hN.c0
  have c4 := hX.cell hN.c4
  have hl := hN.l
  have Hh := hid (show heads d i = (decide ((nd d i).kind = 4 ∧ (nd d i).l ≠ [] ∧ (nd d ((nd d i).l.getD 0 0)).kind = 3) && res (nd d ((nd d i).l.getD 0 0)).s) from rfl)
  have Hs := hid (show headStr d i = if (nd d i).kind = 4 ∧ (nd d i).l ≠ [] then (nd d ((nd d i).l.getD 0 0)).s else [] from rfl)
  have HX := hid hX
  have HE := hid hE
  have HN := hid hN.c4
  clear hX hE hN
  generalize nd d i = x at *
  obtain ⟨kd, at_, nn, s, l⟩ := x
  dsimp only at *
  by_cases hk : kd = 4
  case neg =>
    have hk' : (kd == 4) = false := by simpa using hk
    have Hk := hid hk
    obtain ⟨A1, cc, hlv, _, _⟩ := Sl.shape hl
    subst hlv
    clear hk hl
    go_enter Try.func31, Try.ntmps31
    go_wp2_with fail
    go_ret2
    exact Ret.intro (by simp [Hh.out, Hs.out, Hk.out]) (Seal.le.refl S) HX.out
  subst hk
  cases l with
  | nil =>
    obtain ⟨A1, cc, hlv, _, _⟩ := Sl.shape hl
    subst hlv
    clear hl
    go_enter Try.func31, Try.ntmps31
    go_wp2_with fail
    go_ret2
    exact Ret.intro (by simp [Hh.out, Hs.out]) (Seal.le.refl S) HX.out
  | cons j t =>
    obtain ⟨b1, o1, c1, hlv, h1, h2, hc1⟩ := hl.cons
    subst hlv
    have hj : j < d.length := by have := hpar j List.mem_cons_self; omega
    obtain ⟨lv2, hM⟩ := HE.out.at_ j hj
    obtain ⟨A2, cc, hlv2, _, _⟩ := Sl.shape hM.l
    subst hlv2
    obtain ⟨m, hm⟩ := HX.out.glob
    have hs := HE.out.dat.str j hj
    have HX2 := hid (HX.out.alloc (.cells #[.int .u8 (nd d j).kind, .int .i64 (nd d j).at_, .int .i64 (nd d j).n, str (nd d j).s, .slice A2 (nd d j).l.length cc] 60))
    have Hle := hid (HX.out.le_alloc (.cells #[.int .u8 (nd d j).kind, .int .i64 (nd d j).at_, .int .i64 (nd d j).n, str (nd d j).s, .slice A2 (nd d j).l.length cc] 60))
    have Hm := hid (cell_alloc hm (.cells #[.int .u8 (nd d j).kind, .int .i64 (nd d j).at_, .int .i64 (nd d j).n, str (nd d j).s, .slice A2 (nd d j).l.length cc] 60))
    have HM := hid hM
    have hcell : w.cell? ⟨b1, o1, none⟩ = some (nat j) := HX.out.cell hc1
    have Hc1 := hid hc1
    clear hl hM hm hc1 hpar
    go_enter Try.func31, Try.ntmps31
    go_wp2_with fail
    have HF := hid (fun (o : Obj) => (HX.out.alloc o).drew)
    refine wp_plan 13 (.take 0 (.take 1 (.take 2 (.take 3 (.take 4 (.take 5 (.take 6 (.take 7 (.take 8 (.take 9 (.take 10 (.take 11 (.one 12 .fin))))))))))))) (fun w' => w'.cell? ⟨p, 0, none⟩ = some (dval b off c d) ∧ w'.cell? ⟨b, off + i * 5 + 4, none⟩ = some (.slice (some ⟨b1, o1, none⟩) (t.length + 1) c1) ∧ w'.cell? ⟨b1, o1, none⟩ = some (nat j) ∧ w'.cell? ⟨b, off + j * 5, none⟩ = some (.int .u8 (nd d j).kind) ∧ w'.cell? ⟨b, off + j * 5 + 1, none⟩ = some (.int .i64 (nd d j).at_) ∧ w'.cell? ⟨b, off + j * 5 + 2, none⟩ = some (.int .i64 (nd d j).n) ∧ w'.cell? ⟨b, off + j * 5 + 3, none⟩ = some (str (nd d j).s) ∧ w'.cell? ⟨b, off + j * 5 + 4, none⟩ = some (.slice A2 (nd d j).l.length cc)) (by kernel_rfl) (by kernel_rfl) (fun _ _ d_ _ _ h_ => by cases d_ <;> exact h_) (by have h := HX.out; exact ⟨h.d0, h.cell HN.out, h.cell Hc1.out, h.cell HM.out.c0, h.cell HM.out.c1, h.cell HM.out.c2, h.cell HM.out.c3, h.cell HM.out.c4⟩) ?_
    refine Pl.takeW rfl rfl ?v1 ?hy1 ?rest1
    case hy1 => intro w_ _; first | (go_simp; done) | (go_simp; with_reducible rfl)
    simp only [Act.put, List.setIfInBounds_toArray, List.set_cons_zero, List.set_cons_succ]
    refine Pl.takeW rfl rfl ?v2 ?hy2 ?rest2
    case hy2 => intro w_ _; first | (go_simp; done) | (go_simp; with_reducible rfl)
    simp only [Act.put, List.setIfInBounds_toArray, List.set_cons_zero, List.set_cons_succ]
    refine Pl.takeW rfl rfl ?v3 ?hy3 ?rest3
    case hy3 => intro w_ _; first | (go_simp; done) | (go_simp; with_reducible rfl)
    simp only [Act.put, List.setIfInBounds_toArray, List.set_cons_zero, List.set_cons_succ]
    refine Pl.takeW rfl rfl ?v4 ?hy4 ?rest4
    case hy4 => intro w_ hS_; obtain ⟨f0, f1, f2, f3, f4, f5, f6, f7⟩ := hS_; first | (go_simp; done) | (go_simp; with_reducible rfl)
    simp only [Act.put, List.setIfInBounds_toArray, List.set_cons_zero, List.set_cons_succ]
    refine Pl.takeW rfl rfl ?v5 ?hy5 ?rest5
    case hy5 => intro w_ _; first | (go_simp; done) | (go_simp; with_reducible rfl)
    simp only [Act.put, List.setIfInBounds_toArray, List.set_cons_zero, List.set_cons_succ]
    refine Pl.takeW rfl rfl ?v6 ?hy6 ?rest6
    case hy6 => intro w_ _; first | (go_simp; done) | (go_simp; with_reducible rfl)
    simp only [Act.put, List.setIfInBounds_toArray, List.set_cons_zero, List.set_cons_succ]
    refine Pl.takeW rfl rfl ?v7 ?hy7 ?rest7
    case hy7 => intro w_ _; first | (go_simp; done) | (go_simp; with_reducible rfl)
    simp only [Act.put, List.setIfInBounds_toArray, List.set_cons_zero, List.set_cons_succ]
    refine Pl.takeW rfl rfl ?v8 ?hy8 ?rest8
    case hy8 => intro w_ hS_; obtain ⟨f0, f1, f2, f3, f4, f5, f6, f7⟩ := hS_; first | (go_simp; done) | (go_simp; with_reducible rfl)
    simp only [Act.put, List.setIfInBounds_toArray, List.set_cons_zero, List.set_cons_succ]
    refine Pl.takeW rfl rfl ?v9 ?hy9 ?rest9
    case hy9 => intro w_ _; first | (go_simp; done) | (go_simp; with_reducible rfl)
    simp only [Act.put, List.setIfInBounds_toArray, List.set_cons_zero, List.set_cons_succ]
    refine Pl.takeW rfl rfl ?v10 ?hy10 ?rest10
    case hy10 => intro w_ hS_; obtain ⟨f0, f1, f2, f3, f4, f5, f6, f7⟩ := hS_; first | (go_simp; done) | (go_simp; with_reducible rfl)
    simp only [Act.put, List.setIfInBounds_toArray, List.set_cons_zero, List.set_cons_succ]
    refine Pl.takeW rfl rfl ?v11 ?hy11 ?rest11
    case hy11 => intro w_ _; first | (go_simp; done) | (go_simp; with_reducible rfl)
    simp only [Act.put, List.setIfInBounds_toArray, List.set_cons_zero, List.set_cons_succ]
    refine Pl.takeW rfl rfl ?v12 ?hy12 ?rest12
    case hy12 => intro w_ hS_; obtain ⟨f0, f1, f2, f3, f4, f5, f6, f7⟩ := hS_; first | (go_simp; done) | (go_simp; with_reducible rfl)
    simp only [Act.put, List.setIfInBounds_toArray, List.set_cons_zero, List.set_cons_succ]
    refine Pl.oneW rfl rfl (fun K_ hK_ => ?_)
    go_simp
    refine hK_ _ _ ?_ ?_
    · have h := HX.out.alloc0 (.cells #[.int .u8 0, .int .i64 0, .int .i64 0, .string ⟨#[]⟩, .slice none 0 0] 60)
      exact ⟨h.d0, h.cell HN.out, h.cell Hc1.out, h.cell HM.out.c0, h.cell HM.out.c1, h.cell HM.out.c2, h.cell HM.out.c3, h.cell HM.out.c4⟩
    show wpList _ _ _ _ _ _
    simp only [List.drop_succ_cons, List.drop_zero]
    go_wp2_with fail
    by_cases hk3 : (nd d j).kind = 3
    · have hk3' : ((nd d j).kind == 3) = true := by simpa using hk3
      have Hk3 := hid hk3
      clear hk3
      refine wp_plan 11 (.take 0 (.take 1 (.take 2 (.take 3 (.take 4 (.take 5 (.take 6 (.take 7 (.one 8 (.take 9 (.take 10 .fin))))))))))) (fun w' => w'.cell? ⟨w.heap.size, 0, none⟩ = some (.int .u8 (nd d j).kind) ∧ w'.cell? ⟨w.heap.size, 3, none⟩ = some (str (nd d j).s)) (by kernel_rfl) (by kernel_rfl) (fun _ _ d_ _ _ h_ => by cases d_ <;> exact h_) (by exact ⟨HX2.out.drew.drew.cell (Sc.new rfl), HX2.out.drew.drew.cell (Sc.new rfl)⟩) ?_
      refine Pl.takeW rfl rfl ?v13 ?hy13 ?rest13
      case hy13 => intro w_ _; first | (go_simp; done) | (go_simp; with_reducible rfl)
      simp only [Act.put, List.setIfInBounds_toArray, List.set_cons_zero, List.set_cons_succ]
      refine Pl.takeW rfl rfl ?v14 ?hy14 ?rest14
      case hy14 => intro w_ hS_; obtain ⟨f0, f3⟩ := hS_; first | (go_simp; done) | (go_simp; with_reducible rfl)
      simp only [Act.put, List.setIfInBounds_toArray, List.set_cons_zero, List.set_cons_succ]
      refine Pl.takeW rfl rfl ?v15 ?hy15 ?rest15
      case hy15 => intro w_ _; first | (go_simp; done) | (go_simp; with_reducible rfl)
      simp only [Act.put, List.setIfInBounds_toArray, List.set_cons_zero, List.set_cons_succ]
      refine Pl.takeW rfl rfl ?v16 ?hy16 ?rest16
      case hy16 => intro w_ hS_; obtain ⟨f0, f3⟩ := hS_; first | (go_simp; done) | (go_simp; with_reducible rfl)
      simp only [Act.put, List.setIfInBounds_toArray, List.set_cons_zero, List.set_cons_succ]
      refine Pl.takeW rfl rfl ?v17 ?hy17 ?rest17
      case hy17 => intro w_ _; first | (go_simp; done) | (go_simp; with_reducible rfl)
      simp only [Act.put, List.setIfInBounds_toArray, List.set_cons_zero, List.set_cons_succ]
      refine Pl.takeW rfl rfl ?v18 ?hy18 ?rest18
      case hy18 => intro w_ _; first | (go_simp; done) | (go_simp; with_reducible rfl)
      simp only [Act.put, List.setIfInBounds_toArray, List.set_cons_zero, List.set_cons_succ]
      first
        | (refine Pl.takeW rfl rfl ?v19 ?hy19 ?rest19
           case hy19 => intro w_ _; first | (go_simp; done) | (go_simp; with_reducible rfl))
        | refine Pl.takeU rfl rfl ?rest19
      simp only [Act.put, List.setIfInBounds_toArray, List.set_cons_zero, List.set_cons_succ]
      first
        | (refine Pl.takeW rfl rfl ?v20 ?hy20 ?rest20
           case hy20 => intro w_ hS_; obtain ⟨f0, f3⟩ := hS_; first | (go_simp; done) | (go_simp; with_reducible rfl))
        | refine Pl.takeU rfl rfl ?rest20
      simp only [Act.put, List.setIfInBounds_toArray, List.set_cons_zero, List.set_cons_succ]
      refine Pl.oneW rfl rfl (fun K_ hK_ => ?_)
      go_simp
      refine (P_reserved _ _ m ?_ ?_).mono ?_
      · exact Hm.out
      · have := hs; omega
      rintro e w' ⟨rfl, rfl⟩
      refine hK_ _ _ ⟨HX2.out.drew.drew.cell (Sc.new rfl), HX2.out.drew.drew.cell (Sc.new rfl)⟩ ?_
      refine Pl.takeW rfl rfl ?v21 ?hy21 ?rest21
      case hy21 => intro w_ _; first | (go_simp; done) | (go_simp; with_reducible rfl)
      simp only [Act.put, List.setIfInBounds_toArray, List.set_cons_zero, List.set_cons_succ]
      refine Pl.takeW rfl rfl ?v22 ?hy22 ?rest22
      case hy22 => intro w_ _; first | (go_simp; done) | (go_simp; with_reducible rfl)
      simp only [Act.put, List.setIfInBounds_toArray, List.set_cons_zero, List.set_cons_succ]
      show wpList _ _ _ _ _ _
      simp only [List.drop_succ_cons, List.drop_zero]
      go_wp2_with fail
      go_ret2
      exact Ret.intro (by simp [Act.eval, Hh.out, Hs.out, Hk3.out]) Hle.out HX2.out.drew.drew
    · have hk3' : ((nd d j).kind == 3) = false := by simpa using hk3
      have Hk3 := hid hk3
      clear hk3
      refine wp_plan 11 (.take 0 (.take 1 (.take 2 (.take 3 (.take 4 (.take 5 (.take 6 (.take 7 (.one 8 (.take 9 (.take 10 .fin))))))))))) (fun w' => w'.cell? ⟨w.heap.size, 0, none⟩ = some (.int .u8 (nd d j).kind) ∧ w'.cell? ⟨w.heap.size, 3, none⟩ = some (str (nd d j).s)) (by kernel_rfl) (by kernel_rfl) (fun _ _ d_ _ _ h_ => by cases d_ <;> exact h_) (by exact ⟨HX2.out.drew.drew.cell (Sc.new rfl), HX2.out.drew.drew.cell (Sc.new rfl)⟩) ?_
      refine Pl.takeW rfl rfl ?v23 ?hy23 ?rest23
      case hy23 => intro w_ _; first | (go_simp; done) | (go_simp; with_reducible rfl)
      simp only [Act.put, List.setIfInBounds_toArray, List.set_cons_zero, List.set_cons_succ]
      refine Pl.takeW rfl rfl ?v24 ?hy24 ?rest24
      case hy24 => intro w_ hS_; obtain ⟨f0, f3⟩ := hS_; first | (go_simp; done) | (go_simp; with_reducible rfl)
      simp only [Act.put, List.setIfInBounds_toArray, List.set_cons_zero, List.set_cons_succ]
      refine Pl.takeW rfl rfl ?v25 ?hy25 ?rest25
      case hy25 => intro w_ _; first | (go_simp; done) | (go_simp; with_reducible rfl)
      simp only [Act.put, List.setIfInBounds_toArray, List.set_cons_zero, List.set_cons_succ]
      refine Pl.takeW rfl rfl ?v26 ?hy26 ?rest26
      case hy26 => intro w_ hS_; obtain ⟨f0, f3⟩ := hS_; first | (go_simp; done) | (go_simp; with_reducible rfl)
      simp only [Act.put, List.setIfInBounds_toArray, List.set_cons_zero, List.set_cons_succ]
      refine Pl.takeW rfl rfl ?v27 ?hy27 ?rest27
      case hy27 => intro w_ _; first | (go_simp; done) | (go_simp; with_reducible rfl)
      simp only [Act.put, List.setIfInBounds_toArray, List.set_cons_zero, List.set_cons_succ]
      refine Pl.takeW rfl rfl ?v28 ?hy28 ?rest28
      case hy28 => intro w_ _; first | (go_simp; done) | (go_simp; with_reducible rfl)
      simp only [Act.put, List.setIfInBounds_toArray, List.set_cons_zero, List.set_cons_succ]
      first
        | (refine Pl.takeW rfl rfl ?v29 ?hy29 ?rest29
           case hy29 => intro w_ _; first | (go_simp; done) | (go_simp; with_reducible rfl))
        | refine Pl.takeU rfl rfl ?rest29
      simp only [Act.put, List.setIfInBounds_toArray, List.set_cons_zero, List.set_cons_succ]
      first
        | (refine Pl.takeW rfl rfl ?v30 ?hy30 ?rest30
           case hy30 => intro w_ hS_; obtain ⟨f0, f3⟩ := hS_; first | (go_simp; done) | (go_simp; with_reducible rfl))
        | refine Pl.takeU rfl rfl ?rest30
      simp only [Act.put, List.setIfInBounds_toArray, List.set_cons_zero, List.set_cons_succ]
      refine Pl.oneU rfl rfl (⟨HX2.out.drew.drew.cell (Sc.new rfl), HX2.out.drew.drew.cell (Sc.new rfl)⟩) ?_
      simp only [Act.put, List.setIfInBounds_toArray, List.set_cons_zero, List.set_cons_succ]
      refine Pl.takeW rfl rfl ?v31 ?hy31 ?rest31
      case hy31 => intro w_ _; first | (go_simp; done) | (go_simp; with_reducible rfl)
      simp only [Act.put, List.setIfInBounds_toArray, List.set_cons_zero, List.set_cons_succ]
      refine Pl.takeW rfl rfl ?v32 ?hy32 ?rest32
      case hy32 => intro w_ _; first | (go_simp; done) | (go_simp; with_reducible rfl)
      simp only [Act.put, List.setIfInBounds_toArray, List.set_cons_zero, List.set_cons_succ]
      show wpList _ _ _ _ _ _
      simp only [List.drop_succ_cons, List.drop_zero]
      go_wp2_with fail
      go_ret2
      exact Ret.intro (by simp [Act.eval, Hh.out, Hs.out, Hk3.out]) Hle.out HX2.out.drew.drew
end
end Go.Proofs.Ytjjbidajkmodfaa
namespace Go.Proofs.Ytjjbidajkmodfaa
open Go Go.RowKit
def OkP (p b off c : Nat) (d : List Node) (F : Fm) : Prop := ∀ (st : St) (L : List Atom) (S : Seal) (w : World) (i r : Nat) (st' : St), PX p (dval b off c d) st L S w → Env S b off c d → i < d.length → F st i = some (r, st') →
    Calls Try.prog 33 #[ptr p, nat i] w (Ret S (PX p (dval b off c d) st' L) (nat r))
theorem forms_cons {F : Fm} {st : St} {i : Nat} {l : List Nat} {y : List Nat × St} (h : forms F st (i :: l) = some y) : ∃ r st1 rs, F st i = some (r, st1) ∧ forms F st1 l = some (rs, y.2) ∧ y.1 = r :: rs := by
  simp only [forms, Option.bind_eq_some_iff] at h
  obtain ⟨⟨r, st1⟩, h1, ⟨rs, st2⟩, h2, h3⟩ := h
  cases h3
  exact ⟨r, st1, rs, h1, h2, rfl⟩
theorem forms_nil {F : Fm} {st : St} {y : List Nat × St} (h : forms F st [] = some y) : y = ([], st) := by simp only [forms] at h; cases h; rfl
def FormsRel (X : St → List Atom → Seal → World → Prop) (F : Fm) (e : Nat) (l : List Nat) (st' : St) (rs : List Nat) (pre : List Nat) (L : List Atom) (S : Seal) (v i : Value) (wr : World) : Prop :=
  ∃ k o st1 S1 rest, k ≤ l.length ∧ i = nat k ∧ S.le S1 ∧ X st1 (.row e 1 v (pre ++ o).length ((pre ++ o).map nat) :: L) S1 wr ∧ forms F st1 (l.drop k) = some (rest, st') ∧ rs = o ++ rest ∧ o.length = k
section
variable (p b off c : Nat) (d : List Node) (st : St) (L : List Atom) (S : Seal) (w : World)
set_option maxRecDepth 100000 in
set_option maxHeartbeats 2000000 in
theorem P_call (F : Fm) (HF : OkP p b off c d F) (at_ : Int) (f : Nat) (lv : Value) (l : List Nat) (r : Nat) (st' : St) (hX : PX p (dval b off c d) st L S w) (hE : Env S b off c d)
    (hl : NatsR S lv l) (hin : ∀ j ∈ l, j < d.length) (hll : l.length ≤ 1099511627776) (hr : call F at_ f st l = some (r, st')) :
    Calls Try.prog 56 #[ptr p, .int .i64 at_, nat f, lv] w (Ret S (PX p (dval b off c d) st' L) (nat r)) := by
  simp only [call, Option.bind_eq_some_iff] at hr
  obtain ⟨⟨rs, st1⟩, hr1, hr2⟩ := hr
  obtain ⟨A, cc, rfl, _, _⟩ := Sl.shape hl
  have hlen := hl.len
  have HX := hid (Xs.allocRow (PX.xs p (dval b off c d) st) hX 3 1 [nat f] rfl (by unfold maxLen; omega))
  have HE := hid hE
  have HF := hid HF
  have Hl := hid hl
  have Hin := hid hin
  have Hr1 := hid hr1
  have Hr2 := hid hr2
  clear hX hE hl hin hr1 hr2
  go_enter Try.func56, Try.ntmps56
  go_wp2_with fail
  go_loopw [9, 16] (fun v i wr => FormsRel (PX p (dval b off c d)) F 3 l st1 rs [f] L S v i wr) (fun _ i _ => l.length - (intOf i).toNat)
  case atStart => exact ⟨0, [], st, S, rs, Nat.zero_le _, rfl, Seal.le.refl S, HX.out, Hr1.out, rfl, rfl⟩
  case round =>
    obtain ⟨k, o, st2, S2, rest, hk, rfl, hS2, hX2, hf2, hrs, hok⟩ := hrel
    have HS2 := hid hS2
    have HX2 := hid hX2
    have Hf2 := hid hf2
    have Hrs := hid hrs
    have Hok := hid hok
    clear hS2 hX2 hf2 hrs hok
    by_cases hlt : k < l.length
    · obtain ⟨b1, o1, rfl, hcell⟩ : ∃ b1 o1, A = some ⟨b1, o1, none⟩ ∧ World.cell? _ ⟨b1, o1 + k, none⟩ = some (nat l[k]) := by
        obtain ⟨b1, o1, c1, hv, _, _, hc⟩ := Hl.out.at_ (by intro h; subst h; simp at hlt)
        cases hv
        exact ⟨b1, o1, rfl, (PX.xs _ _ _).cell HX2.out ((hc k _ (List.getElem?_eq_some_iff.2 ⟨hlt, rfl⟩)).mono HS2.out)⟩
      have hd : l.drop k = l[k] :: l.drop (k + 1) := List.drop_eq_getElem_cons hlt
      have hf2 := Hf2.out
      rw [hd] at hf2
      obtain ⟨r3, st3, rest3, h31, h32, h33⟩ := forms_cons hf2
      have Hi := hid (Hin.out l[k] (List.getElem_mem hlt))
      have H31 := hid h31
      have H32 := hid h32
      have H33 := hid h33
      clear hd hf2 h31 h32 h33
      generalize l[k] = x at *
      go_wp2_with fail
      refine (HF.out st2 _ S2 _ x r3 st3 HX2.out (HE.out.mono HS2.out) Hi.out H31.out).mono ?_
      rintro e w4 ⟨rfl, S4, k4, hX4⟩
      have HA5 := hid (Xs.alloc0 (PX.xs _ _ _) hX4 (.cells #[nat r3] 3))
      have HN5 := hid (cells_new w4 _ rfl [nat r3] 3)
      go_wp2_with (at_builtin; refine wpList_appendX tyInts (PX.xs _ _ _) rfl (.tmp 20) (.tmp 24) rfl rfl HA5.out ⟨w4.heap.size, 0, none⟩ 1 1 [nat r3] rfl rfl HN5.out ?c1_5 ?c2_5 ?c3_5 ?c4_5)
      case c1_5 => simp [Value.oneCell']
      case c2_5 => (have := Hok.out; simp; omega)
      case c3_5 => unfold maxLen; (have := Hok.out; simp; omega)
      clear HA5 HN5
      intro v5 u5 hY5
      have HX5 := hid hY5
      have HK := hid (HS2.out.trans k4)
      clear hY5 hX4 k4
      go_wp2_with fail
      go_roundw
      case rel =>
        refine ⟨k + 1, o ++ [r3], st3, S4, rest3, by omega, by go_num, HK.out, by simpa using HX5.out, H32.out, ?_, by simp [Hok.out]⟩
        rw [Hrs.out]; simp [H33.out]
      case measure => simp [intOf]; omega
    · have hk' : k = l.length := by omega
      have hf2 := Hf2.out
      rw [hk', List.drop_length] at hf2
      have e1 := forms_nil hf2
      simp only [Prod.mk.injEq] at e1
      obtain ⟨e2, e3⟩ := e1
      subst e2 e3
      have e4 : rs = o := by rw [Hrs.out]; simp
      subst e4
      obtain ⟨S3, k3, hX3, hs3⟩ := (PX.xs _ _ _).sealRow HX2.out
      have Hk' := hid hk'
      have HS3 := hid hs3
      have HX3 := hid hX3
      have HK := hid (HS2.out.trans k3)
      obtain ⟨A5, c5, rfl, _, _⟩ := (PX.xs _ _ _).rowLen HX2.out
      clear hf2 hk' hs3 hX3 k3
      go_wp2_with fail
      refine (P_put p (dval b off c d) st1 L S3 _ 10 at_ 0 0 [] [] 0 (f :: rs) (.slice none 0 0) _ r st' HX3.out (StrsR.nil _) HS3.out Hr2.out).mono ?_
      rintro e w6 ⟨rfl, S6, k6, hX6⟩
      go_wp2_with fail
      go_ret
      exact Ret.intro rfl (HK.out.trans k6) hX6
theorem forms_len {F : Fm} : ∀ {l : List Nat} {st : St} {y : List Nat × St}, forms F st l = some y → y.1.length = l.length
  | [], st, y, h => by rw [forms_nil h]
  | i :: l, st, y, h => by
    obtain ⟨r, st1, rs, h1, h2, h3⟩ := forms_cons h
    have := forms_len h2
    rw [h3]; simpa using this
theorem body_forms {F : Fm} {at_ : Int} {st : St} {l : List Nat} {r : Nat} {st' : St} (h : body F at_ st l = some (r, st')) :
    ∃ rs st1, forms F st l = some (rs, st1) ∧ ((l.length = 1 ∧ rs = [r] ∧ st1 = st') ∨ (l.length ≠ 1 ∧ put st1 { kind := 8, at_ := at_, l := rs } = some (r, st'))) := by
  unfold body at h
  split at h
  · rename_i h1
    match l, h1 with
    | [x], _ =>
      refine ⟨[r], st', ?_, .inl ⟨rfl, rfl, rfl⟩⟩
      simp only [List.getD_cons_zero] at h
      simp [forms, h]
  · rename_i h1
    simp only [Option.bind_eq_some_iff] at h
    obtain ⟨⟨rs, st1⟩, h2, h3⟩ := h
    exact ⟨rs, st1, h2, .inr ⟨h1, h3⟩⟩
set_option maxRecDepth 100000 in
set_option maxHeartbeats 2000000 in
theorem P_body (F : Fm) (HF : OkP p b off c d F) (at_ : Int) (lv : Value) (l : List Nat) (r : Nat) (st' : St) (hX : PX p (dval b off c d) st L S w) (hE : Env S b off c d)
    (hl : NatsR S lv l) (hin : ∀ j ∈ l, j < d.length) (hll : l.length ≤ 1099511627776) (hr : body F at_ st l = some (r, st')) :
    Calls Try.prog 53 #[ptr p, .int .i64 at_, lv] w (Ret S (PX p (dval b off c d) st' L) (nat r)) := by
  obtain ⟨rs, st1, hr1, hr2⟩ := body_forms hr
  have hrl := forms_len hr1
  obtain ⟨A, cc, rfl, _, _⟩ := Sl.shape hl
  have hlen := hl.len
  have HX := hid (Xs.rowNil (PX.xs p (dval b off c d) st) hX 3 1)
  have HE := hid hE
  have HF := hid HF
  have Hl := hid hl
  have Hin := hid hin
  have Hr1 := hid hr1
  have Hr2 := hid hr2
  have Hrl := hid hrl
  clear hX hE hl hin hr1 hr2 hr hrl
  go_enter Try.func53, Try.ntmps53
  go_wp2_with fail
  go_loopw [7, 12] (fun v i wr => FormsRel (PX p (dval b off c d)) F 3 l st1 rs [] L S v i wr) (fun _ i _ => l.length - (intOf i).toNat)
  case atStart => exact ⟨0, [], st, S, rs, Nat.zero_le _, rfl, Seal.le.refl S, HX.out, Hr1.out, rfl, rfl⟩
  case round =>
    obtain ⟨k, o, st2, S2, rest, hk, rfl, hS2, hX2, hf2, hrs, hok⟩ := hrel
    have HS2 := hid hS2
    have HX2 := hid hX2
    have Hf2 := hid hf2
    have Hrs := hid hrs
    have Hok := hid hok
    clear hS2 hX2 hf2 hrs hok
    by_cases hlt : k < l.length
    · obtain ⟨b1, o1, rfl, hcell⟩ : ∃ b1 o1, A = some ⟨b1, o1, none⟩ ∧ World.cell? _ ⟨b1, o1 + k, none⟩ = some (nat l[k]) := by
        obtain ⟨b1, o1, c1, hv, _, _, hc⟩ := Hl.out.at_ (by intro h; subst h; simp at hlt)
        cases hv
        exact ⟨b1, o1, rfl, (PX.xs _ _ _).cell HX2.out ((hc k _ (List.getElem?_eq_some_iff.2 ⟨hlt, rfl⟩)).mono HS2.out)⟩
      have hd : l.drop k = l[k] :: l.drop (k + 1) := List.drop_eq_getElem_cons hlt
      have hf2 := Hf2.out
      rw [hd] at hf2
      obtain ⟨r3, st3, rest3, h31, h32, h33⟩ := forms_cons hf2
      have Hi := hid (Hin.out l[k] (List.getElem_mem hlt))
      have H31 := hid h31
      have H32 := hid h32
      have H33 := hid h33
      clear hd hf2 h31 h32 h33
      generalize l[k] = x at *
      go_wp2_with fail
      refine (HF.out st2 _ S2 _ x r3 st3 HX2.out (HE.out.mono HS2.out) Hi.out H31.out).mono ?_
      rintro e w4 ⟨rfl, S4, k4, hX4⟩
      have HA5 := hid (Xs.alloc0 (PX.xs _ _ _) hX4 (.cells #[nat r3] 3))
      have HN5 := hid (cells_new w4 _ rfl [nat r3] 3)
      go_wp2_with (at_builtin; refine wpList_appendX tyInts (PX.xs _ _ _) rfl (.tmp 16) (.tmp 20) rfl rfl HA5.out ⟨w4.heap.size, 0, none⟩ 1 1 [nat r3] rfl rfl HN5.out ?c1_5 ?c2_5 ?c3_5 ?c4_5)
      case c1_5 => simp [Value.oneCell']
      case c2_5 => (have := Hok.out; simp; omega)
      case c3_5 => unfold maxLen; (have := Hok.out; simp; omega)
      clear HA5 HN5
      intro v5 u5 hY5
      have HX5 := hid hY5
      have HK := hid (HS2.out.trans k4)
      clear hY5 hX4 k4
      go_wp2_with fail
      go_roundw
      case rel =>
        refine ⟨k + 1, o ++ [r3], st3, S4, rest3, by omega, by go_num, HK.out, by simpa using HX5.out, H32.out, ?_, by simp [Hok.out]⟩
        rw [Hrs.out]; simp [H33.out]
      case measure => simp [intOf]; omega
    · have hk' : k = l.length := by omega
      have hf2 := Hf2.out
      rw [hk', List.drop_length] at hf2
      have e1 := forms_nil hf2
      simp only [Prod.mk.injEq] at e1
      obtain ⟨e2, e3⟩ := e1
      subst e2 e3
      have e4 : rs = o := by rw [Hrs.out]; simp
      subst e4
      have Hk' := hid hk'
      have hrl : rs.length = l.length := Hrl.out
      obtain ⟨A5, c5, rfl, _, _⟩ := (PX.xs _ _ _).rowLen HX2.out
      rcases Hr2.out with ⟨h1, h2, h3⟩ | ⟨h1, h2⟩
      · subst h2 h3
        obtain ⟨g, c6, hv, hcell⟩ := (PX.xs _ _ _).natsCell HX2.out (j := 0) (n := r) rfl
        cases hv
        have HX3 := hid ((PX.xs _ _ _).dropAtom HX2.out)
        clear hf2 hk' h1 hrl
        go_wp2_with fail
        go_ret
        exact Ret.intro rfl HS2.out HX3.out
      · obtain ⟨S3, k3, hX3, hs3⟩ := (PX.xs _ _ _).sealRow HX2.out
        have hne : ((rs.length : Int) == 1) = false := by rw [beq_eq_false_iff_ne]; omega
        have HS3 := hid hs3
        have HX3 := hid hX3
        have HK := hid (HS2.out.trans k3)
        have H2 := hid h2
        clear hf2 hk' hs3 hX3 k3 h1 h2 hrl
        go_wp2_with fail
        refine (P_put p (dval b off c d) st1 L S3 _ 8 at_ 0 0 [] [] 0 rs (.slice none 0 0) _ r st' HX3.out (StrsR.nil _) HS3.out H2.out).mono ?_
        rintro e w6 ⟨rfl, S6, k6, hX6⟩
        go_wp2_with fail
        go_ret
        exact Ret.intro rfl (HK.out.trans k6) hX6
end
end Go.Proofs.Ytjjbidajkmodfaa
namespace Go.Proofs.Ytjjbidajkmodfaa
open Go Go.RowKit
def NamesRet (S : Seal) (X : Seal → World → Prop) (o : Option (List Str)) (e : Ending) (w' : World) : Prop :=
  ∃ v S', S.le S' ∧ X S' w' ∧ ((o = none ∧ e = .returned (.tuple #[.slice none 0 0, .bool false])) ∨ ∃ ns, o = some ns ∧ e = .returned (.tuple #[v, .bool true]) ∧ StrsR S' v ns)
def NamesYes (S : Seal) (X : Seal → World → Prop) (ns : List Str) (e : Ending) (w' : World) : Prop :=
  ∃ v S', S.le S' ∧ X S' w' ∧ e = .returned (.tuple #[v, .bool true]) ∧ StrsR S' v ns
def NamesRel (X : List Atom → Seal → World → Prop) (d : List Node) (e : Nat) (l : List Nat) (r : Option (List Str)) (L : List Atom) (S : Seal) (v i : Value) (wr : World) : Prop :=
  ∃ k o S1, k ≤ l.length ∧ i = nat k ∧ S.le S1 ∧ X (.row e 1 v o.length (o.map str) :: L) S1 wr ∧ namesGo d o (l.drop k) = r ∧ o.length ≤ 100
section
variable (p b off c : Nat) (d : List Node) (st : St) (L : List Atom) (S : Seal) (w : World)
set_option maxRecDepth 100000 in
set_option maxHeartbeats 2000000 in
theorem P_names (lv : Value) (l : List Nat) (hX : PX p (dval b off c d) st L S w) (hE : Env S b off c d) (hl : NatsR S lv l) (hin : ∀ j ∈ l, j < d.length) :
    Calls Try.prog 50 #[ptr p, lv] w (NamesRet S (PX p (dval b off c d) st L) (names d l)) := by
  obtain ⟨A, cc, rfl, _, _⟩ := Sl.shape hl
  have hlen := hl.len
  have HX := hid (Xs.rowNil (PX.xs p (dval b off c d) st) hX 9 1)
  have HE := hid hE
  have Hl := hid hl
  have Hin := hid hin
  clear hX hE hl hin
  go_enter Try.func50, Try.ntmps50
  go_wp2_with fail
  go_loopw [6, 13] (fun v i wr => NamesRel (PX p (dval b off c d) st) d 9 l (names d l) L S v i wr) (fun _ i _ => l.length - (intOf i).toNat)
  case atStart => exact ⟨0, [], S, Nat.zero_le _, rfl, Seal.le.refl S, HX.out, rfl, by simp⟩
  case round =>
    obtain ⟨k, o, S2, hk, rfl, hS2, hX2, hr2, ho⟩ := hrel
    have HS2 := hid hS2
    have HX2 := hid hX2
    have Hr2 := hid hr2
    clear hS2 hX2 hr2
    by_cases hlt : k < l.length
    · obtain ⟨b1, o1, rfl, hcell⟩ : ∃ b1 o1, A = some ⟨b1, o1, none⟩ ∧ World.cell? _ ⟨b1, o1 + k, none⟩ = some (nat l[k]) := by
        obtain ⟨b1, o1, c1, hv, _, _, hc⟩ := Hl.out.at_ (by intro h; subst h; simp at hlt)
        cases hv
        exact ⟨b1, o1, rfl, (PX.xs _ _ _).cell HX2.out ((hc k _ (List.getElem?_eq_some_iff.2 ⟨hlt, rfl⟩)).mono HS2.out)⟩
      have hd : l.drop k = l[k] :: l.drop (k + 1) := List.drop_eq_getElem_cons hlt
      have hf2 := Hr2.out
      rw [hd, namesGo] at hf2
      have Hf2 := hid hf2
      have Hi := hid (Hin.out l[k] (List.getElem_mem hlt))
      clear hd hf2
      generalize l[k] = x at *
      have hn : nameOf d x ≠ [] → nameOf d x = (nd d x).s := by
        unfold nameOf; split <;> simp
      have Hn := hid hn
      clear hn
      by_cases h1 : nameOf d x = []
      · have Hnm := hid (P_name p b off c d st _ S2 _ x HX2.out (HE.out.mono HS2.out) Hi.out)
        rw [h1] at Hnm
        have H1 := hid h1
        clear h1
        go_wp2_with fail
        refine (Hnm.out).mono ?_
        rintro e w4 ⟨rfl, S4, k4, hX4⟩
        go_wp2_with fail
        go_ret2
        exact ⟨.nilFunc, S4, HS2.out.trans k4, (PX.xs _ _ _).dropAtom hX4, .inl ⟨by rw [← Hf2.out, if_pos (.inl H1.out)], rfl⟩⟩
      · have Hnm := hid (P_name p b off c d st _ S2 _ x HX2.out (HE.out.mono HS2.out) Hi.out)
        have hb1 : (nameOf d x == []) = false := by simpa using h1
        rw [hb1] at Hnm
        have H1 := hid h1
        have H2 := hid (Hn.out h1)
        clear h1 hb1
        go_wp2_with fail
        refine (Hnm.out).mono ?_
        rintro e w4 ⟨rfl, S4, k4, hX4⟩
        have Hs := hid ((PX.xs _ _ _).strsW hX4)
        have HX4 := hid hX4
        have HK := hid (HS2.out.trans k4)
        obtain ⟨A3, c3, rfl, _, _⟩ := (PX.xs _ _ _).rowLen hX4
        clear hX4 k4
        by_cases h3 : o.contains (nd d x).s = true
        · have Hc := hid (S_contains o (nd d x).s _ _ Hs.out)
          rw [h3] at Hc
          have H3 := hid h3
          clear h3
          go_wp2_with fail
          refine Hc.out.mono ?_
          rintro e w5 ⟨rfl, rfl⟩
          go_wp2_with fail
          go_ret2
          exact ⟨.nilFunc, S4, HK.out, (PX.xs _ _ _).dropAtom HX4.out, .inl ⟨by rw [← Hf2.out, if_pos (.inr (.inr (by rw [H2.out]; exact H3.out)))], rfl⟩⟩
        · have h3' : o.contains (nd d x).s = false := by simpa using h3
          have Hc := hid (S_contains o (nd d x).s _ _ Hs.out)
          rw [h3'] at Hc
          have H3 := hid h3'
          clear h3 h3'
          by_cases h4 : o.length = 100
          · have h4' : ((o.length : Int) == 100) = true := by rw [h4]; rfl
            have H4 := hid h4
            clear h4
            go_wp2_with fail
            refine Hc.out.mono ?_
            rintro e w5 ⟨rfl, rfl⟩
            go_wp2_with fail
            go_ret2
            exact ⟨.nilFunc, S4, HK.out, (PX.xs _ _ _).dropAtom HX4.out, .inl ⟨by rw [← Hf2.out, if_pos (.inr (.inl (by rw [H4.out]; exact Nat.le_refl _)))], rfl⟩⟩
          · have h4' : ((o.length : Int) == 100) = false := by rw [beq_eq_false_iff_ne]; omega
            have H4 := hid h4
            clear h4
            go_wp2_with fail
            refine Hc.out.mono ?_
            rintro e w5 ⟨rfl, rfl⟩
            have HA5 := hid (Xs.alloc0 (PX.xs _ _ _) HX4.out (.cells #[str (nd d x).s] 9))
            have HN5 := hid (cells_new w5 _ rfl [str (nd d x).s] 9)
            go_wp2_with (at_builtin; refine wpList_appendX tyStrs (PX.xs _ _ _) rfl (.tmp 35) (.tmp 37) rfl rfl HA5.out ⟨w5.heap.size, 0, none⟩ 1 1 [str (nd d x).s] rfl rfl HN5.out ?c1_5 ?c2_5 ?c3_5 ?c4_5)
            case c1_5 => simp [Value.oneCell']
            case c2_5 => omega
            case c3_5 => unfold maxLen; omega
            clear HA5 HN5
            intro v5 u5 hY5
            have HX5 := hid hY5
            clear hY5
            go_wp2_with fail
            go_roundw
            case rel =>
              refine ⟨k + 1, o ++ [(nd d x).s], S4, by omega, by go_num, HK.out, by simpa using HX5.out, ?_, by have := H4.out; simp; omega⟩
              rw [← Hf2.out, if_neg, H2.out]
              rw [H2.out, H3.out]
              have := H4.out; have := H1.out
              rintro (h | h | h)
              · rw [H2.out] at this; exact this h
              · omega
              · cases h
            case measure => simp [intOf]; omega
    · have hk' : k = l.length := by omega
      have hf2 := Hr2.out
      rw [hk', List.drop_length, namesGo] at hf2
      have Hf2 := hid hf2
      have Hk' := hid hk'
      obtain ⟨S3, k3, hX3, hs3⟩ := (PX.xs _ _ _).sealRow HX2.out
      have HS3 := hid hs3
      have HX3 := hid hX3
      have HK := hid (HS2.out.trans k3)
      clear hf2 hk' hs3 hX3 k3
      go_wp2_with fail
      go_ret2
      exact ⟨_, S3, HK.out, HX3.out, .inr ⟨o, Hf2.out.symm, rfl, HS3.out⟩⟩
def BoundRet (S : Seal) (X : Seal → World → Prop) (o : Option (List Nat × List Nat)) (e : Ending) (w' : World) : Prop :=
  ∃ v u S', S.le S' ∧ X S' w' ∧ ((o = none ∧ e = .returned (.tuple #[.slice none 0 0, .slice none 0 0, .bool false])) ∨ ∃ ps vs, o = some (ps, vs) ∧ e = .returned (.tuple #[v, u, .bool true]) ∧ NatsR S' v ps ∧ NatsR S' u vs)
def BoundRel (X : List Atom → Seal → World → Prop) (d : List Node) (e : Nat) (l : List Nat) (r : Option (List Nat × List Nat)) (L : List Atom) (S : Seal) (v u i : Value) (wr : World) : Prop :=
  ∃ k o q S1, k ≤ l.length ∧ i = nat k ∧ S.le S1 ∧ X (.row e 1 v o.length (o.map nat) :: .row e 1 u q.length (q.map nat) :: L) S1 wr ∧ (pairsGo d (l.drop k)).map (fun x => (o ++ x.1, q ++ x.2)) = r ∧ o.length = k ∧ q.length = k
theorem pairsGo_cons (d : List Node) (p : Nat) (l : List Nat) : pairsGo d (p :: l) = if (nd d p).kind = 4 ∧ (nd d p).l.length = 2 ∧ nameOf d ((nd d p).l.getD 0 0) ≠ [] then
      (pairsGo d l).bind fun x => some ((nd d p).l.getD 0 0 :: x.1, (nd d p).l.getD 1 0 :: x.2) else none := by rw [pairsGo]
set_option maxRecDepth 100000 in
set_option maxHeartbeats 4000000 in
theorem P_bound (i : Nat) (hX : PX p (dval b off c d) st L S w) (hE : Env S b off c d) (hi : i < d.length) :
    Calls Try.prog 103 #[ptr p, nat i] w (BoundRet S (PX p (dval b off c d) st L) (pairs d i)) := by
  obtain ⟨lv, hl, Hc⟩ := P_list p b off c d st L S w i hX hE hi
  have hin : ∀ j ∈ (nd d i).l, j < d.length := fun j hj => by have := hE.dat.par i hi j hj; omega
  have hll := hE.dat.ll i hi
  have hpr : pairs d i = if (nd d i).kind = 4 then pairsGo d (nd d i).l else none := rfl
  obtain ⟨A, cc, rfl, _, _⟩ := Sl.shape hl
  have HE := hid hE
  have Hl := hid hl
  have Hin := hid hin
  have Hc := hid Hc
  by_cases hk : (nd d i).kind = 4
  case neg =>
    have hk' : ((nd d i).kind == 4) = false := by simpa using hk
    rw [hk'] at Hc
    rw [if_neg hk] at hpr
    have Hpr := hid hpr
    clear hX hE hl hin hk hk' hpr
    go_enter Try.func103, Try.ntmps103
    go_wp2_with fail
    refine (Hc.out).mono ?_
    rintro e w1 ⟨rfl, S1, k1, hX1⟩
    go_wp2_with fail
    go_ret3
    exact ⟨.nilFunc, .nilFunc, S1, k1, hX1, .inl ⟨Hpr.out, rfl⟩⟩
  have hk' : ((nd d i).kind == 4) = true := by simpa using hk
  rw [hk'] at Hc
  rw [if_pos hk] at hpr
  have hlen := hl.len
  have Hpr := hid hpr
  clear hX hE hl hin hk hk' hpr
  generalize (nd d i).l = l at *
  go_enter Try.func103, Try.ntmps103
  go_wp2_with fail
  refine (Hc.out).mono ?_
  rintro e w1 ⟨rfl, S1, k1, hX1⟩
  have HX := hid ((PX.xs _ _ _).rowNil ((PX.xs _ _ _).rowNil hX1 3 1) 3 1)
  have HK1 := hid k1
  clear hX1 k1
  go_wp2_with fail
  go_loopw [4, 5, 24] (fun v u z wr => BoundRel (PX p (dval b off c d) st) d 3 l (pairs d i) L S v u z wr) (fun _ _ z _ => l.length - (intOf z).toNat)
  case atStart => exact ⟨0, [], [], S1, Nat.zero_le _, rfl, HK1.out, HX.out, by rw [Hpr.out, List.drop_zero]; cases pairsGo d l <;> rfl, rfl, rfl⟩
  case round =>
    obtain ⟨k, o, q, S2, hkl, rfl, hS2, hX2, hr2, hok, hqk⟩ := hrel
    have HS2 := hid hS2
    have HX2 := hid hX2
    have Hr2 := hid hr2
    have Hok := hid hok
    have Hqk := hid hqk
    clear hS2 hX2 hr2 hok hqk
    by_cases hlt : k < l.length
    case neg =>
      have hk' : k = l.length := by omega
      have hf2 := Hr2.out
      rw [hk', List.drop_length] at hf2
      have Hf2 := hid hf2
      obtain ⟨S3, k3, hX3, hs3⟩ := (PX.xs _ _ _).sealRow HX2.out
      obtain ⟨S4, k4, hX4, hs4⟩ := (PX.xs _ _ _).sealRow hX3
      have HS3 := hid (hs3.mono k4)
      have HS4 := hid hs4
      have HX4 := hid hX4
      have HK := hid ((HS2.out.trans k3).trans k4)
      clear hf2 hk' hs3 hX3 k3 hs4 hX4 k4
      go_wp2_with fail
      go_ret3
      exact ⟨_, _, S4, HK.out, HX4.out, .inr ⟨o, q, by rw [← Hf2.out]; simp [pairsGo], rfl, HS3.out, HS4.out⟩⟩
    obtain ⟨b1, o1, rfl, hcell⟩ : ∃ b1 o1, A = some ⟨b1, o1, none⟩ ∧ World.cell? _ ⟨b1, o1 + k, none⟩ = some (nat l[k]) := by
      obtain ⟨b1, o1, c1, hv, _, _, hc⟩ := Hl.out.at_ (by intro h; subst h; simp at hlt)
      cases hv
      exact ⟨b1, o1, rfl, (PX.xs _ _ _).cell HX2.out ((hc k _ (List.getElem?_eq_some_iff.2 ⟨hlt, rfl⟩)).mono HS2.out)⟩
    have hd : l.drop k = l[k] :: l.drop (k + 1) := List.drop_eq_getElem_cons hlt
    have hf2 := Hr2.out
    rw [hd, pairsGo_cons] at hf2
    have hi2 := Hin.out l[k] (List.getElem_mem hlt)
    clear hd
    generalize l[k] = x at *
    obtain ⟨lv2, hl2, hc2⟩ := P_list p b off c d st _ S2 _ x HX2.out (HE.out.mono HS2.out) hi2
    have hin2 : ∀ j ∈ (nd d x).l, j < d.length := fun j hj => by have := HE.out.dat.par x hi2 j hj; omega
    obtain ⟨A2, cc2, rfl, _, _⟩ := Sl.shape hl2
    by_cases hk4 : (nd d x).kind = 4 ∧ (nd d x).l.length = 2 ∧ nameOf d ((nd d x).l.getD 0 0) ≠ []
    case neg =>
      rw [if_neg hk4] at hf2
      have Hf2 := hid hf2
      clear hf2
      by_cases h1 : (nd d x).kind = 4
      case neg =>
        have h1' : ((nd d x).kind == 4) = false := by simpa using h1
        rw [h1'] at hc2
        have Hc2 := hid hc2
        clear hc2 hin2 hl2 hk4 h1 h1'
        go_wp2_with fail
        refine (Hc2.out).mono ?_
        rintro e w5 ⟨rfl, S5, k5, hX5⟩
        go_wp2_with fail
        go_ret3
        exact ⟨.nilFunc, .nilFunc, S5, HS2.out.trans k5, (PX.xs _ _ _).dropAtom ((PX.xs _ _ _).dropAtom hX5), .inl ⟨Hf2.out.symm, rfl⟩⟩
      have h1' : ((nd d x).kind == 4) = true := by simpa using h1
      rw [h1'] at hc2
      have Hc2 := hid hc2
      by_cases h2 : (nd d x).l.length = 2
      case neg =>
        have h2' : (((nd d x).l.length : Int) != 2) = true := by simp only [bne_iff_ne]; omega
        clear hc2 hin2 hl2 hk4 h1 h1' h2
        go_wp2_with fail
        refine (Hc2.out).mono ?_
        rintro e w5 ⟨rfl, S5, k5, hX5⟩
        go_wp2_with fail
        go_ret3
        exact ⟨.nilFunc, .nilFunc, S5, HS2.out.trans k5, (PX.xs _ _ _).dropAtom ((PX.xs _ _ _).dropAtom hX5), .inl ⟨Hf2.out.symm, rfl⟩⟩
      have h3 : nameOf d ((nd d x).l.getD 0 0) = [] := by
        by_cases e : nameOf d ((nd d x).l.getD 0 0) = []
        · exact e
        · exact absurd ⟨h1, h2, e⟩ hk4
      have h2' : (((nd d x).l.length : Int) != 2) = false := by rw [h2]; rfl
      clear h1 hk4
      generalize (nd d x).l = l2 at *
      match l2, h2 with
      | [a2, z2], _ =>
        obtain ⟨b2, o2, c2, hv2, _, _, hcc⟩ := hl2.at_ (by simp)
        cases hv2
        have Hcc := hid hcc
        have ha := hin2 a2 List.mem_cons_self
        simp only [List.getD_cons_zero] at h3
        have H3 := hid h3
        clear hc2 hin2 hl2 hcc h3 h1'
        go_wp2_with fail
        refine (Hc2.out).mono ?_
        rintro e w5 ⟨rfl, S5, k5, hX5⟩
        have e1 : w5.cell? ⟨b2, o2, none⟩ = some (nat a2) := (PX.xs _ _ _).cell hX5 ((Hcc.out 0 a2 rfl).mono k5)
        have Hn := hid (P_name p b off c d st _ S5 w5 a2 hX5 ((HE.out.mono HS2.out).mono k5) ha)
        rw [H3.out] at Hn
        have HK5 := hid (HS2.out.trans k5)
        clear hX5 k5
        go_wp2_with fail
        refine (Hn.out).mono ?_
        rintro e w6 ⟨rfl, S6, k6, hX6⟩
        go_wp2_with fail
        go_ret3
        exact ⟨.nilFunc, .nilFunc, S6, HK5.out.trans k6, (PX.xs _ _ _).dropAtom ((PX.xs _ _ _).dropAtom hX6), .inl ⟨Hf2.out.symm, rfl⟩⟩
    rw [if_pos hk4] at hf2
    obtain ⟨h1, h2, h3⟩ := hk4
    have h1' : ((nd d x).kind == 4) = true := by simpa using h1
    have h2' : (((nd d x).l.length : Int) != 2) = false := by rw [h2]; rfl
    rw [h1'] at hc2
    have Hc2 := hid hc2
    have Hf2 := hid hf2
    clear h1 hf2 h1' hc2
    generalize (nd d x).l = l2 at *
    match l2, h2 with
    | [a2, z2], _ =>
      obtain ⟨b2, o2, c2, hv2, _, _, hcc⟩ := hl2.at_ (by simp)
      cases hv2
      have Hcc := hid hcc
      have ha := hin2 a2 List.mem_cons_self
      simp only [List.getD_cons_zero] at h3
      have H3 := hid h3
      clear hin2 hl2 hcc h3
      go_wp2_with fail
      refine (Hc2.out).mono ?_
      rintro e w5 ⟨rfl, S5, k5, hX5⟩
      have e1 : w5.cell? ⟨b2, o2, none⟩ = some (nat a2) := (PX.xs _ _ _).cell hX5 ((Hcc.out 0 a2 rfl).mono k5)
      have Hn := hid (P_name p b off c d st _ S5 w5 a2 hX5 ((HE.out.mono HS2.out).mono k5) ha)
      have h3 : (nameOf d a2 == []) = false := by simpa using H3.out
      rw [h3] at Hn
      have HK5 := hid (HS2.out.trans k5)
      have Hca := hid ((Hcc.out 0 a2 rfl).mono k5)
      have Hcb := hid ((Hcc.out 1 z2 rfl).mono k5)
      clear hX5 k5 h3
      go_wp2_with fail
      refine (Hn.out).mono ?_
      rintro e w6 ⟨rfl, S6, k6, hX6⟩
      have HK6 := hid (HK5.out.trans k6)
      have Hca6 := hid (Hca.out.mono k6)
      have Hcb6 := hid (Hcb.out.mono k6)
      have X := PX.xs p (dval b off c d) st
      have HX6 := hid (X.drew hX6)
      have HkA : Hid (k < l.length) := hid hlt
      clear hX6 k6 e1
      go_wp2_with fail
      refine wp_plan 11 (.take 0 (.take 1 (.take 2 (.take 3 (.take 6 (.take 7 (.take 8 (.take 9 (.two 4 10 (.two 5 10 (.one 10 .fin) (.one 5 .fin)) (.one 4 (.one 5 .fin))))))))))) (fun w' => w'.cell? ⟨b2, o2, none⟩ = some (nat a2) ∧ w'.cell? ⟨b2, o2 + 1, none⟩ = some (nat z2)) (by kernel_rfl) (by kernel_rfl) (fun _ _ d_ _ _ h_ => by cases d_ <;> exact h_) (⟨X.cell HX6.out Hca6.out, X.cell HX6.out Hcb6.out⟩) ?_
      refine Pl.takeW rfl rfl ?v1 ?hy1 ?rest1
      case hy1 => intro w_ _; first | (go_simp; done) | (go_simp; with_reducible rfl)
      simp only [Act.put, List.setIfInBounds_toArray, List.set_cons_zero, List.set_cons_succ]
      refine Pl.takeW rfl rfl ?v2 ?hy2 ?rest2
      case hy2 => intro w_ _; first | (go_simp; done) | (go_simp; with_reducible rfl)
      simp only [Act.put, List.setIfInBounds_toArray, List.set_cons_zero, List.set_cons_succ]
      refine Pl.takeW rfl rfl ?v3 ?hy3 ?rest3
      case hy3 => intro w_ _; first | (go_simp; done) | (go_simp; with_reducible rfl)
      simp only [Act.put, List.setIfInBounds_toArray, List.set_cons_zero, List.set_cons_succ]
      refine Pl.takeW rfl rfl ?v4 ?hy4 ?rest4
      case hy4 => intro w_ hS_; obtain ⟨f0, f1⟩ := hS_; first | (go_simp; done) | (go_simp; with_reducible rfl)
      simp only [Act.put, List.setIfInBounds_toArray, List.set_cons_zero, List.set_cons_succ]
      refine Pl.takeW rfl rfl ?v5 ?hy5 ?rest5
      case hy5 => intro w_ _; first | (go_simp; done) | (go_simp; with_reducible rfl)
      simp only [Act.put, List.setIfInBounds_toArray, List.set_cons_zero, List.set_cons_succ]
      refine Pl.takeW rfl rfl ?v6 ?hy6 ?rest6
      case hy6 => intro w_ _; first | (go_simp; done) | (go_simp; with_reducible rfl)
      simp only [Act.put, List.setIfInBounds_toArray, List.set_cons_zero, List.set_cons_succ]
      refine Pl.takeW rfl rfl ?v7 ?hy7 ?rest7
      case hy7 => intro w_ _; first | (go_simp; done) | (go_simp; with_reducible rfl)
      simp only [Act.put, List.setIfInBounds_toArray, List.set_cons_zero, List.set_cons_succ]
      refine Pl.takeW rfl rfl ?v8 ?hy8 ?rest8
      case hy8 => intro w_ hS_; obtain ⟨f0, f1⟩ := hS_; first | (go_simp; done) | (go_simp; with_reducible rfl)
      simp only [Act.put, List.setIfInBounds_toArray, List.set_cons_zero, List.set_cons_succ]
      refine Pl.twoW ?_ ?_
      · refine Pl.oneW rfl rfl (fun K_ hK_ => ?_)
        go_simp
        have HA := hid (X.alloc HX6.out (.cells #[nat a2] 3))
        have HAl := hid (X.le_alloc HX6.out (.cells #[nat a2] 3))
        refine hK_ _ _ ⟨X.cell HA.out (Hca6.out.mono HAl.out), X.cell HA.out (Hcb6.out.mono HAl.out)⟩ ?_
        refine Pl.twoW ?_ ?_
        · refine Pl.oneW rfl rfl (fun K_ hK_ => ?_)
          refine wp_appendX tyInts X (.tmp 51) (.tmp 55) rfl rfl HA.out ⟨w6.heap.size, 0, none⟩ 1 1 [nat a2] rfl rfl (X.news1 HA.out (Sc.new rfl)) (by simp [Value.oneCell']) (by have := Hok.out; omega) (by have := Hok.out; unfold maxLen; omega) (fun v1 u1 hY1 => hK_ _ _ ⟨X.cell hY1 (Hca6.out.mono HAl.out), X.cell hY1 (Hcb6.out.mono HAl.out)⟩ ?_)
          have HY1 := hid hY1
          clear hY1
          refine Pl.oneW rfl rfl (fun K_ hK_ => ?_)
          go_simp
          have HB := hid (X.alloc HY1.out (.cells #[nat z2] 3))
          have HBl := hid (HAl.out.trans (X.le_alloc HY1.out (.cells #[nat z2] 3)))
          have Hz := hid (Sc.new rfl : Sc ((S6.put w6.heap.size (.cells #[nat a2] 3)).put u1.heap.size (.cells #[nat z2] 3)) u1.heap.size 0 (nat z2))
          refine hK_ _ _ ⟨X.cell HB.out (Hca6.out.mono HBl.out), X.cell HB.out (Hcb6.out.mono HBl.out)⟩ ?_
          show wpList _ _ _ _ _ _
          simp only [List.drop_succ_cons, List.drop_zero]
          go_wp2_with (at_builtin; refine wpList_appendX tyInts X rfl (.tmp 57) (.tmp 61) rfl rfl (X.swap HB.out) ⟨u1.heap.size, 0, none⟩ 1 1 [nat z2] rfl rfl (X.news1 HB.out Hz.out) ?c1_1 ?c2_1 ?c3_1 ?c4_1)
          case c1_1 => simp [Value.oneCell']
          case c2_1 => have := Hqk.out; omega
          case c3_1 => have := Hqk.out; unfold maxLen; omega
          intro v2 u2 hY2
          have HY2 := hid (X.swap hY2)
          clear hY2
          go_wp2_with fail
          go_roundw
          case rel =>
            refine ⟨k + 1, o ++ [a2], q ++ [z2], _, by omega, by go_num, HK6.out.trans HBl.out, by simpa using HY2.out, ?_, by simp [Hok.out], by simp [Hqk.out]⟩
            rw [← Hf2.out]
            cases pairsGo d (l.drop (k + 1)) <;> simp
          case measure => simp [intOf]; omega
        · refine Pl.oneW rfl rfl (fun K_ hK_ => ?_)
          go_simp
          have HB := hid (X.alloc (X.alloc HX6.out (.cells #[nat a2] 3)) (.cells #[nat z2] 3))
          have HBl := hid (HAl.out.trans (X.le_alloc (X.alloc HX6.out (.cells #[nat a2] 3)) (.cells #[nat z2] 3)))
          have Hs2 := hid (show (w6.alloc (.cells #[nat a2] 3)).heap.size = w6.heap.size + 1 by simp)
          have Hca7 := hid (show Sc _ w6.heap.size 0 (nat a2) from (Sc.new rfl : Sc (S6.put w6.heap.size (.cells #[nat a2] 3)) w6.heap.size 0 (nat a2)).mono (X.le_alloc (X.alloc HX6.out (.cells #[nat a2] 3)) (.cells #[nat z2] 3)))
          have Hcb7 := hid (show Sc (((S6.put w6.heap.size (.cells #[nat a2] 3))).put (w6.alloc (.cells #[nat a2] 3)).heap.size (.cells #[nat z2] 3)) (w6.heap.size + 1) 0 (nat z2) from by rw [← Hs2.out]; exact Sc.new rfl)
          refine hK_ _ _ ⟨X.cell HB.out (Hca6.out.mono HBl.out), X.cell HB.out (Hcb6.out.mono HBl.out)⟩ ?_
          refine Pl.oneW rfl rfl (fun K_ hK_ => ?_)
          refine wp_appendX tyInts X (.tmp 51) (.tmp 55) rfl rfl HB.out ⟨w6.heap.size, 0, none⟩ 1 1 [nat a2] rfl rfl (X.news1 HB.out Hca7.out) (by simp [Value.oneCell']) (by have := Hok.out; omega) (by have := Hok.out; unfold maxLen; omega) (fun v1 u1 hY1 => hK_ _ _ ⟨X.cell hY1 (Hca6.out.mono HBl.out), X.cell hY1 (Hcb6.out.mono HBl.out)⟩ ?_)
          have HY1 := hid hY1
          clear hY1
          show wpList _ _ _ _ _ _
          simp only [List.drop_succ_cons, List.drop_zero]
          go_wp2_with (at_builtin; refine wpList_appendX tyInts X rfl (.tmp 57) (.tmp 61) rfl rfl (X.swap HY1.out) ⟨(w6.heap.size+1), 0, none⟩ 1 1 [nat z2] rfl rfl (X.news1 HY1.out Hcb7.out) ?c1_2 ?c2_2 ?c3_2 ?c4_2)
          case c1_2 => simp [Value.oneCell']
          case c2_2 => have := Hqk.out; omega
          case c3_2 => have := Hqk.out; unfold maxLen; omega
          intro v2 u2 hY2
          have HY2 := hid (X.swap hY2)
          clear hY2
          go_wp2_with fail
          go_roundw
          case rel =>
            refine ⟨k + 1, o ++ [a2], q ++ [z2], _, by omega, by go_num, HK6.out.trans HBl.out, by simpa using HY2.out, ?_, by simp [Hok.out], by simp [Hqk.out]⟩
            rw [← Hf2.out]
            cases pairsGo d (l.drop (k + 1)) <;> simp
          case measure => simp [intOf]; omega
      · refine Pl.oneW rfl rfl (fun K_ hK_ => ?_)
        go_simp
        have HA := hid (X.alloc HX6.out (.cells #[nat z2] 3))
        have HAl := hid (X.le_alloc HX6.out (.cells #[nat z2] 3))
        refine hK_ _ _ ⟨X.cell HA.out (Hca6.out.mono HAl.out), X.cell HA.out (Hcb6.out.mono HAl.out)⟩ ?_
        refine Pl.oneW rfl rfl (fun K_ hK_ => ?_)
        go_simp
        have HB := hid (X.alloc (X.alloc HX6.out (.cells #[nat z2] 3)) (.cells #[nat a2] 3))
        have HBl := hid (HAl.out.trans (X.le_alloc (X.alloc HX6.out (.cells #[nat z2] 3)) (.cells #[nat a2] 3)))
        have Hs2 := hid (show (w6.alloc (.cells #[nat z2] 3)).heap.size = w6.heap.size + 1 by simp)
        have Hcb7 := hid (show Sc _ w6.heap.size 0 (nat z2) from (Sc.new rfl : Sc (S6.put w6.heap.size (.cells #[nat z2] 3)) w6.heap.size 0 (nat z2)).mono (X.le_alloc (X.alloc HX6.out (.cells #[nat z2] 3)) (.cells #[nat a2] 3)))
        have Hca7 := hid (show Sc (((S6.put w6.heap.size (.cells #[nat z2] 3))).put (w6.alloc (.cells #[nat z2] 3)).heap.size (.cells #[nat a2] 3)) (w6.heap.size + 1) 0 (nat a2) from by rw [← Hs2.out]; exact Sc.new rfl)
        refine hK_ _ _ ⟨X.cell HB.out (Hca6.out.mono HBl.out), X.cell HB.out (Hcb6.out.mono HBl.out)⟩ ?_
        refine Pl.oneW rfl rfl (fun K_ hK_ => ?_)
        refine wp_appendX tyInts X (.tmp 51) (.tmp 55) rfl rfl HB.out ⟨w6.heap.size + 1, 0, none⟩ 1 1 [nat a2] rfl rfl (X.news1 HB.out Hca7.out) (by simp [Value.oneCell']) (by have := Hok.out; omega) (by have := Hok.out; unfold maxLen; omega) (fun v1 u1 hY1 => hK_ _ _ ⟨X.cell hY1 (Hca6.out.mono HBl.out), X.cell hY1 (Hcb6.out.mono HBl.out)⟩ ?_)
        have HY1 := hid hY1
        clear hY1
        show wpList _ _ _ _ _ _
        simp only [List.drop_succ_cons, List.drop_zero]
        go_wp2_with (at_builtin; refine wpList_appendX tyInts X rfl (.tmp 57) (.tmp 61) rfl rfl (X.swap HY1.out) ⟨w6.heap.size, 0, none⟩ 1 1 [nat z2] rfl rfl (X.news1 HY1.out Hcb7.out) ?c1_3 ?c2_3 ?c3_3 ?c4_3)
        case c1_3 => simp [Value.oneCell']
        case c2_3 => have := Hqk.out; omega
        case c3_3 => have := Hqk.out; unfold maxLen; omega
        intro v2 u2 hY2
        have HY2 := hid (X.swap hY2)
        clear hY2
        go_wp2_with fail
        go_roundw
        case rel =>
          refine ⟨k + 1, o ++ [a2], q ++ [z2], _, by omega, by go_num, HK6.out.trans HBl.out, by simpa using HY2.out, ?_, by simp [Hok.out], by simp [Hqk.out]⟩
          rw [← Hf2.out]
          cases pairsGo d (l.drop (k + 1)) <;> simp
        case measure => simp [intOf]; omega
end
end Go.Proofs.Ytjjbidajkmodfaa
