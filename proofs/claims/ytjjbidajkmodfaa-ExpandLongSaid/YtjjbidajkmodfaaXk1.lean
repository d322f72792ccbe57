/- Texts E1, T1, E2, F0 of the proof. What each theorem says stands in its own statement. No condition beyond those that it names. -/
import Derived.Test.YtjjbidajkmodfaaXa9
import Derived.Test.YtjjbidajkmodfaaXa16
import Derived.HandedShaped
import Derived.Shelf.Vars
set_option linter.unusedVariables false
set_option linter.unusedSimpArgs false
namespace Go.Proofs.Ytjjbidajkmodfaa
open Go Go.RowKit
def IdxRel (X : List Atom → Seal → World → Prop) (n : Nat) (L : List Atom) (S : Seal) (i : Value) (wr : World) : Prop := ∃ k, k ≤ n ∧ i = nat k ∧ X L S wr
set_option maxRecDepth 100000 in
set_option maxHeartbeats 4000000 in
theorem E_Ints {X : List Atom → Seal → World → Prop} (X1 : Xs X) (L : List Atom) (S : Seal) (w : World) (v u : Value) (l : List Nat) (hX : X L S w) (hv : NatsR S v l) (hu : NatsR S u l) :
    Calls Try.prog 14 #[v, u] w (Ret S (X L) (.bool true)) := by
  obtain ⟨A1, c1, rfl, _, _⟩ := Sl.shape hv
  obtain ⟨A2, c2, rfl, _, _⟩ := Sl.shape hu
  have hlen := hv.len
  have HX := hid hX
  have Hv := hid hv
  have Hu := hid hu
  clear hX hv hu
  go_enter Try.func14, Try.ntmps14
  go_wp2_with fail
  go_loopw [5] (fun i wr => IdxRel X l.length L S i wr) (fun i _ => l.length - (intOf i).toNat)
  case atStart => exact ⟨0, Nat.zero_le _, rfl, HX.out⟩
  case round =>
    obtain ⟨k, hk, rfl, hX2⟩ := hrel
    have HX2 := hid hX2
    by_cases hlt : k < l.length
    · obtain ⟨b1, o1, c3, hv3, _, _, hc1⟩ := Hv.out.at_ (by intro h; rw [h] at hlt; simp at hlt)
      simp only [Value.slice.injEq, true_and] at hv3
      obtain ⟨rfl, rfl⟩ := hv3
      obtain ⟨b2, o2, c4, hv4, _, _, hc2⟩ := Hu.out.at_ (by intro h; rw [h] at hlt; simp at hlt)
      simp only [Value.slice.injEq, true_and] at hv4
      obtain ⟨rfl, rfl⟩ := hv4
      have f1 := X1.cell hX2 (hc1 k _ (List.getElem?_eq_some_iff.2 ⟨hlt, rfl⟩))
      have f2 := X1.cell hX2 (hc2 k _ (List.getElem?_eq_some_iff.2 ⟨hlt, rfl⟩))
      have hkI : (k : Int) < (l.length : Int) := by omega
      generalize l[k] = x at *
      clear hc1 hc2 hX2
      go_wp2_with fail
      refine wp_plan 8 (.take 0 (.take 1 (.take 2 (.take 3 (.take 4 (.take 5 (.take 6 (.take 7 .fin)))))))) (fun w_ => w_ = _) (by kernel_rfl) (by kernel_rfl) (fun _ _ d_ _ _ h_ => by cases d_ <;> exact h_) rfl ?_
      refine Pl.takeW rfl rfl ?v1 ?hy1 ?rest1
      case hy1 => intro w_ _; first | (go_simp; done) | (go_simp; with_reducible rfl)
      simp only [Act.put, List.setIfInBounds_toArray, List.set_cons_zero, List.set_cons_succ]
      refine Pl.takeW rfl rfl ?v2 ?hy2 ?rest2
      case hy2 => intro w_ _; first | (go_simp; done) | (go_simp; with_reducible rfl)
      simp only [Act.put, List.setIfInBounds_toArray, List.set_cons_zero, List.set_cons_succ]
      refine Pl.takeW rfl rfl ?v3 ?hy3 ?rest3
      case hy3 => intro w_ _; first | (go_simp; done) | (go_simp; with_reducible rfl)
      simp only [Act.put, List.setIfInBounds_toArray, List.set_cons_zero, List.set_cons_succ]
      refine Pl.takeW rfl rfl ?v4 ?hy4 ?rest4
      case hy4 => intro w_ hS_; subst hS_; first | (go_simp; done) | (go_simp; with_reducible rfl)
      simp only [Act.put, List.setIfInBounds_toArray, List.set_cons_zero, List.set_cons_succ]
      refine Pl.takeW rfl rfl ?v5 ?hy5 ?rest5
      case hy5 => intro w_ _; first | (go_simp; done) | (go_simp; with_reducible rfl)
      simp only [Act.put, List.setIfInBounds_toArray, List.set_cons_zero, List.set_cons_succ]
      refine Pl.takeW rfl rfl ?v6 ?hy6 ?rest6
      case hy6 => intro w_ _; first | (go_simp; done) | (go_simp; with_reducible rfl)
      simp only [Act.put, List.setIfInBounds_toArray, List.set_cons_zero, List.set_cons_succ]
      refine Pl.takeW rfl rfl ?v7 ?hy7 ?rest7
      case hy7 => intro w_ _; first | (go_simp; done) | (go_simp; with_reducible rfl)
      simp only [Act.put, List.setIfInBounds_toArray, List.set_cons_zero, List.set_cons_succ]
      refine Pl.takeW rfl rfl ?v8 ?hy8 ?rest8
      case hy8 => intro w_ hS_; subst hS_; first | (go_simp; done) | (go_simp; with_reducible rfl)
      simp only [Act.put, List.setIfInBounds_toArray, List.set_cons_zero, List.set_cons_succ]
      show wpList _ _ _ _ _ _
      simp only [List.drop_succ_cons, List.drop_zero]
      go_wp2_with fail
      go_roundw
      case rel => exact ⟨k + 1, by omega, by go_num, X1.drew HX2.out⟩
      case measure => simp [intOf]; omega
    · clear hX2
      go_wp2_with fail
      go_ret
      exact Ret.intro rfl (Seal.le.refl S) HX2.out
structure FormAt (S : Seal) (b o : Nat) (f : Form) (pv lv : Value) : Prop where
  c0 : Sc S b o (.int .u8 f.kind)
  c1 : Sc S b (o + 1) (.int .i64 f.at_)
  c2 : Sc S b (o + 2) (.int .i64 f.n)
  c3 : Sc S b (o + 3) (.int .i64 f.a)
  c4 : Sc S b (o + 4) (str f.s)
  c5 : Sc S b (o + 5) pv
  c6 : Sc S b (o + 6) (.int .u64 f.w)
  c7 : Sc S b (o + 7) lv
  p : StrsR S pv f.p
  l : NatsR S lv f.l
theorem FormAt.mono {S S' : Seal} (k : S.le S') {b o : Nat} {f : Form} {pv lv : Value} (h : FormAt S b o f pv lv) : FormAt S' b o f pv lv :=
  ⟨h.c0.mono k, h.c1.mono k, h.c2.mono k, h.c3.mono k, h.c4.mono k, h.c5.mono k, h.c6.mono k, h.c7.mono k, h.p.mono k, h.l.mono k⟩
theorem FormsR.shape {S : Seal} {v : Value} {fs : List Form} (h : FormsR S v fs) : ∃ A c, v = .slice A fs.length c ∧ fs.length ≤ c ∧ c ≤ maxLen := let ⟨_, a, _⟩ := h; Sl.shape a
theorem FormsR.at_ {S : Seal} {v : Value} {d : List Form} (h : FormsR S v d) (h0 : d ≠ []) : ∃ b off c, v = .slice (some ⟨b, off, none⟩) d.length c ∧ d.length ≤ c ∧ c ≤ maxLen ∧
    ∀ i f, d[i]? = some f → ∃ pv lv, FormAt S b (off + i * 8) f pv lv := by
  obtain ⟨xs, hs, hc⟩ := h
  obtain ⟨b, off, c, hv, h1, h2, h3⟩ := Sl.at_ hs (by cases d with | nil => exact absurd rfl h0 | cons => simp)
  refine ⟨b, off, c, hv, h1, h2, fun i nd hi => ?_⟩
  obtain ⟨pv, lv, a0, a1, a2, a3, a4, a5, a6, a7, a8, a9⟩ := hc.2 i nd hi
  exact ⟨pv, lv, h3 _ _ a0, h3 _ _ a1, h3 _ _ a2, h3 _ _ a3, h3 _ _ a4, h3 _ _ a5, h3 _ _ a6, h3 _ _ a7, a8, a9⟩
theorem FormsR.len {S : Seal} {v : Value} {d : List Form} (h : FormsR S v d) : d.length ≤ 9223372036854775807 := by
  obtain ⟨A, c, _, h1, h2⟩ := h.shape
  unfold maxLen at h2; omega
theorem StrsR.len {S : Seal} {v : Value} {d : List Str} (h : StrsR S v d) : d.length ≤ 9223372036854775807 := by
  obtain ⟨A, c, _, h1, h2⟩ := Sl.shape h
  unfold maxLen at h2; omega
def SameRel (X : List Atom → Seal → World → Prop) (n : Nat) (L : List Atom) (S : Seal) (i : Value) (wr : World) : Prop := ∃ k S1, k ≤ n ∧ i = nat k ∧ S.le S1 ∧ X L S1 wr
set_option maxRecDepth 100000 in
set_option maxHeartbeats 8000000 in
theorem E_Same {X : List Atom → Seal → World → Prop} (X1 : Xs X) (L : List Atom) (S : Seal) (w : World) (v u : Value) (fs : List Form) (hX : X L S w) (hv : FormsR S v fs) (hu : FormsR S u fs) :
    Calls Try.prog 13 #[v, u] w (Ret S (X L) (.bool true)) := by
  obtain ⟨A1, c1, rfl, _, _⟩ := hv.shape
  obtain ⟨A2, c2, rfl, _, _⟩ := hu.shape
  have hlen := hv.len
  have HX := hid hX
  have Hv := hid hv
  have Hu := hid hu
  clear hX hv hu
  go_enter Try.func13, Try.ntmps13
  go_wp2_with fail
  go_loopw [5] (fun i wr => SameRel X fs.length L S i wr) (fun i _ => fs.length - (intOf i).toNat)
  case atStart => exact ⟨0, S, Nat.zero_le _, rfl, Seal.le.refl _, HX.out⟩
  case round =>
    obtain ⟨k, S1, hk, rfl, hS1, hX2⟩ := hrel
    by_cases hlt : k < fs.length
    · obtain ⟨b1, o1, c3, hv3, _, _, hc1⟩ := Hv.out.at_ (by intro h; rw [h] at hlt; simp at hlt)
      simp only [Value.slice.injEq, true_and] at hv3
      obtain ⟨rfl, rfl⟩ := hv3
      obtain ⟨b2, o2, c4, hv4, _, _, hc2⟩ := Hu.out.at_ (by intro h; rw [h] at hlt; simp at hlt)
      simp only [Value.slice.injEq, true_and] at hv4
      obtain ⟨rfl, rfl⟩ := hv4
      obtain ⟨pv, lv, hF⟩ := hc1 k _ (List.getElem?_eq_some_iff.2 ⟨hlt, rfl⟩)
      obtain ⟨pu, lu, hG⟩ := hc2 k _ (List.getElem?_eq_some_iff.2 ⟨hlt, rfl⟩)
      have hkI : (k : Int) < (fs.length : Int) := by omega
      generalize fs[k] = f at *
      obtain ⟨kd, at_, n, a, s, ps, ww, l⟩ := f
      obtain ⟨Ap, cp, rfl, _, _⟩ := Sl.shape hF.p
      obtain ⟨Al, cl, rfl, _, _⟩ := Sl.shape hF.l
      obtain ⟨Aq, cq, rfl, _, _⟩ := Sl.shape hG.p
      obtain ⟨Am, cm, rfl, _, _⟩ := Sl.shape hG.l
      dsimp only at *
      have f0 := X1.cell hX2 (hF.c0.mono hS1)
      have f1 := X1.cell hX2 (hF.c1.mono hS1)
      have f2 := X1.cell hX2 (hF.c2.mono hS1)
      have f3 := X1.cell hX2 (hF.c3.mono hS1)
      have f4 := X1.cell hX2 (hF.c4.mono hS1)
      have f5 := X1.cell hX2 (hF.c5.mono hS1)
      have f6 := X1.cell hX2 (hF.c6.mono hS1)
      have f7 := X1.cell hX2 (hF.c7.mono hS1)
      obtain ⟨S2, k2, hX3, s3⟩ := X1.box hX2 #[.int .u8 kd, .int .i64 at_, .int .i64 n, .int .i64 a, str s, .slice Ap ps.length cp, .int .u64 ww, .slice Al l.length cl] 41
      have g0 := X1.cell hX3 ((hG.c0.mono hS1).mono k2)
      have g1 := X1.cell hX3 ((hG.c1.mono hS1).mono k2)
      have g2 := X1.cell hX3 ((hG.c2.mono hS1).mono k2)
      have g3 := X1.cell hX3 ((hG.c3.mono hS1).mono k2)
      have g4 := X1.cell hX3 ((hG.c4.mono hS1).mono k2)
      have g5 := X1.cell hX3 ((hG.c5.mono hS1).mono k2)
      have g6 := X1.cell hX3 ((hG.c6.mono hS1).mono k2)
      have g7 := X1.cell hX3 ((hG.c7.mono hS1).mono k2)
      obtain ⟨S4, k4, hX4, s4⟩ := X1.box hX3 #[.int .u8 kd, .int .i64 at_, .int .i64 n, .int .i64 a, str s, .slice Aq ps.length cq, .int .u64 ww, .slice Am l.length cm] 41
      have HK4 := hid ((hS1.trans k2).trans k4)
      have HX4 := hid hX4
      have Hl := hid (hF.l.mono HK4.out)
      have Hm := hid (hG.l.mono HK4.out)
      have Hp := hid (hF.p.mono HK4.out)
      have Hq := hid (hG.p.mono HK4.out)
      have Hb5 := hid ((s3 5 _ rfl).mono k4)
      have Hd5 := hid (s4 5 _ rfl)
      rw [World.size_alloc] at Hd5
      have hpl := hF.p.len
      clear hc1 hc2 hF hG hX2 hX3 hX4 hS1 k2 k4 s3 s4
      go_wp2_with fail
      refine (E_Ints X1 L S4 _ _ _ l HX4.out Hl.out Hm.out).mono ?_
      rintro e w5 ⟨rfl, S5, k5, hX5⟩
      have HX5 := hid hX5
      have HK5 := hid (HK4.out.trans k5)
      have hp1 := X1.cell hX5 (Hb5.out.mono k5)
      have hq1 := X1.cell hX5 (Hd5.out.mono k5)
      have Hb5' := hid (Hb5.out.mono k5)
      have Hd5' := hid (Hd5.out.mono k5)
      have Hp5 := hid (Hp.out.mono k5)
      have Hq5 := hid (Hq.out.mono k5)
      clear hX5 k5
      go_wp2_with fail
      clear hp1 hq1
      go_loopw [8] (fun i wr => IdxRel X ps.length L S5 i wr) (fun i _ => ps.length - (intOf i).toNat)
      case atStart => exact ⟨0, Nat.zero_le _, rfl, HX5.out⟩
      case round =>
        obtain ⟨j, hj, rfl, hX6⟩ := hrel
        have HX6 := hid hX6
        have hp1 := X1.cell hX6 Hb5'.out
        have hq1 := X1.cell hX6 Hd5'.out
        by_cases hjl : j < ps.length
        · obtain ⟨b3, o3, c5, hv5, _, _, hc3⟩ := Hp5.out.at_ (by intro h; rw [h] at hjl; simp at hjl)
          simp only [Value.slice.injEq, true_and] at hv5
          obtain ⟨rfl, rfl⟩ := hv5
          obtain ⟨b4, o4, c6, hv6, _, _, hc4⟩ := Hq5.out.at_ (by intro h; rw [h] at hjl; simp at hjl)
          simp only [Value.slice.injEq, true_and] at hv6
          obtain ⟨rfl, rfl⟩ := hv6
          have t1 := X1.cell hX6 (hc3 j _ (List.getElem?_eq_some_iff.2 ⟨hjl, rfl⟩))
          have t2 := X1.cell hX6 (hc4 j _ (List.getElem?_eq_some_iff.2 ⟨hjl, rfl⟩))
          have hjI : (j : Int) < (ps.length : Int) := by omega
          generalize ps[j] = x at *
          clear hc3 hc4 hX6
          go_wp2_with fail
          refine wp_plan 10 (.take 0 (.take 1 (.take 2 (.take 3 (.take 4 (.take 5 (.take 6 (.take 7 (.take 8 (.take 9 .fin)))))))))) (fun w_ => w_ = _) (by kernel_rfl) (by kernel_rfl) (fun _ _ d_ _ _ h_ => by cases d_ <;> exact h_) rfl ?_
          refine Pl.takeW rfl rfl ?v9 ?hy9 ?rest9
          case hy9 => intro w_ _; first | (go_simp; done) | (go_simp; with_reducible rfl)
          simp only [Act.put, List.setIfInBounds_toArray, List.set_cons_zero, List.set_cons_succ]
          refine Pl.takeW rfl rfl ?v10 ?hy10 ?rest10
          case hy10 => intro w_ hS_; subst hS_; first | (go_simp; done) | (go_simp; with_reducible rfl)
          simp only [Act.put, List.setIfInBounds_toArray, List.set_cons_zero, List.set_cons_succ]
          refine Pl.takeW rfl rfl ?v11 ?hy11 ?rest11
          case hy11 => intro w_ _; first | (go_simp; done) | (go_simp; with_reducible rfl)
          simp only [Act.put, List.setIfInBounds_toArray, List.set_cons_zero, List.set_cons_succ]
          refine Pl.takeW rfl rfl ?v12 ?hy12 ?rest12
          case hy12 => intro w_ _; first | (go_simp; done) | (go_simp; with_reducible rfl)
          simp only [Act.put, List.setIfInBounds_toArray, List.set_cons_zero, List.set_cons_succ]
          refine Pl.takeW rfl rfl ?v13 ?hy13 ?rest13
          case hy13 => intro w_ hS_; subst hS_; first | (go_simp; done) | (go_simp; with_reducible rfl)
          simp only [Act.put, List.setIfInBounds_toArray, List.set_cons_zero, List.set_cons_succ]
          refine Pl.takeW rfl rfl ?v14 ?hy14 ?rest14
          case hy14 => intro w_ _; first | (go_simp; done) | (go_simp; with_reducible rfl)
          simp only [Act.put, List.setIfInBounds_toArray, List.set_cons_zero, List.set_cons_succ]
          refine Pl.takeW rfl rfl ?v15 ?hy15 ?rest15
          case hy15 => intro w_ hS_; subst hS_; first | (go_simp; done) | (go_simp; with_reducible rfl)
          simp only [Act.put, List.setIfInBounds_toArray, List.set_cons_zero, List.set_cons_succ]
          refine Pl.takeW rfl rfl ?v16 ?hy16 ?rest16
          case hy16 => intro w_ _; first | (go_simp; done) | (go_simp; with_reducible rfl)
          simp only [Act.put, List.setIfInBounds_toArray, List.set_cons_zero, List.set_cons_succ]
          refine Pl.takeW rfl rfl ?v17 ?hy17 ?rest17
          case hy17 => intro w_ _; first | (go_simp; done) | (go_simp; with_reducible rfl)
          simp only [Act.put, List.setIfInBounds_toArray, List.set_cons_zero, List.set_cons_succ]
          refine Pl.takeW rfl rfl ?v18 ?hy18 ?rest18
          case hy18 => intro w_ hS_; subst hS_; first | (go_simp; done) | (go_simp; with_reducible rfl)
          simp only [Act.put, List.setIfInBounds_toArray, List.set_cons_zero, List.set_cons_succ]
          show wpList _ _ _ _ _ _
          simp only [List.drop_succ_cons, List.drop_zero]
          go_wp2_with fail
          go_roundw
          case rel => exact ⟨j + 1, by omega, by go_num, X1.drew HX6.out⟩
          case measure => simp [intOf]; omega
        · clear hX6
          go_wp2_with fail
          go_roundw
          case rel => exact ⟨k + 1, S5, by omega, by go_num, HK5.out, HX6.out⟩
          case measure => simp [intOf]; omega
    · have HX2 := hid hX2
      have HS1 := hid hS1
      clear hX2 hS1
      go_wp2_with fail
      go_ret
      exact Ret.intro rfl HS1.out HX2.out
end Go.Proofs.Ytjjbidajkmodfaa
namespace Go.Proofs.Ytjjbidajkmodfaa
open Go Go.RowKit
def Tot {α : Type} (o : Option (α × St)) (n : Nat) : Prop := ∃ x, o = some x ∧ x.2.fs.length ≤ n
theorem Tot.bind {α β : Type} {o : Option (α × St)} {f : α × St → Option (β × St)} {n m : Nat} (h : Tot o n) (k : ∀ x : α × St, x.2.fs.length ≤ n → Tot (f x) m) : Tot (o.bind f) m := by
  obtain ⟨x, rfl, hx⟩ := h; exact k x hx
theorem Tot.mono {α : Type} {o : Option (α × St)} {n m : Nat} (h : Tot o n) (k : n ≤ m) : Tot o m := let ⟨x, a, b⟩ := h; ⟨x, a, Nat.le_trans b k⟩
theorem put_tot {st : St} {f : Form} {n : Nat} (h : st.fs.length + 1 ≤ n) (hn : n ≤ LIM) : Tot (put st f) n := by
  unfold put
  rw [if_pos (by omega)]
  exact ⟨_, rfl, by simpa using h⟩
theorem wrong_tot {d : List Node} {st : St} {i n : Nat} (h : st.fs.length ≤ n) : Tot (some (wrong d st i)) n := by
  refine ⟨_, rfl, ?_⟩
  unfold wrong wrongAt
  split <;> exact h
theorem bit_tot {st : St} {a b : Int} {n : Nat} (h : st.fs.length + 1 ≤ n) (hn : n ≤ LIM) : Tot (bit st a b) n := put_tot h hn
theorem asks_tot {st : St} {a : Int} {x y z : Nat} {n : Nat} (h : st.fs.length + 1 ≤ n) (hn : n ≤ LIM) : Tot (asks st a x y z) n := put_tot h hn
def cs (c : Nat → Nat) (l : List Nat) : Nat := (l.map fun j => c j + 6).sum
theorem cs_nil (c : Nat → Nat) : cs c [] = 0 := rfl
theorem cs_cons (c : Nat → Nat) (i : Nat) (l : List Nat) : cs c (i :: l) = c i + 6 + cs c l := by simp [cs]
theorem cs_drop1 (c : Nat → Nat) (i : Nat) (l : List Nat) : cs c ((i :: l).drop 1) = cs c l := rfl
theorem cs_mem {c : Nat → Nat} {l : List Nat} {i : Nat} (h : i ∈ l) : c i + 6 ≤ cs c l := by
  induction l with
  | nil => cases h
  | cons a l ih =>
    rw [cs_cons]
    rcases List.mem_cons.1 h with rfl | h
    · omega
    · have := ih h; omega
section
variable (d : List Node) (F : Fm) (c : Nat → Nat) (m : Nat)
def TotF : Prop := ∀ (st : St) (j n : Nat), j < m → j < d.length → st.fs.length + c j ≤ n → n ≤ LIM → Tot (F st j) n
def In (l : List Nat) : Prop := ∀ j ∈ l, j < m ∧ j < d.length
variable {d F c m}
theorem In.tail {i : Nat} {l : List Nat} (h : In d m (i :: l)) : In d m l := fun j hj => h j (List.mem_cons_of_mem _ hj)
theorem In.head {i : Nat} {l : List Nat} (h : In d m (i :: l)) : i < m ∧ i < d.length := h i List.mem_cons_self
theorem In.drop {l : List Nat} (h : In d m l) (k : Nat) : In d m (l.drop k) := fun j hj => h j (List.mem_of_mem_drop hj)
variable (H : TotF d F c m)
include H
theorem forms_tot : ∀ (l : List Nat) (st : St) (n : Nat), In d m l → st.fs.length + cs c l ≤ n → n ≤ LIM → Tot (forms F st l) n
  | [], st, n, _, h, _ => ⟨_, rfl, by simpa [cs] using h⟩
  | i :: l, st, n, hl, h, hn => by
    rw [cs_cons] at h
    refine (H st i (st.fs.length + c i) hl.head.1 hl.head.2 (Nat.le_refl _) (by omega)).bind fun x hx => ?_
    refine (forms_tot l x.2 n hl.tail (by omega) hn).bind fun y hy => ?_
    exact ⟨_, rfl, hy⟩
theorem body_tot {at_ : Int} {l : List Nat} {st : St} {n : Nat} (hl : In d m l) (h : st.fs.length + cs c l + 1 ≤ n) (hn : n ≤ LIM) : Tot (body F at_ st l) n := by
  unfold body
  split
  · rename_i h1
    obtain ⟨x, rfl⟩ : ∃ x, l = [x] := by
      match l, h1 with
      | [x], _ => exact ⟨x, rfl⟩
    rw [cs_cons] at h
    exact H st x n hl.head.1 hl.head.2 (by omega) hn
  · exact (forms_tot H l st (st.fs.length + cs c l) hl (Nat.le_refl _) (by omega)).bind fun x hx => put_tot (by omega) hn
theorem fn_tot {at_ : Int} {ns : List Str} {l : List Nat} {st : St} {n : Nat} (hl : In d m l) (h : st.fs.length + cs c l + 2 ≤ n) (hn : n ≤ LIM) : Tot (fn F at_ ns st l) n :=
  (body_tot H (n := st.fs.length + cs c l + 1) hl (Nat.le_refl _) (by omega)).bind fun x hx => put_tot (by omega) hn
theorem call_tot {at_ : Int} {f : Nat} {l : List Nat} {st : St} {n : Nat} (hl : In d m l) (h : st.fs.length + cs c l + 1 ≤ n) (hn : n ≤ LIM) : Tot (call F at_ f st l) n :=
  (forms_tot H l st (st.fs.length + cs c l) hl (Nat.le_refl _) (by omega)).bind fun x hx => put_tot (by omega) hn
theorem call1_tot {at_ : Int} {f v : Nat} {st : St} {n : Nat} (hv : v < m ∧ v < d.length) (h : st.fs.length + c v + 1 ≤ n) (hn : n ≤ LIM) : Tot (call F at_ f st [v]) n := by
  unfold call
  refine Tot.bind (n := st.fs.length + c v) ?_ fun x hx => put_tot (by omega) hn
  exact (H st v _ hv.1 hv.2 (Nat.le_refl _) (by omega)).bind fun x hx => ⟨_, rfl, hx⟩
theorem stars_tot {at_ : Int} {bd : List Nat} (hb : In d m bd) : ∀ (ps vs : List Nat) (st : St) (n : Nat), In d m vs → st.fs.length + cs c bd + 1 + cs c vs ≤ n → n ≤ LIM → Tot (stars d F at_ bd st ps vs) n
  | p :: ps, v :: vs, st, n, hv, h, hn => by
    rw [cs_cons] at h
    rw [stars]
    refine (stars_tot hb ps vs st (st.fs.length + cs c bd + 1 + cs c vs) hv.tail (Nat.le_refl _) (by omega)).bind fun x hx => ?_
    refine (put_tot (n := st.fs.length + cs c bd + 1 + cs c vs + 1) (by omega) (by omega)).bind fun y hy => ?_
    exact call1_tot H hv.head (by omega) hn
  | [], vs, st, n, _, h, hn => by
    rw [stars]
    · exact body_tot H hb (by omega) hn
    · intro _ _ _ _ h _; cases h
  | _ :: _, [], st, n, _, h, hn => by
    rw [stars]
    · exact body_tot H hb (by omega) hn
    · intro _ _ _ _ _ h; cases h
theorem and_tot {at_ : Int} : ∀ (l : List Nat) (st : St) (n : Nat), In d m l → st.fs.length + cs c l + 1 ≤ n → n ≤ LIM → Tot (andS F at_ st l) n
  | [], st, n, _, h, hn => bit_tot (by omega) hn
  | [i], st, n, hl, h, hn => by rw [cs_cons] at h; exact H st i n hl.head.1 hl.head.2 (by omega) hn
  | i :: j :: l, st, n, hl, h, hn => by
    rw [cs_cons] at h
    rw [andS]
    · refine (H st i (st.fs.length + c i) hl.head.1 hl.head.2 (Nat.le_refl _) (by omega)).bind fun x hx => ?_
      refine (and_tot (j :: l) x.2 (st.fs.length + c i + cs c (j :: l) + 1) hl.tail (by omega) (by omega)).bind fun y hy => ?_
      refine (bit_tot (n := st.fs.length + c i + cs c (j :: l) + 2) (by omega) (by omega)).bind fun z hz => ?_
      exact asks_tot (by omega) hn
    · intro h; cases h
theorem or_tot {at_ : Int} : ∀ (l : List Nat) (st : St) (n : Nat), In d m l → st.fs.length + cs c l + 1 ≤ n → n ≤ LIM → Tot (orS F at_ st l) n
  | [], st, n, _, h, hn => bit_tot (by omega) hn
  | [i], st, n, hl, h, hn => by rw [cs_cons] at h; exact H st i n hl.head.1 hl.head.2 (by omega) hn
  | i :: j :: l, st, n, hl, h, hn => by
    rw [cs_cons] at h
    rw [orS]
    · refine (put_tot (n := st.fs.length + 1) (by omega) (by omega)).bind fun p hp => ?_
      refine (put_tot (n := st.fs.length + 2) (by omega) (by omega)).bind fun q hq => ?_
      refine (or_tot (j :: l) q.2 (st.fs.length + 3 + cs c (j :: l)) hl.tail (by omega) (by omega)).bind fun y hy => ?_
      refine (asks_tot (n := st.fs.length + 4 + cs c (j :: l)) (by omega) (by omega)).bind fun z hz => ?_
      refine (put_tot (n := st.fs.length + 5 + cs c (j :: l)) (by omega) (by omega)).bind fun u hu => ?_
      exact call1_tot H hl.head (by omega) hn
    · intro h; cases h
variable (par : ∀ i, i < d.length → ∀ j ∈ (nd d i).l, j < i) (up : ∀ i, i < d.length → cs c (nd d i).l + 6 ≤ c i)
include par in
omit H in
theorem in_of {i : Nat} (hi : i ≤ m) (hd : i < d.length) : In d m (nd d i).l := fun j hj => by have := par i hd j hj; omega
include par up in
omit H in
theorem pairs_tot : ∀ (l : List Nat) (ps vs : List Nat), In d m l → pairsGo d l = some (ps, vs) → In d m vs ∧ cs c vs ≤ cs c l
  | [], ps, vs, _, h => by cases h; exact ⟨fun j hj => (by cases hj), Nat.le_refl _⟩
  | p :: l, ps, vs, hl, h => by
    unfold pairsGo at h
    split at h
    · rename_i h1
      obtain ⟨⟨ps', vs'⟩, h2, h3⟩ := Option.bind_eq_some_iff.1 h
      cases h3
      obtain ⟨h4, h5⟩ := pairs_tot l ps' vs' hl.tail h2
      have h5 : cs c vs' ≤ cs c l := h5
      obtain ⟨a, b, hab⟩ : ∃ a b, (nd d p).l = [a, b] := by
        have := h1.2.1
        match hq : (nd d p).l, this with
        | [a, b], _ => exact ⟨a, b, rfl⟩
      have hb : b ∈ (nd d p).l := by rw [hab]; simp
      have hg : (nd d p).l.getD 1 0 = b := by rw [hab]; rfl
      have h6 := par p hl.head.2 b hb
      have h7 := up p hl.head.2
      have h8 := cs_mem (c := c) hb
      dsimp only
      rw [hg]
      have := hl.head
      refine ⟨fun j hj => ?_, by rw [cs_cons, cs_cons]; omega⟩
      rcases List.mem_cons.1 hj with rfl | hj
      · omega
      · exact h4 j hj
    · cases h
include par up in
theorem cond_tot {at_ : Int} : ∀ (l : List Nat) (st : St) (n : Nat), In d m l → st.fs.length + cs c l + 1 ≤ n → n ≤ LIM → Tot (condS d F at_ st l) n
  | [], st, n, _, h, hn => bit_tot (by omega) hn
  | x :: l, st, n, hl, h, hn => by
    rw [cs_cons] at h
    have h7 := up x hl.head.2
    have hx := hl.head
    have hin := in_of par (Nat.le_of_lt hx.1) hx.2
    unfold condS
    split
    · exact wrong_tot (by omega)
    rename_i h1
    obtain ⟨y, t, hyt⟩ : ∃ y t, (nd d x).l = y :: t := by
      match hq : (nd d x).l with
      | y :: t => exact ⟨y, t, rfl⟩
      | [] => exact absurd (.inr (by rw [hq]; simp)) h1
    rw [hyt] at h7 hin ⊢
    rw [cs_cons] at h7
    split
    · split
      · exact wrong_tot (by omega)
      · exact body_tot H (hin.drop 1) (by rw [cs_drop1]; omega) hn
    · refine (H st y (st.fs.length + c y) hin.head.1 hin.head.2 (Nat.le_refl _) (by omega)).bind fun a ha => ?_
      refine (body_tot H (n := st.fs.length + c y + cs c t + 1) (hin.drop 1) (by rw [cs_drop1]; omega) (by omega)).bind fun b hb => ?_
      refine (cond_tot l b.2 (st.fs.length + c y + cs c t + 1 + cs c l + 1) hl.tail (by omega) (by omega)).bind fun e he => ?_
      exact asks_tot (by omega) hn
omit H in
theorem head2 {l : List Nat} (h : ¬ l.length < 2) : ∃ a b t, l = a :: b :: t := by
  match l, h with
  | a :: b :: t, _ => exact ⟨a, b, t, rfl⟩
  | [a], h => simp at h
  | [], h => simp at h
omit H in
theorem head3 {l : List Nat} (h : ¬ l.length < 3) : ∃ a b e t, l = a :: b :: e :: t := by
  match l, h with
  | a :: b :: e :: t, _ => exact ⟨a, b, e, t, rfl⟩
  | [a, b], h => simp at h
  | [a], h => simp at h
  | [], h => simp at h
include par up in
theorem special_tot {s : Str} {i n : Nat} {st : St} (hi : i ≤ m) (hd : i < d.length) (h0 : (nd d i).l ≠ []) (h : st.fs.length + c i ≤ n) (hn : n ≤ LIM) : Tot (special d F s i st) n := by
  have hu := up i hd
  have hin := in_of par hi hd
  obtain ⟨y, t, hyt⟩ : ∃ y t, (nd d i).l = y :: t := by
    match hq : (nd d i).l with
    | y :: t => exact ⟨y, t, rfl⟩
    | [] => exact absurd hq h0
  unfold special
  by_cases hs_ : s = sQuote
  · rw [if_pos hs_]
    unfold quoteS; split
    · exact wrong_tot (by omega)
    · exact put_tot (by omega) hn
  rw [if_neg hs_]
  clear hs_
  by_cases hs_ : s = sIf
  · rw [if_pos hs_]
    unfold ifS; split
    · exact wrong_tot (by omega)
    rename_i h3
    obtain ⟨a, b, e, u, hl⟩ := head3 (fun h => h3 (.inl h))
    rw [hl] at hu hin ⊢
    simp only [cs_cons] at hu
    refine (H st b (st.fs.length + c b) hin.tail.head.1 hin.tail.head.2 (Nat.le_refl _) (by omega)).bind fun x hx => ?_
    unfold ifWays
    refine (H x.2 e (st.fs.length + c b + c e) hin.tail.tail.head.1 hin.tail.tail.head.2 (by omega) (by omega)).bind fun z hz => ?_
    refine Tot.bind (n := st.fs.length + c b + c e + cs c u + 1) ?_ fun g hg => asks_tot (by omega) hn
    split
    · rename_i h4
      obtain ⟨v, rfl⟩ : ∃ v, u = [v] := by
        match u, h4 with
        | [v], _ => exact ⟨v, rfl⟩
      rw [cs_cons, cs_nil]
      rw [cs_cons, cs_nil] at hu
      exact H z.2 v _ hin.tail.tail.tail.head.1 hin.tail.tail.tail.head.2 (by omega) (by omega)
    · exact bit_tot (by omega) (by omega)
  rw [if_neg hs_]
  clear hs_
  by_cases hs_ : s = sWhen
  · rw [if_pos hs_]
    unfold whenS; split
    · exact wrong_tot (by omega)
    rename_i h3
    obtain ⟨a, b, e, u, hl⟩ := head3 h3
    rw [hl] at hu hin ⊢
    have he : cs c (List.drop 2 (a :: b :: e :: u)) = cs c (e :: u) := rfl
    rw [cs_cons, cs_cons] at hu
    refine (H st b (st.fs.length + c b) hin.tail.head.1 hin.tail.head.2 (Nat.le_refl _) (by omega)).bind fun x hx => ?_
    unfold whenWays
    refine (body_tot H (n := st.fs.length + c b + cs c (e :: u) + 1) (hin.drop 2) (by rw [he]; omega) (by omega)).bind fun z hz => ?_
    refine (bit_tot (n := st.fs.length + c b + cs c (e :: u) + 2) (by omega) (by omega)).bind fun g hg => asks_tot (by omega) hn
  rw [if_neg hs_]
  clear hs_
  by_cases hs_ : s = sUnless
  · rw [if_pos hs_]
    unfold unlessS; split
    · exact wrong_tot (by omega)
    rename_i h3
    obtain ⟨a, b, e, u, hl⟩ := head3 h3
    rw [hl] at hu hin ⊢
    have he : cs c (List.drop 2 (a :: b :: e :: u)) = cs c (e :: u) := rfl
    rw [cs_cons, cs_cons] at hu
    refine (H st b (st.fs.length + c b) hin.tail.head.1 hin.tail.head.2 (Nat.le_refl _) (by omega)).bind fun x hx => ?_
    unfold unlessWays
    refine (bit_tot (n := st.fs.length + c b + 1) (by omega) (by omega)).bind fun z hz => ?_
    refine (body_tot H (n := st.fs.length + c b + 2 + cs c (e :: u)) (hin.drop 2) (by rw [he]; omega) (by omega)).bind fun g hg => asks_tot (by omega) hn
  rw [if_neg hs_]
  clear hs_
  by_cases hs_ : s = sSet
  · rw [if_pos hs_]
    unfold setS; split
    · exact wrong_tot (by omega)
    rename_i h3
    obtain ⟨a, b, e, u, hl⟩ := head3 (l := (nd d i).l) (by omega)
    rw [hl] at hu hin ⊢
    simp only [cs_cons] at hu
    exact (H st e (st.fs.length + c e) hin.tail.tail.head.1 hin.tail.tail.head.2 (Nat.le_refl _) (by omega)).bind fun x hx => put_tot (by omega) hn
  rw [if_neg hs_]
  clear hs_
  by_cases hs_ : s = sBegin
  · rw [if_pos hs_]
    unfold beginS; split
    · exact wrong_tot (by omega)
    rw [hyt] at hu hin ⊢
    rw [cs_cons] at hu
    exact body_tot H (hin.drop 1) (by rw [cs_drop1]; omega) hn
  rw [if_neg hs_]
  clear hs_
  by_cases hs_ : s = sCond
  · rw [if_pos hs_]
    unfold condsS; split
    · exact wrong_tot (by omega)
    rw [hyt] at hu hin ⊢
    rw [cs_cons] at hu
    exact cond_tot H par up _ st n (hin.drop 1) (by rw [cs_drop1]; omega) hn
  rw [if_neg hs_]
  clear hs_
  by_cases hs_ : s = sLambda
  · rw [if_pos hs_]
    unfold lambdaS; split
    · exact wrong_tot (by omega)
    rename_i h3
    obtain ⟨a, b, e, u, hl⟩ := head3 (fun h => h3 (.inl h))
    split
    · exact wrong_tot (by omega)
    rw [hl] at hu hin ⊢
    have he : cs c (List.drop 2 (a :: b :: e :: u)) = cs c (e :: u) := rfl
    rw [cs_cons, cs_cons] at hu
    exact fn_tot H (hin.drop 2) (by rw [he]; omega) hn
  rw [if_neg hs_]
  clear hs_
  by_cases hs_ : s = sLet
  · rw [if_pos hs_]
    unfold letS; split
    · exact wrong_tot (by omega)
    rename_i h3
    obtain ⟨a, b, e, u, hl⟩ := head3 h3
    split
    · exact wrong_tot (by omega)
    rename_i ps vs hpv
    split
    · exact wrong_tot (by omega)
    rename_i ns hns
    rw [hl] at hu hin hpv ⊢
    have he : cs c (List.drop 2 (a :: b :: e :: u)) = cs c (e :: u) := rfl
    rw [cs_cons, cs_cons] at hu
    have hb := hin.tail.head
    have hg : (a :: b :: e :: u).getD 1 0 = b := rfl
    rw [hg] at hpv
    unfold pairs at hpv
    split at hpv
    case isFalse => cases hpv
    obtain ⟨h4, h5⟩ := pairs_tot par up _ _ _ (in_of par (Nat.le_of_lt hb.1) hb.2) hpv
    have hub := up b hb.2
    refine (fn_tot H (n := st.fs.length + cs c (e :: u) + 2) (hin.drop 2) (by rw [he]; omega) (by omega)).bind fun f hf => ?_
    exact call_tot H h4 (by omega) hn
  rw [if_neg hs_]
  clear hs_
  by_cases hs_ : s = sLets
  · rw [if_pos hs_]
    unfold letsS; split
    · exact wrong_tot (by omega)
    rename_i h3
    obtain ⟨a, b, e, u, hl⟩ := head3 h3
    split
    · exact wrong_tot (by omega)
    rename_i ps vs hpv
    rw [hl] at hu hin hpv ⊢
    have he : cs c (List.drop 2 (a :: b :: e :: u)) = cs c (e :: u) := rfl
    rw [cs_cons, cs_cons] at hu
    have hb := hin.tail.head
    have hg : (a :: b :: e :: u).getD 1 0 = b := rfl
    rw [hg] at hpv
    unfold pairs at hpv
    split at hpv
    case isFalse => cases hpv
    obtain ⟨h4, h5⟩ := pairs_tot par up _ _ _ (in_of par (Nat.le_of_lt hb.1) hb.2) hpv
    have hub := up b hb.2
    exact stars_tot H (hin.drop 2) ps vs st n h4 (by rw [he]; omega) hn
  rw [if_neg hs_]
  clear hs_
  by_cases hs_ : s = sAnd
  · rw [if_pos hs_]
    rw [hyt] at hu hin ⊢
    rw [cs_cons] at hu
    exact and_tot H _ st n (hin.drop 1) (by rw [cs_drop1]; omega) hn
  rw [if_neg hs_]
  clear hs_
  by_cases hs_ : s = sOr
  · rw [if_pos hs_]
    rw [hyt] at hu hin ⊢
    rw [cs_cons] at hu
    exact or_tot H _ st n (hin.drop 1) (by rw [cs_drop1]; omega) hn
  rw [if_neg hs_]
  clear hs_
  exact wrong_tot (by omega)
include par up in
theorem step_tot {i n : Nat} {st : St} (hi : i ≤ m) (hd : i < d.length) (h : st.fs.length + c i ≤ n) (hn : n ≤ LIM) : Tot (step d F st i) n := by
  have hu := up i hd
  have hin := in_of par hi hd
  unfold step
  repeat' split
  · exact ⟨_, rfl, by show st.fs.length ≤ n; omega⟩
  · exact put_tot (by omega) hn
  · exact bit_tot (by omega) hn
  · exact wrong_tot (by omega)
  · exact put_tot (by omega) hn
  · exact wrong_tot (by omega)
  · rename_i h0 _
    exact special_tot H par up hi hd h0 h hn
  · rename_i h0 _
    obtain ⟨y, t, hyt⟩ : ∃ y t, (nd d i).l = y :: t := by
      match hq : (nd d i).l with
      | y :: t => exact ⟨y, t, rfl⟩
      | [] => exact absurd hq h0
    rw [hyt] at hu hin ⊢
    rw [cs_cons] at hu
    refine (H st y (st.fs.length + c y) hin.head.1 hin.head.2 (Nat.le_refl _) (by omega)).bind fun x hx => ?_
    exact call_tot H (hin.drop 1) (by rw [cs_drop1]; omega) hn
include par up in
theorem define_tot {i n : Nat} {st : St} (hi : i ≤ m) (hd : i < d.length) (h : st.fs.length + c i ≤ n) (hn : n ≤ LIM) : Tot (defineS d F i st) n := by
  have hu := up i hd
  have hin := in_of par hi hd
  unfold defineS
  split
  · exact wrong_tot (by omega)
  rename_i h3
  obtain ⟨a, b, e, u, hl⟩ := head3 h3
  rw [hl] at hu hin ⊢
  have he : cs c (List.drop 2 (a :: b :: e :: u)) = cs c (e :: u) := rfl
  rw [cs_cons, cs_cons] at hu
  split
  · split
    · exact wrong_tot (by omega)
    rw [cs_cons] at hu
    exact (H st e (st.fs.length + c e) hin.tail.tail.head.1 hin.tail.tail.head.2 (Nat.le_refl _) (by omega)).bind fun x hx => put_tot (by omega) hn
  split
  · exact wrong_tot (by omega)
  split
  · exact wrong_tot (by omega)
  split
  · exact wrong_tot (by omega)
  exact (fn_tot H (n := st.fs.length + cs c (e :: u) + 2) (hin.drop 2) (by rw [he]; omega) (by omega)).bind fun f hf => put_tot (by omega) hn
end
section
variable {d : List Node} {c : Nat → Nat} (par : ∀ i, i < d.length → ∀ j ∈ (nd d i).l, j < i) (up : ∀ i, i < d.length → cs c (nd d i).l + 6 ≤ c i)
include par up
theorem form_tot (k : Nat) : TotF d (form d k) c k := by
  induction k with
  | zero => intro st j n hj; omega
  | succ k ih => intro st j n hj hd h hn; exact step_tot ih par up (by omega) hd h hn
theorem top_tot {i n : Nat} {st : St} (hd : i < d.length) (h : st.fs.length + c i ≤ n) (hn : n ≤ LIM) : Tot (topS d (form d d.length) st i) n := by
  unfold topS
  split
  · exact define_tot (form_tot par up d.length) par up (Nat.le_of_lt hd) hd h hn
  · exact step_tot (form_tot par up d.length) par up (Nat.le_of_lt hd) hd h hn
theorem tops_tot : ∀ (ts : List Nat) (st : St) (n : Nat), (∀ i ∈ ts, i < d.length) → st.fs.length + cs c ts ≤ n → n ≤ LIM → Tot (tops (topS d (form d d.length)) st ts) n
  | [], st, n, _, h, _ => ⟨_, rfl, by simpa [cs] using h⟩
  | i :: ts, st, n, hi, h, hn => by
    rw [cs_cons] at h
    rw [tops]
    refine (top_tot par up (hi i List.mem_cons_self) (Nat.le_refl _) (by omega)).bind fun x hx => ?_
    split
    · refine (tops_tot ts x.2 n (fun j hj => hi j (List.mem_cons_of_mem _ hj)) (by omega) hn).bind fun y hy => ⟨_, rfl, hy⟩
    · exact ⟨_, rfl, by show x.2.fs.length ≤ n; omega⟩
end
def szF (d : List Node) : Nat → Nat → Nat
  | 0, _ => 0
  | k + 1, i => 1 + ((nd d i).l.map (szF d k)).sum
def sz (d : List Node) (i : Nat) : Nat := szF d (i + 1) i
theorem nd_out {d : List Node} {i : Nat} (h : d.length ≤ i) : nd d i = default := by
  unfold nd; rw [List.getD_eq_getElem?_getD, List.getElem?_eq_none h]; rfl
section
variable {d : List Node} (par : ∀ i, i < d.length → ∀ j ∈ (nd d i).l, j < i)
include par
theorem par_all (i : Nat) : ∀ j ∈ (nd d i).l, j < i := by
  by_cases h : i < d.length
  · exact par i h
  · rw [nd_out (by omega)]; intro j hj; cases hj
theorem szF_eq : ∀ (k k' i : Nat), i < k → i < k' → szF d k i = szF d k' i
  | k + 1, k' + 1, i, h, h' => by
    simp only [szF]
    congr 1
    congr 1
    refine List.map_congr_left fun j hj => ?_
    have := par_all par i j hj
    exact szF_eq k k' j (by omega) (by omega)
theorem sz_eq (i : Nat) : sz d i = 1 + ((nd d i).l.map (sz d)).sum := by
  show 1 + ((nd d i).l.map (szF d i)).sum = _
  congr 2
  refine List.map_congr_left fun j hj => ?_
  have := par_all par i j hj
  exact szF_eq par i (j + 1) j (by omega) (by omega)
theorem cs_sz (l : List Nat) : cs (fun j => 12 * sz d j - 6) l = 12 * (l.map (sz d)).sum := by
  induction l with
  | nil => rfl
  | cons a l ih =>
    rw [cs_cons, ih, List.map_cons, List.sum_cons]
    have := sz_eq par a
    show 12 * sz d a - 6 + 6 + _ = _
    omega
theorem sz_up (i : Nat) : cs (fun j => 12 * sz d j - 6) (nd d i).l + 6 ≤ 12 * sz d i - 6 := by
  rw [cs_sz par, sz_eq par i]; omega
end
def rest (d : List Node) (s : List Int) : Nat → Nat
  | 0 => 0
  | k + 1 => rest d s k + if (k : Int) ∈ s then 0 else sz d k
theorem rest_far {d : List Node} {s : List Int} {p : Int} : ∀ {k : Nat}, (k : Int) ≤ p → rest d (s ++ [p]) k = rest d s k
  | 0, _ => rfl
  | k + 1, h => by
    rw [rest, rest, rest_far (k := k) (by omega)]
    congr 1
    have : ¬ ((k : Int) = p) := by omega
    simp [this]
theorem rest_one {d : List Node} {s : List Int} {p : Nat} (hp : (p : Int) ∉ s) : ∀ {k : Nat}, p < k → rest d (s ++ [(p : Int)]) k + sz d p = rest d s k
  | k + 1, h => by
    rw [rest, rest]
    by_cases e : k = p
    · subst e
      rw [rest_far (Int.le_refl _), if_pos (by simp), if_neg hp]; omega
    · have ih := rest_one (d := d) hp (k := k) (by omega)
      have : ((k : Int) ∈ s ++ [(p : Int)]) ↔ (k : Int) ∈ s := by simp; omega
      simp only [this]
      omega
theorem rest_links {d : List Node} {i : Nat} : ∀ (l s s' : List Int), linksGo i s l = some s' → rest d s' i + ((l.map Int.toNat).map (sz d)).sum = rest d s i ∧ ∀ p ∈ s', p ∈ s ∨ p < (i : Int)
  | [], s, s', h => by cases h; exact ⟨by simp, fun p hp => .inl hp⟩
  | p :: l, s, s', h => by
    unfold linksGo at h
    split at h
    · cases h
    rename_i hp
    have h1 : 0 ≤ p := by omega
    have h2 : p < (i : Int) := by omega
    have h3 : p ∉ s := fun h => hp (.inr (.inr h))
    obtain ⟨a, b⟩ := rest_links (d := d) l _ s' h
    have e : ((p.toNat : Nat) : Int) = p := by omega
    have h4 := rest_one (d := d) (s := s) (p := p.toNat) (by rw [e]; exact h3) (k := i) (by omega)
    rw [e] at h4
    refine ⟨by rw [List.map_cons, List.map_cons, List.sum_cons]; omega, fun q hq => ?_⟩
    rcases b q hq with h5 | h5
    · rcases List.mem_append.1 h5 with h5 | h5
      · exact .inl h5
      · rw [List.mem_singleton.1 h5]; exact .inr h2
    · exact .inr h5
theorem rest_may {d : List Node} (par : ∀ i, i < d.length → ∀ j ∈ (nd d i).l, j < i) : ∀ (rd : List RNode) (k : Nat) (s : List Int), mayGo s k rd = true → (∀ p ∈ s, p < (k : Int)) → (∀ j x, rd[j]? = some x → nd d (k + j) = x.node) → rest d s k = k →
    ∀ j, j < rd.length → sz d (k + j) ≤ k + j + 1
  | [], _, _, _, _, _, _, j, hj => by simp at hj
  | x :: rd, k, s, h, hs, hn, hr, j, hj => by
    unfold mayGo at h
    split at h
    case isFalse => cases h
    split at h
    case h_1 => cases h
    rename_i s' hl
    obtain ⟨a, b⟩ := rest_links (d := d) _ _ _ hl
    have h0 := hn 0 x rfl
    have h1 := sz_eq par k
    rw [Nat.add_zero] at h0
    have h2 : (nd d k).l = x.l.map Int.toNat := by rw [h0]; rfl
    rw [h2] at h1
    have h3 : (k : Int) ∉ s' := fun hm => by rcases b _ hm with h | h; have := hs _ h; omega; omega
    have h4 : rest d s' (k + 1) = k + 1 := by rw [rest, if_neg h3]; omega
    cases j with
    | zero =>
      have : rest d s' (k + 1) = rest d s' k + sz d k := by rw [rest, if_neg h3]
      rw [Nat.add_zero]; omega
    | succ j =>
      have := rest_may par rd (k + 1) s' h (fun p hp => by rcases b p hp with h | h; have := hs p h; omega; omega) (fun i y hi => by rw [show k + 1 + i = k + (i + 1) by omega]; exact hn (i + 1) y hi) h4 j (by simpa using hj)
      rw [show k + (j + 1) = k + 1 + j by omega]; exact this
theorem expandR_some {rd : List RNode} {ts : List Int} (hs : ∀ x ∈ rd, x.s.length ≤ 140737488355328) (hl : ∀ x ∈ rd, x.l.length ≤ 1099511627776) (h : ts.length * (12 * rd.length) ≤ LIM) : ∃ r, expandR rd ts = some r := by
  unfold expandR
  split
  · exact ⟨_, rfl⟩
  rename_i hc
  have hm : mayB rd = true := by
    cases e : mayB rd with
    | true => rfl
    | false => exact absurd (.inl e) hc
  have ha : ∀ t ∈ ts, 0 ≤ t ∧ t < (rd.length : Int) := by
    intro t ht
    have h1 : ¬ ts.any (outR rd.length) = true := fun h => hc (.inr h)
    rw [List.any_eq_true] at h1
    have h2 : ¬ outR rd.length t = true := fun h => h1 ⟨t, ht, h⟩
    unfold outR at h2
    simp only [decide_eq_true_eq] at h2
    omega
  have hD := may_dat hm hs hl
  have key : ∀ i, i < rd.length → sz (rd.map RNode.node) i ≤ i + 1 := fun i hi => by
    have := rest_may (d := rd.map RNode.node) hD.par rd 0 [] hm (fun p hp => by cases hp) (fun j x hx => by
      obtain ⟨hj, hx⟩ := List.getElem?_eq_some_iff.1 hx
      rw [Nat.zero_add, nd_node rd hj, hx]) rfl i hi
    simpa using this
  have hc : ∀ l : List Int, (∀ t ∈ l, 0 ≤ t ∧ t < (rd.length : Int)) → cs (fun j => 12 * sz (rd.map RNode.node) j - 6) (l.map Int.toNat) ≤ l.length * (12 * rd.length) := by
    intro l
    induction l with
    | nil => intro _; simp [cs]
    | cons t l ih =>
      intro hl
      have h1 := ih fun t ht => hl t (List.mem_cons_of_mem _ ht)
      have h2 := hl t List.mem_cons_self
      have h3 := key t.toNat (by omega)
      have h4 := sz_eq hD.par t.toNat
      have h5 : (l.length + 1) * (12 * rd.length) = l.length * (12 * rd.length) + 12 * rd.length := Nat.succ_mul _ _
      rw [List.map_cons, cs_cons, List.length_cons, h5]
      show 12 * sz (rd.map RNode.node) t.toNat - 6 + 6 + _ ≤ _
      omega
  obtain ⟨y, hy, _⟩ := tops_tot (d := rd.map RNode.node) hD.par (fun i _ => sz_up hD.par i) (ts.map Int.toNat) ⟨[], none⟩ LIM (fun i hi => by
    obtain ⟨t, ht, rfl⟩ := List.mem_map.1 hi
    have := ha t ht
    simp; omega) (by have := hc ts ha; simp; omega) (Nat.le_refl _)
  refine ⟨resOf y, ?_⟩
  unfold expand
  rw [List.length_map] at hy
  rw [hy]; rfl
end Go.Proofs.Ytjjbidajkmodfaa
namespace Go.Proofs.Ytjjbidajkmodfaa
open Go Go.RowKit
theorem natsBox {S : Seal} {b : Nat} {l : List Nat} (hl : l.length ≤ maxLen) (s : ∀ j v, (l.map nat).toArray[j]? = some v → Sc S b j v) : NatsR S (.slice (some ⟨b, 0, none⟩) l.length l.length) l :=
  ⟨by simp, _, _, rfl, Nat.le_refl _, hl, .inr ⟨b, 0, rfl, fun j u hu => by rw [Nat.zero_add]; exact s j u (by simpa using hu)⟩⟩
def textE (s : Str) : Option ERes := expandR ((readS s).row.map Node.raw) ((readS s).tops.map Int.ofNat)
theorem readS_long {s : Str} (h : 4000 < s.length) : readS s = ⟨[], [], 0, 3⟩ := by
  unfold readS lexS; rw [if_pos h]; rfl
theorem readS_few (s : Str) : (readS s).row.length ≤ 8000 ∧ (readS s).tops.length ≤ 8000 ∧ ∀ x ∈ (readS s).row, x.l.length ≤ 8000 ∧ x.s.length ≤ 32 ∧ -1099511627776 ≤ x.n ∧ x.n ≤ 1099511627776 := by
  by_cases h : 4000 < s.length
  · rw [readS_long h]; exact ⟨Nat.zero_le _, Nat.zero_le _, fun x hx => (by cases hx)⟩
  · obtain ⟨_, h1, h2, h3, _, _⟩ := readS_ok s
    exact ⟨by omega, by omega, fun x hx => ⟨by have := (h2 x hx).l; omega, (h2 x hx).s, (h2 x hx).i64⟩⟩
theorem textE_some (s : Str) : ∃ r, textE s = some r := by
  obtain ⟨h1, h2, h3⟩ := readS_few s
  refine expandR_some (fun x hx => ?_) (fun x hx => ?_) ?_
  · obtain ⟨y, hy, rfl⟩ := List.mem_map.1 hx
    have := (h3 y hy).2.1
    show y.s.length ≤ _; omega
  · obtain ⟨y, hy, rfl⟩ := List.mem_map.1 hx
    have := (h3 y hy).1
    show (y.l.map Int.ofNat).length ≤ _; rw [List.length_map]; omega
  · rw [List.length_map, List.length_map]
    have : (readS s).tops.length * (12 * (readS s).row.length) ≤ 8000 * (12 * 8000) := Nat.mul_le_mul h2 (by omega)
    unfold LIM; omega
theorem NodesR.raw {S : Seal} {v : Value} {d : List Node} (h : NodesR S v d) (hs : ∀ x ∈ d, x.s.length ≤ 32 ∧ -1099511627776 ≤ x.n ∧ x.n ≤ 1099511627776) : RNodesR S v (d.map Node.raw) := by
  refine ⟨fun x hx => ?_, ?_⟩
  · obtain ⟨y, hy, rfl⟩ := List.mem_map.1 hx
    have := hs y hy
    refine ⟨?_, ?_⟩
    · show I64 y.n; unfold I64; omega
    · show y.s.length ≤ _; omega
  · by_cases h0 : d = []
    · subst h0
      obtain ⟨xs, hsl, _⟩ := h
      obtain ⟨A, c, hv, h1, h2⟩ := Sl.shape hsl
      exact ⟨A, c, hv, h1, h2, .inl rfl⟩
    · obtain ⟨b, off, c, hv, h1, h2, h3⟩ := h.at_ h0
      refine ⟨some ⟨b, off, none⟩, c, by rw [List.length_map]; exact hv, by rw [List.length_map]; exact h1, h2, .inr ⟨b, off, rfl, fun i x hi => ?_⟩⟩
      rw [List.getElem?_map, Option.map_eq_some_iff] at hi
      obtain ⟨y, hy, rfl⟩ := hi
      obtain ⟨lv, a⟩ := h3 i y hy
      exact ⟨lv, a.c0, a.c1, a.c2, a.c3, a.c4, a.l.ints⟩
structure TextIn (S : Seal) (nv tv : Value) (R : RdRes) : Prop where
  n : RNodesR S nv (R.row.map Node.raw)
  t : IntsR S tv (R.tops.map Int.ofNat)
theorem TextIn.of {S : Seal} {nv tv : Value} {s : Str} (hn : NodesR S nv (readS s).row) (ht : NatsR S tv (readS s).tops) : TextIn S nv tv (readS s) :=
  ⟨hn.raw fun x hx => ((readS_few s).2.2 x hx).2, ht.ints⟩
theorem text_l (s : Str) : ∀ x ∈ (readS s).row.map Node.raw, x.l.length ≤ 1099511627776 := by
  intro x hx
  obtain ⟨y, hy, rfl⟩ := List.mem_map.1 hx
  have := ((readS_few s).2.2 y hy).1
  show (y.l.map Int.ofNat).length ≤ _; rw [List.length_map]; omega
theorem text_t (s : Str) : ((readS s).tops.map Int.ofNat).length ≤ 1099511627776 := by have := (readS_few s).2.1; rw [List.length_map]; omega
theorem text_r (s : Str) : ((readS s).row.map Node.raw).length ≤ 281474976710656 := by have := (readS_few s).1; rw [List.length_map]; omega
set_option maxRecDepth 100000 in
set_option maxHeartbeats 4000000 in
theorem E_of (L : List Atom) (S : Seal) (s : ByteArray) (w : World) (r : ERes) (hX : BX L S w) (hs : s.size ≤ 9223372036854775807) (hr : textE s.data.toList = some r) : Calls Try.prog 18 #[.string s] w (ExpRet S (BX L) r) := by
  have Hrd := hid (D_Read L S s w hX hs)
  have Hr := hid hr
  clear hX hr
  go_enter Try.func18, Try.ntmps18
  go_wp2_with fail
  refine Hrd.out.mono ?_
  rintro e w1 ⟨nv, tv, S1, k1, hX1, rfl, hn, ht⟩
  have Hin := hid (TextIn.of hn ht)
  have HX1 := hid hX1
  have HK1 := hid k1
  clear hn ht hX1 k1
  go_wp2_with fail
  refine (P_Expand L S1 _ _ _ _ _ r HX1.out Hin.out.n Hin.out.t (text_l _) (text_t _) Hr.out).mono ?_
  rintro e w2 ⟨fv, ov, S2, k2, hX2, rfl, hF, hO⟩
  have HK2 := hid (HK1.out.trans k2)
  have HX2 := hid hX2
  have HF := hid hF
  have HO := hid hO
  clear hX2 k2 hF hO
  go_wp2_with fail
  (try simp only [Exit.inBlock, Exit.then]); refine bodyPost_ret (results_tmp4 rfl _ _ _) rfl ?_
  exact ⟨_, _, S2, HK2.out, HX2.out, rfl, HF.out, HO.out⟩
def shownS : Str := [40, 119, 104, 101, 110, 32, 120, 32, 49, 32, 50, 41]
def shownF : List Form := [{ kind := 4, at_ := 6, s := [120] }, { kind := 1, at_ := 8, n := 1 }, { kind := 1, at_ := 10, n := 2 }, { kind := 8, at_ := 0, l := [1, 2] }, { kind := 2, at_ := 0 }, { kind := 5, at_ := 0, l := [0, 3, 4] }]
theorem shown_eq : textE shownS = some ⟨shownF, [5], 0, 0⟩ := by kernel_rfl
set_option maxRecDepth 100000 in
set_option maxHeartbeats 8000000 in
theorem E_shown (L : List Atom) (S : Seal) (w : World) (hX : BX L S w) : Calls Try.prog 9 #[] w (Ret S (BX L) (.bool true)) := by
  have Ho := hid (E_of L S (bs shownS) w _ hX (by rw [bs_size]; decide) (show textE (bs shownS).data.toList = _ from shown_eq))
  clear hX
  go_enter Try.func9, Try.ntmps9
  go_wp2_with fail
  refine Ho.out.mono ?_
  rintro e w1 ⟨fv, ov, S1, k1, hX1, rfl, hF, hO⟩
  obtain ⟨A1, c1, rfl, _, _⟩ := hF.shape
  obtain ⟨A2, c2, rfl, _, _⟩ := Sl.shape hO
  obtain ⟨S2, k2, hX2, s2⟩ := BX.xs.box hX1 #[nat 5] 3
  have HX2 := hid hX2
  have HK2 := hid (k1.trans k2)
  have HF := hid (hF.mono k2)
  have HO := hid (NatsR.mono k2 hO)
  have H5 := hid (NatsR.box1 s2)
  clear hX1 hX2 k1 k2 hF hO s2
  go_wp2_with fail
  refine (E_Ints BX.xs L S2 _ _ _ [5] HX2.out HO.out H5.out).mono ?_
  rintro e w3 ⟨rfl, S3, k3, hX3⟩
  obtain ⟨S4, k4, hX4, sa, sb⟩ := BX.xs.box2 hX3 #[nat 1, nat 2] #[nat 0, nat 3, nat 4] 3 3
  have ha := natsBox (l := [1, 2]) (by unfold maxLen; simp) sa
  have hb := natsBox (l := [0, 3, 4]) (by unfold maxLen; simp) sb
  obtain ⟨S5, k5, hX5, sc⟩ := BX.xs.box hX4 #[.int .u8 4, .int .i64 6, .int .i64 0, .int .i64 0, str [120], .slice none 0 0, .int .u64 0, .slice none 0 0,
    .int .u8 1, .int .i64 8, .int .i64 1, .int .i64 0, str [], .slice none 0 0, .int .u64 0, .slice none 0 0,
    .int .u8 1, .int .i64 10, .int .i64 2, .int .i64 0, str [], .slice none 0 0, .int .u64 0, .slice none 0 0,
    .int .u8 8, .int .i64 0, .int .i64 0, .int .i64 0, str [], .slice none 0 0, .int .u64 0, .slice (some ⟨w3.heap.size, 0, none⟩) 2 2,
    .int .u8 2, .int .i64 0, .int .i64 0, .int .i64 0, str [], .slice none 0 0, .int .u64 0, .slice none 0 0,
    .int .u8 5, .int .i64 0, .int .i64 0, .int .i64 0, str [], .slice none 0 0, .int .u64 0, .slice (some ⟨w3.heap.size + 1, 0, none⟩) 3 3] 41
  rw [World.size_alloc, World.size_alloc] at sc
  have hG : FormsR S5 (.slice (some ⟨w3.heap.size + 1 + 1, 0, none⟩) 6 6) shownF := by
    have hC := ((((((FormsC.nil S5).snoc { kind := 4, at_ := 6, s := [120] } (StrsR.nil _) (NatsR.nil _)).snoc { kind := 1, at_ := 8, n := 1 } (StrsR.nil _) (NatsR.nil _)).snoc { kind := 1, at_ := 10, n := 2 } (StrsR.nil _) (NatsR.nil _)).snoc { kind := 8, at_ := 0, l := [1, 2] } (StrsR.nil _) (NatsR.mono k5 ha)).snoc { kind := 2, at_ := 0 } (StrsR.nil _) (NatsR.nil _)).snoc { kind := 5, at_ := 0, l := [0, 3, 4] } (StrsR.nil _) (NatsR.mono k5 hb)
    exact ⟨_, ⟨hC.1, some ⟨w3.heap.size + 1 + 1, 0, none⟩, 6, rfl, Nat.le_refl _, by unfold maxLen; omega, .inr ⟨w3.heap.size + 1 + 1, 0, rfl, fun j u hu => by rw [Nat.zero_add]; exact sc j u (by rw [← Array.getElem?_toList]; exact hu)⟩⟩, hC⟩
  have HX5 := hid hX5
  have HK5 := hid (((HK2.out.trans k3).trans k4).trans k5)
  have HF5 := hid (((HF.out.mono k3).mono k4).mono k5)
  have HG := hid hG
  clear hX3 hX4 hX5 k3 k4 k5 sa sb sc ha hb hG
  go_wp2_with fail
  refine (E_Same BX.xs L S5 _ _ _ shownF HX5.out HF5.out HG.out).mono ?_
  rintro e w6 ⟨rfl, S6, k6, hX6⟩
  go_wp2_with fail
  go_ret
  exact Ret.intro rfl (HK5.out.trans k6) hX6
end Go.Proofs.Ytjjbidajkmodfaa
namespace Go.Proofs.Ytjjbidajkmodfaa
open Go Go.RowKit
def seal0 (W : World) : Seal := ⟨fun b => W.heap[b]?, W.os, W.tape, W.output⟩
theorem glob0 {W : World} (h : W.ShapedOpen Try.prog) : Glob (seal0 W) := by
  obtain ⟨m, hm⟩ := cell_of_shapedOpen_int (g := 0) (t := 3) (zero := #[.int .i64 0]) (k := .i64) h (of_decide_eq_true (by kernel_rfl)) (by kernel_rfl) rfl (by kernel_rfl) (by kernel_rfl) Try.underlying3
  refine ⟨m, ?_⟩
  unfold World.cell? at hm
  dsimp only at hm
  cases h0 : W.heap[0]? with
  | none => rw [h0] at hm; cases hm
  | some o =>
    cases o with
    | cells c t fr => rw [h0] at hm; exact ⟨c, t, fr, h0, by simpa using hm⟩
    | _ => rw [h0] at hm; cases hm
theorem bx0 {W : World} (h : W.ShapedOpen Try.prog) : BX [] (seal0 W) W :=
  ⟨glob0 h, rfl, rfl, rfl, fun _ _ h => h, fun a ha => (by cases ha), fun a ha => (by cases ha), List.nodup_nil⟩
theorem bx_old {L : List Atom} {W W' : World} {S : Seal} (k : (seal0 W).le S) (h : BX L S W') : ∀ b, b < W.heap.size → W'.heap[b]? = W.heap[b]? := by
  intro b hb
  have h1 : (seal0 W).m b = some W.heap[b] := Array.getElem?_eq_getElem hb
  rw [h.2.kept b _ (k.1 b _ h1), Array.getElem?_eq_getElem hb]
theorem bx_kept {L : List Atom} {W W' : World} {S : Seal} (k : (seal0 W).le S) (h : BX L S W') (may : MemPlace → Prop) : W.keptBut W' may := by
  refine ⟨h.2.os.trans k.2.1, h.2.output.trans k.2.2.2, fun i hi => ?_⟩
  rw [bx_old k h i hi]
  split
  · rename_i h1 h2
    rw [h1] at h2
    cases h2
    exact ⟨rfl, rfl, rfl, fun _ _ => rfl⟩
  · rename_i h1 h2
    rw [h1] at h2
    cases h2
    exact .inr ⟨rfl, rfl⟩
  · rfl
end Go.Proofs.Ytjjbidajkmodfaa
