/- Texts D4 of the proof. What each theorem says stands in its own statement. No condition beyond those that it names. -/
import Derived.Test.YtjjbidajkmodfaaXa13
set_option linter.unusedVariables false
set_option linter.unusedSimpArgs false
namespace Go.Proofs.Ytjjbidajkmodfaa
open Go Go.RowKit
section
variable (p : Nat) (r : RS) (L : List Atom) (S : Seal) (w : World)
set_option maxRecDepth 100000 in
set_option maxHeartbeats 8000000 in
theorem D_tok1 (at_ : Nat) (n : Int) (s : Str) (hF : Few r) (hX : RdX p r L S w) (hf : r.row.length + r.op.length + 2 ≤ 1000000) :
    Calls Try.prog 29 #[ptr p, tokV ⟨1, at_, n, s⟩] w (TokRet S (fun r => RdX p r L) (rtokE r ⟨1, at_, n, s⟩) r (r.opened ⟨1, at_, n, s⟩)) := by
  have X := RdX.xs p r
  obtain ⟨S1, k1, hA, s1⟩ := X.box hX #[.int .u8 1, nat at_, int n, str s] 74
  have hol : r.op.length ≤ 1000000 := by have := hF.n; omega
  have HF := hid hF
  have HAd := hid (X.drew hA)
  have Hf := hid hf
  have HK1 := hid k1
  have Hb0 := hid (s1 0 _ rfl)
  have Hb1 := hid (s1 1 _ rfl)
  have ho := hA.open_
  obtain ⟨g, Rv, Tv, Ov, cells, zs, hw, hc, hop⟩ := X.drew (X.drew hA)
  obtain ⟨A7, c7, rfl, hc7, _⟩ := hw.rowLenM (e := 76) (size := 3) (v := Ov) (n := zs.length) (xs := zs.flatMap partCells) (by simp [rdAtoms])
  have hzl : zs.length = r.op.length := by rw [hop]; simp
  have f2 : World.cell? _ ⟨p, 2, none⟩ = some (.slice A7 zs.length c7) := hw.blkM (b := p) (c := #[Rv, Tv, .slice A7 zs.length c7]) (t := 71) (by simp [rdAtoms]) 2
  replace f2 : World.cell? (w.alloc (.cells #[.int .u8 1, nat at_, int n, str s] 74)) ⟨p, 2, none⟩ = some (.slice A7 zs.length c7) := f2
  have hw2 : Wd S1 (.row 60 5 Rv r.row.length cells :: .blk p #[Rv, Tv, .slice A7 zs.length c7] 71 :: .row 3 1 Tv r.tops.length (r.tops.map nat) ::
      .row 76 3 (.slice A7 zs.length c7) zs.length (zs.flatMap partCells) :: (zs.map partAtom ++ L)) (w.alloc (.cells #[.int .u8 1, nat at_, int n, str s] 74)).drew.drew := by
    simpa [rdAtoms] using hw
  have hw3 := hw2.perm (List.perm_middle (l₁ := [_, _, _]) (a := _))
  have hE : rtokE r ⟨1, at_, n, s⟩ = if 50 ≤ r.op.length then 62 else 0 := by unfold rtokE; simp
  have Hg := hid g
  have Hc := hid hc
  have Hop := hid hop
  have ho : zs.length = 0 ∨ ∃ m O qq, zs.length = m + 1 ∧ A7 = some ⟨O, 0, none⟩ ∧ World.cell? (w.alloc (.cells #[.int .u8 1, nat at_, int n, str s] 74)) ⟨O, m * 3 + 1, none⟩ = some (.bool qq) := by
    rcases ho with ⟨ho, _⟩ | ⟨q, ps, O, cO, ho, hcO, e2, e3, e4⟩
    · left; rw [hzl, ho]; rfl
    · right
      have h := f2.symm.trans e2
      simp only [Option.some.injEq, Value.slice.injEq] at h
      exact ⟨ps.length, O, q.quote, h.2.1, h.1, e4⟩
  clear hX hF hA hf s1 k1 hw hw2 g hc hop
  obtain ⟨k, hk⟩ : ∃ k, zs.length = k := ⟨_, rfl⟩
  rw [hk] at hzl f2 hw3 hc7 ho
  have Hk := hid hk
  have hk6 : k ≤ 1000000 := by omega
  clear hk
  by_cases h50 : 50 ≤ r.op.length
  · rw [hE, if_pos h50]
    rcases ho with h0 | ⟨m, O, qq, hm, rfl, e4⟩
    · omega
    subst hm
    have hzI : (m : Int) < (m : Int) + 1 := by omega
    have hwr : IntKind.i64.wrap (m : Int) = (m : Int) := by rw [IntKind.wrap_i64]; omega
    have hop0 : (0 : Int) < (m : Int) + 1 := by omega
    have h50I : (50 : Int) ≤ (m : Int) + 1 := by omega
    have h50J : (49 : Int) ≤ (m : Int) := by omega
    clear hw3 hE hzl
    cases qq with
    | true =>
      go_enter Try.func29, Try.ntmps29
      go_wp2_with fail
      refine wp_plan 17 (.take 0 (.take 1 (.take 2 (.take 3 (.take 4 (.take 5 (.take 6 (.take 7 (.take 8 (.take 9 (.take 10 (.take 11 (.take 12 (.take 13 (.take 14 (.take 15 (.take 16 .fin))))))))))))))))) (fun w_ => w_ = _) (by kernel_rfl) (by kernel_rfl) (fun _ _ d_ _ _ h_ => by cases d_ <;> exact h_) rfl ?_
      refine Pl.takeW rfl rfl ?v1 ?hy1 ?rest1
      case hy1 => intro w_ _; first | (go_simp; done) | (go_simp; with_reducible rfl)
      simp only [Act.put, List.setIfInBounds_toArray, List.set_cons_zero, List.set_cons_succ]
      refine Pl.takeW rfl rfl ?v2 ?hy2 ?rest2
      case hy2 => intro w_ _; first | (go_simp; done) | (go_simp; with_reducible rfl)
      simp only [Act.put, List.setIfInBounds_toArray, List.set_cons_zero, List.set_cons_succ]
      refine Pl.takeW rfl rfl ?v3 ?hy3 ?rest3
      case hy3 => intro w_ _; first | (go_simp; done) | (go_simp; with_reducible rfl)
      simp only [Act.put, List.setIfInBounds_toArray, List.set_cons_zero, List.set_cons_succ]
      refine Pl.takeW rfl rfl ?v4 ?hy4 ?rest4
      case hy4 => intro w_ hS_; subst hS_; first | (go_simp; done) | (go_simp; with_reducible rfl)
      simp only [Act.put, List.setIfInBounds_toArray, List.set_cons_zero, List.set_cons_succ]
      refine Pl.takeW rfl rfl ?v5 ?hy5 ?rest5
      case hy5 => intro w_ _; first | (go_simp; done) | (go_simp; with_reducible rfl)
      simp only [Act.put, List.setIfInBounds_toArray, List.set_cons_zero, List.set_cons_succ]
      refine Pl.takeW rfl rfl ?v6 ?hy6 ?rest6
      case hy6 => intro w_ _; first | (go_simp; done) | (go_simp; with_reducible rfl)
      simp only [Act.put, List.setIfInBounds_toArray, List.set_cons_zero, List.set_cons_succ]
      refine Pl.takeW rfl rfl ?v7 ?hy7 ?rest7
      case hy7 => intro w_ _; first | (go_simp; done) | (go_simp; with_reducible rfl)
      simp only [Act.put, List.setIfInBounds_toArray, List.set_cons_zero, List.set_cons_succ]
      first
        | (refine Pl.takeW rfl rfl ?v8 ?hy8 ?rest8
           case hy8 => intro w_ _; first | (go_simp; done) | (go_simp; with_reducible rfl))
        | refine Pl.takeU rfl rfl ?rest8
      simp only [Act.put, List.setIfInBounds_toArray, List.set_cons_zero, List.set_cons_succ]
      first
        | (refine Pl.takeW rfl rfl ?v9 ?hy9 ?rest9
           case hy9 => intro w_ _; first | (go_simp; done) | (go_simp; with_reducible rfl))
        | refine Pl.takeU rfl rfl ?rest9
      simp only [Act.put, List.setIfInBounds_toArray, List.set_cons_zero, List.set_cons_succ]
      first
        | (refine Pl.takeW rfl rfl ?v10 ?hy10 ?rest10
           case hy10 => intro w_ _; first | (go_simp; done) | (go_simp; with_reducible rfl))
        | refine Pl.takeU rfl rfl ?rest10
      simp only [Act.put, List.setIfInBounds_toArray, List.set_cons_zero, List.set_cons_succ]
      first
        | (refine Pl.takeW rfl rfl ?v11 ?hy11 ?rest11
           case hy11 => intro w_ hS_; subst hS_; first | (go_simp; done) | (go_simp; with_reducible rfl))
        | refine Pl.takeU rfl rfl ?rest11
      simp only [Act.put, List.setIfInBounds_toArray, List.set_cons_zero, List.set_cons_succ]
      first
        | (refine Pl.takeW rfl rfl ?v12 ?hy12 ?rest12
           case hy12 => intro w_ _; first | (go_simp; done) | (go_simp; with_reducible rfl))
        | refine Pl.takeU rfl rfl ?rest12
      simp only [Act.put, List.setIfInBounds_toArray, List.set_cons_zero, List.set_cons_succ]
      first
        | (refine Pl.takeW rfl rfl ?v13 ?hy13 ?rest13
           case hy13 => intro w_ _; first | (go_simp; done) | (go_simp; with_reducible rfl))
        | refine Pl.takeU rfl rfl ?rest13
      simp only [Act.put, List.setIfInBounds_toArray, List.set_cons_zero, List.set_cons_succ]
      first
        | (refine Pl.takeW rfl rfl ?v14 ?hy14 ?rest14
           case hy14 => intro w_ _; first | (go_simp; done) | (go_simp; with_reducible rfl))
        | refine Pl.takeU rfl rfl ?rest14
      simp only [Act.put, List.setIfInBounds_toArray, List.set_cons_zero, List.set_cons_succ]
      first
        | (refine Pl.takeW rfl rfl ?v15 ?hy15 ?rest15
           case hy15 => intro w_ hS_; subst hS_; first | (go_simp; done) | (go_simp; with_reducible rfl))
        | refine Pl.takeU rfl rfl ?rest15
      simp only [Act.put, List.setIfInBounds_toArray, List.set_cons_zero, List.set_cons_succ]
      first
        | (refine Pl.takeW rfl rfl ?v16 ?hy16 ?rest16
           case hy16 => intro w_ _; first | (go_simp; done) | (go_simp; with_reducible rfl))
        | refine Pl.takeU rfl rfl ?rest16
      simp only [Act.put, List.setIfInBounds_toArray, List.set_cons_zero, List.set_cons_succ]
      first
        | (refine Pl.takeW rfl rfl ?v17 ?hy17 ?rest17
           case hy17 => intro w_ _; first | (go_simp; done) | (go_simp; with_reducible rfl))
        | refine Pl.takeU rfl rfl ?rest17
      simp only [Act.put, List.setIfInBounds_toArray, List.set_cons_zero, List.set_cons_succ]
      show wpList _ _ _ _ _ _
      simp only [List.drop_succ_cons, List.drop_zero]
      go_wp2_with fail
      go_ret
      exact ⟨rfl, S1, HK1.out, HAd.out⟩
    | false =>
      go_enter Try.func29, Try.ntmps29
      go_wp2_with fail
      refine wp_plan 17 (.take 0 (.take 1 (.take 2 (.take 3 (.take 4 (.take 5 (.take 6 (.take 7 (.take 8 (.take 9 (.take 10 (.take 11 (.take 12 (.take 13 (.take 14 (.take 15 (.take 16 .fin))))))))))))))))) (fun w_ => w_ = _) (by kernel_rfl) (by kernel_rfl) (fun _ _ d_ _ _ h_ => by cases d_ <;> exact h_) rfl ?_
      refine Pl.takeW rfl rfl ?v18 ?hy18 ?rest18
      case hy18 => intro w_ _; first | (go_simp; done) | (go_simp; with_reducible rfl)
      simp only [Act.put, List.setIfInBounds_toArray, List.set_cons_zero, List.set_cons_succ]
      refine Pl.takeW rfl rfl ?v19 ?hy19 ?rest19
      case hy19 => intro w_ _; first | (go_simp; done) | (go_simp; with_reducible rfl)
      simp only [Act.put, List.setIfInBounds_toArray, List.set_cons_zero, List.set_cons_succ]
      refine Pl.takeW rfl rfl ?v20 ?hy20 ?rest20
      case hy20 => intro w_ _; first | (go_simp; done) | (go_simp; with_reducible rfl)
      simp only [Act.put, List.setIfInBounds_toArray, List.set_cons_zero, List.set_cons_succ]
      refine Pl.takeW rfl rfl ?v21 ?hy21 ?rest21
      case hy21 => intro w_ hS_; subst hS_; first | (go_simp; done) | (go_simp; with_reducible rfl)
      simp only [Act.put, List.setIfInBounds_toArray, List.set_cons_zero, List.set_cons_succ]
      refine Pl.takeW rfl rfl ?v22 ?hy22 ?rest22
      case hy22 => intro w_ _; first | (go_simp; done) | (go_simp; with_reducible rfl)
      simp only [Act.put, List.setIfInBounds_toArray, List.set_cons_zero, List.set_cons_succ]
      refine Pl.takeW rfl rfl ?v23 ?hy23 ?rest23
      case hy23 => intro w_ _; first | (go_simp; done) | (go_simp; with_reducible rfl)
      simp only [Act.put, List.setIfInBounds_toArray, List.set_cons_zero, List.set_cons_succ]
      refine Pl.takeW rfl rfl ?v24 ?hy24 ?rest24
      case hy24 => intro w_ _; first | (go_simp; done) | (go_simp; with_reducible rfl)
      simp only [Act.put, List.setIfInBounds_toArray, List.set_cons_zero, List.set_cons_succ]
      first
        | (refine Pl.takeW rfl rfl ?v25 ?hy25 ?rest25
           case hy25 => intro w_ _; first | (go_simp; done) | (go_simp; with_reducible rfl))
        | refine Pl.takeU rfl rfl ?rest25
      simp only [Act.put, List.setIfInBounds_toArray, List.set_cons_zero, List.set_cons_succ]
      first
        | (refine Pl.takeW rfl rfl ?v26 ?hy26 ?rest26
           case hy26 => intro w_ _; first | (go_simp; done) | (go_simp; with_reducible rfl))
        | refine Pl.takeU rfl rfl ?rest26
      simp only [Act.put, List.setIfInBounds_toArray, List.set_cons_zero, List.set_cons_succ]
      first
        | (refine Pl.takeW rfl rfl ?v27 ?hy27 ?rest27
           case hy27 => intro w_ _; first | (go_simp; done) | (go_simp; with_reducible rfl))
        | refine Pl.takeU rfl rfl ?rest27
      simp only [Act.put, List.setIfInBounds_toArray, List.set_cons_zero, List.set_cons_succ]
      first
        | (refine Pl.takeW rfl rfl ?v28 ?hy28 ?rest28
           case hy28 => intro w_ hS_; subst hS_; first | (go_simp; done) | (go_simp; with_reducible rfl))
        | refine Pl.takeU rfl rfl ?rest28
      simp only [Act.put, List.setIfInBounds_toArray, List.set_cons_zero, List.set_cons_succ]
      first
        | (refine Pl.takeW rfl rfl ?v29 ?hy29 ?rest29
           case hy29 => intro w_ _; first | (go_simp; done) | (go_simp; with_reducible rfl))
        | refine Pl.takeU rfl rfl ?rest29
      simp only [Act.put, List.setIfInBounds_toArray, List.set_cons_zero, List.set_cons_succ]
      first
        | (refine Pl.takeW rfl rfl ?v30 ?hy30 ?rest30
           case hy30 => intro w_ _; first | (go_simp; done) | (go_simp; with_reducible rfl))
        | refine Pl.takeU rfl rfl ?rest30
      simp only [Act.put, List.setIfInBounds_toArray, List.set_cons_zero, List.set_cons_succ]
      first
        | (refine Pl.takeW rfl rfl ?v31 ?hy31 ?rest31
           case hy31 => intro w_ _; first | (go_simp; done) | (go_simp; with_reducible rfl))
        | refine Pl.takeU rfl rfl ?rest31
      simp only [Act.put, List.setIfInBounds_toArray, List.set_cons_zero, List.set_cons_succ]
      first
        | (refine Pl.takeW rfl rfl ?v32 ?hy32 ?rest32
           case hy32 => intro w_ hS_; subst hS_; first | (go_simp; done) | (go_simp; with_reducible rfl))
        | refine Pl.takeU rfl rfl ?rest32
      simp only [Act.put, List.setIfInBounds_toArray, List.set_cons_zero, List.set_cons_succ]
      first
        | (refine Pl.takeW rfl rfl ?v33 ?hy33 ?rest33
           case hy33 => intro w_ _; first | (go_simp; done) | (go_simp; with_reducible rfl))
        | refine Pl.takeU rfl rfl ?rest33
      simp only [Act.put, List.setIfInBounds_toArray, List.set_cons_zero, List.set_cons_succ]
      first
        | (refine Pl.takeW rfl rfl ?v34 ?hy34 ?rest34
           case hy34 => intro w_ _; first | (go_simp; done) | (go_simp; with_reducible rfl))
        | refine Pl.takeU rfl rfl ?rest34
      simp only [Act.put, List.setIfInBounds_toArray, List.set_cons_zero, List.set_cons_succ]
      show wpList _ _ _ _ _ _
      simp only [List.drop_succ_cons, List.drop_zero]
      go_wp2_with fail
      go_ret
      exact ⟨rfl, S1, HK1.out, HAd.out⟩
  · rw [hE, if_neg h50]
    rcases ho with h0 | ⟨m, O, qq, hm, rfl, e4⟩
    · subst h0
      clear hE hzl h50
      have HW3 := hid hw3
      clear hw3
      go_enter Try.func29, Try.ntmps29
      go_wp2_with fail
      refine wp_plan 17 (.take 0 (.take 1 (.take 2 (.take 3 (.take 4 (.take 5 (.take 6 (.take 7 (.take 8 (.take 9 (.take 10 (.take 11 (.take 12 (.take 13 (.take 14 (.take 15 (.take 16 .fin))))))))))))))))) (fun w_ => w_ = _) (by kernel_rfl) (by kernel_rfl) (fun _ _ d_ _ _ h_ => by cases d_ <;> exact h_) rfl ?_
      refine Pl.takeW rfl rfl ?v35 ?hy35 ?rest35
      case hy35 => intro w_ _; first | (go_simp; done) | (go_simp; with_reducible rfl)
      simp only [Act.put, List.setIfInBounds_toArray, List.set_cons_zero, List.set_cons_succ]
      refine Pl.takeW rfl rfl ?v36 ?hy36 ?rest36
      case hy36 => intro w_ _; first | (go_simp; done) | (go_simp; with_reducible rfl)
      simp only [Act.put, List.setIfInBounds_toArray, List.set_cons_zero, List.set_cons_succ]
      refine Pl.takeW rfl rfl ?v37 ?hy37 ?rest37
      case hy37 => intro w_ _; first | (go_simp; done) | (go_simp; with_reducible rfl)
      simp only [Act.put, List.setIfInBounds_toArray, List.set_cons_zero, List.set_cons_succ]
      refine Pl.takeW rfl rfl ?v38 ?hy38 ?rest38
      case hy38 => intro w_ hS_; subst hS_; first | (go_simp; done) | (go_simp; with_reducible rfl)
      simp only [Act.put, List.setIfInBounds_toArray, List.set_cons_zero, List.set_cons_succ]
      refine Pl.takeW rfl rfl ?v39 ?hy39 ?rest39
      case hy39 => intro w_ _; first | (go_simp; done) | (go_simp; with_reducible rfl)
      simp only [Act.put, List.setIfInBounds_toArray, List.set_cons_zero, List.set_cons_succ]
      refine Pl.takeW rfl rfl ?v40 ?hy40 ?rest40
      case hy40 => intro w_ _; first | (go_simp; done) | (go_simp; with_reducible rfl)
      simp only [Act.put, List.setIfInBounds_toArray, List.set_cons_zero, List.set_cons_succ]
      refine Pl.takeW rfl rfl ?v41 ?hy41 ?rest41
      case hy41 => intro w_ _; first | (go_simp; done) | (go_simp; with_reducible rfl)
      simp only [Act.put, List.setIfInBounds_toArray, List.set_cons_zero, List.set_cons_succ]
      first
        | (refine Pl.takeW rfl rfl ?v42 ?hy42 ?rest42
           case hy42 => intro w_ _; first | (go_simp; done) | (go_simp; with_reducible rfl))
        | refine Pl.takeU rfl rfl ?rest42
      simp only [Act.put, List.setIfInBounds_toArray, List.set_cons_zero, List.set_cons_succ]
      first
        | (refine Pl.takeW rfl rfl ?v43 ?hy43 ?rest43
           case hy43 => intro w_ _; first | (go_simp; done) | (go_simp; with_reducible rfl))
        | refine Pl.takeU rfl rfl ?rest43
      simp only [Act.put, List.setIfInBounds_toArray, List.set_cons_zero, List.set_cons_succ]
      first
        | (refine Pl.takeW rfl rfl ?v44 ?hy44 ?rest44
           case hy44 => intro w_ _; first | (go_simp; done) | (go_simp; with_reducible rfl))
        | refine Pl.takeU rfl rfl ?rest44
      simp only [Act.put, List.setIfInBounds_toArray, List.set_cons_zero, List.set_cons_succ]
      first
        | (refine Pl.takeW rfl rfl ?v45 ?hy45 ?rest45
           case hy45 => intro w_ hS_; subst hS_; first | (go_simp; done) | (go_simp; with_reducible rfl))
        | refine Pl.takeU rfl rfl ?rest45
      simp only [Act.put, List.setIfInBounds_toArray, List.set_cons_zero, List.set_cons_succ]
      first
        | (refine Pl.takeW rfl rfl ?v46 ?hy46 ?rest46
           case hy46 => intro w_ _; first | (go_simp; done) | (go_simp; with_reducible rfl))
        | refine Pl.takeU rfl rfl ?rest46
      simp only [Act.put, List.setIfInBounds_toArray, List.set_cons_zero, List.set_cons_succ]
      first
        | (refine Pl.takeW rfl rfl ?v47 ?hy47 ?rest47
           case hy47 => intro w_ _; first | (go_simp; done) | (go_simp; with_reducible rfl))
        | refine Pl.takeU rfl rfl ?rest47
      simp only [Act.put, List.setIfInBounds_toArray, List.set_cons_zero, List.set_cons_succ]
      first
        | (refine Pl.takeW rfl rfl ?v48 ?hy48 ?rest48
           case hy48 => intro w_ _; first | (go_simp; done) | (go_simp; with_reducible rfl))
        | refine Pl.takeU rfl rfl ?rest48
      simp only [Act.put, List.setIfInBounds_toArray, List.set_cons_zero, List.set_cons_succ]
      first
        | (refine Pl.takeW rfl rfl ?v49 ?hy49 ?rest49
           case hy49 => intro w_ hS_; subst hS_; first | (go_simp; done) | (go_simp; with_reducible rfl))
        | refine Pl.takeU rfl rfl ?rest49
      simp only [Act.put, List.setIfInBounds_toArray, List.set_cons_zero, List.set_cons_succ]
      first
        | (refine Pl.takeW rfl rfl ?v50 ?hy50 ?rest50
           case hy50 => intro w_ _; first | (go_simp; done) | (go_simp; with_reducible rfl))
        | refine Pl.takeU rfl rfl ?rest50
      simp only [Act.put, List.setIfInBounds_toArray, List.set_cons_zero, List.set_cons_succ]
      first
        | (refine Pl.takeW rfl rfl ?v51 ?hy51 ?rest51
           case hy51 => intro w_ _; first | (go_simp; done) | (go_simp; with_reducible rfl))
        | refine Pl.takeU rfl rfl ?rest51
      simp only [Act.put, List.setIfInBounds_toArray, List.set_cons_zero, List.set_cons_succ]
      show wpList _ _ _ _ _ _
      simp only [List.drop_succ_cons, List.drop_zero]
      go_wp2_with fail
      refine wp_plan 13 (.take 0 (.take 1 (.take 2 (.take 3 (.take 4 (.take 5 (.take 6 (.take 7 (.take 8 (.take 9 (.take 10 (.one 11 (.one 12 .fin))))))))))))) (fun w' => w'.cell? ⟨p, 2, none⟩ = some (.slice A7 0 c7) ∧ w'.cell? ⟨w.heap.size, 0, none⟩ = some (.int .u8 1) ∧ w'.cell? ⟨w.heap.size, 1, none⟩ = some (nat at_)) (by kernel_rfl) (by kernel_rfl) (fun _ _ d_ _ _ h_ => by cases d_ <;> exact h_) (⟨HW3.out.blkM (List.mem_cons_of_mem _ (List.mem_cons_of_mem _ List.mem_cons_self)) 2, HW3.out.cell Hb0.out, HW3.out.cell Hb1.out⟩) ?_
      refine Pl.takeW rfl rfl ?v52 ?hy52 ?rest52
      case hy52 => intro w_ _; first | (go_simp; done) | (go_simp; with_reducible rfl)
      simp only [Act.put, List.setIfInBounds_toArray, List.set_cons_zero, List.set_cons_succ]
      refine Pl.takeW rfl rfl ?v53 ?hy53 ?rest53
      case hy53 => intro w_ _; first | (go_simp; done) | (go_simp; with_reducible rfl)
      simp only [Act.put, List.setIfInBounds_toArray, List.set_cons_zero, List.set_cons_succ]
      refine Pl.takeW rfl rfl ?v54 ?hy54 ?rest54
      case hy54 => intro w_ _; first | (go_simp; done) | (go_simp; with_reducible rfl)
      simp only [Act.put, List.setIfInBounds_toArray, List.set_cons_zero, List.set_cons_succ]
      refine Pl.takeW rfl rfl ?v55 ?hy55 ?rest55
      case hy55 => intro w_ _; first | (go_simp; done) | (go_simp; with_reducible rfl)
      simp only [Act.put, List.setIfInBounds_toArray, List.set_cons_zero, List.set_cons_succ]
      refine Pl.takeW rfl rfl ?v56 ?hy56 ?rest56
      case hy56 => intro w_ hS_; obtain ⟨f_p2, f_b0, f_b1⟩ := hS_; first | (go_simp; done) | (go_simp; with_reducible rfl)
      simp only [Act.put, List.setIfInBounds_toArray, List.set_cons_zero, List.set_cons_succ]
      refine Pl.takeW rfl rfl ?v57 ?hy57 ?rest57
      case hy57 => intro w_ _; first | (go_simp; done) | (go_simp; with_reducible rfl)
      simp only [Act.put, List.setIfInBounds_toArray, List.set_cons_zero, List.set_cons_succ]
      refine Pl.takeW rfl rfl ?v58 ?hy58 ?rest58
      case hy58 => intro w_ hS_; obtain ⟨f_p2, f_b0, f_b1⟩ := hS_; first | (go_simp; done) | (go_simp; with_reducible rfl)
      simp only [Act.put, List.setIfInBounds_toArray, List.set_cons_zero, List.set_cons_succ]
      refine Pl.takeW rfl rfl ?v59 ?hy59 ?rest59
      case hy59 => intro w_ _; first | (go_simp; done) | (go_simp; with_reducible rfl)
      simp only [Act.put, List.setIfInBounds_toArray, List.set_cons_zero, List.set_cons_succ]
      refine Pl.takeW rfl rfl ?v60 ?hy60 ?rest60
      case hy60 => intro w_ hS_; obtain ⟨f_p2, f_b0, f_b1⟩ := hS_; first | (go_simp; done) | (go_simp; with_reducible rfl)
      simp only [Act.put, List.setIfInBounds_toArray, List.set_cons_zero, List.set_cons_succ]
      refine Pl.takeW rfl rfl ?v61 ?hy61 ?rest61
      case hy61 => intro w_ _; first | (go_simp; done) | (go_simp; with_reducible rfl)
      simp only [Act.put, List.setIfInBounds_toArray, List.set_cons_zero, List.set_cons_succ]
      refine Pl.takeW rfl rfl ?v62 ?hy62 ?rest62
      case hy62 => intro w_ _; first | (go_simp; done) | (go_simp; with_reducible rfl)
      simp only [Act.put, List.setIfInBounds_toArray, List.set_cons_zero, List.set_cons_succ]
      refine Pl.oneW rfl rfl (fun K_ hK_ => ?_)
      go_simp
      have hB := HW3.out.alloc0 (.cells #[nat at_, .bool false, .slice none 0 0] 76)
      have HB := hid hB
      clear hB
      refine hK_ _ _ ⟨HB.out.blkM (List.mem_cons_of_mem _ (List.mem_cons_of_mem _ List.mem_cons_self)) 2, HB.out.cell Hb0.out, HB.out.cell Hb1.out⟩ ?_
      refine Pl.oneW rfl rfl (fun K_ hK_ => ?_)
      refine wp_append tyParts (.tmp 69) (.tmp 76) rfl rfl HB.out ⟨w.heap.size + 1, 0, none⟩ 1 1 [nat at_, .bool false, .slice none 0 0] rfl rfl (cells_new (w.alloc (.cells #[.int .u8 1, nat at_, int n, str s] 74)).drew.drew (w.heap.size + 1) (by simp) _ _) (by simp [Value.oneCell']) (by omega) (by unfold maxLen; omega) (fun v4 w4 hY4 => hK_ _ _ ?_ ?_)
      · exact ⟨hY4.blkM (List.mem_cons_of_mem _ (List.mem_cons_of_mem _ List.mem_cons_self)) 2, hY4.cell Hb0.out, hY4.cell Hb1.out⟩
      show wpList _ _ _ _ _ _
      simp only [List.drop_succ_cons, List.drop_zero]
      obtain ⟨A9, c9, rfl, _, _⟩ := hY4.rowLen
      have q2 : w4.cell? ⟨p, 2, none⟩ = some (.slice A7 0 c7) := hY4.blkM (List.mem_cons_of_mem _ (List.mem_cons_of_mem _ List.mem_cons_self)) 2
      have q3 : w4.frozen? ⟨p, 2, none⟩ = false := hY4.freeM (List.mem_cons_of_mem _ (List.mem_cons_of_mem _ List.mem_cons_self)) 2
      have hZ5 := ((hY4.perm (List.perm_middle (l₁ := [_, _]) (a := _))).store 2 (.slice A9 (0 + 1) c9)).rowNil 3 1
      have hZ6 := hZ5.perm ((List.Perm.cons _ (perm_4 _ _ _ _ _)).trans (perm_last _ _ _ _ _ (zs.map partAtom) L).symm)
      have g0 := hZ6.cell Hb0.out
      have g1 := hZ6.cell Hb1.out
      have HX6 : Hid (RdX p (r.opened ⟨1, at_, n, s⟩) L S1 _) := hid ⟨Hg.out, Rv, Tv, .slice A9 (0 + 1) c9, cells, zs ++ [(⟨at_, false, []⟩, .slice none 0 0)], by
        have hk := Hk.out
        have hkl : (zs ++ [((⟨at_, false, []⟩, .slice none 0 0) : PV)]).length = 0 + 1 := by rw [List.length_append, hk]; rfl
        simp only [rdAtoms, hkl]
        simpa [RS.opened, partAtom, partCells] using hZ6, Hc.out, by show _ :: r.op = _; rw [Hop.out]; simp⟩
      clear hZ5 hZ6 hY4
      go_wp2_with fail
      go_ret
      exact ⟨rfl, S1, HK1.out, HX6.out⟩
    · subst hm
      have hzI : (m : Int) < (m : Int) + 1 := by omega
      have hwr : IntKind.i64.wrap (m : Int) = (m : Int) := by rw [IntKind.wrap_i64]; omega
      have hop0 : (0 : Int) < (m : Int) + 1 := by omega
      have h50I : ¬ (50 : Int) ≤ (m : Int) + 1 := by omega
      have h50J : ¬ (49 : Int) ≤ (m : Int) := by omega
      clear hE hzl h50
      cases qq with
      | true =>
        have HW3 := hid hw3
        clear hw3
        go_enter Try.func29, Try.ntmps29
        go_wp2_with fail
        refine wp_plan 17 (.take 0 (.take 1 (.take 2 (.take 3 (.take 4 (.take 5 (.take 6 (.take 7 (.take 8 (.take 9 (.take 10 (.take 11 (.take 12 (.take 13 (.take 14 (.take 15 (.take 16 .fin))))))))))))))))) (fun w_ => w_ = _) (by kernel_rfl) (by kernel_rfl) (fun _ _ d_ _ _ h_ => by cases d_ <;> exact h_) rfl ?_
        refine Pl.takeW rfl rfl ?v63 ?hy63 ?rest63
        case hy63 => intro w_ _; first | (go_simp; done) | (go_simp; with_reducible rfl)
        simp only [Act.put, List.setIfInBounds_toArray, List.set_cons_zero, List.set_cons_succ]
        refine Pl.takeW rfl rfl ?v64 ?hy64 ?rest64
        case hy64 => intro w_ _; first | (go_simp; done) | (go_simp; with_reducible rfl)
        simp only [Act.put, List.setIfInBounds_toArray, List.set_cons_zero, List.set_cons_succ]
        refine Pl.takeW rfl rfl ?v65 ?hy65 ?rest65
        case hy65 => intro w_ _; first | (go_simp; done) | (go_simp; with_reducible rfl)
        simp only [Act.put, List.setIfInBounds_toArray, List.set_cons_zero, List.set_cons_succ]
        refine Pl.takeW rfl rfl ?v66 ?hy66 ?rest66
        case hy66 => intro w_ hS_; subst hS_; first | (go_simp; done) | (go_simp; with_reducible rfl)
        simp only [Act.put, List.setIfInBounds_toArray, List.set_cons_zero, List.set_cons_succ]
        refine Pl.takeW rfl rfl ?v67 ?hy67 ?rest67
        case hy67 => intro w_ _; first | (go_simp; done) | (go_simp; with_reducible rfl)
        simp only [Act.put, List.setIfInBounds_toArray, List.set_cons_zero, List.set_cons_succ]
        refine Pl.takeW rfl rfl ?v68 ?hy68 ?rest68
        case hy68 => intro w_ _; first | (go_simp; done) | (go_simp; with_reducible rfl)
        simp only [Act.put, List.setIfInBounds_toArray, List.set_cons_zero, List.set_cons_succ]
        refine Pl.takeW rfl rfl ?v69 ?hy69 ?rest69
        case hy69 => intro w_ _; first | (go_simp; done) | (go_simp; with_reducible rfl)
        simp only [Act.put, List.setIfInBounds_toArray, List.set_cons_zero, List.set_cons_succ]
        first
          | (refine Pl.takeW rfl rfl ?v70 ?hy70 ?rest70
             case hy70 => intro w_ _; first | (go_simp; done) | (go_simp; with_reducible rfl))
          | refine Pl.takeU rfl rfl ?rest70
        simp only [Act.put, List.setIfInBounds_toArray, List.set_cons_zero, List.set_cons_succ]
        first
          | (refine Pl.takeW rfl rfl ?v71 ?hy71 ?rest71
             case hy71 => intro w_ _; first | (go_simp; done) | (go_simp; with_reducible rfl))
          | refine Pl.takeU rfl rfl ?rest71
        simp only [Act.put, List.setIfInBounds_toArray, List.set_cons_zero, List.set_cons_succ]
        first
          | (refine Pl.takeW rfl rfl ?v72 ?hy72 ?rest72
             case hy72 => intro w_ _; first | (go_simp; done) | (go_simp; with_reducible rfl))
          | refine Pl.takeU rfl rfl ?rest72
        simp only [Act.put, List.setIfInBounds_toArray, List.set_cons_zero, List.set_cons_succ]
        first
          | (refine Pl.takeW rfl rfl ?v73 ?hy73 ?rest73
             case hy73 => intro w_ hS_; subst hS_; first | (go_simp; done) | (go_simp; with_reducible rfl))
          | refine Pl.takeU rfl rfl ?rest73
        simp only [Act.put, List.setIfInBounds_toArray, List.set_cons_zero, List.set_cons_succ]
        first
          | (refine Pl.takeW rfl rfl ?v74 ?hy74 ?rest74
             case hy74 => intro w_ _; first | (go_simp; done) | (go_simp; with_reducible rfl))
          | refine Pl.takeU rfl rfl ?rest74
        simp only [Act.put, List.setIfInBounds_toArray, List.set_cons_zero, List.set_cons_succ]
        first
          | (refine Pl.takeW rfl rfl ?v75 ?hy75 ?rest75
             case hy75 => intro w_ _; first | (go_simp; done) | (go_simp; with_reducible rfl))
          | refine Pl.takeU rfl rfl ?rest75
        simp only [Act.put, List.setIfInBounds_toArray, List.set_cons_zero, List.set_cons_succ]
        first
          | (refine Pl.takeW rfl rfl ?v76 ?hy76 ?rest76
             case hy76 => intro w_ _; first | (go_simp; done) | (go_simp; with_reducible rfl))
          | refine Pl.takeU rfl rfl ?rest76
        simp only [Act.put, List.setIfInBounds_toArray, List.set_cons_zero, List.set_cons_succ]
        first
          | (refine Pl.takeW rfl rfl ?v77 ?hy77 ?rest77
             case hy77 => intro w_ hS_; subst hS_; first | (go_simp; done) | (go_simp; with_reducible rfl))
          | refine Pl.takeU rfl rfl ?rest77
        simp only [Act.put, List.setIfInBounds_toArray, List.set_cons_zero, List.set_cons_succ]
        first
          | (refine Pl.takeW rfl rfl ?v78 ?hy78 ?rest78
             case hy78 => intro w_ _; first | (go_simp; done) | (go_simp; with_reducible rfl))
          | refine Pl.takeU rfl rfl ?rest78
        simp only [Act.put, List.setIfInBounds_toArray, List.set_cons_zero, List.set_cons_succ]
        first
          | (refine Pl.takeW rfl rfl ?v79 ?hy79 ?rest79
             case hy79 => intro w_ _; first | (go_simp; done) | (go_simp; with_reducible rfl))
          | refine Pl.takeU rfl rfl ?rest79
        simp only [Act.put, List.setIfInBounds_toArray, List.set_cons_zero, List.set_cons_succ]
        show wpList _ _ _ _ _ _
        simp only [List.drop_succ_cons, List.drop_zero]
        go_wp2_with fail
        refine wp_plan 13 (.take 0 (.take 1 (.take 2 (.take 3 (.take 4 (.take 5 (.take 6 (.take 7 (.take 8 (.take 9 (.take 10 (.one 11 (.one 12 .fin))))))))))))) (fun w' => w'.cell? ⟨p, 2, none⟩ = some (.slice (some ⟨O, 0, none⟩) (m + 1) c7) ∧ w'.cell? ⟨w.heap.size, 0, none⟩ = some (.int .u8 1) ∧ w'.cell? ⟨w.heap.size, 1, none⟩ = some (nat at_)) (by kernel_rfl) (by kernel_rfl) (fun _ _ d_ _ _ h_ => by cases d_ <;> exact h_) (⟨HW3.out.blkM (List.mem_cons_of_mem _ (List.mem_cons_of_mem _ List.mem_cons_self)) 2, HW3.out.cell Hb0.out, HW3.out.cell Hb1.out⟩) ?_
        refine Pl.takeW rfl rfl ?v80 ?hy80 ?rest80
        case hy80 => intro w_ _; first | (go_simp; done) | (go_simp; with_reducible rfl)
        simp only [Act.put, List.setIfInBounds_toArray, List.set_cons_zero, List.set_cons_succ]
        refine Pl.takeW rfl rfl ?v81 ?hy81 ?rest81
        case hy81 => intro w_ _; first | (go_simp; done) | (go_simp; with_reducible rfl)
        simp only [Act.put, List.setIfInBounds_toArray, List.set_cons_zero, List.set_cons_succ]
        refine Pl.takeW rfl rfl ?v82 ?hy82 ?rest82
        case hy82 => intro w_ _; first | (go_simp; done) | (go_simp; with_reducible rfl)
        simp only [Act.put, List.setIfInBounds_toArray, List.set_cons_zero, List.set_cons_succ]
        refine Pl.takeW rfl rfl ?v83 ?hy83 ?rest83
        case hy83 => intro w_ _; first | (go_simp; done) | (go_simp; with_reducible rfl)
        simp only [Act.put, List.setIfInBounds_toArray, List.set_cons_zero, List.set_cons_succ]
        refine Pl.takeW rfl rfl ?v84 ?hy84 ?rest84
        case hy84 => intro w_ hS_; obtain ⟨f_p2, f_b0, f_b1⟩ := hS_; first | (go_simp; done) | (go_simp; with_reducible rfl)
        simp only [Act.put, List.setIfInBounds_toArray, List.set_cons_zero, List.set_cons_succ]
        refine Pl.takeW rfl rfl ?v85 ?hy85 ?rest85
        case hy85 => intro w_ _; first | (go_simp; done) | (go_simp; with_reducible rfl)
        simp only [Act.put, List.setIfInBounds_toArray, List.set_cons_zero, List.set_cons_succ]
        refine Pl.takeW rfl rfl ?v86 ?hy86 ?rest86
        case hy86 => intro w_ hS_; obtain ⟨f_p2, f_b0, f_b1⟩ := hS_; first | (go_simp; done) | (go_simp; with_reducible rfl)
        simp only [Act.put, List.setIfInBounds_toArray, List.set_cons_zero, List.set_cons_succ]
        refine Pl.takeW rfl rfl ?v87 ?hy87 ?rest87
        case hy87 => intro w_ _; first | (go_simp; done) | (go_simp; with_reducible rfl)
        simp only [Act.put, List.setIfInBounds_toArray, List.set_cons_zero, List.set_cons_succ]
        refine Pl.takeW rfl rfl ?v88 ?hy88 ?rest88
        case hy88 => intro w_ hS_; obtain ⟨f_p2, f_b0, f_b1⟩ := hS_; first | (go_simp; done) | (go_simp; with_reducible rfl)
        simp only [Act.put, List.setIfInBounds_toArray, List.set_cons_zero, List.set_cons_succ]
        refine Pl.takeW rfl rfl ?v89 ?hy89 ?rest89
        case hy89 => intro w_ _; first | (go_simp; done) | (go_simp; with_reducible rfl)
        simp only [Act.put, List.setIfInBounds_toArray, List.set_cons_zero, List.set_cons_succ]
        refine Pl.takeW rfl rfl ?v90 ?hy90 ?rest90
        case hy90 => intro w_ _; first | (go_simp; done) | (go_simp; with_reducible rfl)
        simp only [Act.put, List.setIfInBounds_toArray, List.set_cons_zero, List.set_cons_succ]
        refine Pl.oneW rfl rfl (fun K_ hK_ => ?_)
        go_simp
        have hB := HW3.out.alloc0 (.cells #[nat at_, .bool false, .slice none 0 0] 76)
        have HB := hid hB
        clear hB
        refine hK_ _ _ ⟨HB.out.blkM (List.mem_cons_of_mem _ (List.mem_cons_of_mem _ List.mem_cons_self)) 2, HB.out.cell Hb0.out, HB.out.cell Hb1.out⟩ ?_
        refine Pl.oneW rfl rfl (fun K_ hK_ => ?_)
        refine wp_append tyParts (.tmp 69) (.tmp 76) rfl rfl HB.out ⟨w.heap.size + 1, 0, none⟩ 1 1 [nat at_, .bool false, .slice none 0 0] rfl rfl (cells_new (w.alloc (.cells #[.int .u8 1, nat at_, int n, str s] 74)).drew.drew (w.heap.size + 1) (by simp) _ _) (by simp [Value.oneCell']) (by omega) (by unfold maxLen; omega) (fun v4 w4 hY4 => hK_ _ _ ?_ ?_)
        · exact ⟨hY4.blkM (List.mem_cons_of_mem _ (List.mem_cons_of_mem _ List.mem_cons_self)) 2, hY4.cell Hb0.out, hY4.cell Hb1.out⟩
        show wpList _ _ _ _ _ _
        simp only [List.drop_succ_cons, List.drop_zero]
        obtain ⟨A9, c9, rfl, _, _⟩ := hY4.rowLen
        have q2 : w4.cell? ⟨p, 2, none⟩ = some (.slice (some ⟨O, 0, none⟩) (m + 1) c7) := hY4.blkM (List.mem_cons_of_mem _ (List.mem_cons_of_mem _ List.mem_cons_self)) 2
        have q3 : w4.frozen? ⟨p, 2, none⟩ = false := hY4.freeM (List.mem_cons_of_mem _ (List.mem_cons_of_mem _ List.mem_cons_self)) 2
        have hZ5 := ((hY4.perm (List.perm_middle (l₁ := [_, _]) (a := _))).store 2 (.slice A9 ((m + 1) + 1) c9)).rowNil 3 1
        have hZ6 := hZ5.perm ((List.Perm.cons _ (perm_4 _ _ _ _ _)).trans (perm_last _ _ _ _ _ (zs.map partAtom) L).symm)
        have g0 := hZ6.cell Hb0.out
        have g1 := hZ6.cell Hb1.out
        have HX6 : Hid (RdX p (r.opened ⟨1, at_, n, s⟩) L S1 _) := hid ⟨Hg.out, Rv, Tv, .slice A9 ((m + 1) + 1) c9, cells, zs ++ [(⟨at_, false, []⟩, .slice none 0 0)], by
          have hk := Hk.out
          have hkl : (zs ++ [((⟨at_, false, []⟩, .slice none 0 0) : PV)]).length = (m + 1) + 1 := by rw [List.length_append, hk]; rfl
          simp only [rdAtoms, hkl]
          simpa [RS.opened, partAtom, partCells] using hZ6, Hc.out, by show _ :: r.op = _; rw [Hop.out]; simp⟩
        clear hZ5 hZ6 hY4
        go_wp2_with fail
        go_ret
        exact ⟨rfl, S1, HK1.out, HX6.out⟩
      | false =>
        have HW3 := hid hw3
        clear hw3
        go_enter Try.func29, Try.ntmps29
        go_wp2_with fail
        refine wp_plan 17 (.take 0 (.take 1 (.take 2 (.take 3 (.take 4 (.take 5 (.take 6 (.take 7 (.take 8 (.take 9 (.take 10 (.take 11 (.take 12 (.take 13 (.take 14 (.take 15 (.take 16 .fin))))))))))))))))) (fun w_ => w_ = _) (by kernel_rfl) (by kernel_rfl) (fun _ _ d_ _ _ h_ => by cases d_ <;> exact h_) rfl ?_
        refine Pl.takeW rfl rfl ?v91 ?hy91 ?rest91
        case hy91 => intro w_ _; first | (go_simp; done) | (go_simp; with_reducible rfl)
        simp only [Act.put, List.setIfInBounds_toArray, List.set_cons_zero, List.set_cons_succ]
        refine Pl.takeW rfl rfl ?v92 ?hy92 ?rest92
        case hy92 => intro w_ _; first | (go_simp; done) | (go_simp; with_reducible rfl)
        simp only [Act.put, List.setIfInBounds_toArray, List.set_cons_zero, List.set_cons_succ]
        refine Pl.takeW rfl rfl ?v93 ?hy93 ?rest93
        case hy93 => intro w_ _; first | (go_simp; done) | (go_simp; with_reducible rfl)
        simp only [Act.put, List.setIfInBounds_toArray, List.set_cons_zero, List.set_cons_succ]
        refine Pl.takeW rfl rfl ?v94 ?hy94 ?rest94
        case hy94 => intro w_ hS_; subst hS_; first | (go_simp; done) | (go_simp; with_reducible rfl)
        simp only [Act.put, List.setIfInBounds_toArray, List.set_cons_zero, List.set_cons_succ]
        refine Pl.takeW rfl rfl ?v95 ?hy95 ?rest95
        case hy95 => intro w_ _; first | (go_simp; done) | (go_simp; with_reducible rfl)
        simp only [Act.put, List.setIfInBounds_toArray, List.set_cons_zero, List.set_cons_succ]
        refine Pl.takeW rfl rfl ?v96 ?hy96 ?rest96
        case hy96 => intro w_ _; first | (go_simp; done) | (go_simp; with_reducible rfl)
        simp only [Act.put, List.setIfInBounds_toArray, List.set_cons_zero, List.set_cons_succ]
        refine Pl.takeW rfl rfl ?v97 ?hy97 ?rest97
        case hy97 => intro w_ _; first | (go_simp; done) | (go_simp; with_reducible rfl)
        simp only [Act.put, List.setIfInBounds_toArray, List.set_cons_zero, List.set_cons_succ]
        first
          | (refine Pl.takeW rfl rfl ?v98 ?hy98 ?rest98
             case hy98 => intro w_ _; first | (go_simp; done) | (go_simp; with_reducible rfl))
          | refine Pl.takeU rfl rfl ?rest98
        simp only [Act.put, List.setIfInBounds_toArray, List.set_cons_zero, List.set_cons_succ]
        first
          | (refine Pl.takeW rfl rfl ?v99 ?hy99 ?rest99
             case hy99 => intro w_ _; first | (go_simp; done) | (go_simp; with_reducible rfl))
          | refine Pl.takeU rfl rfl ?rest99
        simp only [Act.put, List.setIfInBounds_toArray, List.set_cons_zero, List.set_cons_succ]
        first
          | (refine Pl.takeW rfl rfl ?v100 ?hy100 ?rest100
             case hy100 => intro w_ _; first | (go_simp; done) | (go_simp; with_reducible rfl))
          | refine Pl.takeU rfl rfl ?rest100
        simp only [Act.put, List.setIfInBounds_toArray, List.set_cons_zero, List.set_cons_succ]
        first
          | (refine Pl.takeW rfl rfl ?v101 ?hy101 ?rest101
             case hy101 => intro w_ hS_; subst hS_; first | (go_simp; done) | (go_simp; with_reducible rfl))
          | refine Pl.takeU rfl rfl ?rest101
        simp only [Act.put, List.setIfInBounds_toArray, List.set_cons_zero, List.set_cons_succ]
        first
          | (refine Pl.takeW rfl rfl ?v102 ?hy102 ?rest102
             case hy102 => intro w_ _; first | (go_simp; done) | (go_simp; with_reducible rfl))
          | refine Pl.takeU rfl rfl ?rest102
        simp only [Act.put, List.setIfInBounds_toArray, List.set_cons_zero, List.set_cons_succ]
        first
          | (refine Pl.takeW rfl rfl ?v103 ?hy103 ?rest103
             case hy103 => intro w_ _; first | (go_simp; done) | (go_simp; with_reducible rfl))
          | refine Pl.takeU rfl rfl ?rest103
        simp only [Act.put, List.setIfInBounds_toArray, List.set_cons_zero, List.set_cons_succ]
        first
          | (refine Pl.takeW rfl rfl ?v104 ?hy104 ?rest104
             case hy104 => intro w_ _; first | (go_simp; done) | (go_simp; with_reducible rfl))
          | refine Pl.takeU rfl rfl ?rest104
        simp only [Act.put, List.setIfInBounds_toArray, List.set_cons_zero, List.set_cons_succ]
        first
          | (refine Pl.takeW rfl rfl ?v105 ?hy105 ?rest105
             case hy105 => intro w_ hS_; subst hS_; first | (go_simp; done) | (go_simp; with_reducible rfl))
          | refine Pl.takeU rfl rfl ?rest105
        simp only [Act.put, List.setIfInBounds_toArray, List.set_cons_zero, List.set_cons_succ]
        first
          | (refine Pl.takeW rfl rfl ?v106 ?hy106 ?rest106
             case hy106 => intro w_ _; first | (go_simp; done) | (go_simp; with_reducible rfl))
          | refine Pl.takeU rfl rfl ?rest106
        simp only [Act.put, List.setIfInBounds_toArray, List.set_cons_zero, List.set_cons_succ]
        first
          | (refine Pl.takeW rfl rfl ?v107 ?hy107 ?rest107
             case hy107 => intro w_ _; first | (go_simp; done) | (go_simp; with_reducible rfl))
          | refine Pl.takeU rfl rfl ?rest107
        simp only [Act.put, List.setIfInBounds_toArray, List.set_cons_zero, List.set_cons_succ]
        show wpList _ _ _ _ _ _
        simp only [List.drop_succ_cons, List.drop_zero]
        go_wp2_with fail
        refine wp_plan 13 (.take 0 (.take 1 (.take 2 (.take 3 (.take 4 (.take 5 (.take 6 (.take 7 (.take 8 (.take 9 (.take 10 (.one 11 (.one 12 .fin))))))))))))) (fun w' => w'.cell? ⟨p, 2, none⟩ = some (.slice (some ⟨O, 0, none⟩) (m + 1) c7) ∧ w'.cell? ⟨w.heap.size, 0, none⟩ = some (.int .u8 1) ∧ w'.cell? ⟨w.heap.size, 1, none⟩ = some (nat at_)) (by kernel_rfl) (by kernel_rfl) (fun _ _ d_ _ _ h_ => by cases d_ <;> exact h_) (⟨HW3.out.blkM (List.mem_cons_of_mem _ (List.mem_cons_of_mem _ List.mem_cons_self)) 2, HW3.out.cell Hb0.out, HW3.out.cell Hb1.out⟩) ?_
        refine Pl.takeW rfl rfl ?v108 ?hy108 ?rest108
        case hy108 => intro w_ _; first | (go_simp; done) | (go_simp; with_reducible rfl)
        simp only [Act.put, List.setIfInBounds_toArray, List.set_cons_zero, List.set_cons_succ]
        refine Pl.takeW rfl rfl ?v109 ?hy109 ?rest109
        case hy109 => intro w_ _; first | (go_simp; done) | (go_simp; with_reducible rfl)
        simp only [Act.put, List.setIfInBounds_toArray, List.set_cons_zero, List.set_cons_succ]
        refine Pl.takeW rfl rfl ?v110 ?hy110 ?rest110
        case hy110 => intro w_ _; first | (go_simp; done) | (go_simp; with_reducible rfl)
        simp only [Act.put, List.setIfInBounds_toArray, List.set_cons_zero, List.set_cons_succ]
        refine Pl.takeW rfl rfl ?v111 ?hy111 ?rest111
        case hy111 => intro w_ _; first | (go_simp; done) | (go_simp; with_reducible rfl)
        simp only [Act.put, List.setIfInBounds_toArray, List.set_cons_zero, List.set_cons_succ]
        refine Pl.takeW rfl rfl ?v112 ?hy112 ?rest112
        case hy112 => intro w_ hS_; obtain ⟨f_p2, f_b0, f_b1⟩ := hS_; first | (go_simp; done) | (go_simp; with_reducible rfl)
        simp only [Act.put, List.setIfInBounds_toArray, List.set_cons_zero, List.set_cons_succ]
        refine Pl.takeW rfl rfl ?v113 ?hy113 ?rest113
        case hy113 => intro w_ _; first | (go_simp; done) | (go_simp; with_reducible rfl)
        simp only [Act.put, List.setIfInBounds_toArray, List.set_cons_zero, List.set_cons_succ]
        refine Pl.takeW rfl rfl ?v114 ?hy114 ?rest114
        case hy114 => intro w_ hS_; obtain ⟨f_p2, f_b0, f_b1⟩ := hS_; first | (go_simp; done) | (go_simp; with_reducible rfl)
        simp only [Act.put, List.setIfInBounds_toArray, List.set_cons_zero, List.set_cons_succ]
        refine Pl.takeW rfl rfl ?v115 ?hy115 ?rest115
        case hy115 => intro w_ _; first | (go_simp; done) | (go_simp; with_reducible rfl)
        simp only [Act.put, List.setIfInBounds_toArray, List.set_cons_zero, List.set_cons_succ]
        refine Pl.takeW rfl rfl ?v116 ?hy116 ?rest116
        case hy116 => intro w_ hS_; obtain ⟨f_p2, f_b0, f_b1⟩ := hS_; first | (go_simp; done) | (go_simp; with_reducible rfl)
        simp only [Act.put, List.setIfInBounds_toArray, List.set_cons_zero, List.set_cons_succ]
        refine Pl.takeW rfl rfl ?v117 ?hy117 ?rest117
        case hy117 => intro w_ _; first | (go_simp; done) | (go_simp; with_reducible rfl)
        simp only [Act.put, List.setIfInBounds_toArray, List.set_cons_zero, List.set_cons_succ]
        refine Pl.takeW rfl rfl ?v118 ?hy118 ?rest118
        case hy118 => intro w_ _; first | (go_simp; done) | (go_simp; with_reducible rfl)
        simp only [Act.put, List.setIfInBounds_toArray, List.set_cons_zero, List.set_cons_succ]
        refine Pl.oneW rfl rfl (fun K_ hK_ => ?_)
        go_simp
        have hB := HW3.out.alloc0 (.cells #[nat at_, .bool false, .slice none 0 0] 76)
        have HB := hid hB
        clear hB
        refine hK_ _ _ ⟨HB.out.blkM (List.mem_cons_of_mem _ (List.mem_cons_of_mem _ List.mem_cons_self)) 2, HB.out.cell Hb0.out, HB.out.cell Hb1.out⟩ ?_
        refine Pl.oneW rfl rfl (fun K_ hK_ => ?_)
        refine wp_append tyParts (.tmp 69) (.tmp 76) rfl rfl HB.out ⟨w.heap.size + 1, 0, none⟩ 1 1 [nat at_, .bool false, .slice none 0 0] rfl rfl (cells_new (w.alloc (.cells #[.int .u8 1, nat at_, int n, str s] 74)).drew.drew (w.heap.size + 1) (by simp) _ _) (by simp [Value.oneCell']) (by omega) (by unfold maxLen; omega) (fun v4 w4 hY4 => hK_ _ _ ?_ ?_)
        · exact ⟨hY4.blkM (List.mem_cons_of_mem _ (List.mem_cons_of_mem _ List.mem_cons_self)) 2, hY4.cell Hb0.out, hY4.cell Hb1.out⟩
        show wpList _ _ _ _ _ _
        simp only [List.drop_succ_cons, List.drop_zero]
        obtain ⟨A9, c9, rfl, _, _⟩ := hY4.rowLen
        have q2 : w4.cell? ⟨p, 2, none⟩ = some (.slice (some ⟨O, 0, none⟩) (m + 1) c7) := hY4.blkM (List.mem_cons_of_mem _ (List.mem_cons_of_mem _ List.mem_cons_self)) 2
        have q3 : w4.frozen? ⟨p, 2, none⟩ = false := hY4.freeM (List.mem_cons_of_mem _ (List.mem_cons_of_mem _ List.mem_cons_self)) 2
        have hZ5 := ((hY4.perm (List.perm_middle (l₁ := [_, _]) (a := _))).store 2 (.slice A9 ((m + 1) + 1) c9)).rowNil 3 1
        have hZ6 := hZ5.perm ((List.Perm.cons _ (perm_4 _ _ _ _ _)).trans (perm_last _ _ _ _ _ (zs.map partAtom) L).symm)
        have g0 := hZ6.cell Hb0.out
        have g1 := hZ6.cell Hb1.out
        have HX6 : Hid (RdX p (r.opened ⟨1, at_, n, s⟩) L S1 _) := hid ⟨Hg.out, Rv, Tv, .slice A9 ((m + 1) + 1) c9, cells, zs ++ [(⟨at_, false, []⟩, .slice none 0 0)], by
          have hk := Hk.out
          have hkl : (zs ++ [((⟨at_, false, []⟩, .slice none 0 0) : PV)]).length = (m + 1) + 1 := by rw [List.length_append, hk]; rfl
          simp only [rdAtoms, hkl]
          simpa [RS.opened, partAtom, partCells] using hZ6, Hc.out, by show _ :: r.op = _; rw [Hop.out]; simp⟩
        clear hZ5 hZ6 hY4
        go_wp2_with fail
        go_ret
        exact ⟨rfl, S1, HK1.out, HX6.out⟩
set_option maxRecDepth 100000 in
set_option maxHeartbeats 8000000 in
theorem D_tok3 (at_ : Nat) (n : Int) (s : Str) (hF : Few r) (hX : RdX p r L S w) (hf : r.row.length + r.op.length + 2 ≤ 1000000) :
    Calls Try.prog 29 #[ptr p, tokV ⟨3, at_, n, s⟩] w (TokRet S (fun r => RdX p r L) (rtokE r ⟨3, at_, n, s⟩) r ((r.opened ⟨3, at_, n, s⟩).put ⟨3, at_, 0, sQuote, []⟩)) := by
  have X := RdX.xs p r
  obtain ⟨S1, k1, hA, s1⟩ := X.box hX #[.int .u8 3, nat at_, int n, str s] 74
  have hol : r.op.length ≤ 1000000 := by have := hF.n; omega
  have HF := hid hF
  have HAd := hid (X.drew hA)
  have Hf := hid hf
  have HK1 := hid k1
  have Hb0 := hid (s1 0 _ rfl)
  have Hb1 := hid (s1 1 _ rfl)
  have ho := hA.open_
  obtain ⟨g, Rv, Tv, Ov, cells, zs, hw, hc, hop⟩ := X.drew (X.drew hA)
  obtain ⟨A7, c7, rfl, hc7, _⟩ := hw.rowLenM (e := 76) (size := 3) (v := Ov) (n := zs.length) (xs := zs.flatMap partCells) (by simp [rdAtoms])
  have hzl : zs.length = r.op.length := by rw [hop]; simp
  have f2 : World.cell? _ ⟨p, 2, none⟩ = some (.slice A7 zs.length c7) := hw.blkM (b := p) (c := #[Rv, Tv, .slice A7 zs.length c7]) (t := 71) (by simp [rdAtoms]) 2
  replace f2 : World.cell? (w.alloc (.cells #[.int .u8 3, nat at_, int n, str s] 74)) ⟨p, 2, none⟩ = some (.slice A7 zs.length c7) := f2
  have hw2 : Wd S1 (.row 60 5 Rv r.row.length cells :: .blk p #[Rv, Tv, .slice A7 zs.length c7] 71 :: .row 3 1 Tv r.tops.length (r.tops.map nat) ::
      .row 76 3 (.slice A7 zs.length c7) zs.length (zs.flatMap partCells) :: (zs.map partAtom ++ L)) (w.alloc (.cells #[.int .u8 3, nat at_, int n, str s] 74)).drew.drew := by
    simpa [rdAtoms] using hw
  have hw3 := hw2.perm (List.perm_middle (l₁ := [_, _, _]) (a := _))
  have hE : rtokE r ⟨3, at_, n, s⟩ = if 50 ≤ r.op.length then 62 else 0 := by unfold rtokE; simp
  have Hg := hid g
  have Hc := hid hc
  have Hop := hid hop
  have ho : zs.length = 0 ∨ ∃ m O qq, zs.length = m + 1 ∧ A7 = some ⟨O, 0, none⟩ ∧ World.cell? (w.alloc (.cells #[.int .u8 3, nat at_, int n, str s] 74)) ⟨O, m * 3 + 1, none⟩ = some (.bool qq) := by
    rcases ho with ⟨ho, _⟩ | ⟨q, ps, O, cO, ho, hcO, e2, e3, e4⟩
    · left; rw [hzl, ho]; rfl
    · right
      have h := f2.symm.trans e2
      simp only [Option.some.injEq, Value.slice.injEq] at h
      exact ⟨ps.length, O, q.quote, h.2.1, h.1, e4⟩
  clear hX hF hA hf s1 k1 hw hw2 g hc hop
  obtain ⟨k, hk⟩ : ∃ k, zs.length = k := ⟨_, rfl⟩
  rw [hk] at hzl f2 hw3 hc7 ho
  have Hk := hid hk
  have hk6 : k ≤ 1000000 := by omega
  clear hk
  by_cases h50 : 50 ≤ r.op.length
  · rw [hE, if_pos h50]
    rcases ho with h0 | ⟨m, O, qq, hm, rfl, e4⟩
    · omega
    subst hm
    have hzI : (m : Int) < (m : Int) + 1 := by omega
    have hwr : IntKind.i64.wrap (m : Int) = (m : Int) := by rw [IntKind.wrap_i64]; omega
    have hop0 : (0 : Int) < (m : Int) + 1 := by omega
    have h50I : (50 : Int) ≤ (m : Int) + 1 := by omega
    have h50J : (49 : Int) ≤ (m : Int) := by omega
    clear hw3 hE hzl
    cases qq with
    | true =>
      go_enter Try.func29, Try.ntmps29
      go_wp2_with fail
      refine wp_plan 17 (.take 0 (.take 1 (.take 2 (.take 3 (.take 4 (.take 5 (.take 6 (.take 7 (.take 8 (.take 9 (.take 10 (.take 11 (.take 12 (.take 13 (.take 14 (.take 15 (.take 16 .fin))))))))))))))))) (fun w_ => w_ = _) (by kernel_rfl) (by kernel_rfl) (fun _ _ d_ _ _ h_ => by cases d_ <;> exact h_) rfl ?_
      refine Pl.takeW rfl rfl ?v119 ?hy119 ?rest119
      case hy119 => intro w_ _; first | (go_simp; done) | (go_simp; with_reducible rfl)
      simp only [Act.put, List.setIfInBounds_toArray, List.set_cons_zero, List.set_cons_succ]
      refine Pl.takeW rfl rfl ?v120 ?hy120 ?rest120
      case hy120 => intro w_ _; first | (go_simp; done) | (go_simp; with_reducible rfl)
      simp only [Act.put, List.setIfInBounds_toArray, List.set_cons_zero, List.set_cons_succ]
      refine Pl.takeW rfl rfl ?v121 ?hy121 ?rest121
      case hy121 => intro w_ _; first | (go_simp; done) | (go_simp; with_reducible rfl)
      simp only [Act.put, List.setIfInBounds_toArray, List.set_cons_zero, List.set_cons_succ]
      refine Pl.takeW rfl rfl ?v122 ?hy122 ?rest122
      case hy122 => intro w_ hS_; subst hS_; first | (go_simp; done) | (go_simp; with_reducible rfl)
      simp only [Act.put, List.setIfInBounds_toArray, List.set_cons_zero, List.set_cons_succ]
      refine Pl.takeW rfl rfl ?v123 ?hy123 ?rest123
      case hy123 => intro w_ _; first | (go_simp; done) | (go_simp; with_reducible rfl)
      simp only [Act.put, List.setIfInBounds_toArray, List.set_cons_zero, List.set_cons_succ]
      refine Pl.takeW rfl rfl ?v124 ?hy124 ?rest124
      case hy124 => intro w_ _; first | (go_simp; done) | (go_simp; with_reducible rfl)
      simp only [Act.put, List.setIfInBounds_toArray, List.set_cons_zero, List.set_cons_succ]
      refine Pl.takeW rfl rfl ?v125 ?hy125 ?rest125
      case hy125 => intro w_ _; first | (go_simp; done) | (go_simp; with_reducible rfl)
      simp only [Act.put, List.setIfInBounds_toArray, List.set_cons_zero, List.set_cons_succ]
      first
        | (refine Pl.takeW rfl rfl ?v126 ?hy126 ?rest126
           case hy126 => intro w_ _; first | (go_simp; done) | (go_simp; with_reducible rfl))
        | refine Pl.takeU rfl rfl ?rest126
      simp only [Act.put, List.setIfInBounds_toArray, List.set_cons_zero, List.set_cons_succ]
      first
        | (refine Pl.takeW rfl rfl ?v127 ?hy127 ?rest127
           case hy127 => intro w_ _; first | (go_simp; done) | (go_simp; with_reducible rfl))
        | refine Pl.takeU rfl rfl ?rest127
      simp only [Act.put, List.setIfInBounds_toArray, List.set_cons_zero, List.set_cons_succ]
      first
        | (refine Pl.takeW rfl rfl ?v128 ?hy128 ?rest128
           case hy128 => intro w_ _; first | (go_simp; done) | (go_simp; with_reducible rfl))
        | refine Pl.takeU rfl rfl ?rest128
      simp only [Act.put, List.setIfInBounds_toArray, List.set_cons_zero, List.set_cons_succ]
      first
        | (refine Pl.takeW rfl rfl ?v129 ?hy129 ?rest129
           case hy129 => intro w_ hS_; subst hS_; first | (go_simp; done) | (go_simp; with_reducible rfl))
        | refine Pl.takeU rfl rfl ?rest129
      simp only [Act.put, List.setIfInBounds_toArray, List.set_cons_zero, List.set_cons_succ]
      first
        | (refine Pl.takeW rfl rfl ?v130 ?hy130 ?rest130
           case hy130 => intro w_ _; first | (go_simp; done) | (go_simp; with_reducible rfl))
        | refine Pl.takeU rfl rfl ?rest130
      simp only [Act.put, List.setIfInBounds_toArray, List.set_cons_zero, List.set_cons_succ]
      first
        | (refine Pl.takeW rfl rfl ?v131 ?hy131 ?rest131
           case hy131 => intro w_ _; first | (go_simp; done) | (go_simp; with_reducible rfl))
        | refine Pl.takeU rfl rfl ?rest131
      simp only [Act.put, List.setIfInBounds_toArray, List.set_cons_zero, List.set_cons_succ]
      first
        | (refine Pl.takeW rfl rfl ?v132 ?hy132 ?rest132
           case hy132 => intro w_ _; first | (go_simp; done) | (go_simp; with_reducible rfl))
        | refine Pl.takeU rfl rfl ?rest132
      simp only [Act.put, List.setIfInBounds_toArray, List.set_cons_zero, List.set_cons_succ]
      first
        | (refine Pl.takeW rfl rfl ?v133 ?hy133 ?rest133
           case hy133 => intro w_ hS_; subst hS_; first | (go_simp; done) | (go_simp; with_reducible rfl))
        | refine Pl.takeU rfl rfl ?rest133
      simp only [Act.put, List.setIfInBounds_toArray, List.set_cons_zero, List.set_cons_succ]
      first
        | (refine Pl.takeW rfl rfl ?v134 ?hy134 ?rest134
           case hy134 => intro w_ _; first | (go_simp; done) | (go_simp; with_reducible rfl))
        | refine Pl.takeU rfl rfl ?rest134
      simp only [Act.put, List.setIfInBounds_toArray, List.set_cons_zero, List.set_cons_succ]
      first
        | (refine Pl.takeW rfl rfl ?v135 ?hy135 ?rest135
           case hy135 => intro w_ _; first | (go_simp; done) | (go_simp; with_reducible rfl))
        | refine Pl.takeU rfl rfl ?rest135
      simp only [Act.put, List.setIfInBounds_toArray, List.set_cons_zero, List.set_cons_succ]
      show wpList _ _ _ _ _ _
      simp only [List.drop_succ_cons, List.drop_zero]
      go_wp2_with fail
      go_ret
      exact ⟨rfl, S1, HK1.out, HAd.out⟩
    | false =>
      go_enter Try.func29, Try.ntmps29
      go_wp2_with fail
      refine wp_plan 17 (.take 0 (.take 1 (.take 2 (.take 3 (.take 4 (.take 5 (.take 6 (.take 7 (.take 8 (.take 9 (.take 10 (.take 11 (.take 12 (.take 13 (.take 14 (.take 15 (.take 16 .fin))))))))))))))))) (fun w_ => w_ = _) (by kernel_rfl) (by kernel_rfl) (fun _ _ d_ _ _ h_ => by cases d_ <;> exact h_) rfl ?_
      refine Pl.takeW rfl rfl ?v136 ?hy136 ?rest136
      case hy136 => intro w_ _; first | (go_simp; done) | (go_simp; with_reducible rfl)
      simp only [Act.put, List.setIfInBounds_toArray, List.set_cons_zero, List.set_cons_succ]
      refine Pl.takeW rfl rfl ?v137 ?hy137 ?rest137
      case hy137 => intro w_ _; first | (go_simp; done) | (go_simp; with_reducible rfl)
      simp only [Act.put, List.setIfInBounds_toArray, List.set_cons_zero, List.set_cons_succ]
      refine Pl.takeW rfl rfl ?v138 ?hy138 ?rest138
      case hy138 => intro w_ _; first | (go_simp; done) | (go_simp; with_reducible rfl)
      simp only [Act.put, List.setIfInBounds_toArray, List.set_cons_zero, List.set_cons_succ]
      refine Pl.takeW rfl rfl ?v139 ?hy139 ?rest139
      case hy139 => intro w_ hS_; subst hS_; first | (go_simp; done) | (go_simp; with_reducible rfl)
      simp only [Act.put, List.setIfInBounds_toArray, List.set_cons_zero, List.set_cons_succ]
      refine Pl.takeW rfl rfl ?v140 ?hy140 ?rest140
      case hy140 => intro w_ _; first | (go_simp; done) | (go_simp; with_reducible rfl)
      simp only [Act.put, List.setIfInBounds_toArray, List.set_cons_zero, List.set_cons_succ]
      refine Pl.takeW rfl rfl ?v141 ?hy141 ?rest141
      case hy141 => intro w_ _; first | (go_simp; done) | (go_simp; with_reducible rfl)
      simp only [Act.put, List.setIfInBounds_toArray, List.set_cons_zero, List.set_cons_succ]
      refine Pl.takeW rfl rfl ?v142 ?hy142 ?rest142
      case hy142 => intro w_ _; first | (go_simp; done) | (go_simp; with_reducible rfl)
      simp only [Act.put, List.setIfInBounds_toArray, List.set_cons_zero, List.set_cons_succ]
      first
        | (refine Pl.takeW rfl rfl ?v143 ?hy143 ?rest143
           case hy143 => intro w_ _; first | (go_simp; done) | (go_simp; with_reducible rfl))
        | refine Pl.takeU rfl rfl ?rest143
      simp only [Act.put, List.setIfInBounds_toArray, List.set_cons_zero, List.set_cons_succ]
      first
        | (refine Pl.takeW rfl rfl ?v144 ?hy144 ?rest144
           case hy144 => intro w_ _; first | (go_simp; done) | (go_simp; with_reducible rfl))
        | refine Pl.takeU rfl rfl ?rest144
      simp only [Act.put, List.setIfInBounds_toArray, List.set_cons_zero, List.set_cons_succ]
      first
        | (refine Pl.takeW rfl rfl ?v145 ?hy145 ?rest145
           case hy145 => intro w_ _; first | (go_simp; done) | (go_simp; with_reducible rfl))
        | refine Pl.takeU rfl rfl ?rest145
      simp only [Act.put, List.setIfInBounds_toArray, List.set_cons_zero, List.set_cons_succ]
      first
        | (refine Pl.takeW rfl rfl ?v146 ?hy146 ?rest146
           case hy146 => intro w_ hS_; subst hS_; first | (go_simp; done) | (go_simp; with_reducible rfl))
        | refine Pl.takeU rfl rfl ?rest146
      simp only [Act.put, List.setIfInBounds_toArray, List.set_cons_zero, List.set_cons_succ]
      first
        | (refine Pl.takeW rfl rfl ?v147 ?hy147 ?rest147
           case hy147 => intro w_ _; first | (go_simp; done) | (go_simp; with_reducible rfl))
        | refine Pl.takeU rfl rfl ?rest147
      simp only [Act.put, List.setIfInBounds_toArray, List.set_cons_zero, List.set_cons_succ]
      first
        | (refine Pl.takeW rfl rfl ?v148 ?hy148 ?rest148
           case hy148 => intro w_ _; first | (go_simp; done) | (go_simp; with_reducible rfl))
        | refine Pl.takeU rfl rfl ?rest148
      simp only [Act.put, List.setIfInBounds_toArray, List.set_cons_zero, List.set_cons_succ]
      first
        | (refine Pl.takeW rfl rfl ?v149 ?hy149 ?rest149
           case hy149 => intro w_ _; first | (go_simp; done) | (go_simp; with_reducible rfl))
        | refine Pl.takeU rfl rfl ?rest149
      simp only [Act.put, List.setIfInBounds_toArray, List.set_cons_zero, List.set_cons_succ]
      first
        | (refine Pl.takeW rfl rfl ?v150 ?hy150 ?rest150
           case hy150 => intro w_ hS_; subst hS_; first | (go_simp; done) | (go_simp; with_reducible rfl))
        | refine Pl.takeU rfl rfl ?rest150
      simp only [Act.put, List.setIfInBounds_toArray, List.set_cons_zero, List.set_cons_succ]
      first
        | (refine Pl.takeW rfl rfl ?v151 ?hy151 ?rest151
           case hy151 => intro w_ _; first | (go_simp; done) | (go_simp; with_reducible rfl))
        | refine Pl.takeU rfl rfl ?rest151
      simp only [Act.put, List.setIfInBounds_toArray, List.set_cons_zero, List.set_cons_succ]
      first
        | (refine Pl.takeW rfl rfl ?v152 ?hy152 ?rest152
           case hy152 => intro w_ _; first | (go_simp; done) | (go_simp; with_reducible rfl))
        | refine Pl.takeU rfl rfl ?rest152
      simp only [Act.put, List.setIfInBounds_toArray, List.set_cons_zero, List.set_cons_succ]
      show wpList _ _ _ _ _ _
      simp only [List.drop_succ_cons, List.drop_zero]
      go_wp2_with fail
      go_ret
      exact ⟨rfl, S1, HK1.out, HAd.out⟩
  · rw [hE, if_neg h50]
    rcases ho with h0 | ⟨m, O, qq, hm, rfl, e4⟩
    · subst h0
      clear hE hzl h50
      have HW3 := hid hw3
      clear hw3
      go_enter Try.func29, Try.ntmps29
      go_wp2_with fail
      refine wp_plan 17 (.take 0 (.take 1 (.take 2 (.take 3 (.take 4 (.take 5 (.take 6 (.take 7 (.take 8 (.take 9 (.take 10 (.take 11 (.take 12 (.take 13 (.take 14 (.take 15 (.take 16 .fin))))))))))))))))) (fun w_ => w_ = _) (by kernel_rfl) (by kernel_rfl) (fun _ _ d_ _ _ h_ => by cases d_ <;> exact h_) rfl ?_
      refine Pl.takeW rfl rfl ?v153 ?hy153 ?rest153
      case hy153 => intro w_ _; first | (go_simp; done) | (go_simp; with_reducible rfl)
      simp only [Act.put, List.setIfInBounds_toArray, List.set_cons_zero, List.set_cons_succ]
      refine Pl.takeW rfl rfl ?v154 ?hy154 ?rest154
      case hy154 => intro w_ _; first | (go_simp; done) | (go_simp; with_reducible rfl)
      simp only [Act.put, List.setIfInBounds_toArray, List.set_cons_zero, List.set_cons_succ]
      refine Pl.takeW rfl rfl ?v155 ?hy155 ?rest155
      case hy155 => intro w_ _; first | (go_simp; done) | (go_simp; with_reducible rfl)
      simp only [Act.put, List.setIfInBounds_toArray, List.set_cons_zero, List.set_cons_succ]
      refine Pl.takeW rfl rfl ?v156 ?hy156 ?rest156
      case hy156 => intro w_ hS_; subst hS_; first | (go_simp; done) | (go_simp; with_reducible rfl)
      simp only [Act.put, List.setIfInBounds_toArray, List.set_cons_zero, List.set_cons_succ]
      refine Pl.takeW rfl rfl ?v157 ?hy157 ?rest157
      case hy157 => intro w_ _; first | (go_simp; done) | (go_simp; with_reducible rfl)
      simp only [Act.put, List.setIfInBounds_toArray, List.set_cons_zero, List.set_cons_succ]
      refine Pl.takeW rfl rfl ?v158 ?hy158 ?rest158
      case hy158 => intro w_ _; first | (go_simp; done) | (go_simp; with_reducible rfl)
      simp only [Act.put, List.setIfInBounds_toArray, List.set_cons_zero, List.set_cons_succ]
      refine Pl.takeW rfl rfl ?v159 ?hy159 ?rest159
      case hy159 => intro w_ _; first | (go_simp; done) | (go_simp; with_reducible rfl)
      simp only [Act.put, List.setIfInBounds_toArray, List.set_cons_zero, List.set_cons_succ]
      first
        | (refine Pl.takeW rfl rfl ?v160 ?hy160 ?rest160
           case hy160 => intro w_ _; first | (go_simp; done) | (go_simp; with_reducible rfl))
        | refine Pl.takeU rfl rfl ?rest160
      simp only [Act.put, List.setIfInBounds_toArray, List.set_cons_zero, List.set_cons_succ]
      first
        | (refine Pl.takeW rfl rfl ?v161 ?hy161 ?rest161
           case hy161 => intro w_ _; first | (go_simp; done) | (go_simp; with_reducible rfl))
        | refine Pl.takeU rfl rfl ?rest161
      simp only [Act.put, List.setIfInBounds_toArray, List.set_cons_zero, List.set_cons_succ]
      first
        | (refine Pl.takeW rfl rfl ?v162 ?hy162 ?rest162
           case hy162 => intro w_ _; first | (go_simp; done) | (go_simp; with_reducible rfl))
        | refine Pl.takeU rfl rfl ?rest162
      simp only [Act.put, List.setIfInBounds_toArray, List.set_cons_zero, List.set_cons_succ]
      first
        | (refine Pl.takeW rfl rfl ?v163 ?hy163 ?rest163
           case hy163 => intro w_ hS_; subst hS_; first | (go_simp; done) | (go_simp; with_reducible rfl))
        | refine Pl.takeU rfl rfl ?rest163
      simp only [Act.put, List.setIfInBounds_toArray, List.set_cons_zero, List.set_cons_succ]
      first
        | (refine Pl.takeW rfl rfl ?v164 ?hy164 ?rest164
           case hy164 => intro w_ _; first | (go_simp; done) | (go_simp; with_reducible rfl))
        | refine Pl.takeU rfl rfl ?rest164
      simp only [Act.put, List.setIfInBounds_toArray, List.set_cons_zero, List.set_cons_succ]
      first
        | (refine Pl.takeW rfl rfl ?v165 ?hy165 ?rest165
           case hy165 => intro w_ _; first | (go_simp; done) | (go_simp; with_reducible rfl))
        | refine Pl.takeU rfl rfl ?rest165
      simp only [Act.put, List.setIfInBounds_toArray, List.set_cons_zero, List.set_cons_succ]
      first
        | (refine Pl.takeW rfl rfl ?v166 ?hy166 ?rest166
           case hy166 => intro w_ _; first | (go_simp; done) | (go_simp; with_reducible rfl))
        | refine Pl.takeU rfl rfl ?rest166
      simp only [Act.put, List.setIfInBounds_toArray, List.set_cons_zero, List.set_cons_succ]
      first
        | (refine Pl.takeW rfl rfl ?v167 ?hy167 ?rest167
           case hy167 => intro w_ hS_; subst hS_; first | (go_simp; done) | (go_simp; with_reducible rfl))
        | refine Pl.takeU rfl rfl ?rest167
      simp only [Act.put, List.setIfInBounds_toArray, List.set_cons_zero, List.set_cons_succ]
      first
        | (refine Pl.takeW rfl rfl ?v168 ?hy168 ?rest168
           case hy168 => intro w_ _; first | (go_simp; done) | (go_simp; with_reducible rfl))
        | refine Pl.takeU rfl rfl ?rest168
      simp only [Act.put, List.setIfInBounds_toArray, List.set_cons_zero, List.set_cons_succ]
      first
        | (refine Pl.takeW rfl rfl ?v169 ?hy169 ?rest169
           case hy169 => intro w_ _; first | (go_simp; done) | (go_simp; with_reducible rfl))
        | refine Pl.takeU rfl rfl ?rest169
      simp only [Act.put, List.setIfInBounds_toArray, List.set_cons_zero, List.set_cons_succ]
      show wpList _ _ _ _ _ _
      simp only [List.drop_succ_cons, List.drop_zero]
      go_wp2_with fail
      refine wp_plan 13 (.take 0 (.take 1 (.take 2 (.take 3 (.take 4 (.take 5 (.take 6 (.take 7 (.take 8 (.take 9 (.take 10 (.one 11 (.one 12 .fin))))))))))))) (fun w' => w'.cell? ⟨p, 2, none⟩ = some (.slice A7 0 c7) ∧ w'.cell? ⟨w.heap.size, 0, none⟩ = some (.int .u8 3) ∧ w'.cell? ⟨w.heap.size, 1, none⟩ = some (nat at_)) (by kernel_rfl) (by kernel_rfl) (fun _ _ d_ _ _ h_ => by cases d_ <;> exact h_) (⟨HW3.out.blkM (List.mem_cons_of_mem _ (List.mem_cons_of_mem _ List.mem_cons_self)) 2, HW3.out.cell Hb0.out, HW3.out.cell Hb1.out⟩) ?_
      refine Pl.takeW rfl rfl ?v170 ?hy170 ?rest170
      case hy170 => intro w_ _; first | (go_simp; done) | (go_simp; with_reducible rfl)
      simp only [Act.put, List.setIfInBounds_toArray, List.set_cons_zero, List.set_cons_succ]
      refine Pl.takeW rfl rfl ?v171 ?hy171 ?rest171
      case hy171 => intro w_ _; first | (go_simp; done) | (go_simp; with_reducible rfl)
      simp only [Act.put, List.setIfInBounds_toArray, List.set_cons_zero, List.set_cons_succ]
      refine Pl.takeW rfl rfl ?v172 ?hy172 ?rest172
      case hy172 => intro w_ _; first | (go_simp; done) | (go_simp; with_reducible rfl)
      simp only [Act.put, List.setIfInBounds_toArray, List.set_cons_zero, List.set_cons_succ]
      refine Pl.takeW rfl rfl ?v173 ?hy173 ?rest173
      case hy173 => intro w_ _; first | (go_simp; done) | (go_simp; with_reducible rfl)
      simp only [Act.put, List.setIfInBounds_toArray, List.set_cons_zero, List.set_cons_succ]
      refine Pl.takeW rfl rfl ?v174 ?hy174 ?rest174
      case hy174 => intro w_ hS_; obtain ⟨f_p2, f_b0, f_b1⟩ := hS_; first | (go_simp; done) | (go_simp; with_reducible rfl)
      simp only [Act.put, List.setIfInBounds_toArray, List.set_cons_zero, List.set_cons_succ]
      refine Pl.takeW rfl rfl ?v175 ?hy175 ?rest175
      case hy175 => intro w_ _; first | (go_simp; done) | (go_simp; with_reducible rfl)
      simp only [Act.put, List.setIfInBounds_toArray, List.set_cons_zero, List.set_cons_succ]
      refine Pl.takeW rfl rfl ?v176 ?hy176 ?rest176
      case hy176 => intro w_ hS_; obtain ⟨f_p2, f_b0, f_b1⟩ := hS_; first | (go_simp; done) | (go_simp; with_reducible rfl)
      simp only [Act.put, List.setIfInBounds_toArray, List.set_cons_zero, List.set_cons_succ]
      refine Pl.takeW rfl rfl ?v177 ?hy177 ?rest177
      case hy177 => intro w_ _; first | (go_simp; done) | (go_simp; with_reducible rfl)
      simp only [Act.put, List.setIfInBounds_toArray, List.set_cons_zero, List.set_cons_succ]
      refine Pl.takeW rfl rfl ?v178 ?hy178 ?rest178
      case hy178 => intro w_ hS_; obtain ⟨f_p2, f_b0, f_b1⟩ := hS_; first | (go_simp; done) | (go_simp; with_reducible rfl)
      simp only [Act.put, List.setIfInBounds_toArray, List.set_cons_zero, List.set_cons_succ]
      refine Pl.takeW rfl rfl ?v179 ?hy179 ?rest179
      case hy179 => intro w_ _; first | (go_simp; done) | (go_simp; with_reducible rfl)
      simp only [Act.put, List.setIfInBounds_toArray, List.set_cons_zero, List.set_cons_succ]
      refine Pl.takeW rfl rfl ?v180 ?hy180 ?rest180
      case hy180 => intro w_ _; first | (go_simp; done) | (go_simp; with_reducible rfl)
      simp only [Act.put, List.setIfInBounds_toArray, List.set_cons_zero, List.set_cons_succ]
      refine Pl.oneW rfl rfl (fun K_ hK_ => ?_)
      go_simp
      have hB := HW3.out.alloc0 (.cells #[nat at_, .bool true, .slice none 0 0] 76)
      have HB := hid hB
      clear hB
      refine hK_ _ _ ⟨HB.out.blkM (List.mem_cons_of_mem _ (List.mem_cons_of_mem _ List.mem_cons_self)) 2, HB.out.cell Hb0.out, HB.out.cell Hb1.out⟩ ?_
      refine Pl.oneW rfl rfl (fun K_ hK_ => ?_)
      refine wp_append tyParts (.tmp 69) (.tmp 76) rfl rfl HB.out ⟨w.heap.size + 1, 0, none⟩ 1 1 [nat at_, .bool true, .slice none 0 0] rfl rfl (cells_new (w.alloc (.cells #[.int .u8 3, nat at_, int n, str s] 74)).drew.drew (w.heap.size + 1) (by simp) _ _) (by simp [Value.oneCell']) (by omega) (by unfold maxLen; omega) (fun v4 w4 hY4 => hK_ _ _ ?_ ?_)
      · exact ⟨hY4.blkM (List.mem_cons_of_mem _ (List.mem_cons_of_mem _ List.mem_cons_self)) 2, hY4.cell Hb0.out, hY4.cell Hb1.out⟩
      show wpList _ _ _ _ _ _
      simp only [List.drop_succ_cons, List.drop_zero]
      obtain ⟨A9, c9, rfl, _, _⟩ := hY4.rowLen
      have q2 : w4.cell? ⟨p, 2, none⟩ = some (.slice A7 0 c7) := hY4.blkM (List.mem_cons_of_mem _ (List.mem_cons_of_mem _ List.mem_cons_self)) 2
      have q3 : w4.frozen? ⟨p, 2, none⟩ = false := hY4.freeM (List.mem_cons_of_mem _ (List.mem_cons_of_mem _ List.mem_cons_self)) 2
      have hZ5 := ((hY4.perm (List.perm_middle (l₁ := [_, _]) (a := _))).store 2 (.slice A9 (0 + 1) c9)).rowNil 3 1
      have hZ6 := hZ5.perm ((List.Perm.cons _ (perm_4 _ _ _ _ _)).trans (perm_last _ _ _ _ _ (zs.map partAtom) L).symm)
      have g0 := hZ6.cell Hb0.out
      have g1 := hZ6.cell Hb1.out
      have HX6 : Hid (RdX p (r.opened ⟨3, at_, n, s⟩) L S1 _) := hid ⟨Hg.out, Rv, Tv, .slice A9 (0 + 1) c9, cells, zs ++ [(⟨at_, true, []⟩, .slice none 0 0)], by
        have hk := Hk.out
        have hkl : (zs ++ [((⟨at_, true, []⟩, .slice none 0 0) : PV)]).length = 0 + 1 := by rw [List.length_append, hk]; rfl
        simp only [rdAtoms, hkl]
        simpa [RS.opened, partAtom, partCells] using hZ6, Hc.out, by show _ :: r.op = _; rw [Hop.out]; simp⟩
      clear hZ5 hZ6 hY4
      go_wp2_with fail
      refine ((D_both p (r.opened ⟨3, at_, n, s⟩).op.length).2 (r.opened ⟨3, at_, n, s⟩) L S1 _ ⟨3, at_, 0, sQuote, []⟩ _ (Nat.le_refl _) ⟨by have := HF.out.n; have := Hf.out; simp [RS.opened]; omega, fun q' hq' => by
        rcases List.mem_cons.1 hq' with rfl | hq'
        · exact Nat.zero_le _
        · exact HF.out.parts q' hq', HF.out.tops⟩ HX6.out (NatsR.nil _) (by simp) (by have := Hf.out; simp [RS.opened]; omega)).mono ?_
      rintro e w7 ⟨rfl, S7, k7, hX7⟩
      go_wp2_with fail
      go_ret
      exact ⟨rfl, S7, HK1.out.trans k7, hX7⟩
    · subst hm
      have hzI : (m : Int) < (m : Int) + 1 := by omega
      have hwr : IntKind.i64.wrap (m : Int) = (m : Int) := by rw [IntKind.wrap_i64]; omega
      have hop0 : (0 : Int) < (m : Int) + 1 := by omega
      have h50I : ¬ (50 : Int) ≤ (m : Int) + 1 := by omega
      have h50J : ¬ (49 : Int) ≤ (m : Int) := by omega
      clear hE hzl h50
      cases qq with
      | true =>
        have HW3 := hid hw3
        clear hw3
        go_enter Try.func29, Try.ntmps29
        go_wp2_with fail
        refine wp_plan 17 (.take 0 (.take 1 (.take 2 (.take 3 (.take 4 (.take 5 (.take 6 (.take 7 (.take 8 (.take 9 (.take 10 (.take 11 (.take 12 (.take 13 (.take 14 (.take 15 (.take 16 .fin))))))))))))))))) (fun w_ => w_ = _) (by kernel_rfl) (by kernel_rfl) (fun _ _ d_ _ _ h_ => by cases d_ <;> exact h_) rfl ?_
        refine Pl.takeW rfl rfl ?v181 ?hy181 ?rest181
        case hy181 => intro w_ _; first | (go_simp; done) | (go_simp; with_reducible rfl)
        simp only [Act.put, List.setIfInBounds_toArray, List.set_cons_zero, List.set_cons_succ]
        refine Pl.takeW rfl rfl ?v182 ?hy182 ?rest182
        case hy182 => intro w_ _; first | (go_simp; done) | (go_simp; with_reducible rfl)
        simp only [Act.put, List.setIfInBounds_toArray, List.set_cons_zero, List.set_cons_succ]
        refine Pl.takeW rfl rfl ?v183 ?hy183 ?rest183
        case hy183 => intro w_ _; first | (go_simp; done) | (go_simp; with_reducible rfl)
        simp only [Act.put, List.setIfInBounds_toArray, List.set_cons_zero, List.set_cons_succ]
        refine Pl.takeW rfl rfl ?v184 ?hy184 ?rest184
        case hy184 => intro w_ hS_; subst hS_; first | (go_simp; done) | (go_simp; with_reducible rfl)
        simp only [Act.put, List.setIfInBounds_toArray, List.set_cons_zero, List.set_cons_succ]
        refine Pl.takeW rfl rfl ?v185 ?hy185 ?rest185
        case hy185 => intro w_ _; first | (go_simp; done) | (go_simp; with_reducible rfl)
        simp only [Act.put, List.setIfInBounds_toArray, List.set_cons_zero, List.set_cons_succ]
        refine Pl.takeW rfl rfl ?v186 ?hy186 ?rest186
        case hy186 => intro w_ _; first | (go_simp; done) | (go_simp; with_reducible rfl)
        simp only [Act.put, List.setIfInBounds_toArray, List.set_cons_zero, List.set_cons_succ]
        refine Pl.takeW rfl rfl ?v187 ?hy187 ?rest187
        case hy187 => intro w_ _; first | (go_simp; done) | (go_simp; with_reducible rfl)
        simp only [Act.put, List.setIfInBounds_toArray, List.set_cons_zero, List.set_cons_succ]
        first
          | (refine Pl.takeW rfl rfl ?v188 ?hy188 ?rest188
             case hy188 => intro w_ _; first | (go_simp; done) | (go_simp; with_reducible rfl))
          | refine Pl.takeU rfl rfl ?rest188
        simp only [Act.put, List.setIfInBounds_toArray, List.set_cons_zero, List.set_cons_succ]
        first
          | (refine Pl.takeW rfl rfl ?v189 ?hy189 ?rest189
             case hy189 => intro w_ _; first | (go_simp; done) | (go_simp; with_reducible rfl))
          | refine Pl.takeU rfl rfl ?rest189
        simp only [Act.put, List.setIfInBounds_toArray, List.set_cons_zero, List.set_cons_succ]
        first
          | (refine Pl.takeW rfl rfl ?v190 ?hy190 ?rest190
             case hy190 => intro w_ _; first | (go_simp; done) | (go_simp; with_reducible rfl))
          | refine Pl.takeU rfl rfl ?rest190
        simp only [Act.put, List.setIfInBounds_toArray, List.set_cons_zero, List.set_cons_succ]
        first
          | (refine Pl.takeW rfl rfl ?v191 ?hy191 ?rest191
             case hy191 => intro w_ hS_; subst hS_; first | (go_simp; done) | (go_simp; with_reducible rfl))
          | refine Pl.takeU rfl rfl ?rest191
        simp only [Act.put, List.setIfInBounds_toArray, List.set_cons_zero, List.set_cons_succ]
        first
          | (refine Pl.takeW rfl rfl ?v192 ?hy192 ?rest192
             case hy192 => intro w_ _; first | (go_simp; done) | (go_simp; with_reducible rfl))
          | refine Pl.takeU rfl rfl ?rest192
        simp only [Act.put, List.setIfInBounds_toArray, List.set_cons_zero, List.set_cons_succ]
        first
          | (refine Pl.takeW rfl rfl ?v193 ?hy193 ?rest193
             case hy193 => intro w_ _; first | (go_simp; done) | (go_simp; with_reducible rfl))
          | refine Pl.takeU rfl rfl ?rest193
        simp only [Act.put, List.setIfInBounds_toArray, List.set_cons_zero, List.set_cons_succ]
        first
          | (refine Pl.takeW rfl rfl ?v194 ?hy194 ?rest194
             case hy194 => intro w_ _; first | (go_simp; done) | (go_simp; with_reducible rfl))
          | refine Pl.takeU rfl rfl ?rest194
        simp only [Act.put, List.setIfInBounds_toArray, List.set_cons_zero, List.set_cons_succ]
        first
          | (refine Pl.takeW rfl rfl ?v195 ?hy195 ?rest195
             case hy195 => intro w_ hS_; subst hS_; first | (go_simp; done) | (go_simp; with_reducible rfl))
          | refine Pl.takeU rfl rfl ?rest195
        simp only [Act.put, List.setIfInBounds_toArray, List.set_cons_zero, List.set_cons_succ]
        first
          | (refine Pl.takeW rfl rfl ?v196 ?hy196 ?rest196
             case hy196 => intro w_ _; first | (go_simp; done) | (go_simp; with_reducible rfl))
          | refine Pl.takeU rfl rfl ?rest196
        simp only [Act.put, List.setIfInBounds_toArray, List.set_cons_zero, List.set_cons_succ]
        first
          | (refine Pl.takeW rfl rfl ?v197 ?hy197 ?rest197
             case hy197 => intro w_ _; first | (go_simp; done) | (go_simp; with_reducible rfl))
          | refine Pl.takeU rfl rfl ?rest197
        simp only [Act.put, List.setIfInBounds_toArray, List.set_cons_zero, List.set_cons_succ]
        show wpList _ _ _ _ _ _
        simp only [List.drop_succ_cons, List.drop_zero]
        go_wp2_with fail
        refine wp_plan 13 (.take 0 (.take 1 (.take 2 (.take 3 (.take 4 (.take 5 (.take 6 (.take 7 (.take 8 (.take 9 (.take 10 (.one 11 (.one 12 .fin))))))))))))) (fun w' => w'.cell? ⟨p, 2, none⟩ = some (.slice (some ⟨O, 0, none⟩) (m + 1) c7) ∧ w'.cell? ⟨w.heap.size, 0, none⟩ = some (.int .u8 3) ∧ w'.cell? ⟨w.heap.size, 1, none⟩ = some (nat at_)) (by kernel_rfl) (by kernel_rfl) (fun _ _ d_ _ _ h_ => by cases d_ <;> exact h_) (⟨HW3.out.blkM (List.mem_cons_of_mem _ (List.mem_cons_of_mem _ List.mem_cons_self)) 2, HW3.out.cell Hb0.out, HW3.out.cell Hb1.out⟩) ?_
        refine Pl.takeW rfl rfl ?v198 ?hy198 ?rest198
        case hy198 => intro w_ _; first | (go_simp; done) | (go_simp; with_reducible rfl)
        simp only [Act.put, List.setIfInBounds_toArray, List.set_cons_zero, List.set_cons_succ]
        refine Pl.takeW rfl rfl ?v199 ?hy199 ?rest199
        case hy199 => intro w_ _; first | (go_simp; done) | (go_simp; with_reducible rfl)
        simp only [Act.put, List.setIfInBounds_toArray, List.set_cons_zero, List.set_cons_succ]
        refine Pl.takeW rfl rfl ?v200 ?hy200 ?rest200
        case hy200 => intro w_ _; first | (go_simp; done) | (go_simp; with_reducible rfl)
        simp only [Act.put, List.setIfInBounds_toArray, List.set_cons_zero, List.set_cons_succ]
        refine Pl.takeW rfl rfl ?v201 ?hy201 ?rest201
        case hy201 => intro w_ _; first | (go_simp; done) | (go_simp; with_reducible rfl)
        simp only [Act.put, List.setIfInBounds_toArray, List.set_cons_zero, List.set_cons_succ]
        refine Pl.takeW rfl rfl ?v202 ?hy202 ?rest202
        case hy202 => intro w_ hS_; obtain ⟨f_p2, f_b0, f_b1⟩ := hS_; first | (go_simp; done) | (go_simp; with_reducible rfl)
        simp only [Act.put, List.setIfInBounds_toArray, List.set_cons_zero, List.set_cons_succ]
        refine Pl.takeW rfl rfl ?v203 ?hy203 ?rest203
        case hy203 => intro w_ _; first | (go_simp; done) | (go_simp; with_reducible rfl)
        simp only [Act.put, List.setIfInBounds_toArray, List.set_cons_zero, List.set_cons_succ]
        refine Pl.takeW rfl rfl ?v204 ?hy204 ?rest204
        case hy204 => intro w_ hS_; obtain ⟨f_p2, f_b0, f_b1⟩ := hS_; first | (go_simp; done) | (go_simp; with_reducible rfl)
        simp only [Act.put, List.setIfInBounds_toArray, List.set_cons_zero, List.set_cons_succ]
        refine Pl.takeW rfl rfl ?v205 ?hy205 ?rest205
        case hy205 => intro w_ _; first | (go_simp; done) | (go_simp; with_reducible rfl)
        simp only [Act.put, List.setIfInBounds_toArray, List.set_cons_zero, List.set_cons_succ]
        refine Pl.takeW rfl rfl ?v206 ?hy206 ?rest206
        case hy206 => intro w_ hS_; obtain ⟨f_p2, f_b0, f_b1⟩ := hS_; first | (go_simp; done) | (go_simp; with_reducible rfl)
        simp only [Act.put, List.setIfInBounds_toArray, List.set_cons_zero, List.set_cons_succ]
        refine Pl.takeW rfl rfl ?v207 ?hy207 ?rest207
        case hy207 => intro w_ _; first | (go_simp; done) | (go_simp; with_reducible rfl)
        simp only [Act.put, List.setIfInBounds_toArray, List.set_cons_zero, List.set_cons_succ]
        refine Pl.takeW rfl rfl ?v208 ?hy208 ?rest208
        case hy208 => intro w_ _; first | (go_simp; done) | (go_simp; with_reducible rfl)
        simp only [Act.put, List.setIfInBounds_toArray, List.set_cons_zero, List.set_cons_succ]
        refine Pl.oneW rfl rfl (fun K_ hK_ => ?_)
        go_simp
        have hB := HW3.out.alloc0 (.cells #[nat at_, .bool true, .slice none 0 0] 76)
        have HB := hid hB
        clear hB
        refine hK_ _ _ ⟨HB.out.blkM (List.mem_cons_of_mem _ (List.mem_cons_of_mem _ List.mem_cons_self)) 2, HB.out.cell Hb0.out, HB.out.cell Hb1.out⟩ ?_
        refine Pl.oneW rfl rfl (fun K_ hK_ => ?_)
        refine wp_append tyParts (.tmp 69) (.tmp 76) rfl rfl HB.out ⟨w.heap.size + 1, 0, none⟩ 1 1 [nat at_, .bool true, .slice none 0 0] rfl rfl (cells_new (w.alloc (.cells #[.int .u8 3, nat at_, int n, str s] 74)).drew.drew (w.heap.size + 1) (by simp) _ _) (by simp [Value.oneCell']) (by omega) (by unfold maxLen; omega) (fun v4 w4 hY4 => hK_ _ _ ?_ ?_)
        · exact ⟨hY4.blkM (List.mem_cons_of_mem _ (List.mem_cons_of_mem _ List.mem_cons_self)) 2, hY4.cell Hb0.out, hY4.cell Hb1.out⟩
        show wpList _ _ _ _ _ _
        simp only [List.drop_succ_cons, List.drop_zero]
        obtain ⟨A9, c9, rfl, _, _⟩ := hY4.rowLen
        have q2 : w4.cell? ⟨p, 2, none⟩ = some (.slice (some ⟨O, 0, none⟩) (m + 1) c7) := hY4.blkM (List.mem_cons_of_mem _ (List.mem_cons_of_mem _ List.mem_cons_self)) 2
        have q3 : w4.frozen? ⟨p, 2, none⟩ = false := hY4.freeM (List.mem_cons_of_mem _ (List.mem_cons_of_mem _ List.mem_cons_self)) 2
        have hZ5 := ((hY4.perm (List.perm_middle (l₁ := [_, _]) (a := _))).store 2 (.slice A9 ((m + 1) + 1) c9)).rowNil 3 1
        have hZ6 := hZ5.perm ((List.Perm.cons _ (perm_4 _ _ _ _ _)).trans (perm_last _ _ _ _ _ (zs.map partAtom) L).symm)
        have g0 := hZ6.cell Hb0.out
        have g1 := hZ6.cell Hb1.out
        have HX6 : Hid (RdX p (r.opened ⟨3, at_, n, s⟩) L S1 _) := hid ⟨Hg.out, Rv, Tv, .slice A9 ((m + 1) + 1) c9, cells, zs ++ [(⟨at_, true, []⟩, .slice none 0 0)], by
          have hk := Hk.out
          have hkl : (zs ++ [((⟨at_, true, []⟩, .slice none 0 0) : PV)]).length = (m + 1) + 1 := by rw [List.length_append, hk]; rfl
          simp only [rdAtoms, hkl]
          simpa [RS.opened, partAtom, partCells] using hZ6, Hc.out, by show _ :: r.op = _; rw [Hop.out]; simp⟩
        clear hZ5 hZ6 hY4
        go_wp2_with fail
        refine ((D_both p (r.opened ⟨3, at_, n, s⟩).op.length).2 (r.opened ⟨3, at_, n, s⟩) L S1 _ ⟨3, at_, 0, sQuote, []⟩ _ (Nat.le_refl _) ⟨by have := HF.out.n; have := Hf.out; simp [RS.opened]; omega, fun q' hq' => by
          rcases List.mem_cons.1 hq' with rfl | hq'
          · exact Nat.zero_le _
          · exact HF.out.parts q' hq', HF.out.tops⟩ HX6.out (NatsR.nil _) (by simp) (by have := Hf.out; simp [RS.opened]; omega)).mono ?_
        rintro e w7 ⟨rfl, S7, k7, hX7⟩
        go_wp2_with fail
        go_ret
        exact ⟨rfl, S7, HK1.out.trans k7, hX7⟩
      | false =>
        have HW3 := hid hw3
        clear hw3
        go_enter Try.func29, Try.ntmps29
        go_wp2_with fail
        refine wp_plan 17 (.take 0 (.take 1 (.take 2 (.take 3 (.take 4 (.take 5 (.take 6 (.take 7 (.take 8 (.take 9 (.take 10 (.take 11 (.take 12 (.take 13 (.take 14 (.take 15 (.take 16 .fin))))))))))))))))) (fun w_ => w_ = _) (by kernel_rfl) (by kernel_rfl) (fun _ _ d_ _ _ h_ => by cases d_ <;> exact h_) rfl ?_
        refine Pl.takeW rfl rfl ?v209 ?hy209 ?rest209
        case hy209 => intro w_ _; first | (go_simp; done) | (go_simp; with_reducible rfl)
        simp only [Act.put, List.setIfInBounds_toArray, List.set_cons_zero, List.set_cons_succ]
        refine Pl.takeW rfl rfl ?v210 ?hy210 ?rest210
        case hy210 => intro w_ _; first | (go_simp; done) | (go_simp; with_reducible rfl)
        simp only [Act.put, List.setIfInBounds_toArray, List.set_cons_zero, List.set_cons_succ]
        refine Pl.takeW rfl rfl ?v211 ?hy211 ?rest211
        case hy211 => intro w_ _; first | (go_simp; done) | (go_simp; with_reducible rfl)
        simp only [Act.put, List.setIfInBounds_toArray, List.set_cons_zero, List.set_cons_succ]
        refine Pl.takeW rfl rfl ?v212 ?hy212 ?rest212
        case hy212 => intro w_ hS_; subst hS_; first | (go_simp; done) | (go_simp; with_reducible rfl)
        simp only [Act.put, List.setIfInBounds_toArray, List.set_cons_zero, List.set_cons_succ]
        refine Pl.takeW rfl rfl ?v213 ?hy213 ?rest213
        case hy213 => intro w_ _; first | (go_simp; done) | (go_simp; with_reducible rfl)
        simp only [Act.put, List.setIfInBounds_toArray, List.set_cons_zero, List.set_cons_succ]
        refine Pl.takeW rfl rfl ?v214 ?hy214 ?rest214
        case hy214 => intro w_ _; first | (go_simp; done) | (go_simp; with_reducible rfl)
        simp only [Act.put, List.setIfInBounds_toArray, List.set_cons_zero, List.set_cons_succ]
        refine Pl.takeW rfl rfl ?v215 ?hy215 ?rest215
        case hy215 => intro w_ _; first | (go_simp; done) | (go_simp; with_reducible rfl)
        simp only [Act.put, List.setIfInBounds_toArray, List.set_cons_zero, List.set_cons_succ]
        first
          | (refine Pl.takeW rfl rfl ?v216 ?hy216 ?rest216
             case hy216 => intro w_ _; first | (go_simp; done) | (go_simp; with_reducible rfl))
          | refine Pl.takeU rfl rfl ?rest216
        simp only [Act.put, List.setIfInBounds_toArray, List.set_cons_zero, List.set_cons_succ]
        first
          | (refine Pl.takeW rfl rfl ?v217 ?hy217 ?rest217
             case hy217 => intro w_ _; first | (go_simp; done) | (go_simp; with_reducible rfl))
          | refine Pl.takeU rfl rfl ?rest217
        simp only [Act.put, List.setIfInBounds_toArray, List.set_cons_zero, List.set_cons_succ]
        first
          | (refine Pl.takeW rfl rfl ?v218 ?hy218 ?rest218
             case hy218 => intro w_ _; first | (go_simp; done) | (go_simp; with_reducible rfl))
          | refine Pl.takeU rfl rfl ?rest218
        simp only [Act.put, List.setIfInBounds_toArray, List.set_cons_zero, List.set_cons_succ]
        first
          | (refine Pl.takeW rfl rfl ?v219 ?hy219 ?rest219
             case hy219 => intro w_ hS_; subst hS_; first | (go_simp; done) | (go_simp; with_reducible rfl))
          | refine Pl.takeU rfl rfl ?rest219
        simp only [Act.put, List.setIfInBounds_toArray, List.set_cons_zero, List.set_cons_succ]
        first
          | (refine Pl.takeW rfl rfl ?v220 ?hy220 ?rest220
             case hy220 => intro w_ _; first | (go_simp; done) | (go_simp; with_reducible rfl))
          | refine Pl.takeU rfl rfl ?rest220
        simp only [Act.put, List.setIfInBounds_toArray, List.set_cons_zero, List.set_cons_succ]
        first
          | (refine Pl.takeW rfl rfl ?v221 ?hy221 ?rest221
             case hy221 => intro w_ _; first | (go_simp; done) | (go_simp; with_reducible rfl))
          | refine Pl.takeU rfl rfl ?rest221
        simp only [Act.put, List.setIfInBounds_toArray, List.set_cons_zero, List.set_cons_succ]
        first
          | (refine Pl.takeW rfl rfl ?v222 ?hy222 ?rest222
             case hy222 => intro w_ _; first | (go_simp; done) | (go_simp; with_reducible rfl))
          | refine Pl.takeU rfl rfl ?rest222
        simp only [Act.put, List.setIfInBounds_toArray, List.set_cons_zero, List.set_cons_succ]
        first
          | (refine Pl.takeW rfl rfl ?v223 ?hy223 ?rest223
             case hy223 => intro w_ hS_; subst hS_; first | (go_simp; done) | (go_simp; with_reducible rfl))
          | refine Pl.takeU rfl rfl ?rest223
        simp only [Act.put, List.setIfInBounds_toArray, List.set_cons_zero, List.set_cons_succ]
        first
          | (refine Pl.takeW rfl rfl ?v224 ?hy224 ?rest224
             case hy224 => intro w_ _; first | (go_simp; done) | (go_simp; with_reducible rfl))
          | refine Pl.takeU rfl rfl ?rest224
        simp only [Act.put, List.setIfInBounds_toArray, List.set_cons_zero, List.set_cons_succ]
        first
          | (refine Pl.takeW rfl rfl ?v225 ?hy225 ?rest225
             case hy225 => intro w_ _; first | (go_simp; done) | (go_simp; with_reducible rfl))
          | refine Pl.takeU rfl rfl ?rest225
        simp only [Act.put, List.setIfInBounds_toArray, List.set_cons_zero, List.set_cons_succ]
        show wpList _ _ _ _ _ _
        simp only [List.drop_succ_cons, List.drop_zero]
        go_wp2_with fail
        refine wp_plan 13 (.take 0 (.take 1 (.take 2 (.take 3 (.take 4 (.take 5 (.take 6 (.take 7 (.take 8 (.take 9 (.take 10 (.one 11 (.one 12 .fin))))))))))))) (fun w' => w'.cell? ⟨p, 2, none⟩ = some (.slice (some ⟨O, 0, none⟩) (m + 1) c7) ∧ w'.cell? ⟨w.heap.size, 0, none⟩ = some (.int .u8 3) ∧ w'.cell? ⟨w.heap.size, 1, none⟩ = some (nat at_)) (by kernel_rfl) (by kernel_rfl) (fun _ _ d_ _ _ h_ => by cases d_ <;> exact h_) (⟨HW3.out.blkM (List.mem_cons_of_mem _ (List.mem_cons_of_mem _ List.mem_cons_self)) 2, HW3.out.cell Hb0.out, HW3.out.cell Hb1.out⟩) ?_
        refine Pl.takeW rfl rfl ?v226 ?hy226 ?rest226
        case hy226 => intro w_ _; first | (go_simp; done) | (go_simp; with_reducible rfl)
        simp only [Act.put, List.setIfInBounds_toArray, List.set_cons_zero, List.set_cons_succ]
        refine Pl.takeW rfl rfl ?v227 ?hy227 ?rest227
        case hy227 => intro w_ _; first | (go_simp; done) | (go_simp; with_reducible rfl)
        simp only [Act.put, List.setIfInBounds_toArray, List.set_cons_zero, List.set_cons_succ]
        refine Pl.takeW rfl rfl ?v228 ?hy228 ?rest228
        case hy228 => intro w_ _; first | (go_simp; done) | (go_simp; with_reducible rfl)
        simp only [Act.put, List.setIfInBounds_toArray, List.set_cons_zero, List.set_cons_succ]
        refine Pl.takeW rfl rfl ?v229 ?hy229 ?rest229
        case hy229 => intro w_ _; first | (go_simp; done) | (go_simp; with_reducible rfl)
        simp only [Act.put, List.setIfInBounds_toArray, List.set_cons_zero, List.set_cons_succ]
        refine Pl.takeW rfl rfl ?v230 ?hy230 ?rest230
        case hy230 => intro w_ hS_; obtain ⟨f_p2, f_b0, f_b1⟩ := hS_; first | (go_simp; done) | (go_simp; with_reducible rfl)
        simp only [Act.put, List.setIfInBounds_toArray, List.set_cons_zero, List.set_cons_succ]
        refine Pl.takeW rfl rfl ?v231 ?hy231 ?rest231
        case hy231 => intro w_ _; first | (go_simp; done) | (go_simp; with_reducible rfl)
        simp only [Act.put, List.setIfInBounds_toArray, List.set_cons_zero, List.set_cons_succ]
        refine Pl.takeW rfl rfl ?v232 ?hy232 ?rest232
        case hy232 => intro w_ hS_; obtain ⟨f_p2, f_b0, f_b1⟩ := hS_; first | (go_simp; done) | (go_simp; with_reducible rfl)
        simp only [Act.put, List.setIfInBounds_toArray, List.set_cons_zero, List.set_cons_succ]
        refine Pl.takeW rfl rfl ?v233 ?hy233 ?rest233
        case hy233 => intro w_ _; first | (go_simp; done) | (go_simp; with_reducible rfl)
        simp only [Act.put, List.setIfInBounds_toArray, List.set_cons_zero, List.set_cons_succ]
        refine Pl.takeW rfl rfl ?v234 ?hy234 ?rest234
        case hy234 => intro w_ hS_; obtain ⟨f_p2, f_b0, f_b1⟩ := hS_; first | (go_simp; done) | (go_simp; with_reducible rfl)
        simp only [Act.put, List.setIfInBounds_toArray, List.set_cons_zero, List.set_cons_succ]
        refine Pl.takeW rfl rfl ?v235 ?hy235 ?rest235
        case hy235 => intro w_ _; first | (go_simp; done) | (go_simp; with_reducible rfl)
        simp only [Act.put, List.setIfInBounds_toArray, List.set_cons_zero, List.set_cons_succ]
        refine Pl.takeW rfl rfl ?v236 ?hy236 ?rest236
        case hy236 => intro w_ _; first | (go_simp; done) | (go_simp; with_reducible rfl)
        simp only [Act.put, List.setIfInBounds_toArray, List.set_cons_zero, List.set_cons_succ]
        refine Pl.oneW rfl rfl (fun K_ hK_ => ?_)
        go_simp
        have hB := HW3.out.alloc0 (.cells #[nat at_, .bool true, .slice none 0 0] 76)
        have HB := hid hB
        clear hB
        refine hK_ _ _ ⟨HB.out.blkM (List.mem_cons_of_mem _ (List.mem_cons_of_mem _ List.mem_cons_self)) 2, HB.out.cell Hb0.out, HB.out.cell Hb1.out⟩ ?_
        refine Pl.oneW rfl rfl (fun K_ hK_ => ?_)
        refine wp_append tyParts (.tmp 69) (.tmp 76) rfl rfl HB.out ⟨w.heap.size + 1, 0, none⟩ 1 1 [nat at_, .bool true, .slice none 0 0] rfl rfl (cells_new (w.alloc (.cells #[.int .u8 3, nat at_, int n, str s] 74)).drew.drew (w.heap.size + 1) (by simp) _ _) (by simp [Value.oneCell']) (by omega) (by unfold maxLen; omega) (fun v4 w4 hY4 => hK_ _ _ ?_ ?_)
        · exact ⟨hY4.blkM (List.mem_cons_of_mem _ (List.mem_cons_of_mem _ List.mem_cons_self)) 2, hY4.cell Hb0.out, hY4.cell Hb1.out⟩
        show wpList _ _ _ _ _ _
        simp only [List.drop_succ_cons, List.drop_zero]
        obtain ⟨A9, c9, rfl, _, _⟩ := hY4.rowLen
        have q2 : w4.cell? ⟨p, 2, none⟩ = some (.slice (some ⟨O, 0, none⟩) (m + 1) c7) := hY4.blkM (List.mem_cons_of_mem _ (List.mem_cons_of_mem _ List.mem_cons_self)) 2
        have q3 : w4.frozen? ⟨p, 2, none⟩ = false := hY4.freeM (List.mem_cons_of_mem _ (List.mem_cons_of_mem _ List.mem_cons_self)) 2
        have hZ5 := ((hY4.perm (List.perm_middle (l₁ := [_, _]) (a := _))).store 2 (.slice A9 ((m + 1) + 1) c9)).rowNil 3 1
        have hZ6 := hZ5.perm ((List.Perm.cons _ (perm_4 _ _ _ _ _)).trans (perm_last _ _ _ _ _ (zs.map partAtom) L).symm)
        have g0 := hZ6.cell Hb0.out
        have g1 := hZ6.cell Hb1.out
        have HX6 : Hid (RdX p (r.opened ⟨3, at_, n, s⟩) L S1 _) := hid ⟨Hg.out, Rv, Tv, .slice A9 ((m + 1) + 1) c9, cells, zs ++ [(⟨at_, true, []⟩, .slice none 0 0)], by
          have hk := Hk.out
          have hkl : (zs ++ [((⟨at_, true, []⟩, .slice none 0 0) : PV)]).length = (m + 1) + 1 := by rw [List.length_append, hk]; rfl
          simp only [rdAtoms, hkl]
          simpa [RS.opened, partAtom, partCells] using hZ6, Hc.out, by show _ :: r.op = _; rw [Hop.out]; simp⟩
        clear hZ5 hZ6 hY4
        go_wp2_with fail
        refine ((D_both p (r.opened ⟨3, at_, n, s⟩).op.length).2 (r.opened ⟨3, at_, n, s⟩) L S1 _ ⟨3, at_, 0, sQuote, []⟩ _ (Nat.le_refl _) ⟨by have := HF.out.n; have := Hf.out; simp [RS.opened]; omega, fun q' hq' => by
          rcases List.mem_cons.1 hq' with rfl | hq'
          · exact Nat.zero_le _
          · exact HF.out.parts q' hq', HF.out.tops⟩ HX6.out (NatsR.nil _) (by simp) (by have := Hf.out; simp [RS.opened]; omega)).mono ?_
        rintro e w7 ⟨rfl, S7, k7, hX7⟩
        go_wp2_with fail
        go_ret
        exact ⟨rfl, S7, HK1.out.trans k7, hX7⟩
end
end Go.Proofs.Ytjjbidajkmodfaa
