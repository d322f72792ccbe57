/- Texts P9, P11, P12 of the proof. What each theorem says stands in its own statement. No condition beyond those that it names. -/
import Derived.Test.YtjjbidajkmodfaaXa3
set_option linter.unusedVariables false
set_option linter.unusedSimpArgs false
namespace Go.Proofs.Ytjjbidajkmodfaa
open Go Go.RowKit
theorem nameOf_eq {d : List Node} {i : Nat} (h : nameOf d i ≠ []) : nameOf d i = (nd d i).s := by
  revert h; unfold nameOf; split <;> simp
section
variable (p b off c : Nat) (d : List Node) (st : St) (L : List Atom) (S : Seal) (w : World)
set_option maxRecDepth 100000 in
set_option maxHeartbeats 8000000 in
theorem P_define (F : Fm) (HF : OkP p b off c d F) (i r : Nat) (st' : St) (hX : PX p (dval b off c d) st L S w) (hE : Env S b off c d) (hi : i < d.length) (hr : defineS d F i st = some (r, st')) :
    Calls Try.prog 32 #[ptr p, elem b off i] w (Ret S (PX p (dval b off c d) st' L) (nat r)) := by
  have X := PX.xs p (dval b off c d) st
  have HF := hid HF
  obtain ⟨S2, k2, hX2, sx, sd⟩ := X.box2 hX #[ptr p] #[elem b off i] 54 55
  have hx := sx 0 _ rfl
  have hd := sd 0 _ rfl
  clear sx sd hX
  have HE := hid (hE.mono k2)
  obtain ⟨lv, hN⟩ := HE.out.at_ i hi
  have e3 := X.cell hX2 hN.c1
  have e4 := X.cell hX2 hN.c4
  unfold defineS at hr
  by_cases hlen : (nd d i).l.length < 3
  · obtain ⟨A1, cc, hlv, _, _⟩ := Sl.shape hN.l
    subst hlv
    rw [if_pos hlen] at hr
    have HX2 := hid hX2
    have Hr := hid hr
    clear hr hX2 hE hN
    go_enter Try.func32, Try.ntmps32
    go_wp2_with fail
    refine (P_wrongR p b off c d st L S2 _ i r st' HX2.out HE.out hi Hr.out).mono ?_
    rintro e w1 ⟨rfl, S1, k1, hX1⟩
    go_wp2_with fail
    go_ret
    exact Ret.intro rfl (k2.trans k1) hX1
  obtain ⟨b1, o1, c1, hlv, h1, h2, hcc⟩ := hN.l.at_ (by intro h; rw [h] at hlen; simp at hlen)
  subst hlv
  obtain ⟨x1, hx1⟩ : ∃ x1, (nd d i).l[1]? = some x1 := ⟨_, List.getElem?_eq_some_iff.2 ⟨by omega, rfl⟩⟩
  have hg : (nd d i).l.getD 1 0 = x1 := by rw [List.getD_eq_getElem?_getD, hx1]; rfl
  have hi1 : x1 < d.length := by have := HE.out.dat.par i hi x1 (List.mem_of_getElem? hx1); omega
  rw [hg] at hr
  have Hx1 := hid (hcc 1 x1 hx1)
  have hl1 : (1 : Int) < ((nd d i).l.length : Int) := by omega
  have hlI2 : ¬ ((nd d i).l.length : Int) < 3 := by omega
  have HX2 := hid hX2
  have Hx := hid hx
  have Hd := hid hd
  have HN := hid hN
  clear hX2 hE hN hx hd
  rw [if_neg hlen] at hr
  have Hd1 := hid (HE.out.at_ x1 hi1)
  obtain ⟨lvx, hNx⟩ := Hd1.out
  have HNx := hid hNx
  have g1 := X.d0x HX2.out
  have g2 := X.cell HX2.out Hx.out
  have g3 := X.cell HX2.out Hd.out
  have g4 := X.cell HX2.out Hx1.out
  have g5 := X.cell HX2.out HNx.out.c0
  by_cases hk : (nd d x1).kind = 3
  · rw [if_pos hk] at hr
    have hk' : ((nd d x1).kind == 3) = true := by simpa using hk
    have Hr := hid hr
    clear hNx hk hr
    have Hn := hid (P_name p b off c d st L S2 _ x1 (X.drew (X.drew HX2.out)) HE.out hi1)
    go_enter Try.func32, Try.ntmps32
    go_wp2_with fail
    refine wp_plan 10 (.take 0 (.take 1 (.take 2 (.take 3 (.take 4 (.take 5 (.take 6 (.take 7 (.take 8 (.take 9 .fin)))))))))) (fun w_ => w_ = _) (by kernel_rfl) (by kernel_rfl) (fun _ _ d_ _ _ h_ => by cases d_ <;> exact h_) rfl ?_
    refine Pl.takeW rfl rfl ?v1 ?hy1 ?rest1
    case hy1 => intro w_ hS_; subst hS_; first | (go_simp; done) | (go_simp; with_reducible rfl)
    simp only [Act.put, List.setIfInBounds_toArray, List.set_cons_zero, List.set_cons_succ]
    refine Pl.takeW rfl rfl ?v2 ?hy2 ?rest2
    case hy2 => intro w_ _; first | (go_simp; done) | (go_simp; with_reducible rfl)
    simp only [Act.put, List.setIfInBounds_toArray, List.set_cons_zero, List.set_cons_succ]
    refine Pl.takeW rfl rfl ?v3 ?hy3 ?rest3
    case hy3 => intro w_ _; first | (go_simp; done) | (go_simp; with_reducible rfl)
    simp only [Act.put, List.setIfInBounds_toArray, List.set_cons_zero, List.set_cons_succ]
    refine Pl.takeW rfl rfl ?v4 ?hy4 ?rest4
    case hy4 => intro w_ hS_; subst hS_; first | (go_simp; done) | (go_simp; with_reducible rfl)
    simp only [Act.put, List.setIfInBounds_toArray, List.set_cons_zero, List.set_cons_succ]
    refine Pl.takeW rfl rfl ?v5 ?hy5 ?rest5
    case hy5 => intro w_ hS_; subst hS_; first | (go_simp; done) | (go_simp; with_reducible rfl)
    simp only [Act.put, List.setIfInBounds_toArray, List.set_cons_zero, List.set_cons_succ]
    refine Pl.takeW rfl rfl ?v6 ?hy6 ?rest6
    case hy6 => intro w_ _; first | (go_simp; done) | (go_simp; with_reducible rfl)
    simp only [Act.put, List.setIfInBounds_toArray, List.set_cons_zero, List.set_cons_succ]
    refine Pl.takeW rfl rfl ?v7 ?hy7 ?rest7
    case hy7 => intro w_ _; first | (go_simp; done) | (go_simp; with_reducible rfl)
    simp only [Act.put, List.setIfInBounds_toArray, List.set_cons_zero, List.set_cons_succ]
    refine Pl.takeW rfl rfl ?v8 ?hy8 ?rest8
    case hy8 => intro w_ hS_; subst hS_; first | (go_simp; done) | (go_simp; with_reducible rfl)
    simp only [Act.put, List.setIfInBounds_toArray, List.set_cons_zero, List.set_cons_succ]
    refine Pl.takeW rfl rfl ?v9 ?hy9 ?rest9
    case hy9 => intro w_ _; first | (go_simp; done) | (go_simp; with_reducible rfl)
    simp only [Act.put, List.setIfInBounds_toArray, List.set_cons_zero, List.set_cons_succ]
    refine Pl.takeW rfl rfl ?v10 ?hy10 ?rest10
    case hy10 => intro w_ hS_; subst hS_; first | (go_simp; done) | (go_simp; with_reducible rfl)
    simp only [Act.put, List.setIfInBounds_toArray, List.set_cons_zero, List.set_cons_succ]
    show wpList _ _ _ _ _ _
    simp only [List.drop_succ_cons, List.drop_zero]
    go_wp2_with fail
    clear g1 g2 g3 g4 g5
    refine wp_plan 12 (.take 0 (.take 1 (.take 2 (.take 3 (.take 4 (.take 5 (.take 6 (.one 7 (.take 8 (.take 9 (.take 10 (.take 11 .fin)))))))))))) (fun w' => w'.cell? ⟨w.heap.size, 0, none⟩ = some (ptr p) ∧ w'.cell? ⟨w.heap.size + 1, 0, none⟩ = some (elem b off i) ∧ w'.cell? ⟨b, off + i * 5 + 4, none⟩ = some (.slice (some ⟨b1, o1, none⟩) (nd d i).l.length c1) ∧ w'.cell? ⟨b1, o1 + 1, none⟩ = some (nat x1)) (by kernel_rfl) (by kernel_rfl) (fun _ _ d_ _ _ h_ => by cases d_ <;> exact h_) (⟨X.cell (X.drew (X.drew HX2.out)) (Hx.out), X.cell (X.drew (X.drew HX2.out)) (Hd.out), X.cell (X.drew (X.drew HX2.out)) (HN.out.c4), X.cell (X.drew (X.drew HX2.out)) (Hx1.out)⟩) ?_
    refine Pl.takeW rfl rfl ?v11 ?hy11 ?rest11
    case hy11 => intro w_ hS_; obtain ⟨f_x, f_d, f_e4, f_l1⟩ := hS_; first | (go_simp; done) | (go_simp; with_reducible rfl)
    simp only [Act.put, List.setIfInBounds_toArray, List.set_cons_zero, List.set_cons_succ]
    refine Pl.takeW rfl rfl ?v12 ?hy12 ?rest12
    case hy12 => intro w_ hS_; obtain ⟨f_x, f_d, f_e4, f_l1⟩ := hS_; first | (go_simp; done) | (go_simp; with_reducible rfl)
    simp only [Act.put, List.setIfInBounds_toArray, List.set_cons_zero, List.set_cons_succ]
    refine Pl.takeW rfl rfl ?v13 ?hy13 ?rest13
    case hy13 => intro w_ _; first | (go_simp; done) | (go_simp; with_reducible rfl)
    simp only [Act.put, List.setIfInBounds_toArray, List.set_cons_zero, List.set_cons_succ]
    refine Pl.takeW rfl rfl ?v14 ?hy14 ?rest14
    case hy14 => intro w_ _; first | (go_simp; done) | (go_simp; with_reducible rfl)
    simp only [Act.put, List.setIfInBounds_toArray, List.set_cons_zero, List.set_cons_succ]
    refine Pl.takeW rfl rfl ?v15 ?hy15 ?rest15
    case hy15 => intro w_ hS_; obtain ⟨f_x, f_d, f_e4, f_l1⟩ := hS_; first | (go_simp; done) | (go_simp; with_reducible rfl)
    simp only [Act.put, List.setIfInBounds_toArray, List.set_cons_zero, List.set_cons_succ]
    refine Pl.takeW rfl rfl ?v16 ?hy16 ?rest16
    case hy16 => intro w_ _; first | (go_simp; done) | (go_simp; with_reducible rfl)
    simp only [Act.put, List.setIfInBounds_toArray, List.set_cons_zero, List.set_cons_succ]
    refine Pl.takeW rfl rfl ?v17 ?hy17 ?rest17
    case hy17 => intro w_ hS_; obtain ⟨f_x, f_d, f_e4, f_l1⟩ := hS_; first | (go_simp; done) | (go_simp; with_reducible rfl)
    simp only [Act.put, List.setIfInBounds_toArray, List.set_cons_zero, List.set_cons_succ]
    refine Pl.oneW rfl rfl (fun K_ hK_ => ?_)
    go_simp
    refine (Hn.out).mono ?_
    rintro e w3 ⟨rfl, S3, k3, hX3⟩
    have HK3 := hid k3
    have HX3 := hid hX3
    have f2 := X.cell hX3 (Hx.out.mono k3)
    have f3 := X.cell hX3 (Hd.out.mono k3)
    have f4 := X.cell hX3 (HN.out.c4.mono k3)
    have f5 := X.cell hX3 (HN.out.c1.mono k3)
    clear k3 hX3
    have hlenI : Hid (3 ≤ (nd d i).l.length) := hid (by omega)
    by_cases h1 : nameOf d x1 = []
    · have hr := Hr.out
      rw [if_pos (.inl h1)] at hr
      have Hr' := hid hr
      have h1b : (nameOf d x1 == []) = true := by simpa using h1
      clear hr h1
      refine hK_ _ _ ⟨X.cell HX3.out ((Hx.out).mono (HK3.out)), X.cell HX3.out ((Hd.out).mono (HK3.out)), X.cell HX3.out ((HN.out.c4).mono (HK3.out)), X.cell HX3.out ((Hx1.out).mono (HK3.out))⟩ ?_
      refine Pl.takeW rfl rfl ?v18 ?hy18 ?rest18
      case hy18 => intro w_ _; first | (go_simp; done) | (go_simp; with_reducible rfl)
      simp only [Act.put, List.setIfInBounds_toArray, List.set_cons_zero, List.set_cons_succ]
      refine Pl.takeW rfl rfl ?v19 ?hy19 ?rest19
      case hy19 => intro w_ _; first | (go_simp; done) | (go_simp; with_reducible rfl)
      simp only [Act.put, List.setIfInBounds_toArray, List.set_cons_zero, List.set_cons_succ]
      refine Pl.takeW rfl rfl ?v20 ?hy20 ?rest20
      case hy20 => intro w_ _; first | (go_simp; done) | (go_simp; with_reducible rfl)
      simp only [Act.put, List.setIfInBounds_toArray, List.set_cons_zero, List.set_cons_succ]
      refine Pl.takeW rfl rfl ?v21 ?hy21 ?rest21
      case hy21 => intro w_ _; first | (go_simp; done) | (go_simp; with_reducible rfl)
      simp only [Act.put, List.setIfInBounds_toArray, List.set_cons_zero, List.set_cons_succ]
      show wpList _ _ _ _ _ _
      simp only [List.drop_succ_cons, List.drop_zero]
      go_wp2_with fail
      refine (P_wrongR p b off c d st L S3 _ i r st' HX3.out (HE.out.mono HK3.out) hi Hr'.out).mono ?_
      rintro e w6 ⟨rfl, S6, k6, hX6⟩
      go_wp2_with fail
      go_ret
      exact Ret.intro rfl ((k2.trans HK3.out).trans k6) hX6
    have h1b : (nameOf d x1 == []) = false := by simpa using h1
    by_cases h2 : (nd d i).l.length = 3
    case neg =>
      have hr := Hr.out
      rw [if_pos (.inr h2)] at hr
      have Hr' := hid hr
      have h2b : (((nd d i).l.length : Int) != 3) = true := by simp only [bne_iff_ne]; omega
      clear hr h1 h2
      refine hK_ _ _ ⟨X.cell HX3.out ((Hx.out).mono (HK3.out)), X.cell HX3.out ((Hd.out).mono (HK3.out)), X.cell HX3.out ((HN.out.c4).mono (HK3.out)), X.cell HX3.out ((Hx1.out).mono (HK3.out))⟩ ?_
      refine Pl.takeW rfl rfl ?v22 ?hy22 ?rest22
      case hy22 => intro w_ _; first | (go_simp; done) | (go_simp; with_reducible rfl)
      simp only [Act.put, List.setIfInBounds_toArray, List.set_cons_zero, List.set_cons_succ]
      refine Pl.takeW rfl rfl ?v23 ?hy23 ?rest23
      case hy23 => intro w_ _; first | (go_simp; done) | (go_simp; with_reducible rfl)
      simp only [Act.put, List.setIfInBounds_toArray, List.set_cons_zero, List.set_cons_succ]
      refine Pl.takeW rfl rfl ?v24 ?hy24 ?rest24
      case hy24 => intro w_ _; first | (go_simp; done) | (go_simp; with_reducible rfl)
      simp only [Act.put, List.setIfInBounds_toArray, List.set_cons_zero, List.set_cons_succ]
      refine Pl.takeW rfl rfl ?v25 ?hy25 ?rest25
      case hy25 => intro w_ _; first | (go_simp; done) | (go_simp; with_reducible rfl)
      simp only [Act.put, List.setIfInBounds_toArray, List.set_cons_zero, List.set_cons_succ]
      show wpList _ _ _ _ _ _
      simp only [List.drop_succ_cons, List.drop_zero]
      go_wp2_with fail
      refine (P_wrongR p b off c d st L S3 _ i r st' HX3.out (HE.out.mono HK3.out) hi Hr'.out).mono ?_
      rintro e w6 ⟨rfl, S6, k6, hX6⟩
      go_wp2_with fail
      go_ret
      exact Ret.intro rfl ((k2.trans HK3.out).trans k6) hX6
    have hr := Hr.out
    rw [if_neg (by rintro (h | h) <;> contradiction)] at hr
    simp only [Option.bind_eq_some_iff] at hr
    obtain ⟨⟨a, st1⟩, hr1, hr2⟩ := hr
    have h2b : (((nd d i).l.length : Int) != 3) = false := by rw [h2]; rfl
    obtain ⟨x2, hx2⟩ : ∃ x2, (nd d i).l[2]? = some x2 := ⟨_, List.getElem?_eq_some_iff.2 ⟨by omega, rfl⟩⟩
    have hg2 : (nd d i).l.getD 2 0 = x2 := by rw [List.getD_eq_getElem?_getD, hx2]; rfl
    have hi2 : x2 < d.length := by have := HE.out.dat.par i hi x2 (List.mem_of_getElem? hx2); omega
    rw [hg2] at hr1
    rw [nameOf_eq h1] at hr2
    have Hx2 := hid (hcc 2 x2 hx2)
    have f6 := X.cell HX3.out (Hx2.out.mono HK3.out)
    have hl2 : (2 : Int) < ((nd d i).l.length : Int) := by omega
    have Hr1 := hid hr1
    have Hr2 := hid hr2
    clear hcc hr1 hr2 hx2 hg2 h1 h2
    refine hK_ _ _ ⟨X.cell HX3.out ((Hx.out).mono (HK3.out)), X.cell HX3.out ((Hd.out).mono (HK3.out)), X.cell HX3.out ((HN.out.c4).mono (HK3.out)), X.cell HX3.out ((Hx1.out).mono (HK3.out))⟩ ?_
    refine Pl.takeW rfl rfl ?v26 ?hy26 ?rest26
    case hy26 => intro w_ _; first | (go_simp; done) | (go_simp; with_reducible rfl)
    simp only [Act.put, List.setIfInBounds_toArray, List.set_cons_zero, List.set_cons_succ]
    refine Pl.takeW rfl rfl ?v27 ?hy27 ?rest27
    case hy27 => intro w_ _; first | (go_simp; done) | (go_simp; with_reducible rfl)
    simp only [Act.put, List.setIfInBounds_toArray, List.set_cons_zero, List.set_cons_succ]
    refine Pl.takeW rfl rfl ?v28 ?hy28 ?rest28
    case hy28 => intro w_ _; first | (go_simp; done) | (go_simp; with_reducible rfl)
    simp only [Act.put, List.setIfInBounds_toArray, List.set_cons_zero, List.set_cons_succ]
    refine Pl.takeW rfl rfl ?v29 ?hy29 ?rest29
    case hy29 => intro w_ _; first | (go_simp; done) | (go_simp; with_reducible rfl)
    simp only [Act.put, List.setIfInBounds_toArray, List.set_cons_zero, List.set_cons_succ]
    show wpList _ _ _ _ _ _
    simp only [List.drop_succ_cons, List.drop_zero]
    go_wp2_with fail
    refine wp_plan 7 (.take 0 (.take 1 (.take 2 (.take 3 (.take 4 (.take 5 (.take 6 .fin))))))) (fun w_ => w_ = _) (by kernel_rfl) (by kernel_rfl) (fun _ _ d_ _ _ h_ => by cases d_ <;> exact h_) rfl ?_
    refine Pl.takeW rfl rfl ?v30 ?hy30 ?rest30
    case hy30 => intro w_ hS_; subst hS_; first | (go_simp; done) | (go_simp; with_reducible rfl)
    simp only [Act.put, List.setIfInBounds_toArray, List.set_cons_zero, List.set_cons_succ]
    refine Pl.takeW rfl rfl ?v31 ?hy31 ?rest31
    case hy31 => intro w_ hS_; subst hS_; first | (go_simp; done) | (go_simp; with_reducible rfl)
    simp only [Act.put, List.setIfInBounds_toArray, List.set_cons_zero, List.set_cons_succ]
    refine Pl.takeW rfl rfl ?v32 ?hy32 ?rest32
    case hy32 => intro w_ _; first | (go_simp; done) | (go_simp; with_reducible rfl)
    simp only [Act.put, List.setIfInBounds_toArray, List.set_cons_zero, List.set_cons_succ]
    refine Pl.takeW rfl rfl ?v33 ?hy33 ?rest33
    case hy33 => intro w_ _; first | (go_simp; done) | (go_simp; with_reducible rfl)
    simp only [Act.put, List.setIfInBounds_toArray, List.set_cons_zero, List.set_cons_succ]
    refine Pl.takeW rfl rfl ?v34 ?hy34 ?rest34
    case hy34 => intro w_ hS_; subst hS_; first | (go_simp; done) | (go_simp; with_reducible rfl)
    simp only [Act.put, List.setIfInBounds_toArray, List.set_cons_zero, List.set_cons_succ]
    refine Pl.takeW rfl rfl ?v35 ?hy35 ?rest35
    case hy35 => intro w_ _; first | (go_simp; done) | (go_simp; with_reducible rfl)
    simp only [Act.put, List.setIfInBounds_toArray, List.set_cons_zero, List.set_cons_succ]
    refine Pl.takeW rfl rfl ?v36 ?hy36 ?rest36
    case hy36 => intro w_ hS_; subst hS_; first | (go_simp; done) | (go_simp; with_reducible rfl)
    simp only [Act.put, List.setIfInBounds_toArray, List.set_cons_zero, List.set_cons_succ]
    show wpList _ _ _ _ _ _
    simp only [List.drop_succ_cons, List.drop_zero]
    go_wp2_with fail
    refine (HF.out st L S3 _ x2 a st1 (X.drew HX3.out) (HE.out.mono HK3.out) hi2 Hr1.out).mono ?_
    rintro e w4 ⟨rfl, S4, k4, hX4⟩
    have X1 := PX.xs p (dval b off c d) st1
    have HK4 := hid (HK3.out.trans k4)
    have HX4 := hid hX4
    clear k4 hX4 f2 f3 f4 f5 f6
    obtain ⟨S8, k8, hX8, s8⟩ := X1.box (X1.drew HX4.out) #[nat a] 3
    have HX8 := hid hX8
    have HK8 := hid (HK4.out.trans k8)
    have HS8 := hid (NatsR.box1 s8)
    go_wp2_with fail
    refine wp_plan 9 (.take 0 (.take 1 (.take 2 (.take 3 (.take 4 (.take 5 (.take 6 (.one 7 (.take 8 .fin))))))))) (fun w' => w'.cell? ⟨w.heap.size, 0, none⟩ = some (ptr p) ∧ w'.cell? ⟨w.heap.size + 1, 0, none⟩ = some (elem b off i) ∧ w'.cell? ⟨b, off + i * 5 + 1, none⟩ = some (.int .i64 (nd d i).at_)) (by kernel_rfl) (by kernel_rfl) (fun _ _ d_ _ _ h_ => by cases d_ <;> exact h_) (⟨X1.cell (X1.drew HX4.out) (Hx.out.mono HK4.out), X1.cell (X1.drew HX4.out) (Hd.out.mono HK4.out), X1.cell (X1.drew HX4.out) (HN.out.c1.mono HK4.out)⟩) ?_
    refine Pl.takeW rfl rfl ?v37 ?hy37 ?rest37
    case hy37 => intro w_ hS_; obtain ⟨f_xb, f_db, f_e1b⟩ := hS_; first | (go_simp; done) | (go_simp; with_reducible rfl)
    simp only [Act.put, List.setIfInBounds_toArray, List.set_cons_zero, List.set_cons_succ]
    refine Pl.takeW rfl rfl ?v38 ?hy38 ?rest38
    case hy38 => intro w_ hS_; obtain ⟨f_xb, f_db, f_e1b⟩ := hS_; first | (go_simp; done) | (go_simp; with_reducible rfl)
    simp only [Act.put, List.setIfInBounds_toArray, List.set_cons_zero, List.set_cons_succ]
    refine Pl.takeW rfl rfl ?v39 ?hy39 ?rest39
    case hy39 => intro w_ _; first | (go_simp; done) | (go_simp; with_reducible rfl)
    simp only [Act.put, List.setIfInBounds_toArray, List.set_cons_zero, List.set_cons_succ]
    refine Pl.takeW rfl rfl ?v40 ?hy40 ?rest40
    case hy40 => intro w_ _; first | (go_simp; done) | (go_simp; with_reducible rfl)
    simp only [Act.put, List.setIfInBounds_toArray, List.set_cons_zero, List.set_cons_succ]
    refine Pl.takeW rfl rfl ?v41 ?hy41 ?rest41
    case hy41 => intro w_ hS_; obtain ⟨f_xb, f_db, f_e1b⟩ := hS_; first | (go_simp; done) | (go_simp; with_reducible rfl)
    simp only [Act.put, List.setIfInBounds_toArray, List.set_cons_zero, List.set_cons_succ]
    refine Pl.takeW rfl rfl ?v42 ?hy42 ?rest42
    case hy42 => intro w_ _; first | (go_simp; done) | (go_simp; with_reducible rfl)
    simp only [Act.put, List.setIfInBounds_toArray, List.set_cons_zero, List.set_cons_succ]
    refine Pl.takeW rfl rfl ?v43 ?hy43 ?rest43
    case hy43 => intro w_ _; first | (go_simp; done) | (go_simp; with_reducible rfl)
    simp only [Act.put, List.setIfInBounds_toArray, List.set_cons_zero, List.set_cons_succ]
    refine Pl.oneW rfl rfl (fun K_ hK_ => ?_)
    go_simp
    refine hK_ _ _ ⟨X1.cell HX8.out ((Hx.out.mono HK4.out).mono (k8)), X1.cell HX8.out ((Hd.out.mono HK4.out).mono (k8)), X1.cell HX8.out ((HN.out.c1.mono HK4.out).mono (k8))⟩ ?_
    refine Pl.takeW rfl rfl ?v44 ?hy44 ?rest44
    case hy44 => intro w_ _; first | (go_simp; done) | (go_simp; with_reducible rfl)
    simp only [Act.put, List.setIfInBounds_toArray, List.set_cons_zero, List.set_cons_succ]
    show wpList _ _ _ _ _ _
    simp only [List.drop_succ_cons, List.drop_zero]
    clear hX8 s8
    go_wp2_with fail
    refine (P_put p (dval b off c d) st1 L S8 _ 9 (nd d i).at_ 0 0 (nd d x1).s [] 0 [a] (.slice none 0 0) (.slice (some ⟨w4.heap.size, 0, none⟩) 1 1) r st' HX8.out (StrsR.nil _) HS8.out Hr2.out).mono ?_
    rintro e w5 ⟨rfl, S5, k5, hX5⟩
    go_wp2_with fail
    go_ret
    exact Ret.intro rfl ((k2.trans HK8.out).trans k5) hX5
  rw [if_neg hk] at hr
  have hk' : ((nd d x1).kind == 3) = false := by simpa using hk
  have Hr := hid hr
  obtain ⟨lv2, hl2, Hc⟩ := P_list p b off c d st L S2 _ x1 (X.drew (X.drew HX2.out)) HE.out hi1
  have Hc := hid Hc
  have Hin : Hid (∀ j ∈ (nd d x1).l, j < d.length) := hid fun j hj => by have := HE.out.dat.par x1 hi1 j hj; omega
  have Hlst := hid (HE.out.dat.lst x1 hi1)
  have Hlen := hid hlen
  have hw4 : Hid ((nd d x1).kind ≠ 4 ∨ (nd d x1).l.length = 0 → some (wrong d st i) = some (r, st')) := hid fun h => by have := Hr.out; rw [if_pos h] at this; exact this
  clear hcc hNx hk hr hlen
  by_cases hk4 : (nd d x1).kind ≠ 4 ∨ (nd d x1).l.length = 0
  · have Hw := hid (hw4.out hk4)
    have hl0 : (nd d x1).l = [] := by
      rcases hk4 with h | h
      · exact Hlst.out h
      · exact List.eq_nil_of_length_eq_zero h
    rw [hl0] at hl2
    obtain ⟨A2, cc2, hlv2, _, _⟩ := Sl.shape hl2
    subst hlv2
    clear hl2 hl0 hk4 hw4
    go_enter Try.func32, Try.ntmps32
    go_wp2_with fail
    refine wp_plan 10 (.take 0 (.take 1 (.take 2 (.take 3 (.take 4 (.take 5 (.take 6 (.take 7 (.take 8 (.take 9 .fin)))))))))) (fun w_ => w_ = _) (by kernel_rfl) (by kernel_rfl) (fun _ _ d_ _ _ h_ => by cases d_ <;> exact h_) rfl ?_
    refine Pl.takeW rfl rfl ?v45 ?hy45 ?rest45
    case hy45 => intro w_ hS_; subst hS_; first | (go_simp; done) | (go_simp; with_reducible rfl)
    simp only [Act.put, List.setIfInBounds_toArray, List.set_cons_zero, List.set_cons_succ]
    refine Pl.takeW rfl rfl ?v46 ?hy46 ?rest46
    case hy46 => intro w_ _; first | (go_simp; done) | (go_simp; with_reducible rfl)
    simp only [Act.put, List.setIfInBounds_toArray, List.set_cons_zero, List.set_cons_succ]
    refine Pl.takeW rfl rfl ?v47 ?hy47 ?rest47
    case hy47 => intro w_ _; first | (go_simp; done) | (go_simp; with_reducible rfl)
    simp only [Act.put, List.setIfInBounds_toArray, List.set_cons_zero, List.set_cons_succ]
    refine Pl.takeW rfl rfl ?v48 ?hy48 ?rest48
    case hy48 => intro w_ hS_; subst hS_; first | (go_simp; done) | (go_simp; with_reducible rfl)
    simp only [Act.put, List.setIfInBounds_toArray, List.set_cons_zero, List.set_cons_succ]
    refine Pl.takeW rfl rfl ?v49 ?hy49 ?rest49
    case hy49 => intro w_ hS_; subst hS_; first | (go_simp; done) | (go_simp; with_reducible rfl)
    simp only [Act.put, List.setIfInBounds_toArray, List.set_cons_zero, List.set_cons_succ]
    refine Pl.takeW rfl rfl ?v50 ?hy50 ?rest50
    case hy50 => intro w_ _; first | (go_simp; done) | (go_simp; with_reducible rfl)
    simp only [Act.put, List.setIfInBounds_toArray, List.set_cons_zero, List.set_cons_succ]
    refine Pl.takeW rfl rfl ?v51 ?hy51 ?rest51
    case hy51 => intro w_ _; first | (go_simp; done) | (go_simp; with_reducible rfl)
    simp only [Act.put, List.setIfInBounds_toArray, List.set_cons_zero, List.set_cons_succ]
    refine Pl.takeW rfl rfl ?v52 ?hy52 ?rest52
    case hy52 => intro w_ hS_; subst hS_; first | (go_simp; done) | (go_simp; with_reducible rfl)
    simp only [Act.put, List.setIfInBounds_toArray, List.set_cons_zero, List.set_cons_succ]
    refine Pl.takeW rfl rfl ?v53 ?hy53 ?rest53
    case hy53 => intro w_ _; first | (go_simp; done) | (go_simp; with_reducible rfl)
    simp only [Act.put, List.setIfInBounds_toArray, List.set_cons_zero, List.set_cons_succ]
    refine Pl.takeW rfl rfl ?v54 ?hy54 ?rest54
    case hy54 => intro w_ hS_; subst hS_; first | (go_simp; done) | (go_simp; with_reducible rfl)
    simp only [Act.put, List.setIfInBounds_toArray, List.set_cons_zero, List.set_cons_succ]
    show wpList _ _ _ _ _ _
    simp only [List.drop_succ_cons, List.drop_zero]
    go_wp2_with fail
    clear g1 g2 g3 g4 g5
    refine wp_plan 12 (.take 0 (.take 1 (.take 2 (.take 3 (.take 4 (.take 5 (.take 6 (.one 7 (.take 8 (.take 9 (.take 10 (.take 11 .fin)))))))))))) (fun w' => w'.cell? ⟨w.heap.size, 0, none⟩ = some (ptr p) ∧ w'.cell? ⟨w.heap.size + 1, 0, none⟩ = some (elem b off i) ∧ w'.cell? ⟨b, off + i * 5 + 4, none⟩ = some (.slice (some ⟨b1, o1, none⟩) (nd d i).l.length c1) ∧ w'.cell? ⟨b1, o1 + 1, none⟩ = some (nat x1)) (by kernel_rfl) (by kernel_rfl) (fun _ _ d_ _ _ h_ => by cases d_ <;> exact h_) (⟨X.cell (X.drew (X.drew HX2.out)) (Hx.out), X.cell (X.drew (X.drew HX2.out)) (Hd.out), X.cell (X.drew (X.drew HX2.out)) (HN.out.c4), X.cell (X.drew (X.drew HX2.out)) (Hx1.out)⟩) ?_
    refine Pl.takeW rfl rfl ?v55 ?hy55 ?rest55
    case hy55 => intro w_ hS_; obtain ⟨f_x, f_d, f_e4, f_l1⟩ := hS_; first | (go_simp; done) | (go_simp; with_reducible rfl)
    simp only [Act.put, List.setIfInBounds_toArray, List.set_cons_zero, List.set_cons_succ]
    refine Pl.takeW rfl rfl ?v56 ?hy56 ?rest56
    case hy56 => intro w_ hS_; obtain ⟨f_x, f_d, f_e4, f_l1⟩ := hS_; first | (go_simp; done) | (go_simp; with_reducible rfl)
    simp only [Act.put, List.setIfInBounds_toArray, List.set_cons_zero, List.set_cons_succ]
    refine Pl.takeW rfl rfl ?v57 ?hy57 ?rest57
    case hy57 => intro w_ _; first | (go_simp; done) | (go_simp; with_reducible rfl)
    simp only [Act.put, List.setIfInBounds_toArray, List.set_cons_zero, List.set_cons_succ]
    refine Pl.takeW rfl rfl ?v58 ?hy58 ?rest58
    case hy58 => intro w_ _; first | (go_simp; done) | (go_simp; with_reducible rfl)
    simp only [Act.put, List.setIfInBounds_toArray, List.set_cons_zero, List.set_cons_succ]
    refine Pl.takeW rfl rfl ?v59 ?hy59 ?rest59
    case hy59 => intro w_ hS_; obtain ⟨f_x, f_d, f_e4, f_l1⟩ := hS_; first | (go_simp; done) | (go_simp; with_reducible rfl)
    simp only [Act.put, List.setIfInBounds_toArray, List.set_cons_zero, List.set_cons_succ]
    refine Pl.takeW rfl rfl ?v60 ?hy60 ?rest60
    case hy60 => intro w_ _; first | (go_simp; done) | (go_simp; with_reducible rfl)
    simp only [Act.put, List.setIfInBounds_toArray, List.set_cons_zero, List.set_cons_succ]
    refine Pl.takeW rfl rfl ?v61 ?hy61 ?rest61
    case hy61 => intro w_ hS_; obtain ⟨f_x, f_d, f_e4, f_l1⟩ := hS_; first | (go_simp; done) | (go_simp; with_reducible rfl)
    simp only [Act.put, List.setIfInBounds_toArray, List.set_cons_zero, List.set_cons_succ]
    refine Pl.oneW rfl rfl (fun K_ hK_ => ?_)
    go_simp
    refine (Hc.out).mono ?_
    rintro e w3 ⟨rfl, S3, k3, hX3⟩
    have HK3 := hid k3
    have HX3 := hid hX3
    have f2 := X.cell hX3 (Hx.out.mono k3)
    have f3 := X.cell hX3 (Hd.out.mono k3)
    refine hK_ _ _ ⟨X.cell hX3 ((Hx.out).mono (k3)), X.cell hX3 ((Hd.out).mono (k3)), X.cell hX3 ((HN.out.c4).mono (k3)), X.cell hX3 ((Hx1.out).mono (k3))⟩ ?_
    refine Pl.takeW rfl rfl ?v62 ?hy62 ?rest62
    case hy62 => intro w_ _; first | (go_simp; done) | (go_simp; with_reducible rfl)
    simp only [Act.put, List.setIfInBounds_toArray, List.set_cons_zero, List.set_cons_succ]
    refine Pl.takeW rfl rfl ?v63 ?hy63 ?rest63
    case hy63 => intro w_ _; first | (go_simp; done) | (go_simp; with_reducible rfl)
    simp only [Act.put, List.setIfInBounds_toArray, List.set_cons_zero, List.set_cons_succ]
    refine Pl.takeW rfl rfl ?v64 ?hy64 ?rest64
    case hy64 => intro w_ _; first | (go_simp; done) | (go_simp; with_reducible rfl)
    simp only [Act.put, List.setIfInBounds_toArray, List.set_cons_zero, List.set_cons_succ]
    refine Pl.takeW rfl rfl ?v65 ?hy65 ?rest65
    case hy65 => intro w_ _; first | (go_simp; done) | (go_simp; with_reducible rfl)
    simp only [Act.put, List.setIfInBounds_toArray, List.set_cons_zero, List.set_cons_succ]
    show wpList _ _ _ _ _ _
    simp only [List.drop_succ_cons, List.drop_zero]
    clear k3 hX3
    go_wp2_with fail
    all_goals
      refine (P_wrongR p b off c d st L S3 _ i r st' HX3.out (HE.out.mono HK3.out) hi Hw.out).mono ?_
      rintro e w6 ⟨rfl, S6, k6, hX6⟩
      go_wp2_with fail
      go_ret
      exact Ret.intro rfl ((k2.trans HK3.out).trans k6) hX6
  have hr := Hr.out
  rw [if_neg hk4] at hr
  have Hr1 := hid hr
  have hk44 : ((nd d x1).kind == 4) = true := by
    by_cases h : (nd d x1).kind = 4
    · simpa using h
    · exact absurd (.inl h) hk4
  have hln : (nd d x1).l.length ≠ 0 := fun h => hk4 (.inr h)
  rw [hk44] at Hc
  clear hw4 hk4 hr Hr
  generalize (nd d x1).l = l2 at *
  match l2, hln with
  | y :: t, _ =>
    obtain ⟨b2, o2, c2, hlv2, h3, h4, hc2⟩ := hl2.cons
    subst hlv2
    have Hy := hid hc2
    have hiy := Hin.out y List.mem_cons_self
    have hlz : (((y :: t).length : Int) == 0) = false := by rw [beq_eq_false_iff_ne]; simp; omega
    have hl1c : (1 : Int) ≤ ((y :: t).length : Int) := by simp; omega
    have hl0c : (0 : Int) < ((y :: t).length : Int) := by simp
    have Hl2 := hid hl2
    clear hc2 hln hl2
    go_enter Try.func32, Try.ntmps32
    go_wp2_with fail
    refine wp_plan 10 (.take 0 (.take 1 (.take 2 (.take 3 (.take 4 (.take 5 (.take 6 (.take 7 (.take 8 (.take 9 .fin)))))))))) (fun w_ => w_ = _) (by kernel_rfl) (by kernel_rfl) (fun _ _ d_ _ _ h_ => by cases d_ <;> exact h_) rfl ?_
    refine Pl.takeW rfl rfl ?v66 ?hy66 ?rest66
    case hy66 => intro w_ hS_; subst hS_; first | (go_simp; done) | (go_simp; with_reducible rfl)
    simp only [Act.put, List.setIfInBounds_toArray, List.set_cons_zero, List.set_cons_succ]
    refine Pl.takeW rfl rfl ?v67 ?hy67 ?rest67
    case hy67 => intro w_ _; first | (go_simp; done) | (go_simp; with_reducible rfl)
    simp only [Act.put, List.setIfInBounds_toArray, List.set_cons_zero, List.set_cons_succ]
    refine Pl.takeW rfl rfl ?v68 ?hy68 ?rest68
    case hy68 => intro w_ _; first | (go_simp; done) | (go_simp; with_reducible rfl)
    simp only [Act.put, List.setIfInBounds_toArray, List.set_cons_zero, List.set_cons_succ]
    refine Pl.takeW rfl rfl ?v69 ?hy69 ?rest69
    case hy69 => intro w_ hS_; subst hS_; first | (go_simp; done) | (go_simp; with_reducible rfl)
    simp only [Act.put, List.setIfInBounds_toArray, List.set_cons_zero, List.set_cons_succ]
    refine Pl.takeW rfl rfl ?v70 ?hy70 ?rest70
    case hy70 => intro w_ hS_; subst hS_; first | (go_simp; done) | (go_simp; with_reducible rfl)
    simp only [Act.put, List.setIfInBounds_toArray, List.set_cons_zero, List.set_cons_succ]
    refine Pl.takeW rfl rfl ?v71 ?hy71 ?rest71
    case hy71 => intro w_ _; first | (go_simp; done) | (go_simp; with_reducible rfl)
    simp only [Act.put, List.setIfInBounds_toArray, List.set_cons_zero, List.set_cons_succ]
    refine Pl.takeW rfl rfl ?v72 ?hy72 ?rest72
    case hy72 => intro w_ _; first | (go_simp; done) | (go_simp; with_reducible rfl)
    simp only [Act.put, List.setIfInBounds_toArray, List.set_cons_zero, List.set_cons_succ]
    refine Pl.takeW rfl rfl ?v73 ?hy73 ?rest73
    case hy73 => intro w_ hS_; subst hS_; first | (go_simp; done) | (go_simp; with_reducible rfl)
    simp only [Act.put, List.setIfInBounds_toArray, List.set_cons_zero, List.set_cons_succ]
    refine Pl.takeW rfl rfl ?v74 ?hy74 ?rest74
    case hy74 => intro w_ _; first | (go_simp; done) | (go_simp; with_reducible rfl)
    simp only [Act.put, List.setIfInBounds_toArray, List.set_cons_zero, List.set_cons_succ]
    refine Pl.takeW rfl rfl ?v75 ?hy75 ?rest75
    case hy75 => intro w_ hS_; subst hS_; first | (go_simp; done) | (go_simp; with_reducible rfl)
    simp only [Act.put, List.setIfInBounds_toArray, List.set_cons_zero, List.set_cons_succ]
    show wpList _ _ _ _ _ _
    simp only [List.drop_succ_cons, List.drop_zero]
    go_wp2_with fail
    clear g1 g2 g3 g4 g5
    refine wp_plan 12 (.take 0 (.take 1 (.take 2 (.take 3 (.take 4 (.take 5 (.take 6 (.one 7 (.take 8 (.take 9 (.take 10 (.take 11 .fin)))))))))))) (fun w' => w'.cell? ⟨w.heap.size, 0, none⟩ = some (ptr p) ∧ w'.cell? ⟨w.heap.size + 1, 0, none⟩ = some (elem b off i) ∧ w'.cell? ⟨b, off + i * 5 + 4, none⟩ = some (.slice (some ⟨b1, o1, none⟩) (nd d i).l.length c1) ∧ w'.cell? ⟨b1, o1 + 1, none⟩ = some (nat x1)) (by kernel_rfl) (by kernel_rfl) (fun _ _ d_ _ _ h_ => by cases d_ <;> exact h_) (⟨X.cell (X.drew (X.drew HX2.out)) (Hx.out), X.cell (X.drew (X.drew HX2.out)) (Hd.out), X.cell (X.drew (X.drew HX2.out)) (HN.out.c4), X.cell (X.drew (X.drew HX2.out)) (Hx1.out)⟩) ?_
    refine Pl.takeW rfl rfl ?v76 ?hy76 ?rest76
    case hy76 => intro w_ hS_; obtain ⟨f_x, f_d, f_e4, f_l1⟩ := hS_; first | (go_simp; done) | (go_simp; with_reducible rfl)
    simp only [Act.put, List.setIfInBounds_toArray, List.set_cons_zero, List.set_cons_succ]
    refine Pl.takeW rfl rfl ?v77 ?hy77 ?rest77
    case hy77 => intro w_ hS_; obtain ⟨f_x, f_d, f_e4, f_l1⟩ := hS_; first | (go_simp; done) | (go_simp; with_reducible rfl)
    simp only [Act.put, List.setIfInBounds_toArray, List.set_cons_zero, List.set_cons_succ]
    refine Pl.takeW rfl rfl ?v78 ?hy78 ?rest78
    case hy78 => intro w_ _; first | (go_simp; done) | (go_simp; with_reducible rfl)
    simp only [Act.put, List.setIfInBounds_toArray, List.set_cons_zero, List.set_cons_succ]
    refine Pl.takeW rfl rfl ?v79 ?hy79 ?rest79
    case hy79 => intro w_ _; first | (go_simp; done) | (go_simp; with_reducible rfl)
    simp only [Act.put, List.setIfInBounds_toArray, List.set_cons_zero, List.set_cons_succ]
    refine Pl.takeW rfl rfl ?v80 ?hy80 ?rest80
    case hy80 => intro w_ hS_; obtain ⟨f_x, f_d, f_e4, f_l1⟩ := hS_; first | (go_simp; done) | (go_simp; with_reducible rfl)
    simp only [Act.put, List.setIfInBounds_toArray, List.set_cons_zero, List.set_cons_succ]
    refine Pl.takeW rfl rfl ?v81 ?hy81 ?rest81
    case hy81 => intro w_ _; first | (go_simp; done) | (go_simp; with_reducible rfl)
    simp only [Act.put, List.setIfInBounds_toArray, List.set_cons_zero, List.set_cons_succ]
    refine Pl.takeW rfl rfl ?v82 ?hy82 ?rest82
    case hy82 => intro w_ hS_; obtain ⟨f_x, f_d, f_e4, f_l1⟩ := hS_; first | (go_simp; done) | (go_simp; with_reducible rfl)
    simp only [Act.put, List.setIfInBounds_toArray, List.set_cons_zero, List.set_cons_succ]
    refine Pl.oneW rfl rfl (fun K_ hK_ => ?_)
    go_simp
    refine (Hc.out).mono ?_
    rintro e w3 ⟨rfl, S3, k3, hX3⟩
    have HK3 := hid k3
    have HX3 := hid hX3
    refine hK_ _ _ ⟨X.cell hX3 ((Hx.out).mono (k3)), X.cell hX3 ((Hd.out).mono (k3)), X.cell hX3 ((HN.out.c4).mono (k3)), X.cell hX3 ((Hx1.out).mono (k3))⟩ ?_
    refine Pl.takeW rfl rfl ?v83 ?hy83 ?rest83
    case hy83 => intro w_ _; first | (go_simp; done) | (go_simp; with_reducible rfl)
    simp only [Act.put, List.setIfInBounds_toArray, List.set_cons_zero, List.set_cons_succ]
    refine Pl.takeW rfl rfl ?v84 ?hy84 ?rest84
    case hy84 => intro w_ _; first | (go_simp; done) | (go_simp; with_reducible rfl)
    simp only [Act.put, List.setIfInBounds_toArray, List.set_cons_zero, List.set_cons_succ]
    refine Pl.takeW rfl rfl ?v85 ?hy85 ?rest85
    case hy85 => intro w_ _; first | (go_simp; done) | (go_simp; with_reducible rfl)
    simp only [Act.put, List.setIfInBounds_toArray, List.set_cons_zero, List.set_cons_succ]
    refine Pl.takeW rfl rfl ?v86 ?hy86 ?rest86
    case hy86 => intro w_ _; first | (go_simp; done) | (go_simp; with_reducible rfl)
    simp only [Act.put, List.setIfInBounds_toArray, List.set_cons_zero, List.set_cons_succ]
    show wpList _ _ _ _ _ _
    simp only [List.drop_succ_cons, List.drop_zero]
    clear k3 hX3
    have hlz' : ((t.length : Int) + 1 == 0) = false := by rw [beq_eq_false_iff_ne]; omega
    go_wp2_with fail
    have Hn := hid (P_name p b off c d st L S3 _ y (X.drew HX3.out) (HE.out.mono HK3.out) hiy)
    refine wp_plan 9 (.take 0 (.take 1 (.take 2 (.take 3 (.one 4 (.take 5 (.take 6 (.take 7 (.take 8 .fin))))))))) (fun w' => w'.cell? ⟨w.heap.size, 0, none⟩ = some (ptr p) ∧ w'.cell? ⟨b2, o2, none⟩ = some (nat y)) (by kernel_rfl) (by kernel_rfl) (fun _ _ d_ _ _ h_ => by cases d_ <;> exact h_) (⟨X.cell (X.drew HX3.out) (Hx.out.mono HK3.out), X.cell (X.drew HX3.out) (Hy.out.mono HK3.out)⟩) ?_
    refine Pl.takeW rfl rfl ?v87 ?hy87 ?rest87
    case hy87 => intro w_ hS_; obtain ⟨f_x3, f_y3⟩ := hS_; first | (go_simp; done) | (go_simp; with_reducible rfl)
    simp only [Act.put, List.setIfInBounds_toArray, List.set_cons_zero, List.set_cons_succ]
    refine Pl.takeW rfl rfl ?v88 ?hy88 ?rest88
    case hy88 => intro w_ _; first | (go_simp; done) | (go_simp; with_reducible rfl)
    simp only [Act.put, List.setIfInBounds_toArray, List.set_cons_zero, List.set_cons_succ]
    refine Pl.takeW rfl rfl ?v89 ?hy89 ?rest89
    case hy89 => intro w_ _; first | (go_simp; done) | (go_simp; with_reducible rfl)
    simp only [Act.put, List.setIfInBounds_toArray, List.set_cons_zero, List.set_cons_succ]
    refine Pl.takeW rfl rfl ?v90 ?hy90 ?rest90
    case hy90 => intro w_ hS_; obtain ⟨f_x3, f_y3⟩ := hS_; first | (go_simp; done) | (go_simp; with_reducible rfl)
    simp only [Act.put, List.setIfInBounds_toArray, List.set_cons_zero, List.set_cons_succ]
    refine Pl.oneW rfl rfl (fun K_ hK_ => ?_)
    go_simp
    refine (Hn.out).mono ?_
    rintro e w4 ⟨rfl, S4, k4, hX4⟩
    have HK4 := hid (HK3.out.trans k4)
    have HX4 := hid hX4
    refine hK_ _ _ ⟨X.cell hX4 ((Hx.out.mono HK3.out).mono (k4)), X.cell hX4 ((Hy.out.mono HK3.out).mono (k4))⟩ ?_
    refine Pl.takeW rfl rfl ?v91 ?hy91 ?rest91
    case hy91 => intro w_ _; first | (go_simp; done) | (go_simp; with_reducible rfl)
    simp only [Act.put, List.setIfInBounds_toArray, List.set_cons_zero, List.set_cons_succ]
    refine Pl.takeW rfl rfl ?v92 ?hy92 ?rest92
    case hy92 => intro w_ _; first | (go_simp; done) | (go_simp; with_reducible rfl)
    simp only [Act.put, List.setIfInBounds_toArray, List.set_cons_zero, List.set_cons_succ]
    refine Pl.takeW rfl rfl ?v93 ?hy93 ?rest93
    case hy93 => intro w_ _; first | (go_simp; done) | (go_simp; with_reducible rfl)
    simp only [Act.put, List.setIfInBounds_toArray, List.set_cons_zero, List.set_cons_succ]
    refine Pl.takeW rfl rfl ?v94 ?hy94 ?rest94
    case hy94 => intro w_ _; first | (go_simp; done) | (go_simp; with_reducible rfl)
    simp only [Act.put, List.setIfInBounds_toArray, List.set_cons_zero, List.set_cons_succ]
    show wpList _ _ _ _ _ _
    simp only [List.drop_succ_cons, List.drop_zero]
    clear k4 hX4
    go_wp2_with fail
    have htl := (NatsR.tailIf Hl2.out).mono HK4.out
    generalize hA : (if c2 = 1 then (some ⟨b2, o2, none⟩ : Option Addr) else some ⟨b2, o2 + 1, none⟩) = A3 at htl
    have Htl := hid htl
    have hl1d : (1 : Int) ≤ (t.length : Int) + 1 := by omega
    have Hnm := hid (P_names p b off c d st L S4 _ _ t (X.drew HX4.out) (HE.out.mono HK4.out) htl (fun j hj => Hin.out j (List.mem_cons_of_mem _ hj)))
    clear htl
    refine wp_plan 8 (.take 0 (.take 1 (.take 2 (.one 3 (.take 4 (.take 5 (.take 6 (.take 7 .fin)))))))) (fun w' => w'.cell? ⟨w.heap.size, 0, none⟩ = some (ptr p)) (by kernel_rfl) (by kernel_rfl) (fun _ _ d_ _ _ h_ => by cases d_ <;> exact h_) (X.cell (X.drew HX4.out) (Hx.out.mono HK4.out)) ?_
    refine Pl.takeW rfl rfl ?v95 ?hy95 ?rest95
    case hy95 => intro w_ hS_; obtain f_x4 := hS_; first | (go_simp; done) | (go_simp; with_reducible rfl)
    simp only [Act.put, List.setIfInBounds_toArray, List.set_cons_zero, List.set_cons_succ]
    refine Pl.takeW rfl rfl ?v96 ?hy96 ?rest96
    case hy96 => intro w_ _; first | (go_simp; done) | (go_simp; with_reducible rfl)
    simp only [Act.put, List.setIfInBounds_toArray, List.set_cons_zero, List.set_cons_succ]
    refine Pl.takeW rfl rfl ?v97 ?hy97 ?rest97
    case hy97 => intro w_ _; first | (go_simp; done) | (go_simp; with_reducible rfl)
    simp only [Act.put, List.setIfInBounds_toArray, List.set_cons_zero, List.set_cons_succ]
    refine Pl.oneW rfl rfl (fun K_ hK_ => ?_)
    go_simp
    refine Hnm.out.mono ?_
    rintro e w5 ⟨v5, S5, k5, hX5, h5⟩
    have HK5 := hid (HK4.out.trans k5)
    have HX5 := hid hX5
    have f2 := X.cell hX5 (Hx.out.mono HK5.out)
    have f3 := X.cell hX5 (Hd.out.mono HK5.out)
    have f4 := X.cell hX5 (HN.out.c1.mono HK5.out)
    have Hk5 := hid k5
    clear k5 hX5 hA
    have Hgo : Hid ((names d t = none ∨ nameOf d y = []) ∧ some (wrong d st i) = some (r, st') ∨ nameOf d y ≠ [] ∧ ∃ ns, names d t = some ns ∧ ((fn F (nd d i).at_ ns st ((nd d i).l.drop 2)).bind fun f => put f.2 { kind := 9, at_ := (nd d i).at_, s := nameOf d y, l := [f.1] }) = some (r, st')) := by
      have h := Hr1.out
      simp only [List.drop_succ_cons, List.drop_zero, List.getD_cons_zero] at h
      cases hn : names d t with
      | none => rw [hn] at h; exact .inl ⟨.inl rfl, h⟩
      | some ns =>
        rw [hn] at h
        simp only at h
        by_cases h1 : nameOf d y = []
        · rw [if_pos h1] at h; exact .inl ⟨.inr h1, h⟩
        · rw [if_neg h1] at h; exact .inr ⟨h1, ns, rfl, h⟩
    rcases Hgo.out with ⟨hno, hw⟩ | ⟨h1, ns, hns, hf⟩
    · have Hw := hid hw
      rcases h5 with ⟨h5, rfl⟩ | ⟨ns, h5, rfl, hs5⟩
      · clear hno hw h5
        refine hK_ _ _ (X.cell HX5.out ((Hx.out.mono HK4.out).mono (Hk5.out))) ?_
        refine Pl.takeW rfl rfl ?v98 ?hy98 ?rest98
        case hy98 => intro w_ _; first | (go_simp; done) | (go_simp; with_reducible rfl)
        simp only [Act.put, List.setIfInBounds_toArray, List.set_cons_zero, List.set_cons_succ]
        refine Pl.takeW rfl rfl ?v99 ?hy99 ?rest99
        case hy99 => intro w_ _; first | (go_simp; done) | (go_simp; with_reducible rfl)
        simp only [Act.put, List.setIfInBounds_toArray, List.set_cons_zero, List.set_cons_succ]
        refine Pl.takeW rfl rfl ?v100 ?hy100 ?rest100
        case hy100 => intro w_ _; first | (go_simp; done) | (go_simp; with_reducible rfl)
        simp only [Act.put, List.setIfInBounds_toArray, List.set_cons_zero, List.set_cons_succ]
        refine Pl.takeW rfl rfl ?v101 ?hy101 ?rest101
        case hy101 => intro w_ _; first | (go_simp; done) | (go_simp; with_reducible rfl)
        simp only [Act.put, List.setIfInBounds_toArray, List.set_cons_zero, List.set_cons_succ]
        show wpList _ _ _ _ _ _
        simp only [List.drop_succ_cons, List.drop_zero]
        go_wp2_with fail
        all_goals
          refine (P_wrongR p b off c d st L S5 _ i r st' HX5.out (HE.out.mono HK5.out) hi Hw.out).mono ?_
          rintro e w6 ⟨rfl, S6, k6, hX6⟩
          go_wp2_with fail
          go_ret
          exact Ret.intro rfl ((k2.trans HK5.out).trans k6) hX6
      · have h1b : (nameOf d y == []) = true := by
          rcases hno with h | h
          · rw [h5] at h; cases h
          · simpa using h
        have h1c : (nameOf d y).isEmpty = true := by simpa using h1b
        clear hno hw h5 hs5
        refine hK_ _ _ (X.cell HX5.out ((Hx.out.mono HK4.out).mono (Hk5.out))) ?_
        refine Pl.takeW rfl rfl ?v102 ?hy102 ?rest102
        case hy102 => intro w_ _; first | (go_simp; done) | (go_simp; with_reducible rfl)
        simp only [Act.put, List.setIfInBounds_toArray, List.set_cons_zero, List.set_cons_succ]
        refine Pl.takeW rfl rfl ?v103 ?hy103 ?rest103
        case hy103 => intro w_ _; first | (go_simp; done) | (go_simp; with_reducible rfl)
        simp only [Act.put, List.setIfInBounds_toArray, List.set_cons_zero, List.set_cons_succ]
        refine Pl.takeW rfl rfl ?v104 ?hy104 ?rest104
        case hy104 => intro w_ _; first | (go_simp; done) | (go_simp; with_reducible rfl)
        simp only [Act.put, List.setIfInBounds_toArray, List.set_cons_zero, List.set_cons_succ]
        refine Pl.takeW rfl rfl ?v105 ?hy105 ?rest105
        case hy105 => intro w_ _; first | (go_simp; done) | (go_simp; with_reducible rfl)
        simp only [Act.put, List.setIfInBounds_toArray, List.set_cons_zero, List.set_cons_succ]
        show wpList _ _ _ _ _ _
        simp only [List.drop_succ_cons, List.drop_zero]
        go_wp2_with fail
        refine (P_wrongR p b off c d st L S5 _ i r st' HX5.out (HE.out.mono HK5.out) hi Hw.out).mono ?_
        rintro e w6 ⟨rfl, S6, k6, hX6⟩
        go_wp2_with fail
        go_ret
        exact Ret.intro rfl ((k2.trans HK5.out).trans k6) hX6
    · rcases h5 with ⟨h5, rfl⟩ | ⟨ns', h5, rfl, hs5⟩
      · rw [hns] at h5; cases h5
      rw [hns] at h5
      cases h5
      simp only [fn, Option.bind_eq_some_iff] at hf
      obtain ⟨⟨f, st2⟩, ⟨⟨z, st1⟩, hf1, hf2⟩, hf3⟩ := hf
      rw [nameOf_eq h1] at hf3
      have h1b : (nameOf d y == []) = false := by simpa using h1
      have h1c : (nameOf d y).isEmpty = false := by simpa using h1
      have Hf1 := hid hf1
      have Hf2 := hid hf2
      have Hf3 := hid hf3
      have Hs5 := hid hs5
      have hlen3 : 3 ≤ (nd d i).l.length := by have := Hlen.out; omega
      obtain ⟨A5, c5, rfl, _, _⟩ := Sl.shape hs5
      clear hns hf1 hf2 hf3 hs5 h1
      refine hK_ _ _ (X.cell HX5.out ((Hx.out.mono HK4.out).mono (Hk5.out))) ?_
      refine Pl.takeW rfl rfl ?v106 ?hy106 ?rest106
      case hy106 => intro w_ _; first | (go_simp; done) | (go_simp; with_reducible rfl)
      simp only [Act.put, List.setIfInBounds_toArray, List.set_cons_zero, List.set_cons_succ]
      refine Pl.takeW rfl rfl ?v107 ?hy107 ?rest107
      case hy107 => intro w_ _; first | (go_simp; done) | (go_simp; with_reducible rfl)
      simp only [Act.put, List.setIfInBounds_toArray, List.set_cons_zero, List.set_cons_succ]
      refine Pl.takeW rfl rfl ?v108 ?hy108 ?rest108
      case hy108 => intro w_ _; first | (go_simp; done) | (go_simp; with_reducible rfl)
      simp only [Act.put, List.setIfInBounds_toArray, List.set_cons_zero, List.set_cons_succ]
      refine Pl.takeW rfl rfl ?v109 ?hy109 ?rest109
      case hy109 => intro w_ _; first | (go_simp; done) | (go_simp; with_reducible rfl)
      simp only [Act.put, List.setIfInBounds_toArray, List.set_cons_zero, List.set_cons_succ]
      show wpList _ _ _ _ _ _
      simp only [List.drop_succ_cons, List.drop_zero]
      go_wp2_with fail
      refine wp_plan 7 (.take 0 (.take 1 (.take 2 (.take 3 (.take 4 (.take 5 (.take 6 .fin))))))) (fun w_ => w_ = _) (by kernel_rfl) (by kernel_rfl) (fun _ _ d_ _ _ h_ => by cases d_ <;> exact h_) rfl ?_
      refine Pl.takeW rfl rfl ?v110 ?hy110 ?rest110
      case hy110 => intro w_ hS_; subst hS_; first | (go_simp; done) | (go_simp; with_reducible rfl)
      simp only [Act.put, List.setIfInBounds_toArray, List.set_cons_zero, List.set_cons_succ]
      refine Pl.takeW rfl rfl ?v111 ?hy111 ?rest111
      case hy111 => intro w_ hS_; subst hS_; first | (go_simp; done) | (go_simp; with_reducible rfl)
      simp only [Act.put, List.setIfInBounds_toArray, List.set_cons_zero, List.set_cons_succ]
      refine Pl.takeW rfl rfl ?v112 ?hy112 ?rest112
      case hy112 => intro w_ _; first | (go_simp; done) | (go_simp; with_reducible rfl)
      simp only [Act.put, List.setIfInBounds_toArray, List.set_cons_zero, List.set_cons_succ]
      refine Pl.takeW rfl rfl ?v113 ?hy113 ?rest113
      case hy113 => intro w_ _; first | (go_simp; done) | (go_simp; with_reducible rfl)
      simp only [Act.put, List.setIfInBounds_toArray, List.set_cons_zero, List.set_cons_succ]
      refine Pl.takeW rfl rfl ?v114 ?hy114 ?rest114
      case hy114 => intro w_ hS_; subst hS_; first | (go_simp; done) | (go_simp; with_reducible rfl)
      simp only [Act.put, List.setIfInBounds_toArray, List.set_cons_zero, List.set_cons_succ]
      refine Pl.takeW rfl rfl ?v115 ?hy115 ?rest115
      case hy115 => intro w_ _; first | (go_simp; done) | (go_simp; with_reducible rfl)
      simp only [Act.put, List.setIfInBounds_toArray, List.set_cons_zero, List.set_cons_succ]
      refine Pl.takeW rfl rfl ?v116 ?hy116 ?rest116
      case hy116 => intro w_ _; first | (go_simp; done) | (go_simp; with_reducible rfl)
      simp only [Act.put, List.setIfInBounds_toArray, List.set_cons_zero, List.set_cons_succ]
      show wpList _ _ _ _ _ _
      simp only [List.drop_succ_cons, List.drop_zero]
      go_wp2_with fail
      refine (P_fn p b off c d L S5 _ 52 #[ptr w.heap.size, ptr (w.heap.size + 1)] (fun w => by kernel_rfl) (nd d i).at_ _ ns z f st1 st2 Hs5.out (P_define1 p b off c d st L S5 _ F HF.out w.heap.size (w.heap.size + 1) i z st1 (X.drew HX5.out) (HE.out.mono HK5.out) hi (Hx.out.mono HK5.out) (Hd.out.mono HK5.out) hlen3 Hf1.out) Hf2.out).mono ?_
      rintro e w6 ⟨rfl, S6, k6, hX6⟩
      have X2 := PX.xs p (dval b off c d) st2
      have HK6 := hid (HK5.out.trans k6)
      have HX6 := hid hX6
      clear k6 hX6 f2 f3 f4
      obtain ⟨S8, k8, hX8, s8⟩ := X2.box (X2.drew HX6.out) #[nat f] 3
      have HX8 := hid hX8
      have HK8 := hid (HK6.out.trans k8)
      have HS8 := hid (NatsR.box1 s8)
      go_wp2_with fail
      refine wp_plan 9 (.take 0 (.take 1 (.take 2 (.take 3 (.take 4 (.take 5 (.take 6 (.one 7 (.take 8 .fin))))))))) (fun w' => w'.cell? ⟨w.heap.size, 0, none⟩ = some (ptr p) ∧ w'.cell? ⟨w.heap.size + 1, 0, none⟩ = some (elem b off i) ∧ w'.cell? ⟨b, off + i * 5 + 1, none⟩ = some (.int .i64 (nd d i).at_)) (by kernel_rfl) (by kernel_rfl) (fun _ _ d_ _ _ h_ => by cases d_ <;> exact h_) (⟨X2.cell (X2.drew HX6.out) (Hx.out.mono HK6.out), X2.cell (X2.drew HX6.out) (Hd.out.mono HK6.out), X2.cell (X2.drew HX6.out) (HN.out.c1.mono HK6.out)⟩) ?_
      refine Pl.takeW rfl rfl ?v117 ?hy117 ?rest117
      case hy117 => intro w_ hS_; obtain ⟨f_x6, f_d6, f_e6⟩ := hS_; first | (go_simp; done) | (go_simp; with_reducible rfl)
      simp only [Act.put, List.setIfInBounds_toArray, List.set_cons_zero, List.set_cons_succ]
      refine Pl.takeW rfl rfl ?v118 ?hy118 ?rest118
      case hy118 => intro w_ hS_; obtain ⟨f_x6, f_d6, f_e6⟩ := hS_; first | (go_simp; done) | (go_simp; with_reducible rfl)
      simp only [Act.put, List.setIfInBounds_toArray, List.set_cons_zero, List.set_cons_succ]
      refine Pl.takeW rfl rfl ?v119 ?hy119 ?rest119
      case hy119 => intro w_ _; first | (go_simp; done) | (go_simp; with_reducible rfl)
      simp only [Act.put, List.setIfInBounds_toArray, List.set_cons_zero, List.set_cons_succ]
      refine Pl.takeW rfl rfl ?v120 ?hy120 ?rest120
      case hy120 => intro w_ _; first | (go_simp; done) | (go_simp; with_reducible rfl)
      simp only [Act.put, List.setIfInBounds_toArray, List.set_cons_zero, List.set_cons_succ]
      refine Pl.takeW rfl rfl ?v121 ?hy121 ?rest121
      case hy121 => intro w_ hS_; obtain ⟨f_x6, f_d6, f_e6⟩ := hS_; first | (go_simp; done) | (go_simp; with_reducible rfl)
      simp only [Act.put, List.setIfInBounds_toArray, List.set_cons_zero, List.set_cons_succ]
      refine Pl.takeW rfl rfl ?v122 ?hy122 ?rest122
      case hy122 => intro w_ _; first | (go_simp; done) | (go_simp; with_reducible rfl)
      simp only [Act.put, List.setIfInBounds_toArray, List.set_cons_zero, List.set_cons_succ]
      refine Pl.takeW rfl rfl ?v123 ?hy123 ?rest123
      case hy123 => intro w_ _; first | (go_simp; done) | (go_simp; with_reducible rfl)
      simp only [Act.put, List.setIfInBounds_toArray, List.set_cons_zero, List.set_cons_succ]
      refine Pl.oneW rfl rfl (fun K_ hK_ => ?_)
      go_simp
      refine hK_ _ _ ⟨X2.cell HX8.out ((Hx.out.mono HK6.out).mono (k8)), X2.cell HX8.out ((Hd.out.mono HK6.out).mono (k8)), X2.cell HX8.out ((HN.out.c1.mono HK6.out).mono (k8))⟩ ?_
      refine Pl.takeW rfl rfl ?v124 ?hy124 ?rest124
      case hy124 => intro w_ _; first | (go_simp; done) | (go_simp; with_reducible rfl)
      simp only [Act.put, List.setIfInBounds_toArray, List.set_cons_zero, List.set_cons_succ]
      show wpList _ _ _ _ _ _
      simp only [List.drop_succ_cons, List.drop_zero]
      clear hX8 s8
      go_wp2_with fail
      refine (P_put p (dval b off c d) st2 L S8 _ 9 (nd d i).at_ 0 0 (nd d y).s [] 0 [f] (.slice none 0 0) (.slice (some ⟨w6.heap.size, 0, none⟩) 1 1) r st' HX8.out (StrsR.nil _) HS8.out Hf3.out).mono ?_
      rintro e w7 ⟨rfl, S7, k7, hX7⟩
      go_wp2_with fail
      go_ret
      exact Ret.intro rfl ((k2.trans HK8.out).trans k7) hX7
end
end Go.Proofs.Ytjjbidajkmodfaa
namespace Go.Proofs.Ytjjbidajkmodfaa
open Go Go.RowKit
theorem condS_cons (d : List Node) (F : Fm) (at_ : Int) (st : St) (x : Nat) (l : List Nat) : condS d F at_ st (x :: l) =
    if (nd d x).kind ≠ 4 ∨ (nd d x).l.length < 2 then some (wrong d st x)
      else if (nd d ((nd d x).l.getD 0 0)).kind = 3 ∧ (nd d ((nd d x).l.getD 0 0)).s = sElse then
        (if l ≠ [] then some (wrong d st x) else body F (nd d x).at_ st ((nd d x).l.drop 1))
      else (F st ((nd d x).l.getD 0 0)).bind fun a => (body F (nd d x).at_ a.2 ((nd d x).l.drop 1)).bind fun b => (condS d F at_ b.2 l).bind fun y => asks y.2 at_ a.1 b.1 y.1 := by rw [condS]
section
variable (p b off c : Nat) (d : List Node)
set_option maxRecDepth 100000 in
set_option maxHeartbeats 8000000 in
theorem P_cond (F : Fm) (HF : OkP p b off c d F) (at_ : Int) : ∀ (l : List Nat) (st : St) (L : List Atom) (S : Seal) (w : World) (lv : Value) (r : Nat) (st' : St), PX p (dval b off c d) st L S w → Env S b off c d →
    NatsR S lv l → (∀ j ∈ l, j < d.length) → condS d F at_ st l = some (r, st') → Calls Try.prog 82 #[ptr p, .int .i64 at_, lv] w (Ret S (PX p (dval b off c d) st' L) (nat r))
  | [], st, L, S, w, lv, r, st', hX, hE, hl, _, hr => by
    obtain ⟨A, cc, rfl, _, _⟩ := Sl.shape hl
    have HX := hid hX
    have Hr := hid (show bit st at_ 0 = some (r, st') by simpa [condS] using hr)
    clear hX hE hl hr
    go_enter Try.func82, Try.ntmps82
    go_wp2_with fail
    refine (P_truth p st L S w (dval b off c d) at_ 0 r st' HX.out Hr.out).mono ?_
    rintro e w1 ⟨rfl, S1, k1, hX1⟩
    go_wp2_with fail
    go_ret
    exact Ret.intro rfl k1 hX1
  | x :: l, st, L, S, w, lv, r, st', hX, hE, hl, hin, hr => by
    have X := PX.xs p (dval b off c d) st
    rw [condS_cons] at hr
    obtain ⟨b1, o1, c1, rfl, h1, h2, hc⟩ := hl.cons
    have hi := hin x List.mem_cons_self
    obtain ⟨lvx, hN⟩ := hE.at_ x hi
    have e0 := hX.d0
    have e1 := X.cell hX hc
    have e2 := X.cell hX hN.c0
    have e3 := X.cell hX hN.c4
    have HX := hid hX
    have HE := hid hE
    have HF := hid HF
    have Hl := hid hl
    have Hin := hid hin
    have HN := hid hN
    have Hr := hid hr
    have hlen := Dat.len hE
    have g0 : (((x :: l).length : Int) == 0) = false := by rw [beq_eq_false_iff_ne]; simp; omega
    have g2 : ((l.length : Int) + 1 == 0) = false := by rw [beq_eq_false_iff_ne]; omega
    have g4 : (0 : Int) < (l.length : Int) + 1 := by omega
    by_cases hk : (nd d x).kind = 4
    case neg =>
      have Hw := hid (show some (wrong d st x) = some (r, st') by rw [if_pos (.inl hk)] at hr; exact hr)
      obtain ⟨A2, cc2, hlv2, _, _⟩ := Sl.shape hN.l
      subst hlv2
      have hkb : ((nd d x).kind != 4) = true := by simpa using hk
      clear hX hE hl hr hin hc hN hk
      go_enter Try.func82, Try.ntmps82
      go_wp2_with fail
      refine wp_plan 7 (.take 0 (.take 1 (.take 2 (.take 3 (.take 4 (.take 5 (.take 6 .fin))))))) (fun w_ => w_ = _) (by kernel_rfl) (by kernel_rfl) (fun _ _ d_ _ _ h_ => by cases d_ <;> exact h_) rfl ?_
      refine Pl.takeW rfl rfl ?v1 ?hy1 ?rest1
      case hy1 => intro w_ _; first | (go_simp; done) | (go_simp; with_reducible rfl)
      simp only [Act.put, List.setIfInBounds_toArray, List.set_cons_zero, List.set_cons_succ]
      refine Pl.takeW rfl rfl ?v2 ?hy2 ?rest2
      case hy2 => intro w_ _; first | (go_simp; done) | (go_simp; with_reducible rfl)
      simp only [Act.put, List.setIfInBounds_toArray, List.set_cons_zero, List.set_cons_succ]
      refine Pl.takeW rfl rfl ?v3 ?hy3 ?rest3
      case hy3 => intro w_ _; first | (go_simp; done) | (go_simp; with_reducible rfl)
      simp only [Act.put, List.setIfInBounds_toArray, List.set_cons_zero, List.set_cons_succ]
      refine Pl.takeW rfl rfl ?v4 ?hy4 ?rest4
      case hy4 => intro w_ hS_; subst hS_; first | (go_simp; done) | (go_simp; with_reducible rfl)
      simp only [Act.put, List.setIfInBounds_toArray, List.set_cons_zero, List.set_cons_succ]
      refine Pl.takeW rfl rfl ?v5 ?hy5 ?rest5
      case hy5 => intro w_ _; first | (go_simp; done) | (go_simp; with_reducible rfl)
      simp only [Act.put, List.setIfInBounds_toArray, List.set_cons_zero, List.set_cons_succ]
      refine Pl.takeW rfl rfl ?v6 ?hy6 ?rest6
      case hy6 => intro w_ _; first | (go_simp; done) | (go_simp; with_reducible rfl)
      simp only [Act.put, List.setIfInBounds_toArray, List.set_cons_zero, List.set_cons_succ]
      refine Pl.takeW rfl rfl ?v7 ?hy7 ?rest7
      case hy7 => intro w_ hS_; subst hS_; first | (go_simp; done) | (go_simp; with_reducible rfl)
      simp only [Act.put, List.setIfInBounds_toArray, List.set_cons_zero, List.set_cons_succ]
      show wpList _ _ _ _ _ _
      simp only [List.drop_succ_cons, List.drop_zero]
      go_wp2_with fail
      refine (P_wrongR p b off c d st L S _ x r st' (X.drew HX.out) HE.out hi Hw.out).mono ?_
      rintro e w1 ⟨rfl, S1, k1, hX1⟩
      go_wp2_with fail
      go_ret
      exact Ret.intro rfl k1 hX1
    have hkb : ((nd d x).kind != 4) = false := by simpa using hk
    by_cases hl2 : (nd d x).l.length < 2
    · have Hw := hid (show some (wrong d st x) = some (r, st') by rw [if_pos (.inr hl2)] at hr; exact hr)
      obtain ⟨A2, cc2, hlv2, _, _⟩ := Sl.shape hN.l
      subst hlv2
      clear hX hE hl hr hin hc hN hk
      go_enter Try.func82, Try.ntmps82
      go_wp2_with fail
      refine wp_plan 7 (.take 0 (.take 1 (.take 2 (.take 3 (.take 4 (.take 5 (.take 6 .fin))))))) (fun w_ => w_ = _) (by kernel_rfl) (by kernel_rfl) (fun _ _ d_ _ _ h_ => by cases d_ <;> exact h_) rfl ?_
      refine Pl.takeW rfl rfl ?v8 ?hy8 ?rest8
      case hy8 => intro w_ _; first | (go_simp; done) | (go_simp; with_reducible rfl)
      simp only [Act.put, List.setIfInBounds_toArray, List.set_cons_zero, List.set_cons_succ]
      refine Pl.takeW rfl rfl ?v9 ?hy9 ?rest9
      case hy9 => intro w_ _; first | (go_simp; done) | (go_simp; with_reducible rfl)
      simp only [Act.put, List.setIfInBounds_toArray, List.set_cons_zero, List.set_cons_succ]
      refine Pl.takeW rfl rfl ?v10 ?hy10 ?rest10
      case hy10 => intro w_ _; first | (go_simp; done) | (go_simp; with_reducible rfl)
      simp only [Act.put, List.setIfInBounds_toArray, List.set_cons_zero, List.set_cons_succ]
      refine Pl.takeW rfl rfl ?v11 ?hy11 ?rest11
      case hy11 => intro w_ hS_; subst hS_; first | (go_simp; done) | (go_simp; with_reducible rfl)
      simp only [Act.put, List.setIfInBounds_toArray, List.set_cons_zero, List.set_cons_succ]
      refine Pl.takeW rfl rfl ?v12 ?hy12 ?rest12
      case hy12 => intro w_ _; first | (go_simp; done) | (go_simp; with_reducible rfl)
      simp only [Act.put, List.setIfInBounds_toArray, List.set_cons_zero, List.set_cons_succ]
      refine Pl.takeW rfl rfl ?v13 ?hy13 ?rest13
      case hy13 => intro w_ _; first | (go_simp; done) | (go_simp; with_reducible rfl)
      simp only [Act.put, List.setIfInBounds_toArray, List.set_cons_zero, List.set_cons_succ]
      refine Pl.takeW rfl rfl ?v14 ?hy14 ?rest14
      case hy14 => intro w_ hS_; subst hS_; first | (go_simp; done) | (go_simp; with_reducible rfl)
      simp only [Act.put, List.setIfInBounds_toArray, List.set_cons_zero, List.set_cons_succ]
      show wpList _ _ _ _ _ _
      simp only [List.drop_succ_cons, List.drop_zero]
      go_wp2_with fail
      refine (P_wrongR p b off c d st L S _ x r st' (X.drew HX.out) HE.out hi Hw.out).mono ?_
      rintro e w1 ⟨rfl, S1, k1, hX1⟩
      go_wp2_with fail
      go_ret
      exact Ret.intro rfl k1 hX1
    rw [if_neg (by rintro (h | h) <;> contradiction)] at hr
    have hinx : ∀ j ∈ (nd d x).l, j < d.length := fun j hj => by have := hE.dat.par x hi j hj; omega
    have hllx := hE.dat.ll x hi
    have hNl := hN.l
    have Hc1 := hid hN.c1
    have Hc4 := hid hN.c4
    have hl2i : ¬ ((nd d x).l.length : Int) < 2 := by omega
    have hnl2 : 2 ≤ (nd d x).l.length := by omega
    have Hr2 := hid hr
    clear hX hE hl hr hin hc hN hk hl2 Hr HN
    generalize hlx : (nd d x).l = lx at *
    clear hlx
    match lx, hnl2 with
    | y :: z :: t, _ =>
      obtain ⟨b2, o2, c2, hlv2, h3, h4, hcy⟩ := hNl.cons
      subst hlv2
      have hiy := hinx y List.mem_cons_self
      obtain ⟨lvy, hM⟩ := HE.out.at_ y hiy
      obtain ⟨A3, cc3, hlv3, _, _⟩ := Sl.shape hM.l
      subst hlv3
      have Hcy := hid hcy
      have HM := hid hM
      have Hnl := hid (NatsR.tail2 hNl)
      have Hinx := hid (fun j hj => hinx j (List.mem_cons_of_mem _ hj))
      have Hllx := hid hllx
      have hc21 : ¬ c2 = 1 := by simp at h3; omega
      have gy : (0 : Int) < ((y :: z :: t).length : Int) := by simp; omega
      have gy2 : (0 : Int) < (t.length : Int) + 1 + 1 := by omega
      have gy3 : (1 : Int) ≤ (t.length : Int) + 1 + 1 := by omega
      have gy4 : ¬ (t.length : Int) + 1 + 1 < 2 := by omega
      obtain ⟨S8, k8, hX8, s8⟩ := X.box (X.drew (X.drew HX.out)) #[.int .u8 (nd d y).kind, .int .i64 (nd d y).at_, .int .i64 (nd d y).n, str (nd d y).s, .slice A3 (nd d y).l.length cc3] 60
      have HX8 := hid hX8
      have HK8 := hid k8
      have Hal := hid (X.alloc0 (X.drew (X.drew HX.out)) (.cells #[.int .u8 0, .int .i64 0, .int .i64 0, .string ⟨#[]⟩, .slice none 0 0] 60))
      clear hM hcy hNl hinx hllx s8 hX8 k8
      have hgd : ((y :: z :: t).getD 0 0) = y := rfl
      have hdd : ((y :: z :: t).drop 1) = z :: t := rfl
      have hr2 := Hr2.out
      rw [hgd, hdd] at hr2
      go_enter Try.func82, Try.ntmps82
      go_wp2_with fail
      refine wp_plan 7 (.take 0 (.take 1 (.take 2 (.take 3 (.take 4 (.take 5 (.take 6 .fin))))))) (fun w_ => w_ = _) (by kernel_rfl) (by kernel_rfl) (fun _ _ d_ _ _ h_ => by cases d_ <;> exact h_) rfl ?_
      refine Pl.takeW rfl rfl ?v15 ?hy15 ?rest15
      case hy15 => intro w_ _; first | (go_simp; done) | (go_simp; with_reducible rfl)
      simp only [Act.put, List.setIfInBounds_toArray, List.set_cons_zero, List.set_cons_succ]
      refine Pl.takeW rfl rfl ?v16 ?hy16 ?rest16
      case hy16 => intro w_ _; first | (go_simp; done) | (go_simp; with_reducible rfl)
      simp only [Act.put, List.setIfInBounds_toArray, List.set_cons_zero, List.set_cons_succ]
      refine Pl.takeW rfl rfl ?v17 ?hy17 ?rest17
      case hy17 => intro w_ _; first | (go_simp; done) | (go_simp; with_reducible rfl)
      simp only [Act.put, List.setIfInBounds_toArray, List.set_cons_zero, List.set_cons_succ]
      refine Pl.takeW rfl rfl ?v18 ?hy18 ?rest18
      case hy18 => intro w_ hS_; subst hS_; first | (go_simp; done) | (go_simp; with_reducible rfl)
      simp only [Act.put, List.setIfInBounds_toArray, List.set_cons_zero, List.set_cons_succ]
      refine Pl.takeW rfl rfl ?v19 ?hy19 ?rest19
      case hy19 => intro w_ _; first | (go_simp; done) | (go_simp; with_reducible rfl)
      simp only [Act.put, List.setIfInBounds_toArray, List.set_cons_zero, List.set_cons_succ]
      refine Pl.takeW rfl rfl ?v20 ?hy20 ?rest20
      case hy20 => intro w_ _; first | (go_simp; done) | (go_simp; with_reducible rfl)
      simp only [Act.put, List.setIfInBounds_toArray, List.set_cons_zero, List.set_cons_succ]
      refine Pl.takeW rfl rfl ?v21 ?hy21 ?rest21
      case hy21 => intro w_ hS_; subst hS_; first | (go_simp; done) | (go_simp; with_reducible rfl)
      simp only [Act.put, List.setIfInBounds_toArray, List.set_cons_zero, List.set_cons_succ]
      show wpList _ _ _ _ _ _
      simp only [List.drop_succ_cons, List.drop_zero]
      go_wp2_with fail
      refine wp_plan 13 (.take 0 (.take 1 (.take 2 (.take 3 (.take 4 (.take 5 (.take 6 (.take 7 (.take 8 (.take 9 (.take 10 (.take 11 (.one 12 .fin))))))))))))) (fun w' => w'.cell? ⟨p, 0, none⟩ = some (dval b off c d) ∧ w'.cell? ⟨b, off + x * 5 + 4, none⟩ = some (.slice (some ⟨b2, o2, none⟩) (t.length + 1 + 1) c2) ∧ w'.cell? ⟨b2, o2, none⟩ = some (nat y) ∧ w'.cell? ⟨b, off + y * 5, none⟩ = some (.int .u8 (nd d y).kind) ∧ w'.cell? ⟨b, off + y * 5 + 1, none⟩ = some (.int .i64 (nd d y).at_) ∧ w'.cell? ⟨b, off + y * 5 + 2, none⟩ = some (.int .i64 (nd d y).n) ∧ w'.cell? ⟨b, off + y * 5 + 3, none⟩ = some (str (nd d y).s) ∧ w'.cell? ⟨b, off + y * 5 + 4, none⟩ = some (.slice A3 (nd d y).l.length cc3)) (by kernel_rfl) (by kernel_rfl) (fun _ _ d_ _ _ h_ => by cases d_ <;> exact h_) (by have h := HX.out; exact ⟨h.d0, h.cell Hc4.out, h.cell Hcy.out, h.cell HM.out.c0, h.cell HM.out.c1, h.cell HM.out.c2, h.cell HM.out.c3, h.cell HM.out.c4⟩) ?_
      refine Pl.takeW rfl rfl ?v22 ?hy22 ?rest22
      case hy22 => intro w_ _; first | (go_simp; done) | (go_simp; with_reducible rfl)
      simp only [Act.put, List.setIfInBounds_toArray, List.set_cons_zero, List.set_cons_succ]
      refine Pl.takeW rfl rfl ?v23 ?hy23 ?rest23
      case hy23 => intro w_ _; first | (go_simp; done) | (go_simp; with_reducible rfl)
      simp only [Act.put, List.setIfInBounds_toArray, List.set_cons_zero, List.set_cons_succ]
      refine Pl.takeW rfl rfl ?v24 ?hy24 ?rest24
      case hy24 => intro w_ _; first | (go_simp; done) | (go_simp; with_reducible rfl)
      simp only [Act.put, List.setIfInBounds_toArray, List.set_cons_zero, List.set_cons_succ]
      refine Pl.takeW rfl rfl ?v25 ?hy25 ?rest25
      case hy25 => intro w_ hS_; obtain ⟨f0, f1, f2, f3, f4, f5, f6, f7⟩ := hS_; first | (go_simp; done) | (go_simp; with_reducible rfl)
      simp only [Act.put, List.setIfInBounds_toArray, List.set_cons_zero, List.set_cons_succ]
      refine Pl.takeW rfl rfl ?v26 ?hy26 ?rest26
      case hy26 => intro w_ _; first | (go_simp; done) | (go_simp; with_reducible rfl)
      simp only [Act.put, List.setIfInBounds_toArray, List.set_cons_zero, List.set_cons_succ]
      refine Pl.takeW rfl rfl ?v27 ?hy27 ?rest27
      case hy27 => intro w_ _; first | (go_simp; done) | (go_simp; with_reducible rfl)
      simp only [Act.put, List.setIfInBounds_toArray, List.set_cons_zero, List.set_cons_succ]
      refine Pl.takeW rfl rfl ?v28 ?hy28 ?rest28
      case hy28 => intro w_ _; first | (go_simp; done) | (go_simp; with_reducible rfl)
      simp only [Act.put, List.setIfInBounds_toArray, List.set_cons_zero, List.set_cons_succ]
      refine Pl.takeW rfl rfl ?v29 ?hy29 ?rest29
      case hy29 => intro w_ hS_; obtain ⟨f0, f1, f2, f3, f4, f5, f6, f7⟩ := hS_; first | (go_simp; done) | (go_simp; with_reducible rfl)
      simp only [Act.put, List.setIfInBounds_toArray, List.set_cons_zero, List.set_cons_succ]
      refine Pl.takeW rfl rfl ?v30 ?hy30 ?rest30
      case hy30 => intro w_ _; first | (go_simp; done) | (go_simp; with_reducible rfl)
      simp only [Act.put, List.setIfInBounds_toArray, List.set_cons_zero, List.set_cons_succ]
      refine Pl.takeW rfl rfl ?v31 ?hy31 ?rest31
      case hy31 => intro w_ hS_; obtain ⟨f0, f1, f2, f3, f4, f5, f6, f7⟩ := hS_; first | (go_simp; done) | (go_simp; with_reducible rfl)
      simp only [Act.put, List.setIfInBounds_toArray, List.set_cons_zero, List.set_cons_succ]
      refine Pl.takeW rfl rfl ?v32 ?hy32 ?rest32
      case hy32 => intro w_ _; first | (go_simp; done) | (go_simp; with_reducible rfl)
      simp only [Act.put, List.setIfInBounds_toArray, List.set_cons_zero, List.set_cons_succ]
      refine Pl.takeW rfl rfl ?v33 ?hy33 ?rest33
      case hy33 => intro w_ hS_; obtain ⟨f0, f1, f2, f3, f4, f5, f6, f7⟩ := hS_; first | (go_simp; done) | (go_simp; with_reducible rfl)
      simp only [Act.put, List.setIfInBounds_toArray, List.set_cons_zero, List.set_cons_succ]
      refine Pl.oneW rfl rfl (fun K_ hK_ => ?_)
      go_simp
      refine hK_ _ _ ?_ ?_
      · have h := Hal.out
        exact ⟨h.d0, h.cell Hc4.out, h.cell Hcy.out, h.cell HM.out.c0, h.cell HM.out.c1, h.cell HM.out.c2, h.cell HM.out.c3, h.cell HM.out.c4⟩
      show wpList _ _ _ _ _ _
      simp only [List.drop_succ_cons, List.drop_zero]
      have f1 : World.cell? (w.alloc (.cells #[.int .u8 (nd d y).kind, .int .i64 (nd d y).at_, .int .i64 (nd d y).n, str (nd d y).s, .slice A3 (nd d y).l.length cc3] 60)) ⟨b, off + x * 5 + 1, none⟩ = some (.int .i64 (nd d x).at_) := X.cell HX8.out (Hc1.out.mono HK8.out)
      have f4 : World.cell? (w.alloc (.cells #[.int .u8 (nd d y).kind, .int .i64 (nd d y).at_, .int .i64 (nd d y).n, str (nd d y).s, .slice A3 (nd d y).l.length cc3] 60)) ⟨b, off + x * 5 + 4, none⟩ = some (.slice (some ⟨b2, o2, none⟩) (t.length + 1 + 1) c2) := X.cell HX8.out (Hc4.out.mono HK8.out)
      have f5 : World.cell? (w.alloc (.cells #[.int .u8 (nd d y).kind, .int .i64 (nd d y).at_, .int .i64 (nd d y).n, str (nd d y).s, .slice A3 (nd d y).l.length cc3] 60)) ⟨b2, o2, none⟩ = some (nat y) := X.cell HX8.out (Hcy.out.mono HK8.out)
      clear e0 e1 e2 e3
      by_cases helse : (nd d y).kind = 3 ∧ (nd d y).s = sElse
      · have hy1 : ((nd d y).kind == 3) = true := by simpa using helse.1
        have hy2 : ((nd d y).s == [101, 108, 115, 101]) = true := by rw [helse.2]; rfl
        rw [if_pos helse] at hr2
        cases l with
        | cons l1 l2 =>
          rw [if_pos (by simp)] at hr2
          have Hw := hid hr2
          have g7 : (1 : Int) < (l2.length : Int) + 1 + 1 := by omega
          clear hr2 helse Hr2
          go_wp2_with fail
          refine (P_wrongR p b off c d st L S8 _ x r st' HX8.out (HE.out.mono HK8.out) hi Hw.out).mono ?_
          rintro e w1 ⟨rfl, S1, k1, hX1⟩
          go_wp2_with fail
          go_ret
          exact Ret.intro rfl (HK8.out.trans k1) hX1
        | nil =>
          rw [if_neg (by simp)] at hr2
          have Hb := hid hr2
          clear hr2 helse Hr2
          go_wp2_with fail
          refine wp_plan 10 (.take 0 (.take 1 (.take 2 (.take 3 (.take 4 (.take 5 (.take 6 (.take 7 (.take 8 (.take 9 .fin)))))))))) (fun w_ => w_ = _) (by kernel_rfl) (by kernel_rfl) (fun _ _ d_ _ _ h_ => by cases d_ <;> exact h_) rfl ?_
          refine Pl.takeW rfl rfl ?v34 ?hy34 ?rest34
          case hy34 => intro w_ _; first | (go_simp; done) | (go_simp; with_reducible rfl)
          simp only [Act.put, List.setIfInBounds_toArray, List.set_cons_zero, List.set_cons_succ]
          refine Pl.takeW rfl rfl ?v35 ?hy35 ?rest35
          case hy35 => intro w_ _; first | (go_simp; done) | (go_simp; with_reducible rfl)
          simp only [Act.put, List.setIfInBounds_toArray, List.set_cons_zero, List.set_cons_succ]
          refine Pl.takeW rfl rfl ?v36 ?hy36 ?rest36
          case hy36 => intro w_ _; first | (go_simp; done) | (go_simp; with_reducible rfl)
          simp only [Act.put, List.setIfInBounds_toArray, List.set_cons_zero, List.set_cons_succ]
          refine Pl.takeW rfl rfl ?v37 ?hy37 ?rest37
          case hy37 => intro w_ _; first | (go_simp; done) | (go_simp; with_reducible rfl)
          simp only [Act.put, List.setIfInBounds_toArray, List.set_cons_zero, List.set_cons_succ]
          refine Pl.takeW rfl rfl ?v38 ?hy38 ?rest38
          case hy38 => intro w_ hS_; subst hS_; first | (go_simp; done) | (go_simp; with_reducible rfl)
          simp only [Act.put, List.setIfInBounds_toArray, List.set_cons_zero, List.set_cons_succ]
          refine Pl.takeW rfl rfl ?v39 ?hy39 ?rest39
          case hy39 => intro w_ _; first | (go_simp; done) | (go_simp; with_reducible rfl)
          simp only [Act.put, List.setIfInBounds_toArray, List.set_cons_zero, List.set_cons_succ]
          refine Pl.takeW rfl rfl ?v40 ?hy40 ?rest40
          case hy40 => intro w_ _; first | (go_simp; done) | (go_simp; with_reducible rfl)
          simp only [Act.put, List.setIfInBounds_toArray, List.set_cons_zero, List.set_cons_succ]
          refine Pl.takeW rfl rfl ?v41 ?hy41 ?rest41
          case hy41 => intro w_ _; first | (go_simp; done) | (go_simp; with_reducible rfl)
          simp only [Act.put, List.setIfInBounds_toArray, List.set_cons_zero, List.set_cons_succ]
          refine Pl.takeW rfl rfl ?v42 ?hy42 ?rest42
          case hy42 => intro w_ hS_; subst hS_; first | (go_simp; done) | (go_simp; with_reducible rfl)
          simp only [Act.put, List.setIfInBounds_toArray, List.set_cons_zero, List.set_cons_succ]
          refine Pl.takeW rfl rfl ?v43 ?hy43 ?rest43
          case hy43 => intro w_ _; first | (go_simp; done) | (go_simp; with_reducible rfl)
          simp only [Act.put, List.setIfInBounds_toArray, List.set_cons_zero, List.set_cons_succ]
          show wpList _ _ _ _ _ _
          simp only [List.drop_succ_cons, List.drop_zero]
          go_wp2_with fail
          refine (P_body p b off c d st L S8 _ F HF.out _ _ _ r st' (X.drew HX8.out) (HE.out.mono HK8.out) (Hnl.out.mono HK8.out) Hinx.out (by have := Hllx.out; simp at this ⊢; omega) Hb.out).mono ?_
          rintro e w1 ⟨rfl, S1, k1, hX1⟩
          go_wp2_with fail
          go_ret
          exact Ret.intro rfl (HK8.out.trans k1) hX1
      · rw [if_neg helse] at hr2
        simp only [Option.bind_eq_some_iff] at hr2
        obtain ⟨⟨z1, st1⟩, hr21, ⟨z2, st2⟩, hr22, ⟨z3, st3⟩, hr23, hr24⟩ := hr2
        have Hr1 := hid hr21
        have Hr2' := hid hr22
        have Hr3 := hid hr23
        have Hr4 := hid hr24
        have htl := (NatsR.tailIf Hl.out).mono HK8.out
        generalize hA : (if c1 = 1 then (some ⟨b1, o1, none⟩ : Option Addr) else some ⟨b1, o1 + 1, none⟩) = A1 at htl
        have Htl := hid htl
        have g7 : (1 : Int) ≤ (l.length : Int) + 1 := by omega
        have ih := hid (P_cond F HF.out at_ l)
        have Helse := hid helse
        have key : ∃ kb sb : Bool, ((nd d y).kind == 3) = kb ∧ ((nd d y).s == [101, 108, 115, 101]) = sb ∧ (kb && sb) = false := by
          refine ⟨_, _, rfl, rfl, ?_⟩
          cases e1 : ((nd d y).kind == 3) <;> cases e2 : ((nd d y).s == [101, 108, 115, 101]) <;> try rfl
          exact absurd ⟨by simpa using e1, by rw [show sElse = [101, 108, 115, 101] from rfl]; simpa using e2⟩ Helse.out
        obtain ⟨kb, sb, hkb3, hsb, hand⟩ := key
        clear hr21 hr22 hr23 hr24 helse Hr2 htl
        cases kb
        · clear hsb hand
          go_wp2_with fail
          refine (HF.out st L S8 _ y z1 st1 HX8.out (HE.out.mono HK8.out) hiy Hr1.out).mono ?_
          rintro e w1 ⟨rfl, S1, k1, hX1⟩
          have X1 := PX.xs p (dval b off c d) st1
          have HK1 := hid (HK8.out.trans k1)
          have Hnl1 := hid ((Hnl.out.mono HK8.out).mono k1)
          have Htl1 := hid (Htl.out.mono k1)
          have HX1 := hid hX1
          have q1 := X1.cell hX1 (Hc1.out.mono HK1.out)
          have q4 := X1.cell hX1 (Hc4.out.mono HK1.out)
          clear hX1 k1 f1 f4 f5
          go_wp2_with fail
          refine wp_plan 10 (.take 0 (.take 1 (.take 2 (.take 3 (.take 4 (.take 5 (.take 6 (.take 7 (.take 8 (.take 9 .fin)))))))))) (fun w_ => w_ = _) (by kernel_rfl) (by kernel_rfl) (fun _ _ d_ _ _ h_ => by cases d_ <;> exact h_) rfl ?_
          refine Pl.takeW rfl rfl ?v44 ?hy44 ?rest44
          case hy44 => intro w_ _; first | (go_simp; done) | (go_simp; with_reducible rfl)
          simp only [Act.put, List.setIfInBounds_toArray, List.set_cons_zero, List.set_cons_succ]
          refine Pl.takeW rfl rfl ?v45 ?hy45 ?rest45
          case hy45 => intro w_ _; first | (go_simp; done) | (go_simp; with_reducible rfl)
          simp only [Act.put, List.setIfInBounds_toArray, List.set_cons_zero, List.set_cons_succ]
          refine Pl.takeW rfl rfl ?v46 ?hy46 ?rest46
          case hy46 => intro w_ _; first | (go_simp; done) | (go_simp; with_reducible rfl)
          simp only [Act.put, List.setIfInBounds_toArray, List.set_cons_zero, List.set_cons_succ]
          refine Pl.takeW rfl rfl ?v47 ?hy47 ?rest47
          case hy47 => intro w_ _; first | (go_simp; done) | (go_simp; with_reducible rfl)
          simp only [Act.put, List.setIfInBounds_toArray, List.set_cons_zero, List.set_cons_succ]
          refine Pl.takeW rfl rfl ?v48 ?hy48 ?rest48
          case hy48 => intro w_ hS_; subst hS_; first | (go_simp; done) | (go_simp; with_reducible rfl)
          simp only [Act.put, List.setIfInBounds_toArray, List.set_cons_zero, List.set_cons_succ]
          refine Pl.takeW rfl rfl ?v49 ?hy49 ?rest49
          case hy49 => intro w_ _; first | (go_simp; done) | (go_simp; with_reducible rfl)
          simp only [Act.put, List.setIfInBounds_toArray, List.set_cons_zero, List.set_cons_succ]
          refine Pl.takeW rfl rfl ?v50 ?hy50 ?rest50
          case hy50 => intro w_ _; first | (go_simp; done) | (go_simp; with_reducible rfl)
          simp only [Act.put, List.setIfInBounds_toArray, List.set_cons_zero, List.set_cons_succ]
          refine Pl.takeW rfl rfl ?v51 ?hy51 ?rest51
          case hy51 => intro w_ _; first | (go_simp; done) | (go_simp; with_reducible rfl)
          simp only [Act.put, List.setIfInBounds_toArray, List.set_cons_zero, List.set_cons_succ]
          refine Pl.takeW rfl rfl ?v52 ?hy52 ?rest52
          case hy52 => intro w_ hS_; subst hS_; first | (go_simp; done) | (go_simp; with_reducible rfl)
          simp only [Act.put, List.setIfInBounds_toArray, List.set_cons_zero, List.set_cons_succ]
          refine Pl.takeW rfl rfl ?v53 ?hy53 ?rest53
          case hy53 => intro w_ _; first | (go_simp; done) | (go_simp; with_reducible rfl)
          simp only [Act.put, List.setIfInBounds_toArray, List.set_cons_zero, List.set_cons_succ]
          show wpList _ _ _ _ _ _
          simp only [List.drop_succ_cons, List.drop_zero]
          go_wp2_with fail
          refine (P_body p b off c d st1 L S1 _ F HF.out _ _ _ z2 st2 (X1.drew HX1.out) (HE.out.mono HK1.out) Hnl1.out Hinx.out (by have := Hllx.out; simp at this ⊢; omega) Hr2'.out).mono ?_
          rintro e w2 ⟨rfl, S2, k2, hX2⟩
          have HX2 := hid hX2
          have HK2 := hid (HK1.out.trans k2)
          have Htl2 := hid (Htl1.out.mono k2)
          clear hX2 k2 q1 q4
          go_wp2_with fail
          refine (ih.out st2 L S2 _ _ z3 st3 HX2.out (HE.out.mono HK2.out) Htl2.out (fun j hj => Hin.out j (List.mem_cons_of_mem _ hj)) Hr3.out).mono ?_
          rintro e w3 ⟨rfl, S3, k3, hX3⟩
          go_wp2_with fail
          refine (P_asks p st3 L S3 _ (dval b off c d) at_ z1 z2 z3 r st' hX3 Hr4.out).mono ?_
          rintro e w4 ⟨rfl, S4, k4, hX4⟩
          go_wp2_with fail
          go_ret
          exact Ret.intro rfl ((HK2.out.trans k3).trans k4) hX4
        · cases sb
          · clear hand
            go_wp2_with fail
            refine (HF.out st L S8 _ y z1 st1 HX8.out (HE.out.mono HK8.out) hiy Hr1.out).mono ?_
            rintro e w1 ⟨rfl, S1, k1, hX1⟩
            have X1 := PX.xs p (dval b off c d) st1
            have HK1 := hid (HK8.out.trans k1)
            have Hnl1 := hid ((Hnl.out.mono HK8.out).mono k1)
            have Htl1 := hid (Htl.out.mono k1)
            have HX1 := hid hX1
            have q1 := X1.cell hX1 (Hc1.out.mono HK1.out)
            have q4 := X1.cell hX1 (Hc4.out.mono HK1.out)
            clear hX1 k1 f1 f4 f5
            go_wp2_with fail
            refine wp_plan 10 (.take 0 (.take 1 (.take 2 (.take 3 (.take 4 (.take 5 (.take 6 (.take 7 (.take 8 (.take 9 .fin)))))))))) (fun w_ => w_ = _) (by kernel_rfl) (by kernel_rfl) (fun _ _ d_ _ _ h_ => by cases d_ <;> exact h_) rfl ?_
            refine Pl.takeW rfl rfl ?v54 ?hy54 ?rest54
            case hy54 => intro w_ _; first | (go_simp; done) | (go_simp; with_reducible rfl)
            simp only [Act.put, List.setIfInBounds_toArray, List.set_cons_zero, List.set_cons_succ]
            refine Pl.takeW rfl rfl ?v55 ?hy55 ?rest55
            case hy55 => intro w_ _; first | (go_simp; done) | (go_simp; with_reducible rfl)
            simp only [Act.put, List.setIfInBounds_toArray, List.set_cons_zero, List.set_cons_succ]
            refine Pl.takeW rfl rfl ?v56 ?hy56 ?rest56
            case hy56 => intro w_ _; first | (go_simp; done) | (go_simp; with_reducible rfl)
            simp only [Act.put, List.setIfInBounds_toArray, List.set_cons_zero, List.set_cons_succ]
            refine Pl.takeW rfl rfl ?v57 ?hy57 ?rest57
            case hy57 => intro w_ _; first | (go_simp; done) | (go_simp; with_reducible rfl)
            simp only [Act.put, List.setIfInBounds_toArray, List.set_cons_zero, List.set_cons_succ]
            refine Pl.takeW rfl rfl ?v58 ?hy58 ?rest58
            case hy58 => intro w_ hS_; subst hS_; first | (go_simp; done) | (go_simp; with_reducible rfl)
            simp only [Act.put, List.setIfInBounds_toArray, List.set_cons_zero, List.set_cons_succ]
            refine Pl.takeW rfl rfl ?v59 ?hy59 ?rest59
            case hy59 => intro w_ _; first | (go_simp; done) | (go_simp; with_reducible rfl)
            simp only [Act.put, List.setIfInBounds_toArray, List.set_cons_zero, List.set_cons_succ]
            refine Pl.takeW rfl rfl ?v60 ?hy60 ?rest60
            case hy60 => intro w_ _; first | (go_simp; done) | (go_simp; with_reducible rfl)
            simp only [Act.put, List.setIfInBounds_toArray, List.set_cons_zero, List.set_cons_succ]
            refine Pl.takeW rfl rfl ?v61 ?hy61 ?rest61
            case hy61 => intro w_ _; first | (go_simp; done) | (go_simp; with_reducible rfl)
            simp only [Act.put, List.setIfInBounds_toArray, List.set_cons_zero, List.set_cons_succ]
            refine Pl.takeW rfl rfl ?v62 ?hy62 ?rest62
            case hy62 => intro w_ hS_; subst hS_; first | (go_simp; done) | (go_simp; with_reducible rfl)
            simp only [Act.put, List.setIfInBounds_toArray, List.set_cons_zero, List.set_cons_succ]
            refine Pl.takeW rfl rfl ?v63 ?hy63 ?rest63
            case hy63 => intro w_ _; first | (go_simp; done) | (go_simp; with_reducible rfl)
            simp only [Act.put, List.setIfInBounds_toArray, List.set_cons_zero, List.set_cons_succ]
            show wpList _ _ _ _ _ _
            simp only [List.drop_succ_cons, List.drop_zero]
            go_wp2_with fail
            refine (P_body p b off c d st1 L S1 _ F HF.out _ _ _ z2 st2 (X1.drew HX1.out) (HE.out.mono HK1.out) Hnl1.out Hinx.out (by have := Hllx.out; simp at this ⊢; omega) Hr2'.out).mono ?_
            rintro e w2 ⟨rfl, S2, k2, hX2⟩
            have HX2 := hid hX2
            have HK2 := hid (HK1.out.trans k2)
            have Htl2 := hid (Htl1.out.mono k2)
            clear hX2 k2 q1 q4
            go_wp2_with fail
            refine (ih.out st2 L S2 _ _ z3 st3 HX2.out (HE.out.mono HK2.out) Htl2.out (fun j hj => Hin.out j (List.mem_cons_of_mem _ hj)) Hr3.out).mono ?_
            rintro e w3 ⟨rfl, S3, k3, hX3⟩
            go_wp2_with fail
            refine (P_asks p st3 L S3 _ (dval b off c d) at_ z1 z2 z3 r st' hX3 Hr4.out).mono ?_
            rintro e w4 ⟨rfl, S4, k4, hX4⟩
            go_wp2_with fail
            go_ret
            exact Ret.intro rfl ((HK2.out.trans k3).trans k4) hX4
          · cases hand
end
end Go.Proofs.Ytjjbidajkmodfaa
namespace Go.Proofs.Ytjjbidajkmodfaa
open Go Go.RowKit
theorem stars_cons (d : List Node) (F : Fm) (at_ : Int) (bd : List Nat) (st : St) (x y : Nat) (ps vs : List Nat) : stars d F at_ bd st (x :: ps) (y :: vs) =
    (stars d F at_ bd st ps vs).bind fun b => (put b.2 { kind := 6, at_ := at_, p := [(nd d x).s], l := [b.1] }).bind fun f => call F at_ f.1 f.2 [y] := by rw [stars]
theorem stars_nil (d : List Node) (F : Fm) (at_ : Int) (bd : List Nat) (st : St) (vs : List Nat) : stars d F at_ bd st [] vs = body F at_ st bd := by rw [stars]; simp
section
variable (p b off c : Nat) (d : List Node)
structure LetsCap (S : Seal) (i bp bx bd bf bv : Nat) (pv vv : Value) (ps vs : List Nat) : Prop where
  hp : Sc S bp 0 pv
  hx : Sc S bx 0 (ptr p)
  hd : Sc S bd 0 (elem b off i)
  hf : Sc S bf 0 (.func (.func 105) #[] #[ptr bp, ptr bx, ptr bd, ptr bf, ptr bv])
  hv : Sc S bv 0 vv
  rp : NatsR S pv ps
  rv : NatsR S vv vs
theorem LetsCap.mono {p b off : Nat} {S S' : Seal} (k : S.le S') {i bp bx bd bf bv : Nat} {pv vv : Value} {ps vs : List Nat} (h : LetsCap p b off S i bp bx bd bf bv pv vv ps vs) : LetsCap p b off S' i bp bx bd bf bv pv vv ps vs :=
  ⟨h.hp.mono k, h.hx.mono k, h.hd.mono k, h.hf.mono k, h.hv.mono k, h.rp.mono k, h.rv.mono k⟩
set_option maxRecDepth 100000 in
set_option maxHeartbeats 2000000 in
theorem P_lets11 (bf bk k : Nat) (cp cx cd cf cv : Value) (w : World) (S : Seal) (X : Seal → World → Prop) (v : Nat) (hk : k < 4611686018427387904)
    (e1 : w.cell? ⟨bf, 0, none⟩ = some (.func (.func 105) #[] #[cp, cx, cd, cf, cv])) (e2 : w.cell? ⟨bk, 0, none⟩ = some (nat k))
    (H : ∀ z : Int, z = ((k + 1 : Nat) : Int) → Calls Try.prog 105 #[.int .i64 z, cp, cx, cd, cf, cv] w (Ret S X (nat v))) :
    Calls Try.prog 106 #[ptr bf, ptr bk] w (Ret S X (nat v)) := by
  have HH := hid (H ((k : Int) + 1) (by simp))
  clear H
  go_enter Try.func106, Try.ntmps106
  go_wp2_with fail
  refine (HH.out).mono ?_
  rintro e w1 ⟨rfl, S1, k1, hX1⟩
  go_wp2_with fail
  go_ret
  exact Ret.intro rfl k1 hX1
set_option maxRecDepth 100000 in
set_option maxHeartbeats 4000000 in
theorem P_lets1 (F : Fm) (HF : OkP p b off c d F) (i bp bx bd bf bv : Nat) (pv vv : Value) (ps vs : List Nat) (hi : i < d.length) (hlen3 : 3 ≤ (nd d i).l.length) (hps : ∀ j ∈ ps, j < d.length) (hvs : ∀ j ∈ vs, j < d.length) (hll : ps.length ≤ 1099511627776) (hpv : ps.length = vs.length) :
    ∀ (n k : Nat), k + n = ps.length → ∀ (st : St) (L : List Atom) (S : Seal) (w : World) (z : Int) (r : Nat) (st' : St), z = (k : Int) → PX p (dval b off c d) st L S w → Env S b off c d → LetsCap p b off S i bp bx bd bf bv pv vv ps vs →
    stars d F (nd d i).at_ ((nd d i).l.drop 2) st (ps.drop k) (vs.drop k) = some (r, st') →
    Calls Try.prog 105 #[.int .i64 z, ptr bp, ptr bx, ptr bd, ptr bf, ptr bv] w (Ret S (PX p (dval b off c d) st' L) (nat r))
  | 0, k, hkn, st, L, S, w, z, r, st', hz, hX, hE, hC, hr => by
    subst hz
    have X := PX.xs p (dval b off c d) st
    have hk : k = ps.length := by omega
    rw [hk, List.drop_length, stars_nil] at hr
    obtain ⟨S2, k2, hX2, s2⟩ := X.box hX #[nat k] 3
    have HC := hid (hC.mono k2)
    have HE := hid (hE.mono k2)
    obtain ⟨lv, hN⟩ := HE.out.at_ i hi
    obtain ⟨b1, o1, c1, hlv, h1, h2, _⟩ := hN.l.at_ (by intro h; rw [h] at hlen3; simp at hlen3)
    subst hlv
    obtain ⟨A3, c3, hpv3, _, _⟩ := Sl.shape hC.rp
    subst hpv3
    have e1 := X.cell hX2 HC.out.hp
    have e2 := X.cell hX2 HC.out.hx
    have e3 := X.cell hX2 HC.out.hd
    have e4 := X.cell hX2 hN.c1
    have e5 := X.cell hX2 hN.c4
    have hc : ¬ c1 = 2 := by omega
    have hlI : (2 : Int) ≤ ((nd d i).l.length : Int) := by omega
    have Hl := hid (hN.l.drop (k := 2) (by omega) (by omega))
    have HX2 := hid hX2
    have Hr := hid hr
    have HF := hid HF
    have Hin : Hid (∀ j ∈ (nd d i).l.drop 2, j < d.length) := hid fun j hj => by have := HE.out.dat.par i hi j (List.mem_of_mem_drop hj); omega
    have Hll : Hid (((nd d i).l.drop 2).length ≤ 1099511627776) := hid (by have := HE.out.dat.ll i hi; simp; omega)
    have hkb : ((k : Int) == (ps.length : Int)) = true := by rw [hk]; simp
    clear hX hE hC hr hX2 s2 hk hN
    go_enter Try.func105, Try.ntmps105
    go_wp2_with fail
    refine wp_plan 10 (.take 0 (.take 1 (.take 2 (.take 3 (.take 4 (.take 5 (.take 6 (.take 7 (.take 8 (.take 9 .fin)))))))))) (fun w_ => w_ = _) (by kernel_rfl) (by kernel_rfl) (fun _ _ d_ _ _ h_ => by cases d_ <;> exact h_) rfl ?_
    refine Pl.takeW rfl rfl ?v1 ?hy1 ?rest1
    case hy1 => intro w_ hS_; subst hS_; first | (go_simp; done) | (go_simp; with_reducible rfl)
    simp only [Act.put, List.setIfInBounds_toArray, List.set_cons_zero, List.set_cons_succ]
    refine Pl.takeW rfl rfl ?v2 ?hy2 ?rest2
    case hy2 => intro w_ hS_; subst hS_; first | (go_simp; done) | (go_simp; with_reducible rfl)
    simp only [Act.put, List.setIfInBounds_toArray, List.set_cons_zero, List.set_cons_succ]
    refine Pl.takeW rfl rfl ?v3 ?hy3 ?rest3
    case hy3 => intro w_ _; first | (go_simp; done) | (go_simp; with_reducible rfl)
    simp only [Act.put, List.setIfInBounds_toArray, List.set_cons_zero, List.set_cons_succ]
    refine Pl.takeW rfl rfl ?v4 ?hy4 ?rest4
    case hy4 => intro w_ _; first | (go_simp; done) | (go_simp; with_reducible rfl)
    simp only [Act.put, List.setIfInBounds_toArray, List.set_cons_zero, List.set_cons_succ]
    refine Pl.takeW rfl rfl ?v5 ?hy5 ?rest5
    case hy5 => intro w_ hS_; subst hS_; first | (go_simp; done) | (go_simp; with_reducible rfl)
    simp only [Act.put, List.setIfInBounds_toArray, List.set_cons_zero, List.set_cons_succ]
    refine Pl.takeW rfl rfl ?v6 ?hy6 ?rest6
    case hy6 => intro w_ hS_; subst hS_; first | (go_simp; done) | (go_simp; with_reducible rfl)
    simp only [Act.put, List.setIfInBounds_toArray, List.set_cons_zero, List.set_cons_succ]
    refine Pl.takeW rfl rfl ?v7 ?hy7 ?rest7
    case hy7 => intro w_ _; first | (go_simp; done) | (go_simp; with_reducible rfl)
    simp only [Act.put, List.setIfInBounds_toArray, List.set_cons_zero, List.set_cons_succ]
    refine Pl.takeW rfl rfl ?v8 ?hy8 ?rest8
    case hy8 => intro w_ _; first | (go_simp; done) | (go_simp; with_reducible rfl)
    simp only [Act.put, List.setIfInBounds_toArray, List.set_cons_zero, List.set_cons_succ]
    refine Pl.takeW rfl rfl ?v9 ?hy9 ?rest9
    case hy9 => intro w_ hS_; subst hS_; first | (go_simp; done) | (go_simp; with_reducible rfl)
    simp only [Act.put, List.setIfInBounds_toArray, List.set_cons_zero, List.set_cons_succ]
    refine Pl.takeW rfl rfl ?v10 ?hy10 ?rest10
    case hy10 => intro w_ _; first | (go_simp; done) | (go_simp; with_reducible rfl)
    simp only [Act.put, List.setIfInBounds_toArray, List.set_cons_zero, List.set_cons_succ]
    show wpList _ _ _ _ _ _
    simp only [List.drop_succ_cons, List.drop_zero]
    go_wp2_with fail
    refine (P_body p b off c d st L S2 _ F HF.out _ _ _ r st' (X.drew HX2.out) HE.out Hl.out Hin.out Hll.out Hr.out).mono ?_
    rintro e w1 ⟨rfl, S1, k1, hX1⟩
    go_wp2_with fail
    go_ret
    exact Ret.intro rfl (k2.trans k1) hX1
  | n + 1, k, hkn, st, L, S, w, z, r, st', hz, hX, hE, hC, hr => by
    subst hz
    have X := PX.xs p (dval b off c d) st
    have ih := hid (P_lets1 F HF i bp bx bd bf bv pv vv ps vs hi hlen3 hps hvs hll hpv n (k + 1) (by omega))
    have hk : k < ps.length := by omega
    have hkv : k < vs.length := by omega
    rw [List.drop_eq_getElem_cons hk, List.drop_eq_getElem_cons hkv, stars_cons] at hr
    simp only [Option.bind_eq_some_iff] at hr
    obtain ⟨⟨y1, st1⟩, hr1, ⟨y2, st2⟩, hr2, hr3⟩ := hr
    obtain ⟨S2, k2, hX2, s2⟩ := X.box hX #[nat k] 3
    have HC := hid (hC.mono k2)
    have HE := hid (hE.mono k2)
    obtain ⟨lv, hN⟩ := HE.out.at_ i hi
    have hxp := hps _ (List.getElem_mem hk)
    have hyv := hvs _ (List.getElem_mem hkv)
    obtain ⟨lvx, hM⟩ := HE.out.at_ _ hxp
    obtain ⟨b3, o3, c3, hpv3, _, _, hcp⟩ := HC.out.rp.at_ (by intro h; subst h; simp at hk)
    subst hpv3
    obtain ⟨b4, o4, c4, hvv4, _, _, hcv⟩ := HC.out.rv.at_ (by intro h; subst h; simp at hkv)
    subst hvv4
    have Hcp := hid (hcp k _ (List.getElem?_eq_some_iff.2 ⟨hk, rfl⟩))
    have Hcv := hid (hcv k _ (List.getElem?_eq_some_iff.2 ⟨hkv, rfl⟩))
    generalize hgx : ps[k] = x at *
    generalize hgy : vs[k] = y at *
    have Hlen := hid (Dat.len HE.out)
    have HN := hid hN
    have HM := hid hM
    have HX2 := hid hX2
    have HF := hid HF
    have Hr1 := hid hr1
    have Hr2 := hid hr2
    have Hr3 := hid hr3
    have Hk := hid (s2 0 _ rfl)
    have hkb : ((k : Int) == (ps.length : Int)) = false := by rw [beq_eq_false_iff_ne]; omega
    have e1 := X.cell HX2.out HC.out.hp
    have e2 := X.cell HX2.out (s2 0 _ rfl)
    have hkI : (k : Int) < (ps.length : Int) := by omega
    have hkI2 : (k : Int) < (vs.length : Int) := by omega
    have hxI : (x : Int) < (d.length : Int) := by omega
    obtain ⟨S3, k3, hX3, s3⟩ := X.box (X.drew HX2.out) #[str (nd d x).s] 9
    have hsz : (w.alloc (.cells #[nat k] 3)).drew.heap.size = w.heap.size + 1 := by simp
    rw [hsz] at s3
    have HX3 := hid hX3
    have HK3 := hid k3
    have Hs3 := hid (StrsR.box1 s3)
    have HC3 := hid (HC.out.mono k3)
    clear hX hE hC hr1 hr2 hr3 hX2 s2 hN hM hgx hgy hcp hcv hX3 k3 s3 hsz
    have hlen := Hlen.out
    go_enter Try.func105, Try.ntmps105
    go_wp2_with fail
    clear e1 e2
    refine wp_plan 18 (.take 0 (.take 1 (.take 2 (.take 3 (.take 4 (.take 5 (.take 6 (.take 7 (.take 8 (.take 9 (.take 10 (.take 11 (.take 12 (.take 13 (.take 14 (.take 15 (.take 17 (.one 16 .fin)))))))))))))))))) (fun w' => w'.cell? ⟨p, 0, none⟩ = some (dval b off c d) ∧ w'.cell? ⟨bp, 0, none⟩ = some (.slice (some ⟨b3, o3, none⟩) ps.length c3) ∧ w'.cell? ⟨bx, 0, none⟩ = some (ptr p) ∧ w'.cell? ⟨bd, 0, none⟩ = some (elem b off i) ∧ w'.cell? ⟨b, off + i * 5 + 1, none⟩ = some (.int .i64 (nd d i).at_) ∧ w'.cell? ⟨w.heap.size, 0, none⟩ = some (nat k) ∧ w'.cell? ⟨b3, o3 + k, none⟩ = some (nat x) ∧ w'.cell? ⟨b, off + x * 5 + 3, none⟩ = some (str (nd d x).s)) (by kernel_rfl) (by kernel_rfl) (fun _ _ d_ _ _ h_ => by cases d_ <;> exact h_) (by have h := HX2.out; exact ⟨h.d0, h.cell HC.out.hp, h.cell HC.out.hx, h.cell HC.out.hd, h.cell HN.out.c1, h.cell Hk.out, h.cell Hcp.out, h.cell HM.out.c3⟩) ?_
    refine Pl.takeW rfl rfl ?v11 ?hy11 ?rest11
    case hy11 => intro w_ hS_; obtain ⟨f0, f1, f2, f3, f4, f5, f6, f7⟩ := hS_; first | (go_simp; done) | (go_simp; with_reducible rfl)
    simp only [Act.put, List.setIfInBounds_toArray, List.set_cons_zero, List.set_cons_succ]
    refine Pl.takeW rfl rfl ?v12 ?hy12 ?rest12
    case hy12 => intro w_ hS_; obtain ⟨f0, f1, f2, f3, f4, f5, f6, f7⟩ := hS_; first | (go_simp; done) | (go_simp; with_reducible rfl)
    simp only [Act.put, List.setIfInBounds_toArray, List.set_cons_zero, List.set_cons_succ]
    refine Pl.takeW rfl rfl ?v13 ?hy13 ?rest13
    case hy13 => intro w_ _; first | (go_simp; done) | (go_simp; with_reducible rfl)
    simp only [Act.put, List.setIfInBounds_toArray, List.set_cons_zero, List.set_cons_succ]
    refine Pl.takeW rfl rfl ?v14 ?hy14 ?rest14
    case hy14 => intro w_ _; first | (go_simp; done) | (go_simp; with_reducible rfl)
    simp only [Act.put, List.setIfInBounds_toArray, List.set_cons_zero, List.set_cons_succ]
    refine Pl.takeW rfl rfl ?v15 ?hy15 ?rest15
    case hy15 => intro w_ hS_; obtain ⟨f0, f1, f2, f3, f4, f5, f6, f7⟩ := hS_; first | (go_simp; done) | (go_simp; with_reducible rfl)
    simp only [Act.put, List.setIfInBounds_toArray, List.set_cons_zero, List.set_cons_succ]
    refine Pl.takeW rfl rfl ?v16 ?hy16 ?rest16
    case hy16 => intro w_ hS_; obtain ⟨f0, f1, f2, f3, f4, f5, f6, f7⟩ := hS_; first | (go_simp; done) | (go_simp; with_reducible rfl)
    simp only [Act.put, List.setIfInBounds_toArray, List.set_cons_zero, List.set_cons_succ]
    refine Pl.takeW rfl rfl ?v17 ?hy17 ?rest17
    case hy17 => intro w_ _; first | (go_simp; done) | (go_simp; with_reducible rfl)
    simp only [Act.put, List.setIfInBounds_toArray, List.set_cons_zero, List.set_cons_succ]
    refine Pl.takeW rfl rfl ?v18 ?hy18 ?rest18
    case hy18 => intro w_ _; first | (go_simp; done) | (go_simp; with_reducible rfl)
    simp only [Act.put, List.setIfInBounds_toArray, List.set_cons_zero, List.set_cons_succ]
    refine Pl.takeW rfl rfl ?v19 ?hy19 ?rest19
    case hy19 => intro w_ hS_; obtain ⟨f0, f1, f2, f3, f4, f5, f6, f7⟩ := hS_; first | (go_simp; done) | (go_simp; with_reducible rfl)
    simp only [Act.put, List.setIfInBounds_toArray, List.set_cons_zero, List.set_cons_succ]
    refine Pl.takeW rfl rfl ?v20 ?hy20 ?rest20
    case hy20 => intro w_ hS_; obtain ⟨f0, f1, f2, f3, f4, f5, f6, f7⟩ := hS_; first | (go_simp; done) | (go_simp; with_reducible rfl)
    simp only [Act.put, List.setIfInBounds_toArray, List.set_cons_zero, List.set_cons_succ]
    refine Pl.takeW rfl rfl ?v21 ?hy21 ?rest21
    case hy21 => intro w_ hS_; obtain ⟨f0, f1, f2, f3, f4, f5, f6, f7⟩ := hS_; first | (go_simp; done) | (go_simp; with_reducible rfl)
    simp only [Act.put, List.setIfInBounds_toArray, List.set_cons_zero, List.set_cons_succ]
    refine Pl.takeW rfl rfl ?v22 ?hy22 ?rest22
    case hy22 => intro w_ _; first | (go_simp; done) | (go_simp; with_reducible rfl)
    simp only [Act.put, List.setIfInBounds_toArray, List.set_cons_zero, List.set_cons_succ]
    refine Pl.takeW rfl rfl ?v23 ?hy23 ?rest23
    case hy23 => intro w_ hS_; obtain ⟨f0, f1, f2, f3, f4, f5, f6, f7⟩ := hS_; first | (go_simp; done) | (go_simp; with_reducible rfl)
    simp only [Act.put, List.setIfInBounds_toArray, List.set_cons_zero, List.set_cons_succ]
    refine Pl.takeW rfl rfl ?v24 ?hy24 ?rest24
    case hy24 => intro w_ _; first | (go_simp; done) | (go_simp; with_reducible rfl)
    simp only [Act.put, List.setIfInBounds_toArray, List.set_cons_zero, List.set_cons_succ]
    refine Pl.takeW rfl rfl ?v25 ?hy25 ?rest25
    case hy25 => intro w_ _; first | (go_simp; done) | (go_simp; with_reducible rfl)
    simp only [Act.put, List.setIfInBounds_toArray, List.set_cons_zero, List.set_cons_succ]
    refine Pl.takeW rfl rfl ?v26 ?hy26 ?rest26
    case hy26 => intro w_ hS_; obtain ⟨f0, f1, f2, f3, f4, f5, f6, f7⟩ := hS_; first | (go_simp; done) | (go_simp; with_reducible rfl)
    simp only [Act.put, List.setIfInBounds_toArray, List.set_cons_zero, List.set_cons_succ]
    refine Pl.takeW rfl rfl ?v27 ?hy27 ?rest27
    case hy27 => intro w_ _; first | (go_simp; done) | (go_simp; with_reducible rfl)
    simp only [Act.put, List.setIfInBounds_toArray, List.set_cons_zero, List.set_cons_succ]
    refine Pl.oneW rfl rfl (fun K_ hK_ => ?_)
    go_simp
    refine hK_ _ _ ?_ ?_
    · have h := HX3.out
      exact ⟨h.d0, h.cell HC3.out.hp, h.cell HC3.out.hx, h.cell HC3.out.hd, h.cell (HN.out.c1.mono HK3.out), h.cell (Hk.out.mono HK3.out), h.cell (Hcp.out.mono HK3.out), h.cell (HM.out.c3.mono HK3.out)⟩
    show wpList _ _ _ _ _ _
    simp only [List.drop_succ_cons, List.drop_zero]
    go_wp2_with fail
    refine (P_fn p b off c d L S3 _ 106 #[ptr bf, ptr w.heap.size] (fun w => by kernel_rfl) (nd d i).at_ _ [(nd d x).s] y1 y2 st1 st2 Hs3.out (P_lets11 bf w.heap.size k _ _ _ _ _ _ S3 _ y1 (by omega) (X.cell HX3.out HC3.out.hf) (X.cell HX3.out (Hk.out.mono HK3.out)) (fun z hz => ih.out st L S3 _ z y1 st1 hz HX3.out (HE.out.mono HK3.out) HC3.out Hr1.out)) Hr2.out).mono ?_
    rintro e w1 ⟨rfl, S1, k1, hX1⟩
    have X2 := PX.xs p (dval b off c d) st2
    have HX1 := hid hX1
    have HK1 := hid (HK3.out.trans k1)
    clear hX1 k1
    obtain ⟨S8, k8, hX8, s8⟩ := X2.box (X2.drew HX1.out) #[nat y] 3
    have HX8 := hid hX8
    have HK8 := hid (HK1.out.trans k8)
    have HS8 := hid (NatsR.box1 s8)
    go_wp2_with fail
    refine wp_plan 11 (.take 0 (.take 1 (.take 2 (.take 3 (.take 4 (.take 5 (.take 6 (.take 7 (.take 8 (.take 9 (.one 10 .fin))))))))))) (fun w' => w'.cell? ⟨bx, 0, none⟩ = some (ptr p) ∧ w'.cell? ⟨bd, 0, none⟩ = some (elem b off i) ∧ w'.cell? ⟨b, off + i * 5 + 1, none⟩ = some (.int .i64 (nd d i).at_) ∧ w'.cell? ⟨w.heap.size, 0, none⟩ = some (nat k) ∧ w'.cell? ⟨bv, 0, none⟩ = some (.slice (some ⟨b4, o4, none⟩) vs.length c4) ∧ w'.cell? ⟨b4, o4 + k, none⟩ = some (nat y)) (by kernel_rfl) (by kernel_rfl) (fun _ _ d_ _ _ h_ => by cases d_ <;> exact h_) (⟨X2.cell (X2.drew HX1.out) (HC.out.hx.mono HK1.out), X2.cell (X2.drew HX1.out) (HC.out.hd.mono HK1.out), X2.cell (X2.drew HX1.out) (HN.out.c1.mono HK1.out), X2.cell (X2.drew HX1.out) (Hk.out.mono HK1.out), X2.cell (X2.drew HX1.out) (HC.out.hv.mono HK1.out), X2.cell (X2.drew HX1.out) (Hcv.out.mono HK1.out)⟩) ?_
    refine Pl.takeW rfl rfl ?v28 ?hy28 ?rest28
    case hy28 => intro w_ hS_; obtain ⟨f_xb, f_db, f_eb, f_kb, f_vb, f_vk⟩ := hS_; first | (go_simp; done) | (go_simp; with_reducible rfl)
    simp only [Act.put, List.setIfInBounds_toArray, List.set_cons_zero, List.set_cons_succ]
    refine Pl.takeW rfl rfl ?v29 ?hy29 ?rest29
    case hy29 => intro w_ hS_; obtain ⟨f_xb, f_db, f_eb, f_kb, f_vb, f_vk⟩ := hS_; first | (go_simp; done) | (go_simp; with_reducible rfl)
    simp only [Act.put, List.setIfInBounds_toArray, List.set_cons_zero, List.set_cons_succ]
    refine Pl.takeW rfl rfl ?v30 ?hy30 ?rest30
    case hy30 => intro w_ _; first | (go_simp; done) | (go_simp; with_reducible rfl)
    simp only [Act.put, List.setIfInBounds_toArray, List.set_cons_zero, List.set_cons_succ]
    refine Pl.takeW rfl rfl ?v31 ?hy31 ?rest31
    case hy31 => intro w_ _; first | (go_simp; done) | (go_simp; with_reducible rfl)
    simp only [Act.put, List.setIfInBounds_toArray, List.set_cons_zero, List.set_cons_succ]
    refine Pl.takeW rfl rfl ?v32 ?hy32 ?rest32
    case hy32 => intro w_ hS_; obtain ⟨f_xb, f_db, f_eb, f_kb, f_vb, f_vk⟩ := hS_; first | (go_simp; done) | (go_simp; with_reducible rfl)
    simp only [Act.put, List.setIfInBounds_toArray, List.set_cons_zero, List.set_cons_succ]
    refine Pl.takeW rfl rfl ?v33 ?hy33 ?rest33
    case hy33 => intro w_ _; first | (go_simp; done) | (go_simp; with_reducible rfl)
    simp only [Act.put, List.setIfInBounds_toArray, List.set_cons_zero, List.set_cons_succ]
    refine Pl.takeW rfl rfl ?v34 ?hy34 ?rest34
    case hy34 => intro w_ hS_; obtain ⟨f_xb, f_db, f_eb, f_kb, f_vb, f_vk⟩ := hS_; first | (go_simp; done) | (go_simp; with_reducible rfl)
    simp only [Act.put, List.setIfInBounds_toArray, List.set_cons_zero, List.set_cons_succ]
    refine Pl.takeW rfl rfl ?v35 ?hy35 ?rest35
    case hy35 => intro w_ hS_; obtain ⟨f_xb, f_db, f_eb, f_kb, f_vb, f_vk⟩ := hS_; first | (go_simp; done) | (go_simp; with_reducible rfl)
    simp only [Act.put, List.setIfInBounds_toArray, List.set_cons_zero, List.set_cons_succ]
    refine Pl.takeW rfl rfl ?v36 ?hy36 ?rest36
    case hy36 => intro w_ _; first | (go_simp; done) | (go_simp; with_reducible rfl)
    simp only [Act.put, List.setIfInBounds_toArray, List.set_cons_zero, List.set_cons_succ]
    refine Pl.takeW rfl rfl ?v37 ?hy37 ?rest37
    case hy37 => intro w_ hS_; obtain ⟨f_xb, f_db, f_eb, f_kb, f_vb, f_vk⟩ := hS_; first | (go_simp; done) | (go_simp; with_reducible rfl)
    simp only [Act.put, List.setIfInBounds_toArray, List.set_cons_zero, List.set_cons_succ]
    refine Pl.oneW rfl rfl (fun K_ hK_ => ?_)
    go_simp
    refine hK_ _ _ ⟨X2.cell HX8.out ((HC.out.hx.mono HK1.out).mono (k8)), X2.cell HX8.out ((HC.out.hd.mono HK1.out).mono (k8)), X2.cell HX8.out ((HN.out.c1.mono HK1.out).mono (k8)), X2.cell HX8.out ((Hk.out.mono HK1.out).mono (k8)), X2.cell HX8.out ((HC.out.hv.mono HK1.out).mono (k8)), X2.cell HX8.out ((Hcv.out.mono HK1.out).mono (k8))⟩ ?_
    show wpList _ _ _ _ _ _
    simp only [List.drop_succ_cons, List.drop_zero]
    clear hX8 s8
    go_wp2_with fail
    refine (P_call p b off c d st2 L S8 _ F HF.out (nd d i).at_ y2 _ [y] r st' HX8.out (HE.out.mono HK8.out) HS8.out (by intro j hj; rw [List.mem_singleton.1 hj]; exact hyv) (by simp) Hr3.out).mono ?_
    rintro e w7 ⟨rfl, S7, k7, hX7⟩
    go_wp2_with fail
    go_ret
    exact Ret.intro rfl ((k2.trans HK8.out).trans k7) hX7
end
end Go.Proofs.Ytjjbidajkmodfaa
