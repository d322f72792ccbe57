/- Texts R14, R15 of the proof. What each theorem says stands in its own statement. No condition beyond those that it names. -/
import Derived.Test.YtjjbidajkmodfaaXa7
import Derived.Test.YtjjbidajkmodfaaXa18
set_option linter.unusedVariables false
set_option linter.unusedSimpArgs false
namespace Go.Proofs.Ytjjbidajkmodfaa
open Go Go.RowKit
section
variable (p b off c : Nat) (d : List Node) (st : St) (L : List Atom) (S : Seal) (w : World)
set_option maxRecDepth 100000 in
set_option maxHeartbeats 16000000 in
theorem R_spSet (top : Bool) (F : Fm) (HF : OkR p b off c d F) (i r : Nat) (st' : St) (hX : RX p (dval b off c d) st L S w) (hE : Env S b off c d) (hi : i < d.length) (h0 : (nd d i).l ≠ []) (hs : headName d i = sSet) (hr : setS d F i st = some (r, st')) :
    Calls Try.prog 38 #[ptr p, nat i, .bool top] w (Ret S (RX p (dval b off c d) st' L) (nat r)) := by
  have X := RX.xs p (dval b off c d) st
  have hlenD := Dat.len hE
  have hiI : (i : Int) < (d.length : Int) := by omega
  have hll := hE.dat.ll i hi
  have Hpar := hid (hE.dat.par i hi)
  obtain ⟨lv, hN⟩ := hE.at_ i hi
  have x0 := hX.d0
  obtain ⟨A1, c1, hlv, hc1, hc2⟩ := Sl.shape hN.l
  subst hlv
  have n0 := X.cell hX hN.c0
  have n1 := X.cell hX hN.c1
  have n2 := X.cell hX hN.c2
  have n3 := X.cell hX hN.c3
  have n4 := X.cell hX hN.c4
  obtain ⟨S1, k1, hX1, s1⟩ := X.box hX #[.int .u8 (nd d i).kind, .int .i64 (nd d i).at_, .int .i64 (nd d i).n, str (nd d i).s, .slice A1 (nd d i).l.length c1] 60
  have Hd1 := hid (s1 1 _ rfl)
  have Hd4 := hid (s1 4 _ rfl)
  have d4 := X.cell hX1 Hd4.out
  have y0 := hX1.d0
  have HK1 := hid k1
  have HX1 := hid hX1
  have HE := hid (hE.mono k1)
  have HF := hid HF
  have HL := hid (hN.l.mono k1)
  clear hX hX1 hN hE s1 k1
  have hlen1 : 0 < (nd d i).l.length := List.length_pos_iff.2 h0
  have hl0I : (0 : Int) < ((nd d i).l.length : Int) := by omega
  obtain ⟨b1, o1, c2, hlv, _, _, hcc⟩ := HL.out.at_ h0
  simp only [Value.slice.injEq, true_and] at hlv
  obtain ⟨rfl, rfl⟩ := hlv
  obtain ⟨xh, hxh⟩ : ∃ xh, (nd d i).l[0]? = some xh := ⟨_, List.getElem?_eq_some_iff.2 ⟨hlen1, rfl⟩⟩
  have hgh : (nd d i).l.getD 0 0 = xh := by rw [List.getD_eq_getElem?_getD, hxh]; rfl
  have hih : xh < d.length := by have := Hpar.out xh (List.mem_of_getElem? hxh); omega
  have Hxh := hid (hcc 0 xh hxh)
  rw [Nat.add_zero] at Hxh
  have f0 := X.cell HX1.out Hxh.out
  obtain ⟨lvh, hNh⟩ := HE.out.at_ xh hih
  have m3 := X.cell HX1.out hNh.c3
  have hs' : (nd d xh).s = [115, 101, 116, 33] := by rw [← hgh]; exact hs
  rw [hs'] at m3
  replace m3 : World.cell? _ ⟨b, off + xh * 5 + 3, none⟩ = some (.string ⟨#[115, 101, 116, 33]⟩) := m3
  have hxhI : (xh : Int) < (d.length : Int) := by omega
  have Hcc := hid hcc
  have Hh0 := hid h0
  clear hcc hxh hgh hNh hs hs' h0
  unfold setS at hr
  by_cases h2 : (nd d i).l.length = 3
  case neg =>
    have h2b : (((nd d i).l.length : Int) != 3) = true := by simp only [bne_iff_ne]; omega
    rw [if_pos (.inl h2)] at hr
    have Hr := hid hr
    clear hr h2
    go_enter Try.func38, Try.ntmps38
    go_wp2_with fail
    refine wp_plan 8 (.take 0 (.take 1 (.take 2 (.take 3 (.take 4 (.take 5 (.take 6 (.take 7 .fin)))))))) (fun w_ => w_ = _) (by kernel_rfl) (by kernel_rfl) (fun _ _ d_ _ _ h_ => by cases d_ <;> exact h_) rfl ?_
    refine Pl.takeW rfl rfl ?v1 ?hy1 ?rest1
    case hy1 => intro w_ _; first | (go_simp; done) | (go_simp; with_reducible rfl)
    simp only [Act.put, List.setIfInBounds_toArray, List.set_cons_zero, List.set_cons_succ]
    refine Pl.takeW rfl rfl ?v2 ?hy2 ?rest2
    case hy2 => intro w_ _; first | (go_simp; done) | (go_simp; with_reducible rfl)
    simp only [Act.put, List.setIfInBounds_toArray, List.set_cons_zero, List.set_cons_succ]
    refine Pl.takeW rfl rfl ?v3 ?hy3 ?rest3
    case hy3 => intro w_ _; first | (go_simp; done) | (go_simp; with_reducible rfl)
    simp only [Act.put, List.setIfInBounds_toArray, List.set_cons_zero, List.set_cons_succ]
    refine Pl.takeW rfl rfl ?v4 ?hy4 ?rest4
    case hy4 => intro w_ hS_; subst hS_; first | (go_simp; done) | (go_simp; with_reducible rfl)
    simp only [Act.put, List.setIfInBounds_toArray, List.set_cons_zero, List.set_cons_succ]
    refine Pl.takeW rfl rfl ?v5 ?hy5 ?rest5
    case hy5 => intro w_ _; first | (go_simp; done) | (go_simp; with_reducible rfl)
    simp only [Act.put, List.setIfInBounds_toArray, List.set_cons_zero, List.set_cons_succ]
    refine Pl.takeW rfl rfl ?v6 ?hy6 ?rest6
    case hy6 => intro w_ hS_; subst hS_; first | (go_simp; done) | (go_simp; with_reducible rfl)
    simp only [Act.put, List.setIfInBounds_toArray, List.set_cons_zero, List.set_cons_succ]
    refine Pl.takeW rfl rfl ?v7 ?hy7 ?rest7
    case hy7 => intro w_ _; first | (go_simp; done) | (go_simp; with_reducible rfl)
    simp only [Act.put, List.setIfInBounds_toArray, List.set_cons_zero, List.set_cons_succ]
    refine Pl.takeW rfl rfl ?v8 ?hy8 ?rest8
    case hy8 => intro w_ hS_; subst hS_; first | (go_simp; done) | (go_simp; with_reducible rfl)
    simp only [Act.put, List.setIfInBounds_toArray, List.set_cons_zero, List.set_cons_succ]
    show wpList _ _ _ _ _ _
    simp only [List.drop_succ_cons, List.drop_zero]
    go_wp2_with fail
    refine (R_wrongR p b off c d st L S1 _ i r st' (X.drew HX1.out) HE.out hi Hr.out).mono ?_
    rintro e w5 ⟨rfl, S5, k5, hX5⟩
    go_wp2_with fail
    go_ret
    exact Ret.intro rfl (HK1.out.trans k5) hX5
  have h2b : (((nd d i).l.length : Int) != 3) = false := by rw [h2]; rfl
  have h1I : (1 : Int) < ((nd d i).l.length : Int) := by omega
  obtain ⟨x1, hx1⟩ : ∃ x1, (nd d i).l[1]? = some x1 := ⟨_, List.getElem?_eq_some_iff.2 ⟨by omega, rfl⟩⟩
  have hg1 : (nd d i).l.getD 1 0 = x1 := by rw [List.getD_eq_getElem?_getD, hx1]; rfl
  have hi1 : x1 < d.length := by have := Hpar.out x1 (List.mem_of_getElem? hx1); omega
  have Hx1 := hid (Hcc.out 1 x1 hx1)
  have f1 := X.cell HX1.out Hx1.out
  have h2I : (2 : Int) < ((nd d i).l.length : Int) := by omega
  obtain ⟨x2, hx2⟩ : ∃ x2, (nd d i).l[2]? = some x2 := ⟨_, List.getElem?_eq_some_iff.2 ⟨by omega, rfl⟩⟩
  have hg2 : (nd d i).l.getD 2 0 = x2 := by rw [List.getD_eq_getElem?_getD, hx2]; rfl
  have hi2 : x2 < d.length := by have := Hpar.out x2 (List.mem_of_getElem? hx2); omega
  have Hx2 := hid (Hcc.out 2 x2 hx2)
  have f2 := X.cell HX1.out Hx2.out
  rw [hg1, hg2] at hr
  have Hn := hid (R_name p b off c d st L S1 _ x1 (X.drew HX1.out) HE.out hi1)
  clear hx1 hg1 hx2 hg2
  by_cases hn : nameOf d x1 = []
  · rw [if_pos (.inr hn)] at hr
    rw [hn] at Hn
    have Hr := hid hr
    clear hr hn h2
    go_enter Try.func38, Try.ntmps38
    go_wp2_with fail
    refine wp_plan 8 (.take 0 (.take 1 (.take 2 (.take 3 (.take 4 (.take 5 (.take 6 (.take 7 .fin)))))))) (fun w_ => w_ = _) (by kernel_rfl) (by kernel_rfl) (fun _ _ d_ _ _ h_ => by cases d_ <;> exact h_) rfl ?_
    refine Pl.takeW rfl rfl ?v9 ?hy9 ?rest9
    case hy9 => intro w_ _; first | (go_simp; done) | (go_simp; with_reducible rfl)
    simp only [Act.put, List.setIfInBounds_toArray, List.set_cons_zero, List.set_cons_succ]
    refine Pl.takeW rfl rfl ?v10 ?hy10 ?rest10
    case hy10 => intro w_ _; first | (go_simp; done) | (go_simp; with_reducible rfl)
    simp only [Act.put, List.setIfInBounds_toArray, List.set_cons_zero, List.set_cons_succ]
    refine Pl.takeW rfl rfl ?v11 ?hy11 ?rest11
    case hy11 => intro w_ _; first | (go_simp; done) | (go_simp; with_reducible rfl)
    simp only [Act.put, List.setIfInBounds_toArray, List.set_cons_zero, List.set_cons_succ]
    refine Pl.takeW rfl rfl ?v12 ?hy12 ?rest12
    case hy12 => intro w_ hS_; subst hS_; first | (go_simp; done) | (go_simp; with_reducible rfl)
    simp only [Act.put, List.setIfInBounds_toArray, List.set_cons_zero, List.set_cons_succ]
    refine Pl.takeW rfl rfl ?v13 ?hy13 ?rest13
    case hy13 => intro w_ _; first | (go_simp; done) | (go_simp; with_reducible rfl)
    simp only [Act.put, List.setIfInBounds_toArray, List.set_cons_zero, List.set_cons_succ]
    refine Pl.takeW rfl rfl ?v14 ?hy14 ?rest14
    case hy14 => intro w_ hS_; subst hS_; first | (go_simp; done) | (go_simp; with_reducible rfl)
    simp only [Act.put, List.setIfInBounds_toArray, List.set_cons_zero, List.set_cons_succ]
    refine Pl.takeW rfl rfl ?v15 ?hy15 ?rest15
    case hy15 => intro w_ _; first | (go_simp; done) | (go_simp; with_reducible rfl)
    simp only [Act.put, List.setIfInBounds_toArray, List.set_cons_zero, List.set_cons_succ]
    refine Pl.takeW rfl rfl ?v16 ?hy16 ?rest16
    case hy16 => intro w_ hS_; subst hS_; first | (go_simp; done) | (go_simp; with_reducible rfl)
    simp only [Act.put, List.setIfInBounds_toArray, List.set_cons_zero, List.set_cons_succ]
    show wpList _ _ _ _ _ _
    simp only [List.drop_succ_cons, List.drop_zero]
    go_wp2_with fail
    refine (Hn.out).mono ?_
    rintro e w3 ⟨rfl, S3, k3, hX3⟩
    go_wp2_with fail
    refine (R_wrongR p b off c d st L S3 _ i r st' hX3 (HE.out.mono k3) hi Hr.out).mono ?_
    rintro e w4 ⟨rfl, S4, k4, hX4⟩
    go_wp2_with fail
    go_ret
    exact Ret.intro rfl ((HK1.out.trans k3).trans k4) hX4
  rw [if_neg (by rintro (h | h); exact h h2; exact hn h)] at hr
  have hb1 : (nameOf d x1 == []) = false := by simpa using hn
  have hb2 : (nameOf d x1).isEmpty = false := by simpa using hn
  obtain ⟨⟨z1, st1⟩, h1, hr⟩ := Option.bind_eq_some_iff.1 hr
  have H1 := hid h1
  have Hr := hid hr
  clear hr h1 hn h2
  go_enter Try.func38, Try.ntmps38
  go_wp2_with fail
  refine wp_plan 8 (.take 0 (.take 1 (.take 2 (.take 3 (.take 4 (.take 5 (.take 6 (.take 7 .fin)))))))) (fun w_ => w_ = _) (by kernel_rfl) (by kernel_rfl) (fun _ _ d_ _ _ h_ => by cases d_ <;> exact h_) rfl ?_
  refine Pl.takeW rfl rfl ?v17 ?hy17 ?rest17
  case hy17 => intro w_ _; first | (go_simp; done) | (go_simp; with_reducible rfl)
  simp only [Act.put, List.setIfInBounds_toArray, List.set_cons_zero, List.set_cons_succ]
  refine Pl.takeW rfl rfl ?v18 ?hy18 ?rest18
  case hy18 => intro w_ _; first | (go_simp; done) | (go_simp; with_reducible rfl)
  simp only [Act.put, List.setIfInBounds_toArray, List.set_cons_zero, List.set_cons_succ]
  refine Pl.takeW rfl rfl ?v19 ?hy19 ?rest19
  case hy19 => intro w_ _; first | (go_simp; done) | (go_simp; with_reducible rfl)
  simp only [Act.put, List.setIfInBounds_toArray, List.set_cons_zero, List.set_cons_succ]
  refine Pl.takeW rfl rfl ?v20 ?hy20 ?rest20
  case hy20 => intro w_ hS_; subst hS_; first | (go_simp; done) | (go_simp; with_reducible rfl)
  simp only [Act.put, List.setIfInBounds_toArray, List.set_cons_zero, List.set_cons_succ]
  refine Pl.takeW rfl rfl ?v21 ?hy21 ?rest21
  case hy21 => intro w_ _; first | (go_simp; done) | (go_simp; with_reducible rfl)
  simp only [Act.put, List.setIfInBounds_toArray, List.set_cons_zero, List.set_cons_succ]
  refine Pl.takeW rfl rfl ?v22 ?hy22 ?rest22
  case hy22 => intro w_ hS_; subst hS_; first | (go_simp; done) | (go_simp; with_reducible rfl)
  simp only [Act.put, List.setIfInBounds_toArray, List.set_cons_zero, List.set_cons_succ]
  refine Pl.takeW rfl rfl ?v23 ?hy23 ?rest23
  case hy23 => intro w_ _; first | (go_simp; done) | (go_simp; with_reducible rfl)
  simp only [Act.put, List.setIfInBounds_toArray, List.set_cons_zero, List.set_cons_succ]
  refine Pl.takeW rfl rfl ?v24 ?hy24 ?rest24
  case hy24 => intro w_ hS_; subst hS_; first | (go_simp; done) | (go_simp; with_reducible rfl)
  simp only [Act.put, List.setIfInBounds_toArray, List.set_cons_zero, List.set_cons_succ]
  show wpList _ _ _ _ _ _
  simp only [List.drop_succ_cons, List.drop_zero]
  go_wp2_with fail
  refine (Hn.out).mono ?_
  rintro e w3 ⟨rfl, S3, k3, hX3⟩
  have g4 := X.cell hX3 (Hd4.out.mono k3)
  have f2 := X.cell hX3 (Hx2.out.mono k3)
  have HX3 := hid hX3
  have HK3 := hid k3
  clear hX3 k3
  go_wp2_with fail
  refine (HF.out st L S3 _ x2 z1 st1 HX3.out (HE.out.mono HK3.out) hi2 H1.out).mono ?_
  rintro e w4 ⟨rfl, S4, k4, hX4⟩
  have X4 := RX.xs p (dval b off c d) st1
  have HX4 := hid hX4
  have HK4 := hid (HK3.out.trans k4)
  clear hX4 k4 g4 f2
  go_wp2_with fail
  refine wp_plan 12 (.take 0 (.take 1 (.take 2 (.take 3 (.take 4 (.take 5 (.take 6 (.take 7 (.take 9 (.two 8 10 (.one 10 (.take 11 .fin)) (.one 8 (.take 11 .fin)))))))))))) (fun w' => w'.cell? ⟨w.heap.size, 1, none⟩ = some (.int .i64 (nd d i).at_) ∧ w'.cell? ⟨w.heap.size, 4, none⟩ = some (.slice (some ⟨b1, o1, none⟩) (nd d i).l.length c1) ∧ w'.cell? ⟨b1, o1 + 1, none⟩ = some (nat x1)) (by kernel_rfl) (by kernel_rfl) (fun _ _ d_ _ _ h_ => by cases d_ <;> exact h_) (⟨X4.cell (X4.drew HX4.out) (Hd1.out.mono HK4.out), X4.cell (X4.drew HX4.out) (Hd4.out.mono HK4.out), X4.cell (X4.drew HX4.out) (Hx1.out.mono HK4.out)⟩) ?_
  refine Pl.takeW rfl rfl ?v25 ?hy25 ?rest25
  case hy25 => intro w_ _; first | (go_simp; done) | (go_simp; with_reducible rfl)
  simp only [Act.put, List.setIfInBounds_toArray, List.set_cons_zero, List.set_cons_succ]
  refine Pl.takeW rfl rfl ?v26 ?hy26 ?rest26
  case hy26 => intro w_ _; first | (go_simp; done) | (go_simp; with_reducible rfl)
  simp only [Act.put, List.setIfInBounds_toArray, List.set_cons_zero, List.set_cons_succ]
  refine Pl.takeW rfl rfl ?v27 ?hy27 ?rest27
  case hy27 => intro w_ hS_; obtain ⟨f_d1, f_d4, f_l1⟩ := hS_; first | (go_simp; done) | (go_simp; with_reducible rfl)
  simp only [Act.put, List.setIfInBounds_toArray, List.set_cons_zero, List.set_cons_succ]
  refine Pl.takeW rfl rfl ?v28 ?hy28 ?rest28
  case hy28 => intro w_ _; first | (go_simp; done) | (go_simp; with_reducible rfl)
  simp only [Act.put, List.setIfInBounds_toArray, List.set_cons_zero, List.set_cons_succ]
  refine Pl.takeW rfl rfl ?v29 ?hy29 ?rest29
  case hy29 => intro w_ _; first | (go_simp; done) | (go_simp; with_reducible rfl)
  simp only [Act.put, List.setIfInBounds_toArray, List.set_cons_zero, List.set_cons_succ]
  refine Pl.takeW rfl rfl ?v30 ?hy30 ?rest30
  case hy30 => intro w_ hS_; obtain ⟨f_d1, f_d4, f_l1⟩ := hS_; first | (go_simp; done) | (go_simp; with_reducible rfl)
  simp only [Act.put, List.setIfInBounds_toArray, List.set_cons_zero, List.set_cons_succ]
  refine Pl.takeW rfl rfl ?v31 ?hy31 ?rest31
  case hy31 => intro w_ _; first | (go_simp; done) | (go_simp; with_reducible rfl)
  simp only [Act.put, List.setIfInBounds_toArray, List.set_cons_zero, List.set_cons_succ]
  refine Pl.takeW rfl rfl ?v32 ?hy32 ?rest32
  case hy32 => intro w_ hS_; obtain ⟨f_d1, f_d4, f_l1⟩ := hS_; first | (go_simp; done) | (go_simp; with_reducible rfl)
  simp only [Act.put, List.setIfInBounds_toArray, List.set_cons_zero, List.set_cons_succ]
  refine Pl.takeW rfl rfl ?v33 ?hy33 ?rest33
  case hy33 => intro w_ _; first | (go_simp; done) | (go_simp; with_reducible rfl)
  simp only [Act.put, List.setIfInBounds_toArray, List.set_cons_zero, List.set_cons_succ]
  refine Pl.twoW ?_ ?_
  · refine Pl.oneW rfl rfl (fun K_ hK_ => ?_)
    go_simp
    refine (R_name p b off c d st1 L S4 _ x1 (X4.drew HX4.out) (HE.out.mono HK4.out) hi1).mono ?_
    rintro e w6 ⟨rfl, S6, k6, hX6⟩
    have HX6 := hid hX6
    have HK6 := hid k6
    refine hK_ _ _ ⟨X4.cell hX6 ((Hd1.out.mono HK4.out).mono (k6)), X4.cell hX6 ((Hd4.out.mono HK4.out).mono (k6)), X4.cell hX6 ((Hx1.out.mono HK4.out).mono (k6))⟩ ?_
    refine Pl.oneW rfl rfl (fun K_ hK_ => ?_)
    clear hX6 k6
    obtain ⟨S8, k8, hX8, s8⟩ := X4.box HX6.out #[nat z1] 3
    go_simp
    refine hK_ _ _ ⟨X4.cell hX8 ((Hd1.out.mono HK4.out).mono (HK6.out.trans k8)), X4.cell hX8 ((Hd4.out.mono HK4.out).mono (HK6.out.trans k8)), X4.cell hX8 ((Hx1.out.mono HK4.out).mono (HK6.out.trans k8))⟩ ?_
    refine Pl.takeW rfl rfl ?v34 ?hy34 ?rest34
    case hy34 => intro w_ _; first | (go_simp; done) | (go_simp; with_reducible rfl)
    simp only [Act.put, List.setIfInBounds_toArray, List.set_cons_zero, List.set_cons_succ]
    show wpList _ _ _ _ _ _
    simp only [List.drop_succ_cons, List.drop_zero]
    have HX8 := hid hX8
    have HK8 := hid ((HK4.out.trans HK6.out).trans k8)
    have HS8 := hid (NatsR.box1 s8)
    clear hX8 k8 s8
    go_wp2_with fail
    refine (R_put p (dval b off c d) st1 L S8 _ 7 (nd d i).at_ 0 0 (nameOf d x1) [] 0 [z1] (.slice none 0 0) (.slice (some ⟨w6.heap.size, 0, none⟩) 1 1) r st' HX8.out (StrsR.nil _) HS8.out Hr.out).mono ?_
    rintro e w5 ⟨rfl, S5, k5, hX5⟩
    go_wp2_with fail
    go_ret
    exact Ret.intro rfl ((HK1.out.trans HK8.out).trans k5) hX5
  · refine Pl.oneW rfl rfl (fun K_ hK_ => ?_)
    obtain ⟨S8, k8, hX8, s8⟩ := X4.box (X4.drew HX4.out) #[nat z1] 3
    have HS8 := hid (NatsR.box1 s8)
    have HX8 := hid hX8
    have HK8 := hid k8
    clear hX8 k8 s8
    go_simp
    refine hK_ _ _ ⟨X4.cell HX8.out ((Hd1.out.mono HK4.out).mono (HK8.out)), X4.cell HX8.out ((Hd4.out.mono HK4.out).mono (HK8.out)), X4.cell HX8.out ((Hx1.out.mono HK4.out).mono (HK8.out))⟩ ?_
    refine Pl.oneW rfl rfl (fun K_ hK_ => ?_)
    go_simp
    refine (R_name p b off c d st1 L S8 _ x1 HX8.out (HE.out.mono (HK4.out.trans HK8.out)) hi1).mono ?_
    rintro e w6 ⟨rfl, S6, k6, hX6⟩
    have HX6 := hid hX6
    have HK6 := hid k6
    refine hK_ _ _ ⟨X4.cell hX6 ((Hd1.out.mono HK4.out).mono (HK8.out.trans k6)), X4.cell hX6 ((Hd4.out.mono HK4.out).mono (HK8.out.trans k6)), X4.cell hX6 ((Hx1.out.mono HK4.out).mono (HK8.out.trans k6))⟩ ?_
    refine Pl.takeW rfl rfl ?v35 ?hy35 ?rest35
    case hy35 => intro w_ _; first | (go_simp; done) | (go_simp; with_reducible rfl)
    simp only [Act.put, List.setIfInBounds_toArray, List.set_cons_zero, List.set_cons_succ]
    show wpList _ _ _ _ _ _
    simp only [List.drop_succ_cons, List.drop_zero]
    clear hX6 k6
    go_wp2_with fail
    refine (R_put p (dval b off c d) st1 L S6 _ 7 (nd d i).at_ 0 0 (nameOf d x1) [] 0 [z1] (.slice none 0 0) (.slice (some ⟨w4.heap.size, 0, none⟩) 1 1) r st' HX6.out (StrsR.nil _) (HS8.out.mono HK6.out) Hr.out).mono ?_
    rintro e w5 ⟨rfl, S5, k5, hX5⟩
    go_wp2_with fail
    go_ret
    exact Ret.intro rfl (((HK1.out.trans (HK4.out.trans HK8.out)).trans HK6.out).trans k5) hX5
set_option maxRecDepth 100000 in
set_option maxHeartbeats 16000000 in
theorem R_spBegin (top : Bool) (F : Fm) (HF : OkR p b off c d F) (i r : Nat) (st' : St) (hX : RX p (dval b off c d) st L S w) (hE : Env S b off c d) (hi : i < d.length) (h0 : (nd d i).l ≠ []) (hs : headName d i = sBegin) (hr : beginS d F i st = some (r, st')) :
    Calls Try.prog 38 #[ptr p, nat i, .bool top] w (Ret S (RX p (dval b off c d) st' L) (nat r)) := by
  have X := RX.xs p (dval b off c d) st
  have hlenD := Dat.len hE
  have hiI : (i : Int) < (d.length : Int) := by omega
  have hll := hE.dat.ll i hi
  have Hpar := hid (hE.dat.par i hi)
  obtain ⟨lv, hN⟩ := hE.at_ i hi
  have x0 := hX.d0
  obtain ⟨A1, c1, hlv, hc1, hc2⟩ := Sl.shape hN.l
  subst hlv
  have n0 := X.cell hX hN.c0
  have n1 := X.cell hX hN.c1
  have n2 := X.cell hX hN.c2
  have n3 := X.cell hX hN.c3
  have n4 := X.cell hX hN.c4
  obtain ⟨S1, k1, hX1, s1⟩ := X.box hX #[.int .u8 (nd d i).kind, .int .i64 (nd d i).at_, .int .i64 (nd d i).n, str (nd d i).s, .slice A1 (nd d i).l.length c1] 60
  have Hd1 := hid (s1 1 _ rfl)
  have Hd4 := hid (s1 4 _ rfl)
  have d4 := X.cell hX1 Hd4.out
  have y0 := hX1.d0
  have HK1 := hid k1
  have HX1 := hid hX1
  have HE := hid (hE.mono k1)
  have HF := hid HF
  have HL := hid (hN.l.mono k1)
  clear hX hX1 hN hE s1 k1
  have hlen1 : 0 < (nd d i).l.length := List.length_pos_iff.2 h0
  have hl0I : (0 : Int) < ((nd d i).l.length : Int) := by omega
  obtain ⟨b1, o1, c2, hlv, _, _, hcc⟩ := HL.out.at_ h0
  simp only [Value.slice.injEq, true_and] at hlv
  obtain ⟨rfl, rfl⟩ := hlv
  obtain ⟨xh, hxh⟩ : ∃ xh, (nd d i).l[0]? = some xh := ⟨_, List.getElem?_eq_some_iff.2 ⟨hlen1, rfl⟩⟩
  have hgh : (nd d i).l.getD 0 0 = xh := by rw [List.getD_eq_getElem?_getD, hxh]; rfl
  have hih : xh < d.length := by have := Hpar.out xh (List.mem_of_getElem? hxh); omega
  have Hxh := hid (hcc 0 xh hxh)
  rw [Nat.add_zero] at Hxh
  have f0 := X.cell HX1.out Hxh.out
  obtain ⟨lvh, hNh⟩ := HE.out.at_ xh hih
  have m3 := X.cell HX1.out hNh.c3
  have hs' : (nd d xh).s = [98, 101, 103, 105, 110] := by rw [← hgh]; exact hs
  rw [hs'] at m3
  replace m3 : World.cell? _ ⟨b, off + xh * 5 + 3, none⟩ = some (.string ⟨#[98, 101, 103, 105, 110]⟩) := m3
  have hxhI : (xh : Int) < (d.length : Int) := by omega
  have Hcc := hid hcc
  have Hh0 := hid h0
  clear hcc hxh hgh hNh hs hs' h0
  unfold beginS at hr
  by_cases h2 : (nd d i).l.length < 2
  · have h2I : ((nd d i).l.length : Int) < 2 := by omega
    rw [if_pos h2] at hr
    have Hr := hid hr
    clear hr h2
    go_enter Try.func38, Try.ntmps38
    go_wp2_with fail
    refine wp_plan 8 (.take 0 (.take 1 (.take 2 (.take 3 (.take 4 (.take 5 (.take 6 (.take 7 .fin)))))))) (fun w_ => w_ = _) (by kernel_rfl) (by kernel_rfl) (fun _ _ d_ _ _ h_ => by cases d_ <;> exact h_) rfl ?_
    refine Pl.takeW rfl rfl ?v36 ?hy36 ?rest36
    case hy36 => intro w_ _; first | (go_simp; done) | (go_simp; with_reducible rfl)
    simp only [Act.put, List.setIfInBounds_toArray, List.set_cons_zero, List.set_cons_succ]
    refine Pl.takeW rfl rfl ?v37 ?hy37 ?rest37
    case hy37 => intro w_ _; first | (go_simp; done) | (go_simp; with_reducible rfl)
    simp only [Act.put, List.setIfInBounds_toArray, List.set_cons_zero, List.set_cons_succ]
    refine Pl.takeW rfl rfl ?v38 ?hy38 ?rest38
    case hy38 => intro w_ _; first | (go_simp; done) | (go_simp; with_reducible rfl)
    simp only [Act.put, List.setIfInBounds_toArray, List.set_cons_zero, List.set_cons_succ]
    refine Pl.takeW rfl rfl ?v39 ?hy39 ?rest39
    case hy39 => intro w_ hS_; subst hS_; first | (go_simp; done) | (go_simp; with_reducible rfl)
    simp only [Act.put, List.setIfInBounds_toArray, List.set_cons_zero, List.set_cons_succ]
    refine Pl.takeW rfl rfl ?v40 ?hy40 ?rest40
    case hy40 => intro w_ _; first | (go_simp; done) | (go_simp; with_reducible rfl)
    simp only [Act.put, List.setIfInBounds_toArray, List.set_cons_zero, List.set_cons_succ]
    refine Pl.takeW rfl rfl ?v41 ?hy41 ?rest41
    case hy41 => intro w_ hS_; subst hS_; first | (go_simp; done) | (go_simp; with_reducible rfl)
    simp only [Act.put, List.setIfInBounds_toArray, List.set_cons_zero, List.set_cons_succ]
    refine Pl.takeW rfl rfl ?v42 ?hy42 ?rest42
    case hy42 => intro w_ _; first | (go_simp; done) | (go_simp; with_reducible rfl)
    simp only [Act.put, List.setIfInBounds_toArray, List.set_cons_zero, List.set_cons_succ]
    refine Pl.takeW rfl rfl ?v43 ?hy43 ?rest43
    case hy43 => intro w_ hS_; subst hS_; first | (go_simp; done) | (go_simp; with_reducible rfl)
    simp only [Act.put, List.setIfInBounds_toArray, List.set_cons_zero, List.set_cons_succ]
    show wpList _ _ _ _ _ _
    simp only [List.drop_succ_cons, List.drop_zero]
    go_wp2_with fail
    refine (R_wrongR p b off c d st L S1 _ i r st' (X.drew HX1.out) HE.out hi Hr.out).mono ?_
    rintro e w5 ⟨rfl, S5, k5, hX5⟩
    go_wp2_with fail
    go_ret
    exact Ret.intro rfl (HK1.out.trans k5) hX5
  have h2I : ¬ ((nd d i).l.length : Int) < 2 := by omega
  rw [if_neg h2] at hr
  have hlI : (1 : Int) ≤ ((nd d i).l.length : Int) := by omega
  have htl := NatsR.tailD HL.out hlen1
  generalize hA : (if c1 = 1 then (some ⟨b1, o1, none⟩ : Option Addr) else some ⟨b1, o1 + 1, none⟩) = A1 at htl
  have Htl := hid htl
  have Hxl := hid (fun j (hj : j ∈ (nd d i).l.drop 1) => (by have := Hpar.out j (List.mem_of_mem_drop hj); omega : j < d.length))
  have e1 := X.cell HX1.out Hd1.out
  have Hr := hid hr
  clear hr htl
  clear h2
  go_enter Try.func38, Try.ntmps38
  go_wp2_with fail
  refine wp_plan 8 (.take 0 (.take 1 (.take 2 (.take 3 (.take 4 (.take 5 (.take 6 (.take 7 .fin)))))))) (fun w_ => w_ = _) (by kernel_rfl) (by kernel_rfl) (fun _ _ d_ _ _ h_ => by cases d_ <;> exact h_) rfl ?_
  refine Pl.takeW rfl rfl ?v44 ?hy44 ?rest44
  case hy44 => intro w_ _; first | (go_simp; done) | (go_simp; with_reducible rfl)
  simp only [Act.put, List.setIfInBounds_toArray, List.set_cons_zero, List.set_cons_succ]
  refine Pl.takeW rfl rfl ?v45 ?hy45 ?rest45
  case hy45 => intro w_ _; first | (go_simp; done) | (go_simp; with_reducible rfl)
  simp only [Act.put, List.setIfInBounds_toArray, List.set_cons_zero, List.set_cons_succ]
  refine Pl.takeW rfl rfl ?v46 ?hy46 ?rest46
  case hy46 => intro w_ _; first | (go_simp; done) | (go_simp; with_reducible rfl)
  simp only [Act.put, List.setIfInBounds_toArray, List.set_cons_zero, List.set_cons_succ]
  refine Pl.takeW rfl rfl ?v47 ?hy47 ?rest47
  case hy47 => intro w_ hS_; subst hS_; first | (go_simp; done) | (go_simp; with_reducible rfl)
  simp only [Act.put, List.setIfInBounds_toArray, List.set_cons_zero, List.set_cons_succ]
  refine Pl.takeW rfl rfl ?v48 ?hy48 ?rest48
  case hy48 => intro w_ _; first | (go_simp; done) | (go_simp; with_reducible rfl)
  simp only [Act.put, List.setIfInBounds_toArray, List.set_cons_zero, List.set_cons_succ]
  refine Pl.takeW rfl rfl ?v49 ?hy49 ?rest49
  case hy49 => intro w_ hS_; subst hS_; first | (go_simp; done) | (go_simp; with_reducible rfl)
  simp only [Act.put, List.setIfInBounds_toArray, List.set_cons_zero, List.set_cons_succ]
  refine Pl.takeW rfl rfl ?v50 ?hy50 ?rest50
  case hy50 => intro w_ _; first | (go_simp; done) | (go_simp; with_reducible rfl)
  simp only [Act.put, List.setIfInBounds_toArray, List.set_cons_zero, List.set_cons_succ]
  refine Pl.takeW rfl rfl ?v51 ?hy51 ?rest51
  case hy51 => intro w_ hS_; subst hS_; first | (go_simp; done) | (go_simp; with_reducible rfl)
  simp only [Act.put, List.setIfInBounds_toArray, List.set_cons_zero, List.set_cons_succ]
  show wpList _ _ _ _ _ _
  simp only [List.drop_succ_cons, List.drop_zero]
  go_wp2_with fail
  refine wp_plan 6 (.take 0 (.take 1 (.take 2 (.take 3 (.take 4 (.take 5 .fin)))))) (fun w_ => w_ = _) (by kernel_rfl) (by kernel_rfl) (fun _ _ d_ _ _ h_ => by cases d_ <;> exact h_) rfl ?_
  refine Pl.takeW rfl rfl ?v52 ?hy52 ?rest52
  case hy52 => intro w_ _; first | (go_simp; done) | (go_simp; with_reducible rfl)
  simp only [Act.put, List.setIfInBounds_toArray, List.set_cons_zero, List.set_cons_succ]
  refine Pl.takeW rfl rfl ?v53 ?hy53 ?rest53
  case hy53 => intro w_ _; first | (go_simp; done) | (go_simp; with_reducible rfl)
  simp only [Act.put, List.setIfInBounds_toArray, List.set_cons_zero, List.set_cons_succ]
  refine Pl.takeW rfl rfl ?v54 ?hy54 ?rest54
  case hy54 => intro w_ hS_; subst hS_; first | (go_simp; done) | (go_simp; with_reducible rfl)
  simp only [Act.put, List.setIfInBounds_toArray, List.set_cons_zero, List.set_cons_succ]
  refine Pl.takeW rfl rfl ?v55 ?hy55 ?rest55
  case hy55 => intro w_ _; first | (go_simp; done) | (go_simp; with_reducible rfl)
  simp only [Act.put, List.setIfInBounds_toArray, List.set_cons_zero, List.set_cons_succ]
  refine Pl.takeW rfl rfl ?v56 ?hy56 ?rest56
  case hy56 => intro w_ hS_; subst hS_; first | (go_simp; done) | (go_simp; with_reducible rfl)
  simp only [Act.put, List.setIfInBounds_toArray, List.set_cons_zero, List.set_cons_succ]
  refine Pl.takeW rfl rfl ?v57 ?hy57 ?rest57
  case hy57 => intro w_ _; first | (go_simp; done) | (go_simp; with_reducible rfl)
  simp only [Act.put, List.setIfInBounds_toArray, List.set_cons_zero, List.set_cons_succ]
  show wpList _ _ _ _ _ _
  simp only [List.drop_succ_cons, List.drop_zero]
  go_wp2_with fail
  refine (R_body p b off c d st L S1 _ F HF.out _ _ _ r st' (X.drew (X.drew HX1.out)) HE.out Htl.out Hxl.out (by simp; omega) Hr.out).mono ?_
  rintro e w5 ⟨rfl, S5, k5, hX5⟩
  go_wp2_with fail
  go_ret
  exact Ret.intro rfl (HK1.out.trans k5) hX5
set_option maxRecDepth 100000 in
set_option maxHeartbeats 16000000 in
theorem R_spCond (top : Bool) (F : Fm) (HF : OkR p b off c d F) (i r : Nat) (st' : St) (hX : RX p (dval b off c d) st L S w) (hE : Env S b off c d) (hi : i < d.length) (h0 : (nd d i).l ≠ []) (hs : headName d i = sCond) (hr : condsS d F i st = some (r, st')) :
    Calls Try.prog 38 #[ptr p, nat i, .bool top] w (Ret S (RX p (dval b off c d) st' L) (nat r)) := by
  have X := RX.xs p (dval b off c d) st
  have hlenD := Dat.len hE
  have hiI : (i : Int) < (d.length : Int) := by omega
  have hll := hE.dat.ll i hi
  have Hpar := hid (hE.dat.par i hi)
  obtain ⟨lv, hN⟩ := hE.at_ i hi
  have x0 := hX.d0
  obtain ⟨A1, c1, hlv, hc1, hc2⟩ := Sl.shape hN.l
  subst hlv
  have n0 := X.cell hX hN.c0
  have n1 := X.cell hX hN.c1
  have n2 := X.cell hX hN.c2
  have n3 := X.cell hX hN.c3
  have n4 := X.cell hX hN.c4
  obtain ⟨S1, k1, hX1, s1⟩ := X.box hX #[.int .u8 (nd d i).kind, .int .i64 (nd d i).at_, .int .i64 (nd d i).n, str (nd d i).s, .slice A1 (nd d i).l.length c1] 60
  have Hd1 := hid (s1 1 _ rfl)
  have Hd4 := hid (s1 4 _ rfl)
  have d4 := X.cell hX1 Hd4.out
  have y0 := hX1.d0
  have HK1 := hid k1
  have HX1 := hid hX1
  have HE := hid (hE.mono k1)
  have HF := hid HF
  have HL := hid (hN.l.mono k1)
  clear hX hX1 hN hE s1 k1
  have hlen1 : 0 < (nd d i).l.length := List.length_pos_iff.2 h0
  have hl0I : (0 : Int) < ((nd d i).l.length : Int) := by omega
  obtain ⟨b1, o1, c2, hlv, _, _, hcc⟩ := HL.out.at_ h0
  simp only [Value.slice.injEq, true_and] at hlv
  obtain ⟨rfl, rfl⟩ := hlv
  obtain ⟨xh, hxh⟩ : ∃ xh, (nd d i).l[0]? = some xh := ⟨_, List.getElem?_eq_some_iff.2 ⟨hlen1, rfl⟩⟩
  have hgh : (nd d i).l.getD 0 0 = xh := by rw [List.getD_eq_getElem?_getD, hxh]; rfl
  have hih : xh < d.length := by have := Hpar.out xh (List.mem_of_getElem? hxh); omega
  have Hxh := hid (hcc 0 xh hxh)
  rw [Nat.add_zero] at Hxh
  have f0 := X.cell HX1.out Hxh.out
  obtain ⟨lvh, hNh⟩ := HE.out.at_ xh hih
  have m3 := X.cell HX1.out hNh.c3
  have hs' : (nd d xh).s = [99, 111, 110, 100] := by rw [← hgh]; exact hs
  rw [hs'] at m3
  replace m3 : World.cell? _ ⟨b, off + xh * 5 + 3, none⟩ = some (.string ⟨#[99, 111, 110, 100]⟩) := m3
  have hxhI : (xh : Int) < (d.length : Int) := by omega
  have Hcc := hid hcc
  have Hh0 := hid h0
  clear hcc hxh hgh hNh hs hs' h0
  unfold condsS at hr
  by_cases h2 : (nd d i).l.length < 2
  · have h2I : ((nd d i).l.length : Int) < 2 := by omega
    rw [if_pos h2] at hr
    have Hr := hid hr
    clear hr h2
    go_enter Try.func38, Try.ntmps38
    go_wp2_with fail
    refine wp_plan 8 (.take 0 (.take 1 (.take 2 (.take 3 (.take 4 (.take 5 (.take 6 (.take 7 .fin)))))))) (fun w_ => w_ = _) (by kernel_rfl) (by kernel_rfl) (fun _ _ d_ _ _ h_ => by cases d_ <;> exact h_) rfl ?_
    refine Pl.takeW rfl rfl ?v58 ?hy58 ?rest58
    case hy58 => intro w_ _; first | (go_simp; done) | (go_simp; with_reducible rfl)
    simp only [Act.put, List.setIfInBounds_toArray, List.set_cons_zero, List.set_cons_succ]
    refine Pl.takeW rfl rfl ?v59 ?hy59 ?rest59
    case hy59 => intro w_ _; first | (go_simp; done) | (go_simp; with_reducible rfl)
    simp only [Act.put, List.setIfInBounds_toArray, List.set_cons_zero, List.set_cons_succ]
    refine Pl.takeW rfl rfl ?v60 ?hy60 ?rest60
    case hy60 => intro w_ _; first | (go_simp; done) | (go_simp; with_reducible rfl)
    simp only [Act.put, List.setIfInBounds_toArray, List.set_cons_zero, List.set_cons_succ]
    refine Pl.takeW rfl rfl ?v61 ?hy61 ?rest61
    case hy61 => intro w_ hS_; subst hS_; first | (go_simp; done) | (go_simp; with_reducible rfl)
    simp only [Act.put, List.setIfInBounds_toArray, List.set_cons_zero, List.set_cons_succ]
    refine Pl.takeW rfl rfl ?v62 ?hy62 ?rest62
    case hy62 => intro w_ _; first | (go_simp; done) | (go_simp; with_reducible rfl)
    simp only [Act.put, List.setIfInBounds_toArray, List.set_cons_zero, List.set_cons_succ]
    refine Pl.takeW rfl rfl ?v63 ?hy63 ?rest63
    case hy63 => intro w_ hS_; subst hS_; first | (go_simp; done) | (go_simp; with_reducible rfl)
    simp only [Act.put, List.setIfInBounds_toArray, List.set_cons_zero, List.set_cons_succ]
    refine Pl.takeW rfl rfl ?v64 ?hy64 ?rest64
    case hy64 => intro w_ _; first | (go_simp; done) | (go_simp; with_reducible rfl)
    simp only [Act.put, List.setIfInBounds_toArray, List.set_cons_zero, List.set_cons_succ]
    refine Pl.takeW rfl rfl ?v65 ?hy65 ?rest65
    case hy65 => intro w_ hS_; subst hS_; first | (go_simp; done) | (go_simp; with_reducible rfl)
    simp only [Act.put, List.setIfInBounds_toArray, List.set_cons_zero, List.set_cons_succ]
    show wpList _ _ _ _ _ _
    simp only [List.drop_succ_cons, List.drop_zero]
    go_wp2_with fail
    refine (R_wrongR p b off c d st L S1 _ i r st' (X.drew HX1.out) HE.out hi Hr.out).mono ?_
    rintro e w5 ⟨rfl, S5, k5, hX5⟩
    go_wp2_with fail
    go_ret
    exact Ret.intro rfl (HK1.out.trans k5) hX5
  have h2I : ¬ ((nd d i).l.length : Int) < 2 := by omega
  rw [if_neg h2] at hr
  have hlI : (1 : Int) ≤ ((nd d i).l.length : Int) := by omega
  have htl := NatsR.tailD HL.out hlen1
  generalize hA : (if c1 = 1 then (some ⟨b1, o1, none⟩ : Option Addr) else some ⟨b1, o1 + 1, none⟩) = A1 at htl
  have Htl := hid htl
  have Hxl := hid (fun j (hj : j ∈ (nd d i).l.drop 1) => (by have := Hpar.out j (List.mem_of_mem_drop hj); omega : j < d.length))
  have e1 := X.cell HX1.out Hd1.out
  have Hr := hid hr
  clear hr htl
  clear h2
  go_enter Try.func38, Try.ntmps38
  go_wp2_with fail
  refine wp_plan 8 (.take 0 (.take 1 (.take 2 (.take 3 (.take 4 (.take 5 (.take 6 (.take 7 .fin)))))))) (fun w_ => w_ = _) (by kernel_rfl) (by kernel_rfl) (fun _ _ d_ _ _ h_ => by cases d_ <;> exact h_) rfl ?_
  refine Pl.takeW rfl rfl ?v66 ?hy66 ?rest66
  case hy66 => intro w_ _; first | (go_simp; done) | (go_simp; with_reducible rfl)
  simp only [Act.put, List.setIfInBounds_toArray, List.set_cons_zero, List.set_cons_succ]
  refine Pl.takeW rfl rfl ?v67 ?hy67 ?rest67
  case hy67 => intro w_ _; first | (go_simp; done) | (go_simp; with_reducible rfl)
  simp only [Act.put, List.setIfInBounds_toArray, List.set_cons_zero, List.set_cons_succ]
  refine Pl.takeW rfl rfl ?v68 ?hy68 ?rest68
  case hy68 => intro w_ _; first | (go_simp; done) | (go_simp; with_reducible rfl)
  simp only [Act.put, List.setIfInBounds_toArray, List.set_cons_zero, List.set_cons_succ]
  refine Pl.takeW rfl rfl ?v69 ?hy69 ?rest69
  case hy69 => intro w_ hS_; subst hS_; first | (go_simp; done) | (go_simp; with_reducible rfl)
  simp only [Act.put, List.setIfInBounds_toArray, List.set_cons_zero, List.set_cons_succ]
  refine Pl.takeW rfl rfl ?v70 ?hy70 ?rest70
  case hy70 => intro w_ _; first | (go_simp; done) | (go_simp; with_reducible rfl)
  simp only [Act.put, List.setIfInBounds_toArray, List.set_cons_zero, List.set_cons_succ]
  refine Pl.takeW rfl rfl ?v71 ?hy71 ?rest71
  case hy71 => intro w_ hS_; subst hS_; first | (go_simp; done) | (go_simp; with_reducible rfl)
  simp only [Act.put, List.setIfInBounds_toArray, List.set_cons_zero, List.set_cons_succ]
  refine Pl.takeW rfl rfl ?v72 ?hy72 ?rest72
  case hy72 => intro w_ _; first | (go_simp; done) | (go_simp; with_reducible rfl)
  simp only [Act.put, List.setIfInBounds_toArray, List.set_cons_zero, List.set_cons_succ]
  refine Pl.takeW rfl rfl ?v73 ?hy73 ?rest73
  case hy73 => intro w_ hS_; subst hS_; first | (go_simp; done) | (go_simp; with_reducible rfl)
  simp only [Act.put, List.setIfInBounds_toArray, List.set_cons_zero, List.set_cons_succ]
  show wpList _ _ _ _ _ _
  simp only [List.drop_succ_cons, List.drop_zero]
  go_wp2_with fail
  refine wp_plan 6 (.take 0 (.take 1 (.take 2 (.take 3 (.take 4 (.take 5 .fin)))))) (fun w_ => w_ = _) (by kernel_rfl) (by kernel_rfl) (fun _ _ d_ _ _ h_ => by cases d_ <;> exact h_) rfl ?_
  refine Pl.takeW rfl rfl ?v74 ?hy74 ?rest74
  case hy74 => intro w_ _; first | (go_simp; done) | (go_simp; with_reducible rfl)
  simp only [Act.put, List.setIfInBounds_toArray, List.set_cons_zero, List.set_cons_succ]
  refine Pl.takeW rfl rfl ?v75 ?hy75 ?rest75
  case hy75 => intro w_ _; first | (go_simp; done) | (go_simp; with_reducible rfl)
  simp only [Act.put, List.setIfInBounds_toArray, List.set_cons_zero, List.set_cons_succ]
  refine Pl.takeW rfl rfl ?v76 ?hy76 ?rest76
  case hy76 => intro w_ hS_; subst hS_; first | (go_simp; done) | (go_simp; with_reducible rfl)
  simp only [Act.put, List.setIfInBounds_toArray, List.set_cons_zero, List.set_cons_succ]
  refine Pl.takeW rfl rfl ?v77 ?hy77 ?rest77
  case hy77 => intro w_ _; first | (go_simp; done) | (go_simp; with_reducible rfl)
  simp only [Act.put, List.setIfInBounds_toArray, List.set_cons_zero, List.set_cons_succ]
  refine Pl.takeW rfl rfl ?v78 ?hy78 ?rest78
  case hy78 => intro w_ hS_; subst hS_; first | (go_simp; done) | (go_simp; with_reducible rfl)
  simp only [Act.put, List.setIfInBounds_toArray, List.set_cons_zero, List.set_cons_succ]
  refine Pl.takeW rfl rfl ?v79 ?hy79 ?rest79
  case hy79 => intro w_ _; first | (go_simp; done) | (go_simp; with_reducible rfl)
  simp only [Act.put, List.setIfInBounds_toArray, List.set_cons_zero, List.set_cons_succ]
  show wpList _ _ _ _ _ _
  simp only [List.drop_succ_cons, List.drop_zero]
  go_wp2_with fail
  refine (R_cond p b off c d F HF.out _ _ st L S1 _ _ r st' (X.drew (X.drew HX1.out)) HE.out Htl.out Hxl.out Hr.out).mono ?_
  rintro e w5 ⟨rfl, S5, k5, hX5⟩
  go_wp2_with fail
  go_ret
  exact Ret.intro rfl (HK1.out.trans k5) hX5
set_option maxRecDepth 100000 in
set_option maxHeartbeats 16000000 in
theorem R_spAnd (top : Bool) (F : Fm) (HF : OkR p b off c d F) (i r : Nat) (st' : St) (hX : RX p (dval b off c d) st L S w) (hE : Env S b off c d) (hi : i < d.length) (h0 : (nd d i).l ≠ []) (hs : headName d i = sAnd) (hr : andS F (nd d i).at_ st ((nd d i).l.drop 1) = some (r, st')) :
    Calls Try.prog 38 #[ptr p, nat i, .bool top] w (Ret S (RX p (dval b off c d) st' L) (nat r)) := by
  have X := RX.xs p (dval b off c d) st
  have hlenD := Dat.len hE
  have hiI : (i : Int) < (d.length : Int) := by omega
  have hll := hE.dat.ll i hi
  have Hpar := hid (hE.dat.par i hi)
  obtain ⟨lv, hN⟩ := hE.at_ i hi
  have x0 := hX.d0
  obtain ⟨A1, c1, hlv, hc1, hc2⟩ := Sl.shape hN.l
  subst hlv
  have n0 := X.cell hX hN.c0
  have n1 := X.cell hX hN.c1
  have n2 := X.cell hX hN.c2
  have n3 := X.cell hX hN.c3
  have n4 := X.cell hX hN.c4
  obtain ⟨S1, k1, hX1, s1⟩ := X.box hX #[.int .u8 (nd d i).kind, .int .i64 (nd d i).at_, .int .i64 (nd d i).n, str (nd d i).s, .slice A1 (nd d i).l.length c1] 60
  have Hd1 := hid (s1 1 _ rfl)
  have Hd4 := hid (s1 4 _ rfl)
  have d4 := X.cell hX1 Hd4.out
  have y0 := hX1.d0
  have HK1 := hid k1
  have HX1 := hid hX1
  have HE := hid (hE.mono k1)
  have HF := hid HF
  have HL := hid (hN.l.mono k1)
  clear hX hX1 hN hE s1 k1
  have hlen1 : 0 < (nd d i).l.length := List.length_pos_iff.2 h0
  have hl0I : (0 : Int) < ((nd d i).l.length : Int) := by omega
  obtain ⟨b1, o1, c2, hlv, _, _, hcc⟩ := HL.out.at_ h0
  simp only [Value.slice.injEq, true_and] at hlv
  obtain ⟨rfl, rfl⟩ := hlv
  obtain ⟨xh, hxh⟩ : ∃ xh, (nd d i).l[0]? = some xh := ⟨_, List.getElem?_eq_some_iff.2 ⟨hlen1, rfl⟩⟩
  have hgh : (nd d i).l.getD 0 0 = xh := by rw [List.getD_eq_getElem?_getD, hxh]; rfl
  have hih : xh < d.length := by have := Hpar.out xh (List.mem_of_getElem? hxh); omega
  have Hxh := hid (hcc 0 xh hxh)
  rw [Nat.add_zero] at Hxh
  have f0 := X.cell HX1.out Hxh.out
  obtain ⟨lvh, hNh⟩ := HE.out.at_ xh hih
  have m3 := X.cell HX1.out hNh.c3
  have hs' : (nd d xh).s = [97, 110, 100] := by rw [← hgh]; exact hs
  rw [hs'] at m3
  replace m3 : World.cell? _ ⟨b, off + xh * 5 + 3, none⟩ = some (.string ⟨#[97, 110, 100]⟩) := m3
  have hxhI : (xh : Int) < (d.length : Int) := by omega
  have Hcc := hid hcc
  have Hh0 := hid h0
  clear hcc hxh hgh hNh hs hs' h0
  have hlI : (1 : Int) ≤ ((nd d i).l.length : Int) := by omega
  have htl := NatsR.tailD HL.out hlen1
  generalize hA : (if c1 = 1 then (some ⟨b1, o1, none⟩ : Option Addr) else some ⟨b1, o1 + 1, none⟩) = A1 at htl
  have Htl := hid htl
  have Hxl := hid (fun j (hj : j ∈ (nd d i).l.drop 1) => (by have := Hpar.out j (List.mem_of_mem_drop hj); omega : j < d.length))
  have e1 := X.cell HX1.out Hd1.out
  have Hr := hid hr
  clear hr htl
  go_enter Try.func38, Try.ntmps38
  go_wp2_with fail
  refine wp_plan 8 (.take 0 (.take 1 (.take 2 (.take 3 (.take 4 (.take 5 (.take 6 (.take 7 .fin)))))))) (fun w_ => w_ = _) (by kernel_rfl) (by kernel_rfl) (fun _ _ d_ _ _ h_ => by cases d_ <;> exact h_) rfl ?_
  refine Pl.takeW rfl rfl ?v80 ?hy80 ?rest80
  case hy80 => intro w_ _; first | (go_simp; done) | (go_simp; with_reducible rfl)
  simp only [Act.put, List.setIfInBounds_toArray, List.set_cons_zero, List.set_cons_succ]
  refine Pl.takeW rfl rfl ?v81 ?hy81 ?rest81
  case hy81 => intro w_ _; first | (go_simp; done) | (go_simp; with_reducible rfl)
  simp only [Act.put, List.setIfInBounds_toArray, List.set_cons_zero, List.set_cons_succ]
  refine Pl.takeW rfl rfl ?v82 ?hy82 ?rest82
  case hy82 => intro w_ _; first | (go_simp; done) | (go_simp; with_reducible rfl)
  simp only [Act.put, List.setIfInBounds_toArray, List.set_cons_zero, List.set_cons_succ]
  refine Pl.takeW rfl rfl ?v83 ?hy83 ?rest83
  case hy83 => intro w_ hS_; subst hS_; first | (go_simp; done) | (go_simp; with_reducible rfl)
  simp only [Act.put, List.setIfInBounds_toArray, List.set_cons_zero, List.set_cons_succ]
  refine Pl.takeW rfl rfl ?v84 ?hy84 ?rest84
  case hy84 => intro w_ _; first | (go_simp; done) | (go_simp; with_reducible rfl)
  simp only [Act.put, List.setIfInBounds_toArray, List.set_cons_zero, List.set_cons_succ]
  refine Pl.takeW rfl rfl ?v85 ?hy85 ?rest85
  case hy85 => intro w_ hS_; subst hS_; first | (go_simp; done) | (go_simp; with_reducible rfl)
  simp only [Act.put, List.setIfInBounds_toArray, List.set_cons_zero, List.set_cons_succ]
  refine Pl.takeW rfl rfl ?v86 ?hy86 ?rest86
  case hy86 => intro w_ _; first | (go_simp; done) | (go_simp; with_reducible rfl)
  simp only [Act.put, List.setIfInBounds_toArray, List.set_cons_zero, List.set_cons_succ]
  refine Pl.takeW rfl rfl ?v87 ?hy87 ?rest87
  case hy87 => intro w_ hS_; subst hS_; first | (go_simp; done) | (go_simp; with_reducible rfl)
  simp only [Act.put, List.setIfInBounds_toArray, List.set_cons_zero, List.set_cons_succ]
  show wpList _ _ _ _ _ _
  simp only [List.drop_succ_cons, List.drop_zero]
  go_wp2_with fail
  refine wp_plan 8 (.take 0 (.take 1 (.take 2 (.take 3 (.take 4 (.take 5 (.take 6 (.take 7 .fin)))))))) (fun w_ => w_ = _) (by kernel_rfl) (by kernel_rfl) (fun _ _ d_ _ _ h_ => by cases d_ <;> exact h_) rfl ?_
  refine Pl.takeW rfl rfl ?v88 ?hy88 ?rest88
  case hy88 => intro w_ _; first | (go_simp; done) | (go_simp; with_reducible rfl)
  simp only [Act.put, List.setIfInBounds_toArray, List.set_cons_zero, List.set_cons_succ]
  refine Pl.takeW rfl rfl ?v89 ?hy89 ?rest89
  case hy89 => intro w_ _; first | (go_simp; done) | (go_simp; with_reducible rfl)
  simp only [Act.put, List.setIfInBounds_toArray, List.set_cons_zero, List.set_cons_succ]
  refine Pl.takeW rfl rfl ?v90 ?hy90 ?rest90
  case hy90 => intro w_ hS_; subst hS_; first | (go_simp; done) | (go_simp; with_reducible rfl)
  simp only [Act.put, List.setIfInBounds_toArray, List.set_cons_zero, List.set_cons_succ]
  refine Pl.takeW rfl rfl ?v91 ?hy91 ?rest91
  case hy91 => intro w_ _; first | (go_simp; done) | (go_simp; with_reducible rfl)
  simp only [Act.put, List.setIfInBounds_toArray, List.set_cons_zero, List.set_cons_succ]
  refine Pl.takeW rfl rfl ?v92 ?hy92 ?rest92
  case hy92 => intro w_ _; first | (go_simp; done) | (go_simp; with_reducible rfl)
  simp only [Act.put, List.setIfInBounds_toArray, List.set_cons_zero, List.set_cons_succ]
  refine Pl.takeW rfl rfl ?v93 ?hy93 ?rest93
  case hy93 => intro w_ _; first | (go_simp; done) | (go_simp; with_reducible rfl)
  simp only [Act.put, List.setIfInBounds_toArray, List.set_cons_zero, List.set_cons_succ]
  refine Pl.takeW rfl rfl ?v94 ?hy94 ?rest94
  case hy94 => intro w_ hS_; subst hS_; first | (go_simp; done) | (go_simp; with_reducible rfl)
  simp only [Act.put, List.setIfInBounds_toArray, List.set_cons_zero, List.set_cons_succ]
  refine Pl.takeW rfl rfl ?v95 ?hy95 ?rest95
  case hy95 => intro w_ _; first | (go_simp; done) | (go_simp; with_reducible rfl)
  simp only [Act.put, List.setIfInBounds_toArray, List.set_cons_zero, List.set_cons_succ]
  show wpList _ _ _ _ _ _
  simp only [List.drop_succ_cons, List.drop_zero]
  go_wp2_with fail
  refine (R_and p b off c d F HF.out _ _ st L S1 _ _ r st' (X.drew (X.drew HX1.out)) HE.out Htl.out Hxl.out Hr.out).mono ?_
  rintro e w5 ⟨rfl, S5, k5, hX5⟩
  go_wp2_with fail
  go_ret
  exact Ret.intro rfl (HK1.out.trans k5) hX5
set_option maxRecDepth 100000 in
set_option maxHeartbeats 16000000 in
theorem R_spOr (top : Bool) (F : Fm) (HF : OkR p b off c d F) (i r : Nat) (st' : St) (hX : RX p (dval b off c d) st L S w) (hE : Env S b off c d) (hi : i < d.length) (h0 : (nd d i).l ≠ []) (hs : headName d i = sOr) (hr : orS F (nd d i).at_ st ((nd d i).l.drop 1) = some (r, st')) :
    Calls Try.prog 38 #[ptr p, nat i, .bool top] w (Ret S (RX p (dval b off c d) st' L) (nat r)) := by
  have X := RX.xs p (dval b off c d) st
  have hlenD := Dat.len hE
  have hiI : (i : Int) < (d.length : Int) := by omega
  have hll := hE.dat.ll i hi
  have Hpar := hid (hE.dat.par i hi)
  obtain ⟨lv, hN⟩ := hE.at_ i hi
  have x0 := hX.d0
  obtain ⟨A1, c1, hlv, hc1, hc2⟩ := Sl.shape hN.l
  subst hlv
  have n0 := X.cell hX hN.c0
  have n1 := X.cell hX hN.c1
  have n2 := X.cell hX hN.c2
  have n3 := X.cell hX hN.c3
  have n4 := X.cell hX hN.c4
  obtain ⟨S1, k1, hX1, s1⟩ := X.box hX #[.int .u8 (nd d i).kind, .int .i64 (nd d i).at_, .int .i64 (nd d i).n, str (nd d i).s, .slice A1 (nd d i).l.length c1] 60
  have Hd1 := hid (s1 1 _ rfl)
  have Hd4 := hid (s1 4 _ rfl)
  have d4 := X.cell hX1 Hd4.out
  have y0 := hX1.d0
  have HK1 := hid k1
  have HX1 := hid hX1
  have HE := hid (hE.mono k1)
  have HF := hid HF
  have HL := hid (hN.l.mono k1)
  clear hX hX1 hN hE s1 k1
  have hlen1 : 0 < (nd d i).l.length := List.length_pos_iff.2 h0
  have hl0I : (0 : Int) < ((nd d i).l.length : Int) := by omega
  obtain ⟨b1, o1, c2, hlv, _, _, hcc⟩ := HL.out.at_ h0
  simp only [Value.slice.injEq, true_and] at hlv
  obtain ⟨rfl, rfl⟩ := hlv
  obtain ⟨xh, hxh⟩ : ∃ xh, (nd d i).l[0]? = some xh := ⟨_, List.getElem?_eq_some_iff.2 ⟨hlen1, rfl⟩⟩
  have hgh : (nd d i).l.getD 0 0 = xh := by rw [List.getD_eq_getElem?_getD, hxh]; rfl
  have hih : xh < d.length := by have := Hpar.out xh (List.mem_of_getElem? hxh); omega
  have Hxh := hid (hcc 0 xh hxh)
  rw [Nat.add_zero] at Hxh
  have f0 := X.cell HX1.out Hxh.out
  obtain ⟨lvh, hNh⟩ := HE.out.at_ xh hih
  have m3 := X.cell HX1.out hNh.c3
  have hs' : (nd d xh).s = [111, 114] := by rw [← hgh]; exact hs
  rw [hs'] at m3
  replace m3 : World.cell? _ ⟨b, off + xh * 5 + 3, none⟩ = some (.string ⟨#[111, 114]⟩) := m3
  have hxhI : (xh : Int) < (d.length : Int) := by omega
  have Hcc := hid hcc
  have Hh0 := hid h0
  clear hcc hxh hgh hNh hs hs' h0
  have hlI : (1 : Int) ≤ ((nd d i).l.length : Int) := by omega
  have htl := NatsR.tailD HL.out hlen1
  generalize hA : (if c1 = 1 then (some ⟨b1, o1, none⟩ : Option Addr) else some ⟨b1, o1 + 1, none⟩) = A1 at htl
  have Htl := hid htl
  have Hxl := hid (fun j (hj : j ∈ (nd d i).l.drop 1) => (by have := Hpar.out j (List.mem_of_mem_drop hj); omega : j < d.length))
  have e1 := X.cell HX1.out Hd1.out
  have Hr := hid hr
  clear hr htl
  go_enter Try.func38, Try.ntmps38
  go_wp2_with fail
  refine wp_plan 8 (.take 0 (.take 1 (.take 2 (.take 3 (.take 4 (.take 5 (.take 6 (.take 7 .fin)))))))) (fun w_ => w_ = _) (by kernel_rfl) (by kernel_rfl) (fun _ _ d_ _ _ h_ => by cases d_ <;> exact h_) rfl ?_
  refine Pl.takeW rfl rfl ?v96 ?hy96 ?rest96
  case hy96 => intro w_ _; first | (go_simp; done) | (go_simp; with_reducible rfl)
  simp only [Act.put, List.setIfInBounds_toArray, List.set_cons_zero, List.set_cons_succ]
  refine Pl.takeW rfl rfl ?v97 ?hy97 ?rest97
  case hy97 => intro w_ _; first | (go_simp; done) | (go_simp; with_reducible rfl)
  simp only [Act.put, List.setIfInBounds_toArray, List.set_cons_zero, List.set_cons_succ]
  refine Pl.takeW rfl rfl ?v98 ?hy98 ?rest98
  case hy98 => intro w_ _; first | (go_simp; done) | (go_simp; with_reducible rfl)
  simp only [Act.put, List.setIfInBounds_toArray, List.set_cons_zero, List.set_cons_succ]
  refine Pl.takeW rfl rfl ?v99 ?hy99 ?rest99
  case hy99 => intro w_ hS_; subst hS_; first | (go_simp; done) | (go_simp; with_reducible rfl)
  simp only [Act.put, List.setIfInBounds_toArray, List.set_cons_zero, List.set_cons_succ]
  refine Pl.takeW rfl rfl ?v100 ?hy100 ?rest100
  case hy100 => intro w_ _; first | (go_simp; done) | (go_simp; with_reducible rfl)
  simp only [Act.put, List.setIfInBounds_toArray, List.set_cons_zero, List.set_cons_succ]
  refine Pl.takeW rfl rfl ?v101 ?hy101 ?rest101
  case hy101 => intro w_ hS_; subst hS_; first | (go_simp; done) | (go_simp; with_reducible rfl)
  simp only [Act.put, List.setIfInBounds_toArray, List.set_cons_zero, List.set_cons_succ]
  refine Pl.takeW rfl rfl ?v102 ?hy102 ?rest102
  case hy102 => intro w_ _; first | (go_simp; done) | (go_simp; with_reducible rfl)
  simp only [Act.put, List.setIfInBounds_toArray, List.set_cons_zero, List.set_cons_succ]
  refine Pl.takeW rfl rfl ?v103 ?hy103 ?rest103
  case hy103 => intro w_ hS_; subst hS_; first | (go_simp; done) | (go_simp; with_reducible rfl)
  simp only [Act.put, List.setIfInBounds_toArray, List.set_cons_zero, List.set_cons_succ]
  show wpList _ _ _ _ _ _
  simp only [List.drop_succ_cons, List.drop_zero]
  go_wp2_with fail
  refine wp_plan 8 (.take 0 (.take 1 (.take 2 (.take 3 (.take 4 (.take 5 (.take 6 (.take 7 .fin)))))))) (fun w_ => w_ = _) (by kernel_rfl) (by kernel_rfl) (fun _ _ d_ _ _ h_ => by cases d_ <;> exact h_) rfl ?_
  refine Pl.takeW rfl rfl ?v104 ?hy104 ?rest104
  case hy104 => intro w_ _; first | (go_simp; done) | (go_simp; with_reducible rfl)
  simp only [Act.put, List.setIfInBounds_toArray, List.set_cons_zero, List.set_cons_succ]
  refine Pl.takeW rfl rfl ?v105 ?hy105 ?rest105
  case hy105 => intro w_ _; first | (go_simp; done) | (go_simp; with_reducible rfl)
  simp only [Act.put, List.setIfInBounds_toArray, List.set_cons_zero, List.set_cons_succ]
  refine Pl.takeW rfl rfl ?v106 ?hy106 ?rest106
  case hy106 => intro w_ hS_; subst hS_; first | (go_simp; done) | (go_simp; with_reducible rfl)
  simp only [Act.put, List.setIfInBounds_toArray, List.set_cons_zero, List.set_cons_succ]
  refine Pl.takeW rfl rfl ?v107 ?hy107 ?rest107
  case hy107 => intro w_ _; first | (go_simp; done) | (go_simp; with_reducible rfl)
  simp only [Act.put, List.setIfInBounds_toArray, List.set_cons_zero, List.set_cons_succ]
  refine Pl.takeW rfl rfl ?v108 ?hy108 ?rest108
  case hy108 => intro w_ _; first | (go_simp; done) | (go_simp; with_reducible rfl)
  simp only [Act.put, List.setIfInBounds_toArray, List.set_cons_zero, List.set_cons_succ]
  refine Pl.takeW rfl rfl ?v109 ?hy109 ?rest109
  case hy109 => intro w_ _; first | (go_simp; done) | (go_simp; with_reducible rfl)
  simp only [Act.put, List.setIfInBounds_toArray, List.set_cons_zero, List.set_cons_succ]
  refine Pl.takeW rfl rfl ?v110 ?hy110 ?rest110
  case hy110 => intro w_ hS_; subst hS_; first | (go_simp; done) | (go_simp; with_reducible rfl)
  simp only [Act.put, List.setIfInBounds_toArray, List.set_cons_zero, List.set_cons_succ]
  refine Pl.takeW rfl rfl ?v111 ?hy111 ?rest111
  case hy111 => intro w_ _; first | (go_simp; done) | (go_simp; with_reducible rfl)
  simp only [Act.put, List.setIfInBounds_toArray, List.set_cons_zero, List.set_cons_succ]
  show wpList _ _ _ _ _ _
  simp only [List.drop_succ_cons, List.drop_zero]
  go_wp2_with fail
  refine (R_or p b off c d F HF.out _ _ st L S1 _ _ r st' (X.drew (X.drew HX1.out)) HE.out Htl.out Hxl.out Hr.out).mono ?_
  rintro e w5 ⟨rfl, S5, k5, hX5⟩
  go_wp2_with fail
  go_ret
  exact Ret.intro rfl (HK1.out.trans k5) hX5
set_option maxRecDepth 100000 in
set_option maxHeartbeats 16000000 in
theorem R_spLets (top : Bool) (F : Fm) (HF : OkR p b off c d F) (i r : Nat) (st' : St) (hX : RX p (dval b off c d) st L S w) (hE : Env S b off c d) (hi : i < d.length) (h0 : (nd d i).l ≠ []) (hs : headName d i = sLets) (hr : letsS d F i st = some (r, st')) :
    Calls Try.prog 38 #[ptr p, nat i, .bool top] w (Ret S (RX p (dval b off c d) st' L) (nat r)) := by
  have X := RX.xs p (dval b off c d) st
  have hlenD := Dat.len hE
  have hiI : (i : Int) < (d.length : Int) := by omega
  have hll := hE.dat.ll i hi
  have Hpar := hid (hE.dat.par i hi)
  obtain ⟨lv, hN⟩ := hE.at_ i hi
  have x0 := hX.d0
  obtain ⟨A1, c1, hlv, hc1, hc2⟩ := Sl.shape hN.l
  subst hlv
  have n0 := X.cell hX hN.c0
  have n1 := X.cell hX hN.c1
  have n2 := X.cell hX hN.c2
  have n3 := X.cell hX hN.c3
  have n4 := X.cell hX hN.c4
  obtain ⟨S1, k1, hX1, s1⟩ := X.box hX #[.int .u8 (nd d i).kind, .int .i64 (nd d i).at_, .int .i64 (nd d i).n, str (nd d i).s, .slice A1 (nd d i).l.length c1] 60
  have Hd1 := hid (s1 1 _ rfl)
  have Hd4 := hid (s1 4 _ rfl)
  have d4 := X.cell hX1 Hd4.out
  have y0 := hX1.d0
  have HK1 := hid k1
  have HX1 := hid hX1
  have HE := hid (hE.mono k1)
  have HF := hid HF
  have HL := hid (hN.l.mono k1)
  clear hX hX1 hN hE s1 k1
  have hlen1 : 0 < (nd d i).l.length := List.length_pos_iff.2 h0
  have hl0I : (0 : Int) < ((nd d i).l.length : Int) := by omega
  obtain ⟨b1, o1, c2, hlv, _, _, hcc⟩ := HL.out.at_ h0
  simp only [Value.slice.injEq, true_and] at hlv
  obtain ⟨rfl, rfl⟩ := hlv
  obtain ⟨xh, hxh⟩ : ∃ xh, (nd d i).l[0]? = some xh := ⟨_, List.getElem?_eq_some_iff.2 ⟨hlen1, rfl⟩⟩
  have hgh : (nd d i).l.getD 0 0 = xh := by rw [List.getD_eq_getElem?_getD, hxh]; rfl
  have hih : xh < d.length := by have := Hpar.out xh (List.mem_of_getElem? hxh); omega
  have Hxh := hid (hcc 0 xh hxh)
  rw [Nat.add_zero] at Hxh
  have f0 := X.cell HX1.out Hxh.out
  obtain ⟨lvh, hNh⟩ := HE.out.at_ xh hih
  have m3 := X.cell HX1.out hNh.c3
  have hs' : (nd d xh).s = [108, 101, 116, 42] := by rw [← hgh]; exact hs
  rw [hs'] at m3
  replace m3 : World.cell? _ ⟨b, off + xh * 5 + 3, none⟩ = some (.string ⟨#[108, 101, 116, 42]⟩) := m3
  have hxhI : (xh : Int) < (d.length : Int) := by omega
  have Hcc := hid hcc
  have Hh0 := hid h0
  clear hcc hxh hgh hNh hs hs' h0
  unfold letsS at hr
  by_cases h2 : (nd d i).l.length < 3
  · have h2I : ((nd d i).l.length : Int) < 3 := by omega
    rw [if_pos h2] at hr
    have Hr := hid hr
    clear hr h2
    go_enter Try.func38, Try.ntmps38
    go_wp2_with fail
    refine wp_plan 8 (.take 0 (.take 1 (.take 2 (.take 3 (.take 4 (.take 5 (.take 6 (.take 7 .fin)))))))) (fun w_ => w_ = _) (by kernel_rfl) (by kernel_rfl) (fun _ _ d_ _ _ h_ => by cases d_ <;> exact h_) rfl ?_
    refine Pl.takeW rfl rfl ?v112 ?hy112 ?rest112
    case hy112 => intro w_ _; first | (go_simp; done) | (go_simp; with_reducible rfl)
    simp only [Act.put, List.setIfInBounds_toArray, List.set_cons_zero, List.set_cons_succ]
    refine Pl.takeW rfl rfl ?v113 ?hy113 ?rest113
    case hy113 => intro w_ _; first | (go_simp; done) | (go_simp; with_reducible rfl)
    simp only [Act.put, List.setIfInBounds_toArray, List.set_cons_zero, List.set_cons_succ]
    refine Pl.takeW rfl rfl ?v114 ?hy114 ?rest114
    case hy114 => intro w_ _; first | (go_simp; done) | (go_simp; with_reducible rfl)
    simp only [Act.put, List.setIfInBounds_toArray, List.set_cons_zero, List.set_cons_succ]
    refine Pl.takeW rfl rfl ?v115 ?hy115 ?rest115
    case hy115 => intro w_ hS_; subst hS_; first | (go_simp; done) | (go_simp; with_reducible rfl)
    simp only [Act.put, List.setIfInBounds_toArray, List.set_cons_zero, List.set_cons_succ]
    refine Pl.takeW rfl rfl ?v116 ?hy116 ?rest116
    case hy116 => intro w_ _; first | (go_simp; done) | (go_simp; with_reducible rfl)
    simp only [Act.put, List.setIfInBounds_toArray, List.set_cons_zero, List.set_cons_succ]
    refine Pl.takeW rfl rfl ?v117 ?hy117 ?rest117
    case hy117 => intro w_ hS_; subst hS_; first | (go_simp; done) | (go_simp; with_reducible rfl)
    simp only [Act.put, List.setIfInBounds_toArray, List.set_cons_zero, List.set_cons_succ]
    refine Pl.takeW rfl rfl ?v118 ?hy118 ?rest118
    case hy118 => intro w_ _; first | (go_simp; done) | (go_simp; with_reducible rfl)
    simp only [Act.put, List.setIfInBounds_toArray, List.set_cons_zero, List.set_cons_succ]
    refine Pl.takeW rfl rfl ?v119 ?hy119 ?rest119
    case hy119 => intro w_ hS_; subst hS_; first | (go_simp; done) | (go_simp; with_reducible rfl)
    simp only [Act.put, List.setIfInBounds_toArray, List.set_cons_zero, List.set_cons_succ]
    show wpList _ _ _ _ _ _
    simp only [List.drop_succ_cons, List.drop_zero]
    go_wp2_with fail
    refine (R_wrongR p b off c d st L S1 _ i r st' (X.drew HX1.out) HE.out hi Hr.out).mono ?_
    rintro e w5 ⟨rfl, S5, k5, hX5⟩
    go_wp2_with fail
    go_ret
    exact Ret.intro rfl (HK1.out.trans k5) hX5
  have h2I : ¬ ((nd d i).l.length : Int) < 3 := by omega
  rw [if_neg h2] at hr
  have h1I : (1 : Int) < ((nd d i).l.length : Int) := by omega
  obtain ⟨x1, hx1⟩ : ∃ x1, (nd d i).l[1]? = some x1 := ⟨_, List.getElem?_eq_some_iff.2 ⟨by omega, rfl⟩⟩
  have hg1 : (nd d i).l.getD 1 0 = x1 := by rw [List.getD_eq_getElem?_getD, hx1]; rfl
  have hi1 : x1 < d.length := by have := Hpar.out x1 (List.mem_of_getElem? hx1); omega
  have Hx1 := hid (Hcc.out 1 x1 hx1)
  have f1 := X.cell HX1.out Hx1.out
  rw [hg1] at hr
  have hcn : ¬ c1 = 2 := by omega
  have h2J : (2 : Int) ≤ ((nd d i).l.length : Int) := by omega
  have Hdr := hid (NatsR.drop HL.out (k := 2) (by omega) (by omega))
  have Hxl := hid (fun j (hj : j ∈ (nd d i).l.drop 2) => (by have := Hpar.out j (List.mem_of_mem_drop hj); omega : j < d.length))
  have Hr := hid hr
  clear hr hx1 hg1 h2
  go_enter Try.func38, Try.ntmps38
  go_wp2_with fail
  refine wp_plan 8 (.take 0 (.take 1 (.take 2 (.take 3 (.take 4 (.take 5 (.take 6 (.take 7 .fin)))))))) (fun w_ => w_ = _) (by kernel_rfl) (by kernel_rfl) (fun _ _ d_ _ _ h_ => by cases d_ <;> exact h_) rfl ?_
  refine Pl.takeW rfl rfl ?v120 ?hy120 ?rest120
  case hy120 => intro w_ _; first | (go_simp; done) | (go_simp; with_reducible rfl)
  simp only [Act.put, List.setIfInBounds_toArray, List.set_cons_zero, List.set_cons_succ]
  refine Pl.takeW rfl rfl ?v121 ?hy121 ?rest121
  case hy121 => intro w_ _; first | (go_simp; done) | (go_simp; with_reducible rfl)
  simp only [Act.put, List.setIfInBounds_toArray, List.set_cons_zero, List.set_cons_succ]
  refine Pl.takeW rfl rfl ?v122 ?hy122 ?rest122
  case hy122 => intro w_ _; first | (go_simp; done) | (go_simp; with_reducible rfl)
  simp only [Act.put, List.setIfInBounds_toArray, List.set_cons_zero, List.set_cons_succ]
  refine Pl.takeW rfl rfl ?v123 ?hy123 ?rest123
  case hy123 => intro w_ hS_; subst hS_; first | (go_simp; done) | (go_simp; with_reducible rfl)
  simp only [Act.put, List.setIfInBounds_toArray, List.set_cons_zero, List.set_cons_succ]
  refine Pl.takeW rfl rfl ?v124 ?hy124 ?rest124
  case hy124 => intro w_ _; first | (go_simp; done) | (go_simp; with_reducible rfl)
  simp only [Act.put, List.setIfInBounds_toArray, List.set_cons_zero, List.set_cons_succ]
  refine Pl.takeW rfl rfl ?v125 ?hy125 ?rest125
  case hy125 => intro w_ hS_; subst hS_; first | (go_simp; done) | (go_simp; with_reducible rfl)
  simp only [Act.put, List.setIfInBounds_toArray, List.set_cons_zero, List.set_cons_succ]
  refine Pl.takeW rfl rfl ?v126 ?hy126 ?rest126
  case hy126 => intro w_ _; first | (go_simp; done) | (go_simp; with_reducible rfl)
  simp only [Act.put, List.setIfInBounds_toArray, List.set_cons_zero, List.set_cons_succ]
  refine Pl.takeW rfl rfl ?v127 ?hy127 ?rest127
  case hy127 => intro w_ hS_; subst hS_; first | (go_simp; done) | (go_simp; with_reducible rfl)
  simp only [Act.put, List.setIfInBounds_toArray, List.set_cons_zero, List.set_cons_succ]
  show wpList _ _ _ _ _ _
  simp only [List.drop_succ_cons, List.drop_zero]
  go_wp2_with fail
  refine (R_pairs p b off c d st L S1 _ x1 (X.drew HX1.out) HE.out hi1).mono ?_
  rintro e w3 ⟨v3, u3, S3, k3, hX3, h3⟩
  have HX3 := hid hX3
  have HK3 := hid k3
  rcases h3 with ⟨hn, rfl⟩ | ⟨ps, vs, hn, rfl, hps, hvs⟩
  · have hr := Hr.out
    rw [hn] at hr
    have Hr2 := hid hr
    clear hr hn hX3 k3
    go_wp2_with fail
    refine (R_wrongR p b off c d st L S3 _ i r st' HX3.out (HE.out.mono HK3.out) hi Hr2.out).mono ?_
    rintro e w5 ⟨rfl, S5, k5, hX5⟩
    go_wp2_with fail
    go_ret
    exact Ret.intro rfl ((HK1.out.trans HK3.out).trans k5) hX5
  · have hr := Hr.out
    rw [hn] at hr
    dsimp only at hr
    have HIn := hid (pairs_in HE.out hi1 hn)
    obtain ⟨A6, c6, rfl, _, _⟩ := Sl.shape hps
    obtain ⟨A7, c7, rfl, _, _⟩ := Sl.shape hvs
    have Hr2 := hid hr
    have Hps := hid hps
    have Hvs := hid hvs
    have g1 := X.cell hX3 (Hd1.out.mono k3)
    have g4 := X.cell hX3 (Hd4.out.mono k3)
    clear hr hn hps hvs hX3 k3
    go_wp2_with fail
    refine wp_plan 8 (.take 0 (.take 1 (.take 2 (.take 3 (.take 4 (.take 5 (.take 6 (.take 7 .fin)))))))) (fun w_ => w_ = _) (by kernel_rfl) (by kernel_rfl) (fun _ _ d_ _ _ h_ => by cases d_ <;> exact h_) rfl ?_
    refine Pl.takeW rfl rfl ?v128 ?hy128 ?rest128
    case hy128 => intro w_ _; first | (go_simp; done) | (go_simp; with_reducible rfl)
    simp only [Act.put, List.setIfInBounds_toArray, List.set_cons_zero, List.set_cons_succ]
    refine Pl.takeW rfl rfl ?v129 ?hy129 ?rest129
    case hy129 => intro w_ _; first | (go_simp; done) | (go_simp; with_reducible rfl)
    simp only [Act.put, List.setIfInBounds_toArray, List.set_cons_zero, List.set_cons_succ]
    refine Pl.takeW rfl rfl ?v130 ?hy130 ?rest130
    case hy130 => intro w_ hS_; subst hS_; first | (go_simp; done) | (go_simp; with_reducible rfl)
    simp only [Act.put, List.setIfInBounds_toArray, List.set_cons_zero, List.set_cons_succ]
    refine Pl.takeW rfl rfl ?v131 ?hy131 ?rest131
    case hy131 => intro w_ _; first | (go_simp; done) | (go_simp; with_reducible rfl)
    simp only [Act.put, List.setIfInBounds_toArray, List.set_cons_zero, List.set_cons_succ]
    refine Pl.takeW rfl rfl ?v132 ?hy132 ?rest132
    case hy132 => intro w_ _; first | (go_simp; done) | (go_simp; with_reducible rfl)
    simp only [Act.put, List.setIfInBounds_toArray, List.set_cons_zero, List.set_cons_succ]
    refine Pl.takeW rfl rfl ?v133 ?hy133 ?rest133
    case hy133 => intro w_ _; first | (go_simp; done) | (go_simp; with_reducible rfl)
    simp only [Act.put, List.setIfInBounds_toArray, List.set_cons_zero, List.set_cons_succ]
    refine Pl.takeW rfl rfl ?v134 ?hy134 ?rest134
    case hy134 => intro w_ hS_; subst hS_; first | (go_simp; done) | (go_simp; with_reducible rfl)
    simp only [Act.put, List.setIfInBounds_toArray, List.set_cons_zero, List.set_cons_succ]
    refine Pl.takeW rfl rfl ?v135 ?hy135 ?rest135
    case hy135 => intro w_ _; first | (go_simp; done) | (go_simp; with_reducible rfl)
    simp only [Act.put, List.setIfInBounds_toArray, List.set_cons_zero, List.set_cons_succ]
    show wpList _ _ _ _ _ _
    simp only [List.drop_succ_cons, List.drop_zero]
    go_wp2_with fail
    refine (R_stars p b off c d F HF.out _ ((nd d i).l.drop 2) Hxl.out (by simp; omega) ps vs st L S3 _ _ _ _ r st' (X.drew HX3.out) (HE.out.mono HK3.out) Hps.out Hvs.out (Hdr.out.mono HK3.out) HIn.out.1 HIn.out.2.1 HIn.out.2.2.2.2 Hr2.out).mono ?_
    rintro e w5 ⟨rfl, S5, k5, hX5⟩
    go_wp2_with fail
    go_ret
    exact Ret.intro rfl ((HK1.out.trans HK3.out).trans k5) hX5
end
end Go.Proofs.Ytjjbidajkmodfaa
namespace Go.Proofs.Ytjjbidajkmodfaa
open Go Go.RowKit
theorem call_forms {F : Fm} {at_ : Int} {st : St} {l : List Nat} (h : l ≠ []) :
    ((F st (l.getD 0 0)).bind fun f => call F at_ f.1 f.2 (l.drop 1)) = (forms F st l).bind fun x => put x.2 { kind := 10, at_ := at_, l := x.1 } := by
  match l, h with
  | x :: t, _ =>
    show (F st x).bind _ = (forms F st (x :: t)).bind _
    rw [forms, Option.bind_assoc]
    congr 1
    funext y
    show (forms F y.2 t).bind _ = _
    rw [Option.bind_assoc]
    rfl
section
variable (p b off c : Nat) (d : List Node) (st : St) (L : List Atom) (S : Seal) (w : World)
theorem R_special (top : Bool) (F : Fm) (HF : OkR p b off c d F) (i r : Nat) (st' : St) (hX : RX p (dval b off c d) st L S w) (hE : Env S b off c d) (hi : i < d.length) (hh : heads d i = true)
    (hr : (if top = true ∧ headName d i = sDefine then defineS d F i st else special d F (headName d i) i st) = some (r, st')) :
    Calls Try.prog 38 #[ptr p, nat i, .bool top] w (Ret S (RX p (dval b off c d) st' L) (nat r)) := by
  have hh2 : (nd d i).l ≠ [] ∧ res (headName d i) = true := by
    unfold heads at hh
    simp only [Bool.and_eq_true, decide_eq_true_eq] at hh
    exact ⟨hh.1.2.1, hh.2⟩
  obtain ⟨hne, hres⟩ := hh2
  by_cases hd : headName d i = sDefine
  · cases top with
    | true =>
      rw [if_pos ⟨rfl, hd⟩] at hr
      exact R_spDefineT p b off c d st L S w F HF i r st' hX hE hi hne hd hr
    | false =>
      rw [if_neg (fun h => by cases h.1), hd, special_Define] at hr
      exact R_spDefineF p b off c d st L S w F HF i r st' hX hE hi hne hd hr
  · rw [if_neg (fun h => hd h.2)] at hr
    rcases res_cases hres with h | h | h | h | h | h | h | h | h | h | h | h | h | h
    · rw [h, special_Quote] at hr; exact R_spQuote p b off c d st L S w top F HF i r st' hX hE hi hne h hr
    · rw [h, special_If] at hr; exact R_spIf p b off c d st L S w top F HF i r st' hX hE hi hne h hr
    · rw [h, special_Lambda] at hr; exact R_spLambda p b off c d st L S w top F HF i r st' hX hE hi hne h hr
    · rw [h, special_Set] at hr; exact R_spSet p b off c d st L S w top F HF i r st' hX hE hi hne h hr
    · rw [h, special_Begin] at hr; exact R_spBegin p b off c d st L S w top F HF i r st' hX hE hi hne h hr
    · exact absurd h hd
    · rw [h, special_Let] at hr; exact R_spLet p b off c d st L S w top F HF i r st' hX hE hi hne h hr
    · rw [h, special_Lets] at hr; exact R_spLets p b off c d st L S w top F HF i r st' hX hE hi hne h hr
    · rw [h, special_Cond] at hr; exact R_spCond p b off c d st L S w top F HF i r st' hX hE hi hne h hr
    · rw [h, special_Else] at hr; exact R_spElse p b off c d st L S w top F HF i r st' hX hE hi hne h hr
    · rw [h, special_And] at hr; exact R_spAnd p b off c d st L S w top F HF i r st' hX hE hi hne h hr
    · rw [h, special_Or] at hr; exact R_spOr p b off c d st L S w top F HF i r st' hX hE hi hne h hr
    · rw [h, special_When] at hr; exact R_spWhen p b off c d st L S w top F HF i r st' hX hE hi hne h hr
    · rw [h, special_Unless] at hr; exact R_spUnless p b off c d st L S w top F HF i r st' hX hE hi hne h hr
set_option maxRecDepth 100000 in
set_option maxHeartbeats 40000000 in
theorem R_stepB (top : Bool) (F : Fm) (HF : OkR p b off c d F) (i r : Nat) (st' : St) (hX : RX p (dval b off c d) st L S w) (hE : Env S b off c d) (hi : i < d.length)
    (hr : (if top = true then topS d F st i else step d F st i) = some (r, st')) :
    Calls Try.prog 26 #[ptr p, nat i, .bool top] w (Ret S (RX p (dval b off c d) st' L) (nat r)) := by
  have hkind := hE.dat.kind i hi
  have hlst := hE.dat.lst i hi
  obtain ⟨B, e1, e2, hB⟩ := hX.bad
  rcases hB with ⟨hb, rfl⟩ | ⟨a', ha', hb, rfl⟩
  case inr =>
    have hr : some (0, st) = some (r, st') := by
      rw [← hr]
      have h1 : step d F st i = some (0, st) := by unfold step; rw [if_pos (by rw [hb]; exact Option.some_ne_none _)]
      have h2 : topS d F st i = some (0, st) := by unfold topS; rw [if_neg (fun h => by rw [hb] at h; cases h.1)]; exact h1
      split
      · exact h2.symm
      · exact h1.symm
    simp only [Option.some.injEq, Prod.mk.injEq] at hr
    obtain ⟨rfl, rfl⟩ := hr
    have HX := hid hX
    clear hb hX hE hkind hlst e2
    go_enter Try.func26, Try.ntmps26
    go_wp2_with fail
    go_ret
    exact Ret.intro rfl (Seal.le.refl S) HX.out
  have hr : (if top = true ∧ heads d i = true ∧ headName d i = sDefine then defineS d F i st else step d F st i) = some (r, st') := by
    rw [← hr]
    cases top with
    | false => simp
    | true =>
      unfold topS
      by_cases h : heads d i = true ∧ headName d i = sDefine
      · rw [if_pos ⟨rfl, h⟩, if_pos rfl, if_pos ⟨hb, h⟩]
      · rw [if_neg (fun h' => h h'.2), if_pos rfl, if_neg (fun h' => h h'.2)]
  have Hb := hid hb
  have Hkind := hid hkind
  have Hlst := hid hlst
  clear hb hkind hlst e2
  have X := RX.xs p (dval b off c d) st
  have hlenD := Dat.len hE
  have hiI : (i : Int) < (d.length : Int) := by omega
  have hll := hE.dat.ll i hi
  have Hpar := hid (hE.dat.par i hi)
  obtain ⟨lv, hN⟩ := hE.at_ i hi
  have x0 := hX.d0
  obtain ⟨A1, c1, hlv, hc1, hc2⟩ := Sl.shape hN.l
  subst hlv
  have n0 := X.cell hX hN.c0
  have n1 := X.cell hX hN.c1
  have n2 := X.cell hX hN.c2
  have n3 := X.cell hX hN.c3
  have n4 := X.cell hX hN.c4
  obtain ⟨S1, k1, hX1, s1⟩ := X.box hX #[.int .u8 (nd d i).kind, .int .i64 (nd d i).at_, .int .i64 (nd d i).n, str (nd d i).s, .slice A1 (nd d i).l.length c1] 60
  have Hd0 := hid (s1 0 _ rfl)
  have Hd1 := hid (s1 1 _ rfl)
  have Hd2 := hid (s1 2 _ rfl)
  have Hd3 := hid (s1 3 _ rfl)
  have Hd4 := hid (s1 4 _ rfl)
  have d4 := X.cell hX1 Hd4.out
  have y0 := hX1.d0
  have HK1 := hid k1
  have HX1 := hid hX1
  have HE := hid (hE.mono k1)
  have HF := hid HF
  have HL := hid (hN.l.mono k1)
  clear hX hX1 hN hE s1 k1
  unfold step at hr
  have hb' : ¬ st.bad ≠ none := fun h => h Hb.out
  rcases (by have := Hkind.out; omega : (nd d i).kind = 1 ∨ (nd d i).kind = 2 ∨ (nd d i).kind = 3 ∨ (nd d i).kind = 4) with hk | hk | hk | hk
  · have hr : put st { kind := 1, at_ := (nd d i).at_, n := (nd d i).n } = some (r, st') := by
      rw [if_neg (fun h => by have := h.2.1; unfold heads at this; simp [hk] at this), if_neg hb', if_pos hk] at hr; exact hr
    have hkb1 : ((nd d i).kind == 1) = true := by simpa using hk
    have Hr := hid hr
    clear hr hk hb'
    go_enter Try.func26, Try.ntmps26
    go_wp2_with fail
    refine (R_put p (dval b off c d) st L S1 _ 1 (nd d i).at_ (nd d i).n 0 [] [] 0 [] (.slice none 0 0) (.slice none 0 0) r st' HX1.out (StrsR.nil _) (NatsR.nil _) Hr.out).mono ?_
    rintro e w2 ⟨rfl, S2, k2, hX2⟩
    go_wp2_with fail
    go_ret
    exact Ret.intro rfl (HK1.out.trans k2) hX2
  · have hr : bit st (nd d i).at_ (nd d i).n = some (r, st') := by
      rw [if_neg (fun h => by have := h.2.1; unfold heads at this; simp [hk] at this), if_neg hb', if_neg (by omega), if_pos hk] at hr; exact hr
    have hkb1 : ((nd d i).kind == 1) = false := by rw [hk]; rfl
    have hkb2 : ((nd d i).kind == 2) = true := by simpa using hk
    have Hr := hid hr
    clear hr hk hb'
    go_enter Try.func26, Try.ntmps26
    go_wp2_with fail
    refine (R_bit p st L S1 _ (dval b off c d) (nd d i).at_ (nd d i).n r st' HX1.out Hr.out).mono ?_
    rintro e w2 ⟨rfl, S2, k2, hX2⟩
    go_wp2_with fail
    go_ret
    exact Ret.intro rfl (HK1.out.trans k2) hX2
  · have hr : (if res (nd d i).s = true then some (wrong d st i) else put st { kind := 4, at_ := (nd d i).at_, s := (nd d i).s }) = some (r, st') := by
      rw [if_neg (fun h => by have := h.2.1; unfold heads at this; simp [hk] at this), if_neg hb', if_neg (by omega), if_neg (by omega), if_pos hk] at hr; exact hr
    have hkb1 : ((nd d i).kind == 1) = false := by rw [hk]; rfl
    have hkb2 : ((nd d i).kind == 2) = false := by rw [hk]; rfl
    have hkb3 : ((nd d i).kind == 3) = true := by simpa using hk
    have Hrs := hid (R_reserved X L S1 _ (nd d i).s HX1.out)
    by_cases hs : res (nd d i).s = true
    · rw [if_pos hs] at hr
      rw [hs] at Hrs
      have Hr := hid hr
      clear hr hk hb' hs
      go_enter Try.func26, Try.ntmps26
      go_wp2_with fail
      refine (Hrs.out).mono ?_
      rintro e w2 ⟨rfl, S2, k2, hX2⟩
      go_wp2_with fail
      refine (R_wrongR p b off c d st L S2 _ i r st' hX2 (HE.out.mono k2) hi Hr.out).mono ?_
      rintro e w3 ⟨rfl, S3, k3, hX3⟩
      go_wp2_with fail
      go_ret
      exact Ret.intro rfl ((HK1.out.trans k2).trans k3) hX3
    · rw [if_neg hs] at hr
      replace hs : res (nd d i).s = false := by simpa using hs
      rw [hs] at Hrs
      have Hr := hid hr
      clear hr hk hb' hs
      go_enter Try.func26, Try.ntmps26
      go_wp2_with fail
      refine (Hrs.out).mono ?_
      rintro e w2 ⟨rfl, S2, k2, hX2⟩
      have g1 := X.cell hX2 (Hd1.out.mono k2)
      have g3 := X.cell hX2 (Hd3.out.mono k2)
      have HX2 := hid hX2
      have HK2 := hid k2
      clear hX2 k2
      go_wp2_with fail
      refine (R_put p (dval b off c d) st L S2 _ 4 (nd d i).at_ 0 0 (nd d i).s [] 0 [] (.slice none 0 0) (.slice none 0 0) r st' HX2.out (StrsR.nil _) (NatsR.nil _) Hr.out).mono ?_
      rintro e w3 ⟨rfl, S3, k3, hX3⟩
      go_wp2_with fail
      go_ret
      exact Ret.intro rfl ((HK1.out.trans HK2.out).trans k3) hX3
  · have hkb1 : ((nd d i).kind == 1) = false := by rw [hk]; rfl
    have hkb2 : ((nd d i).kind == 2) = false := by rw [hk]; rfl
    have hkb3 : ((nd d i).kind == 3) = false := by rw [hk]; rfl
    by_cases hl : (nd d i).l = []
    · have hr : some (wrong d st i) = some (r, st') := by
        rw [if_neg (fun h => by have := h.2.1; unfold heads at this; simp [hl] at this), if_neg hb', if_neg (by omega), if_neg (by omega), if_neg (by omega), if_pos hl] at hr; exact hr
      have Hr := hid hr
      have hl0 : ((nd d i).l.length : Int) = 0 := by rw [hl]; rfl
      have hl0b : (((nd d i).l.length : Int) == 0) = true := by rw [hl]; rfl
      have Hl0 := hid hl0
      clear hr hk hb' hl hl0
      go_enter Try.func26, Try.ntmps26
      go_wp2_with fail
      refine (R_wrongR p b off c d st L S1 _ i r st' HX1.out HE.out hi Hr.out).mono ?_
      rintro e w2 ⟨rfl, S2, k2, hX2⟩
      go_wp2_with fail
      go_ret
      exact Ret.intro rfl (HK1.out.trans k2) hX2
    have hl0b : (((nd d i).l.length : Int) == 0) = false := by
      have := List.length_pos_iff.2 hl
      rw [beq_eq_false_iff_ne]; omega
    have hlen1 : 0 < (nd d i).l.length := List.length_pos_iff.2 hl
    have hl0I : (0 : Int) < ((nd d i).l.length : Int) := by omega
    obtain ⟨b1, o1, c2, hlv, _, _, hcc⟩ := HL.out.at_ hl
    simp only [Value.slice.injEq, true_and] at hlv
    obtain ⟨rfl, rfl⟩ := hlv
    obtain ⟨xh, hxh⟩ : ∃ xh, (nd d i).l[0]? = some xh := ⟨_, List.getElem?_eq_some_iff.2 ⟨hlen1, rfl⟩⟩
    have hgh : (nd d i).l.getD 0 0 = xh := by rw [List.getD_eq_getElem?_getD, hxh]; rfl
    have hih : xh < d.length := by have := Hpar.out xh (List.mem_of_getElem? hxh); omega
    have Hxh := hid (hcc 0 xh hxh)
    rw [Nat.add_zero] at Hxh
    obtain ⟨lvh, hNh⟩ := HE.out.at_ xh hih
    obtain ⟨A3, c3, hlv3, _, _⟩ := Sl.shape hNh.l
    subst hlv3
    have HN := hid hNh
    have hxhI : (xh : Int) < (d.length : Int) := by omega
    have hhd : heads d i = (decide ((nd d xh).kind = 3) && res (nd d xh).s) := by
      unfold heads
      rw [hgh]
      congr 1
      simp [hk, hl]
    have hr : (if heads d i = true then (if top = true ∧ headName d i = sDefine then defineS d F i st else special d F (headName d i) i st) else (forms F st (nd d i).l).bind fun x => put x.2 { kind := 10, at_ := (nd d i).at_, l := x.1 }) = some (r, st') := by
      rw [← hr]
      by_cases hh : heads d i = true
      · rw [if_pos hh]
        by_cases hd : top = true ∧ headName d i = sDefine
        · rw [if_pos hd, if_pos ⟨hd.1, hh, hd.2⟩]
        · rw [if_neg hd, if_neg (fun h => hd ⟨h.1, h.2.2⟩), if_neg hb', if_neg (by omega), if_neg (by omega), if_neg (by omega), if_neg hl, if_pos hh]
      · rw [if_neg hh, if_neg (fun h => hh h.2.1), if_neg hb', if_neg (by omega), if_neg (by omega), if_neg (by omega), if_neg hl, if_neg hh, call_forms hl]
    have hin : ∀ j ∈ (nd d i).l, j < d.length := fun j hj => by have := Hpar.out j hj; omega
    have Hin := hid hin
    have Hcc := hid hcc
    clear hb' hk hcc hxh hgh hNh hin
    by_cases h3 : (nd d xh).kind = 3
    · have h3b : ((nd d xh).kind == 3) = true := by simpa using h3
      rw [h3, show decide ((3 : Int) = 3) = true from rfl, Bool.true_and] at hhd
      by_cases hs : res (nd d xh).s = true
      · rw [hs] at hhd
        rw [if_pos hhd] at hr
        have Hhd := hid hhd
        have Hr := hid hr
        have Hs := hid hs
        clear hr hhd h3 hs hl
        go_enter Try.func26, Try.ntmps26
        go_wp2_with fail
        refine wp_plan 11 (.take 0 (.take 1 (.take 2 (.take 3 (.take 4 (.take 5 (.take 6 (.take 7 (.take 8 (.take 9 (.one 10 .fin))))))))))) (fun w' => w'.cell? ⟨p, 0, none⟩ = some (dval b off c d) ∧ w'.cell? ⟨w.heap.size, 4, none⟩ = some (.slice (some ⟨b1, o1, none⟩) (nd d i).l.length c1) ∧ w'.cell? ⟨b1, o1, none⟩ = some (nat xh) ∧ w'.cell? ⟨b, off + xh * 5, none⟩ = some (.int .u8 (nd d xh).kind) ∧ w'.cell? ⟨b, off + xh * 5 + 1, none⟩ = some (.int .i64 (nd d xh).at_) ∧ w'.cell? ⟨b, off + xh * 5 + 2, none⟩ = some (.int .i64 (nd d xh).n) ∧ w'.cell? ⟨b, off + xh * 5 + 3, none⟩ = some (str (nd d xh).s) ∧ w'.cell? ⟨b, off + xh * 5 + 4, none⟩ = some (.slice A3 (nd d xh).l.length c3)) (by kernel_rfl) (by kernel_rfl) (fun _ _ d_ _ _ h_ => by cases d_ <;> exact h_) (⟨((X.drew HX1.out)).d0, X.cell (X.drew HX1.out) (Hd4.out), X.cell (X.drew HX1.out) (Hxh.out), X.cell (X.drew HX1.out) (HN.out.c0), X.cell (X.drew HX1.out) (HN.out.c1), X.cell (X.drew HX1.out) (HN.out.c2), X.cell (X.drew HX1.out) (HN.out.c3), X.cell (X.drew HX1.out) (HN.out.c4)⟩) ?_
        refine Pl.takeW rfl rfl ?v1 ?hy1 ?rest1
        case hy1 => intro w_ _; first | (go_simp; done) | (go_simp; with_reducible rfl)
        simp only [Act.put, List.setIfInBounds_toArray, List.set_cons_zero, List.set_cons_succ]
        refine Pl.takeW rfl rfl ?v2 ?hy2 ?rest2
        case hy2 => intro w_ _; first | (go_simp; done) | (go_simp; with_reducible rfl)
        simp only [Act.put, List.setIfInBounds_toArray, List.set_cons_zero, List.set_cons_succ]
        refine Pl.takeW rfl rfl ?v3 ?hy3 ?rest3
        case hy3 => intro w_ _; first | (go_simp; done) | (go_simp; with_reducible rfl)
        simp only [Act.put, List.setIfInBounds_toArray, List.set_cons_zero, List.set_cons_succ]
        refine Pl.takeW rfl rfl ?v4 ?hy4 ?rest4
        case hy4 => intro w_ hS_; obtain ⟨f_p0, f_d4, f_l0, f_n0, f_n1, f_n2, f_n3, f_n4⟩ := hS_; first | (go_simp; done) | (go_simp; with_reducible rfl)
        simp only [Act.put, List.setIfInBounds_toArray, List.set_cons_zero, List.set_cons_succ]
        refine Pl.takeW rfl rfl ?v5 ?hy5 ?rest5
        case hy5 => intro w_ _; first | (go_simp; done) | (go_simp; with_reducible rfl)
        simp only [Act.put, List.setIfInBounds_toArray, List.set_cons_zero, List.set_cons_succ]
        refine Pl.takeW rfl rfl ?v6 ?hy6 ?rest6
        case hy6 => intro w_ hS_; obtain ⟨f_p0, f_d4, f_l0, f_n0, f_n1, f_n2, f_n3, f_n4⟩ := hS_; first | (go_simp; done) | (go_simp; with_reducible rfl)
        simp only [Act.put, List.setIfInBounds_toArray, List.set_cons_zero, List.set_cons_succ]
        refine Pl.takeW rfl rfl ?v7 ?hy7 ?rest7
        case hy7 => intro w_ _; first | (go_simp; done) | (go_simp; with_reducible rfl)
        simp only [Act.put, List.setIfInBounds_toArray, List.set_cons_zero, List.set_cons_succ]
        refine Pl.takeW rfl rfl ?v8 ?hy8 ?rest8
        case hy8 => intro w_ hS_; obtain ⟨f_p0, f_d4, f_l0, f_n0, f_n1, f_n2, f_n3, f_n4⟩ := hS_; first | (go_simp; done) | (go_simp; with_reducible rfl)
        simp only [Act.put, List.setIfInBounds_toArray, List.set_cons_zero, List.set_cons_succ]
        refine Pl.takeW rfl rfl ?v9 ?hy9 ?rest9
        case hy9 => intro w_ _; first | (go_simp; done) | (go_simp; with_reducible rfl)
        simp only [Act.put, List.setIfInBounds_toArray, List.set_cons_zero, List.set_cons_succ]
        refine Pl.takeW rfl rfl ?v10 ?hy10 ?rest10
        case hy10 => intro w_ hS_; obtain ⟨f_p0, f_d4, f_l0, f_n0, f_n1, f_n2, f_n3, f_n4⟩ := hS_; first | (go_simp; done) | (go_simp; with_reducible rfl)
        simp only [Act.put, List.setIfInBounds_toArray, List.set_cons_zero, List.set_cons_succ]
        refine Pl.oneW rfl rfl (fun K_ hK_ => ?_)
        go_simp
        refine hK_ _ _ ⟨((X.drew (X.alloc0 HX1.out _))).d0, X.cell (X.drew (X.alloc0 HX1.out _)) (Hd4.out), X.cell (X.drew (X.alloc0 HX1.out _)) (Hxh.out), X.cell (X.drew (X.alloc0 HX1.out _)) (HN.out.c0), X.cell (X.drew (X.alloc0 HX1.out _)) (HN.out.c1), X.cell (X.drew (X.alloc0 HX1.out _)) (HN.out.c2), X.cell (X.drew (X.alloc0 HX1.out _)) (HN.out.c3), X.cell (X.drew (X.alloc0 HX1.out _)) (HN.out.c4)⟩ ?_
        show wpList _ _ _ _ _ _
        simp only [List.drop_succ_cons, List.drop_zero]
        obtain ⟨Sb, kb, hXb, sb⟩ := X.box HX1.out #[.int .u8 (nd d xh).kind, .int .i64 (nd d xh).at_, .int .i64 (nd d xh).n, str (nd d xh).s, .slice A3 (nd d xh).l.length c3] 60
        have HXb := hid hXb
        have HKb := hid kb
        have Hb0 := hid (sb 0 _ rfl)
        have Hb3 := hid (sb 3 _ rfl)
        clear hXb kb sb
        have Hrs := hid (R_reserved X L Sb _ (nd d xh).s (X.drew HXb.out))
        rw [Hs.out] at Hrs
        go_wp2_with fail
        refine (Hrs.out).mono ?_
        rintro e w3 ⟨rfl, S3, k3, hX3⟩
        have HX3 := hid hX3
        have HK3 := hid ((HK1.out.trans HKb.out).trans k3)
        have HE3 := hid ((HE.out.mono HKb.out).mono k3)
        clear hX3 k3
        go_wp2_with fail
        refine (R_special p b off c d st L S3 _ top F HF.out i r st' HX3.out HE3.out hi Hhd.out Hr.out).mono ?_
        rintro e w4 ⟨rfl, S4, k4, hX4⟩
        go_wp2_with fail
        go_ret
        exact Ret.intro rfl (HK3.out.trans k4) hX4
      · replace hs : res (nd d xh).s = false := by simpa using hs
        rw [hs] at hhd
        rw [if_neg (by rw [hhd]; exact Bool.false_ne_true)] at hr
        have Hr := hid hr
        have Hs := hid hs
        clear hr hhd h3 hs
        go_enter Try.func26, Try.ntmps26
        go_wp2_with fail
        refine wp_plan 11 (.take 0 (.take 1 (.take 2 (.take 3 (.take 4 (.take 5 (.take 6 (.take 7 (.take 8 (.take 9 (.one 10 .fin))))))))))) (fun w' => w'.cell? ⟨p, 0, none⟩ = some (dval b off c d) ∧ w'.cell? ⟨w.heap.size, 4, none⟩ = some (.slice (some ⟨b1, o1, none⟩) (nd d i).l.length c1) ∧ w'.cell? ⟨b1, o1, none⟩ = some (nat xh) ∧ w'.cell? ⟨b, off + xh * 5, none⟩ = some (.int .u8 (nd d xh).kind) ∧ w'.cell? ⟨b, off + xh * 5 + 1, none⟩ = some (.int .i64 (nd d xh).at_) ∧ w'.cell? ⟨b, off + xh * 5 + 2, none⟩ = some (.int .i64 (nd d xh).n) ∧ w'.cell? ⟨b, off + xh * 5 + 3, none⟩ = some (str (nd d xh).s) ∧ w'.cell? ⟨b, off + xh * 5 + 4, none⟩ = some (.slice A3 (nd d xh).l.length c3)) (by kernel_rfl) (by kernel_rfl) (fun _ _ d_ _ _ h_ => by cases d_ <;> exact h_) (⟨((X.drew HX1.out)).d0, X.cell (X.drew HX1.out) (Hd4.out), X.cell (X.drew HX1.out) (Hxh.out), X.cell (X.drew HX1.out) (HN.out.c0), X.cell (X.drew HX1.out) (HN.out.c1), X.cell (X.drew HX1.out) (HN.out.c2), X.cell (X.drew HX1.out) (HN.out.c3), X.cell (X.drew HX1.out) (HN.out.c4)⟩) ?_
        refine Pl.takeW rfl rfl ?v11 ?hy11 ?rest11
        case hy11 => intro w_ _; first | (go_simp; done) | (go_simp; with_reducible rfl)
        simp only [Act.put, List.setIfInBounds_toArray, List.set_cons_zero, List.set_cons_succ]
        refine Pl.takeW rfl rfl ?v12 ?hy12 ?rest12
        case hy12 => intro w_ _; first | (go_simp; done) | (go_simp; with_reducible rfl)
        simp only [Act.put, List.setIfInBounds_toArray, List.set_cons_zero, List.set_cons_succ]
        refine Pl.takeW rfl rfl ?v13 ?hy13 ?rest13
        case hy13 => intro w_ _; first | (go_simp; done) | (go_simp; with_reducible rfl)
        simp only [Act.put, List.setIfInBounds_toArray, List.set_cons_zero, List.set_cons_succ]
        refine Pl.takeW rfl rfl ?v14 ?hy14 ?rest14
        case hy14 => intro w_ hS_; obtain ⟨f_p0, f_d4, f_l0, f_n0, f_n1, f_n2, f_n3, f_n4⟩ := hS_; first | (go_simp; done) | (go_simp; with_reducible rfl)
        simp only [Act.put, List.setIfInBounds_toArray, List.set_cons_zero, List.set_cons_succ]
        refine Pl.takeW rfl rfl ?v15 ?hy15 ?rest15
        case hy15 => intro w_ _; first | (go_simp; done) | (go_simp; with_reducible rfl)
        simp only [Act.put, List.setIfInBounds_toArray, List.set_cons_zero, List.set_cons_succ]
        refine Pl.takeW rfl rfl ?v16 ?hy16 ?rest16
        case hy16 => intro w_ hS_; obtain ⟨f_p0, f_d4, f_l0, f_n0, f_n1, f_n2, f_n3, f_n4⟩ := hS_; first | (go_simp; done) | (go_simp; with_reducible rfl)
        simp only [Act.put, List.setIfInBounds_toArray, List.set_cons_zero, List.set_cons_succ]
        refine Pl.takeW rfl rfl ?v17 ?hy17 ?rest17
        case hy17 => intro w_ _; first | (go_simp; done) | (go_simp; with_reducible rfl)
        simp only [Act.put, List.setIfInBounds_toArray, List.set_cons_zero, List.set_cons_succ]
        refine Pl.takeW rfl rfl ?v18 ?hy18 ?rest18
        case hy18 => intro w_ hS_; obtain ⟨f_p0, f_d4, f_l0, f_n0, f_n1, f_n2, f_n3, f_n4⟩ := hS_; first | (go_simp; done) | (go_simp; with_reducible rfl)
        simp only [Act.put, List.setIfInBounds_toArray, List.set_cons_zero, List.set_cons_succ]
        refine Pl.takeW rfl rfl ?v19 ?hy19 ?rest19
        case hy19 => intro w_ _; first | (go_simp; done) | (go_simp; with_reducible rfl)
        simp only [Act.put, List.setIfInBounds_toArray, List.set_cons_zero, List.set_cons_succ]
        refine Pl.takeW rfl rfl ?v20 ?hy20 ?rest20
        case hy20 => intro w_ hS_; obtain ⟨f_p0, f_d4, f_l0, f_n0, f_n1, f_n2, f_n3, f_n4⟩ := hS_; first | (go_simp; done) | (go_simp; with_reducible rfl)
        simp only [Act.put, List.setIfInBounds_toArray, List.set_cons_zero, List.set_cons_succ]
        refine Pl.oneW rfl rfl (fun K_ hK_ => ?_)
        go_simp
        refine hK_ _ _ ⟨((X.drew (X.alloc0 HX1.out _))).d0, X.cell (X.drew (X.alloc0 HX1.out _)) (Hd4.out), X.cell (X.drew (X.alloc0 HX1.out _)) (Hxh.out), X.cell (X.drew (X.alloc0 HX1.out _)) (HN.out.c0), X.cell (X.drew (X.alloc0 HX1.out _)) (HN.out.c1), X.cell (X.drew (X.alloc0 HX1.out _)) (HN.out.c2), X.cell (X.drew (X.alloc0 HX1.out _)) (HN.out.c3), X.cell (X.drew (X.alloc0 HX1.out _)) (HN.out.c4)⟩ ?_
        show wpList _ _ _ _ _ _
        simp only [List.drop_succ_cons, List.drop_zero]
        obtain ⟨Sb, kb, hXb, sb⟩ := X.box HX1.out #[.int .u8 (nd d xh).kind, .int .i64 (nd d xh).at_, .int .i64 (nd d xh).n, str (nd d xh).s, .slice A3 (nd d xh).l.length c3] 60
        have HXb := hid hXb
        have HKb := hid kb
        have Hb0 := hid (sb 0 _ rfl)
        have Hb3 := hid (sb 3 _ rfl)
        clear hXb kb sb
        have Hrs := hid (R_reserved X L Sb _ (nd d xh).s (X.drew HXb.out))
        rw [Hs.out] at Hrs
        go_wp2_with fail
        refine (Hrs.out).mono ?_
        rintro e w3 ⟨rfl, S3, k3, hX3⟩
        have hr := Hr.out
        have HX3 := hid hX3
        have HK3 := hid (HKb.out.trans k3)
        clear hX3 k3
        obtain ⟨⟨rs, st1⟩, hr1, hr2⟩ := Option.bind_eq_some_iff.1 hr
        have hrl := forms_len hr1
        have HX0 := hid (Xs.rowNil X HX3.out 3 1)
        have HE0 := hid (HE.out.mono HK3.out)
        have HL0 := hid (HL.out.mono HK3.out)
        have Hd10 := hid (Hd1.out.mono HK3.out)
        have Hd40 := hid (Hd4.out.mono HK3.out)
        have HK0 := hid (HK1.out.trans HK3.out)
        have Hr1 := hid hr1
        have Hr2 := hid hr2
        have Hrl := hid hrl
        clear hr hr1 hr2 hrl hl
        generalize hSn : S3 = Sn at HX0 HE0 HL0 Hd10 Hd40 HK0
        have HSn := hid hSn
        clear hSn
        generalize hll0 : (nd d i).l = l at *
        go_wp2_with fail
        go_loopw [9, 10] (fun v i wr => FormsRel (RX p (dval b off c d)) F 3 l st1 rs [] L Sn v i wr) (fun _ i _ => l.length - (intOf i).toNat)
        case atStart => exact ⟨0, [], st, Sn, rs, Nat.zero_le _, rfl, Seal.le.refl Sn, HX0.out, Hr1.out, rfl, rfl⟩
        case round =>
          obtain ⟨k, o, st2, S2, rest, hk, rfl, hS2, hX2, hf2, hrs, hok⟩ := hrel
          rw [List.nil_append] at hX2
          have X2 := RX.xs p (dval b off c d) st2
          have g4 := X2.cell hX2 (Hd40.out.mono hS2)
          have HS2 := hid hS2
          have HX2 := hid hX2
          have Hf2 := hid hf2
          have Hrs2 := hid hrs
          have Hok := hid hok
          have hoL : o.length ≤ l.length := by omega
          clear hS2 hX2 hf2 hrs hok
          by_cases hlt : k < l.length
          · obtain ⟨b5, o5, c6, hv, _, _, hc⟩ := HL0.out.at_ (by intro h; subst h; simp at hlt)
            simp only [Value.slice.injEq, Option.some.injEq, Addr.mk.injEq, true_and, and_true] at hv
            obtain ⟨⟨rfl, rfl⟩, rfl⟩ := hv
            have hcell := X2.cell HX2.out ((hc k _ (List.getElem?_eq_some_iff.2 ⟨hlt, rfl⟩)).mono HS2.out)
            have hd : l.drop k = l[k] :: l.drop (k + 1) := List.drop_eq_getElem_cons hlt
            have hf2 := Hf2.out
            rw [hd] at hf2
            obtain ⟨r3, st3, rest3, h31, h32, h33⟩ := forms_cons hf2
            have Hi := hid (Hin.out l[k] (List.getElem_mem hlt))
            have hkI : (k : Int) < (l.length : Int) := by omega
            have H31 := hid h31
            have H32 := hid h32
            have H33 := hid h33
            clear hd hf2 h31 h32 h33 hc
            generalize l[k] = x at *
            go_wp2_with fail
            refine (HF.out st2 _ S2 _ x r3 st3 HX2.out (HE0.out.mono HS2.out) Hi.out H31.out).mono ?_
            rintro e w4 ⟨rfl, S4, k4, hX4⟩
            have HA5 := hid (Xs.alloc0 (RX.xs _ _ _) hX4 (.cells #[nat r3] 3))
            have HN5 := hid (cells_new w4 _ rfl [nat r3] 3)
            go_wp2_with (at_builtin; refine wpList_appendX tyInts (RX.xs _ _ _) rfl (.tmp 93) (.tmp 101) rfl rfl HA5.out ⟨w4.heap.size, 0, none⟩ 1 1 [nat r3] rfl rfl HN5.out ?c1_5 ?c2_5 ?c3_5 ?c4_5)
            case c1_5 => simp [Value.oneCell']
            case c2_5 => omega
            case c3_5 => unfold maxLen; omega
            clear HA5 HN5
            intro v5 u5 hY5
            have HX5 := hid hY5
            have HK := hid (HS2.out.trans k4)
            clear hY5 hX4 k4
            go_wp2_with fail
            go_roundw
            case rel =>
              refine ⟨k + 1, o ++ [r3], st3, S4, rest3, by omega, by go_num, HK.out, by simpa using HX5.out, H32.out, ?_, by simp [Hok.out]⟩
              rw [Hrs2.out]; simp [H33.out]
            case measure => simp [intOf]; omega
          · have hk' : k = l.length := by omega
            have hf2 := Hf2.out
            rw [hk', List.drop_length] at hf2
            have e1 := forms_nil hf2
            simp only [Prod.mk.injEq] at e1
            obtain ⟨e2, e3⟩ := e1
            subst e2 e3
            have e4 : rs = o := by rw [Hrs2.out]; simp
            subst e4
            obtain ⟨A5, c5, rfl, _, _⟩ := X2.rowLen HX2.out
            obtain ⟨S3, k3, hX3, hs3⟩ := X2.sealRow HX2.out
            have g1 := X2.cell hX3 ((Hd10.out.mono HS2.out).mono k3)
            have HS3 := hid hs3
            have HX3 := hid hX3
            have HK := hid (HS2.out.trans k3)
            clear hf2 hk' hs3 hX3 k3
            go_wp2_with fail
            refine (R_put p (dval b off c d) st1 L S3 _ 10 (nd d i).at_ 0 0 [] [] 0 rs (.slice none 0 0) _ r st' HX3.out (StrsR.nil _) HS3.out Hr2.out).mono ?_
            rintro e w6 ⟨rfl, S6, k6, hX6⟩
            go_wp2_with fail
            go_ret
            exact Ret.intro rfl ((HK0.out.trans HK.out).trans k6) hX6
    · have h3b : ((nd d xh).kind == 3) = false := by simpa using h3
      rw [decide_eq_false h3, Bool.false_and] at hhd
      rw [if_neg (by rw [hhd]; exact Bool.false_ne_true)] at hr
      have Hr := hid hr
      clear hr hhd h3
      go_enter Try.func26, Try.ntmps26
      go_wp2_with fail
      refine wp_plan 11 (.take 0 (.take 1 (.take 2 (.take 3 (.take 4 (.take 5 (.take 6 (.take 7 (.take 8 (.take 9 (.one 10 .fin))))))))))) (fun w' => w'.cell? ⟨p, 0, none⟩ = some (dval b off c d) ∧ w'.cell? ⟨w.heap.size, 4, none⟩ = some (.slice (some ⟨b1, o1, none⟩) (nd d i).l.length c1) ∧ w'.cell? ⟨b1, o1, none⟩ = some (nat xh) ∧ w'.cell? ⟨b, off + xh * 5, none⟩ = some (.int .u8 (nd d xh).kind) ∧ w'.cell? ⟨b, off + xh * 5 + 1, none⟩ = some (.int .i64 (nd d xh).at_) ∧ w'.cell? ⟨b, off + xh * 5 + 2, none⟩ = some (.int .i64 (nd d xh).n) ∧ w'.cell? ⟨b, off + xh * 5 + 3, none⟩ = some (str (nd d xh).s) ∧ w'.cell? ⟨b, off + xh * 5 + 4, none⟩ = some (.slice A3 (nd d xh).l.length c3)) (by kernel_rfl) (by kernel_rfl) (fun _ _ d_ _ _ h_ => by cases d_ <;> exact h_) (⟨((X.drew HX1.out)).d0, X.cell (X.drew HX1.out) (Hd4.out), X.cell (X.drew HX1.out) (Hxh.out), X.cell (X.drew HX1.out) (HN.out.c0), X.cell (X.drew HX1.out) (HN.out.c1), X.cell (X.drew HX1.out) (HN.out.c2), X.cell (X.drew HX1.out) (HN.out.c3), X.cell (X.drew HX1.out) (HN.out.c4)⟩) ?_
      refine Pl.takeW rfl rfl ?v21 ?hy21 ?rest21
      case hy21 => intro w_ _; first | (go_simp; done) | (go_simp; with_reducible rfl)
      simp only [Act.put, List.setIfInBounds_toArray, List.set_cons_zero, List.set_cons_succ]
      refine Pl.takeW rfl rfl ?v22 ?hy22 ?rest22
      case hy22 => intro w_ _; first | (go_simp; done) | (go_simp; with_reducible rfl)
      simp only [Act.put, List.setIfInBounds_toArray, List.set_cons_zero, List.set_cons_succ]
      refine Pl.takeW rfl rfl ?v23 ?hy23 ?rest23
      case hy23 => intro w_ _; first | (go_simp; done) | (go_simp; with_reducible rfl)
      simp only [Act.put, List.setIfInBounds_toArray, List.set_cons_zero, List.set_cons_succ]
      refine Pl.takeW rfl rfl ?v24 ?hy24 ?rest24
      case hy24 => intro w_ hS_; obtain ⟨f_p0, f_d4, f_l0, f_n0, f_n1, f_n2, f_n3, f_n4⟩ := hS_; first | (go_simp; done) | (go_simp; with_reducible rfl)
      simp only [Act.put, List.setIfInBounds_toArray, List.set_cons_zero, List.set_cons_succ]
      refine Pl.takeW rfl rfl ?v25 ?hy25 ?rest25
      case hy25 => intro w_ _; first | (go_simp; done) | (go_simp; with_reducible rfl)
      simp only [Act.put, List.setIfInBounds_toArray, List.set_cons_zero, List.set_cons_succ]
      refine Pl.takeW rfl rfl ?v26 ?hy26 ?rest26
      case hy26 => intro w_ hS_; obtain ⟨f_p0, f_d4, f_l0, f_n0, f_n1, f_n2, f_n3, f_n4⟩ := hS_; first | (go_simp; done) | (go_simp; with_reducible rfl)
      simp only [Act.put, List.setIfInBounds_toArray, List.set_cons_zero, List.set_cons_succ]
      refine Pl.takeW rfl rfl ?v27 ?hy27 ?rest27
      case hy27 => intro w_ _; first | (go_simp; done) | (go_simp; with_reducible rfl)
      simp only [Act.put, List.setIfInBounds_toArray, List.set_cons_zero, List.set_cons_succ]
      refine Pl.takeW rfl rfl ?v28 ?hy28 ?rest28
      case hy28 => intro w_ hS_; obtain ⟨f_p0, f_d4, f_l0, f_n0, f_n1, f_n2, f_n3, f_n4⟩ := hS_; first | (go_simp; done) | (go_simp; with_reducible rfl)
      simp only [Act.put, List.setIfInBounds_toArray, List.set_cons_zero, List.set_cons_succ]
      refine Pl.takeW rfl rfl ?v29 ?hy29 ?rest29
      case hy29 => intro w_ _; first | (go_simp; done) | (go_simp; with_reducible rfl)
      simp only [Act.put, List.setIfInBounds_toArray, List.set_cons_zero, List.set_cons_succ]
      refine Pl.takeW rfl rfl ?v30 ?hy30 ?rest30
      case hy30 => intro w_ hS_; obtain ⟨f_p0, f_d4, f_l0, f_n0, f_n1, f_n2, f_n3, f_n4⟩ := hS_; first | (go_simp; done) | (go_simp; with_reducible rfl)
      simp only [Act.put, List.setIfInBounds_toArray, List.set_cons_zero, List.set_cons_succ]
      refine Pl.oneW rfl rfl (fun K_ hK_ => ?_)
      go_simp
      refine hK_ _ _ ⟨((X.drew (X.alloc0 HX1.out _))).d0, X.cell (X.drew (X.alloc0 HX1.out _)) (Hd4.out), X.cell (X.drew (X.alloc0 HX1.out _)) (Hxh.out), X.cell (X.drew (X.alloc0 HX1.out _)) (HN.out.c0), X.cell (X.drew (X.alloc0 HX1.out _)) (HN.out.c1), X.cell (X.drew (X.alloc0 HX1.out _)) (HN.out.c2), X.cell (X.drew (X.alloc0 HX1.out _)) (HN.out.c3), X.cell (X.drew (X.alloc0 HX1.out _)) (HN.out.c4)⟩ ?_
      show wpList _ _ _ _ _ _
      simp only [List.drop_succ_cons, List.drop_zero]
      obtain ⟨Sb, kb, hXb, sb⟩ := X.box HX1.out #[.int .u8 (nd d xh).kind, .int .i64 (nd d xh).at_, .int .i64 (nd d xh).n, str (nd d xh).s, .slice A3 (nd d xh).l.length c3] 60
      have HXb := hid hXb
      have HKb := hid kb
      have Hb0 := hid (sb 0 _ rfl)
      have Hb3 := hid (sb 3 _ rfl)
      clear hXb kb sb
      have hr := Hr.out
      obtain ⟨⟨rs, st1⟩, hr1, hr2⟩ := Option.bind_eq_some_iff.1 hr
      have hrl := forms_len hr1
      have HX0 := hid (Xs.rowNil X (X.drew HXb.out) 3 1)
      have HE0 := hid (HE.out.mono HKb.out)
      have HL0 := hid (HL.out.mono HKb.out)
      have Hd10 := hid (Hd1.out.mono HKb.out)
      have Hd40 := hid (Hd4.out.mono HKb.out)
      have HK0 := hid (HK1.out.trans HKb.out)
      have Hr1 := hid hr1
      have Hr2 := hid hr2
      have Hrl := hid hrl
      clear hr hr1 hr2 hrl hl
      generalize hSn : Sb = Sn at HX0 HE0 HL0 Hd10 Hd40 HK0
      have HSn := hid hSn
      clear hSn
      generalize hll0 : (nd d i).l = l at *
      go_wp2_with fail
      go_loopw [9, 10] (fun v i wr => FormsRel (RX p (dval b off c d)) F 3 l st1 rs [] L Sn v i wr) (fun _ i _ => l.length - (intOf i).toNat)
      case atStart => exact ⟨0, [], st, Sn, rs, Nat.zero_le _, rfl, Seal.le.refl Sn, HX0.out, Hr1.out, rfl, rfl⟩
      case round =>
        obtain ⟨k, o, st2, S2, rest, hk, rfl, hS2, hX2, hf2, hrs, hok⟩ := hrel
        rw [List.nil_append] at hX2
        have X2 := RX.xs p (dval b off c d) st2
        have g4 := X2.cell hX2 (Hd40.out.mono hS2)
        have HS2 := hid hS2
        have HX2 := hid hX2
        have Hf2 := hid hf2
        have Hrs2 := hid hrs
        have Hok := hid hok
        have hoL : o.length ≤ l.length := by omega
        clear hS2 hX2 hf2 hrs hok
        by_cases hlt : k < l.length
        · obtain ⟨b5, o5, c6, hv, _, _, hc⟩ := HL0.out.at_ (by intro h; subst h; simp at hlt)
          simp only [Value.slice.injEq, Option.some.injEq, Addr.mk.injEq, true_and, and_true] at hv
          obtain ⟨⟨rfl, rfl⟩, rfl⟩ := hv
          have hcell := X2.cell HX2.out ((hc k _ (List.getElem?_eq_some_iff.2 ⟨hlt, rfl⟩)).mono HS2.out)
          have hd : l.drop k = l[k] :: l.drop (k + 1) := List.drop_eq_getElem_cons hlt
          have hf2 := Hf2.out
          rw [hd] at hf2
          obtain ⟨r3, st3, rest3, h31, h32, h33⟩ := forms_cons hf2
          have Hi := hid (Hin.out l[k] (List.getElem_mem hlt))
          have hkI : (k : Int) < (l.length : Int) := by omega
          have H31 := hid h31
          have H32 := hid h32
          have H33 := hid h33
          clear hd hf2 h31 h32 h33 hc
          generalize l[k] = x at *
          go_wp2_with fail
          refine (HF.out st2 _ S2 _ x r3 st3 HX2.out (HE0.out.mono HS2.out) Hi.out H31.out).mono ?_
          rintro e w4 ⟨rfl, S4, k4, hX4⟩
          have HA7 := hid (Xs.alloc0 (RX.xs _ _ _) hX4 (.cells #[nat r3] 3))
          have HN7 := hid (cells_new w4 _ rfl [nat r3] 3)
          go_wp2_with (at_builtin; refine wpList_appendX tyInts (RX.xs _ _ _) rfl (.tmp 93) (.tmp 101) rfl rfl HA7.out ⟨w4.heap.size, 0, none⟩ 1 1 [nat r3] rfl rfl HN7.out ?c1_7 ?c2_7 ?c3_7 ?c4_7)
          case c1_7 => simp [Value.oneCell']
          case c2_7 => omega
          case c3_7 => unfold maxLen; omega
          clear HA7 HN7
          intro v7 u7 hY7
          have HX5 := hid hY7
          have HK := hid (HS2.out.trans k4)
          clear hY7 hX4 k4
          go_wp2_with fail
          go_roundw
          case rel =>
            refine ⟨k + 1, o ++ [r3], st3, S4, rest3, by omega, by go_num, HK.out, by simpa using HX5.out, H32.out, ?_, by simp [Hok.out]⟩
            rw [Hrs2.out]; simp [H33.out]
          case measure => simp [intOf]; omega
        · have hk' : k = l.length := by omega
          have hf2 := Hf2.out
          rw [hk', List.drop_length] at hf2
          have e1 := forms_nil hf2
          simp only [Prod.mk.injEq] at e1
          obtain ⟨e2, e3⟩ := e1
          subst e2 e3
          have e4 : rs = o := by rw [Hrs2.out]; simp
          subst e4
          obtain ⟨A5, c5, rfl, _, _⟩ := X2.rowLen HX2.out
          obtain ⟨S3, k3, hX3, hs3⟩ := X2.sealRow HX2.out
          have g1 := X2.cell hX3 ((Hd10.out.mono HS2.out).mono k3)
          have HS3 := hid hs3
          have HX3 := hid hX3
          have HK := hid (HS2.out.trans k3)
          clear hf2 hk' hs3 hX3 k3
          go_wp2_with fail
          refine (R_put p (dval b off c d) st1 L S3 _ 10 (nd d i).at_ 0 0 [] [] 0 rs (.slice none 0 0) _ r st' HX3.out (StrsR.nil _) HS3.out Hr2.out).mono ?_
          rintro e w6 ⟨rfl, S6, k6, hX6⟩
          go_wp2_with fail
          go_ret
          exact Ret.intro rfl ((HK0.out.trans HK.out).trans k6) hX6
theorem R_step (F : Fm) (HF : OkR p b off c d F) : OkR p b off c d (step d F) := by
  intro st L S w i r st' hX hE hi hr
  exact R_stepB p b off c d st L S w false F HF i r st' hX hE hi (by rw [if_neg (by simp)]; exact hr)
theorem R_form (k : Nat) : OkR p b off c d (form d k) := by
  induction k with
  | zero => intro st L S w i r st' _ _ _ hr; cases hr
  | succ k ih => exact R_step p b off c d _ ih
theorem R_top (F : Fm) (HF : OkR p b off c d F) (i r : Nat) (st' : St) (hX : RX p (dval b off c d) st L S w) (hE : Env S b off c d) (hi : i < d.length) (hr : topS d F st i = some (r, st')) :
    Calls Try.prog 26 #[ptr p, nat i, .bool true] w (Ret S (RX p (dval b off c d) st' L) (nat r)) :=
  R_stepB p b off c d st L S w true F HF i r st' hX hE hi (by rw [if_pos rfl]; exact hr)
end
end Go.Proofs.Ytjjbidajkmodfaa
