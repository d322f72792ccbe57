/- Texts P15 of the proof. What each theorem says stands in its own statement. No condition beyond those that it names. -/
import Derived.Test.YtjjbidajkmodfaaXa4
import Derived.Test.YtjjbidajkmodfaaXa5
set_option linter.unusedVariables false
set_option linter.unusedSimpArgs false
namespace Go.Proofs.Ytjjbidajkmodfaa
open Go Go.RowKit
section
variable (p b off c : Nat) (d : List Node) (st : St) (L : List Atom) (S : Seal) (w : World)
set_option maxRecDepth 100000 in
set_option maxHeartbeats 2000000 in
theorem P_lambdaC (F : Fm) (HF : OkP p b off c d F) (i bl bx bd : Nat) (r : Nat) (st' : St) (hX : PX p (dval b off c d) st L S w) (hE : Env S b off c d) (hC : Cap p b off d S i bl bx bd) (hi : i < d.length)
    (hr : lambdaS d F i st = some (r, st')) :
    Calls Try.prog 83 #[ptr bx, ptr bd] w (Ret S (PX p (dval b off c d) st' L) (nat r)) := by
  have e1 := hX.cell hC.hx
  have e2 := hX.cell hC.hd
  have HX := hid hX
  have HE := hid hE
  have HF := hid HF
  have Hr := hid hr
  clear hX hE hC hr
  go_enter Try.func83, Try.ntmps83
  go_wp2_with fail
  refine (P_lambda p b off c d st L S _ F HF.out i r st' HX.out HE.out hi Hr.out).mono ?_
  rintro e w1 ⟨rfl, S1, k1, hX1⟩
  go_wp2_with fail
  go_ret
  exact Ret.intro rfl k1 hX1
set_option maxRecDepth 100000 in
set_option maxHeartbeats 2000000 in
theorem P_letC (F : Fm) (HF : OkP p b off c d F) (i bl bx bd : Nat) (r : Nat) (st' : St) (hX : PX p (dval b off c d) st L S w) (hE : Env S b off c d) (hC : Cap p b off d S i bl bx bd) (hi : i < d.length)
    (hr : letS d F i st = some (r, st')) :
    Calls Try.prog 85 #[ptr bx, ptr bd] w (Ret S (PX p (dval b off c d) st' L) (nat r)) := by
  have e1 := hX.cell hC.hx
  have e2 := hX.cell hC.hd
  have HX := hid hX
  have HE := hid hE
  have HF := hid HF
  have Hr := hid hr
  clear hX hE hC hr
  go_enter Try.func85, Try.ntmps85
  go_wp2_with fail
  refine (P_let p b off c d st L S _ F HF.out i r st' HX.out HE.out hi Hr.out).mono ?_
  rintro e w1 ⟨rfl, S1, k1, hX1⟩
  go_wp2_with fail
  go_ret
  exact Ret.intro rfl k1 hX1
set_option maxRecDepth 100000 in
set_option maxHeartbeats 2000000 in
theorem P_letsC (F : Fm) (HF : OkP p b off c d F) (i bl bx bd : Nat) (r : Nat) (st' : St) (hX : PX p (dval b off c d) st L S w) (hE : Env S b off c d) (hC : Cap p b off d S i bl bx bd) (hi : i < d.length)
    (hr : letsS d F i st = some (r, st')) :
    Calls Try.prog 87 #[ptr bx, ptr bd] w (Ret S (PX p (dval b off c d) st' L) (nat r)) := by
  have e1 := hX.cell hC.hx
  have e2 := hX.cell hC.hd
  have HX := hid hX
  have HE := hid hE
  have HF := hid HF
  have Hr := hid hr
  clear hX hE hC hr
  go_enter Try.func87, Try.ntmps87
  go_wp2_with fail
  refine (P_lets p b off c d st L S _ F HF.out i r st' HX.out HE.out hi Hr.out).mono ?_
  rintro e w1 ⟨rfl, S1, k1, hX1⟩
  go_wp2_with fail
  go_ret
  exact Ret.intro rfl k1 hX1
set_option maxRecDepth 100000 in
set_option maxHeartbeats 2000000 in
theorem P_andC (F : Fm) (HF : OkP p b off c d F) (i bl bx bd : Nat) (r : Nat) (st' : St) (hX : PX p (dval b off c d) st L S w) (hE : Env S b off c d) (hC : Cap p b off d S i bl bx bd) (hi : i < d.length) (hlen : 1 ≤ (nd d i).l.length)
    (hr : andS F (nd d i).at_ st ((nd d i).l.drop 1) = some (r, st')) :
    Calls Try.prog 89 #[ptr bx, ptr bd] w (Ret S (PX p (dval b off c d) st' L) (nat r)) := by
  have X := PX.xs p (dval b off c d) st
  obtain ⟨lv, hN⟩ := hE.at_ i hi
  obtain ⟨b1, o1, c1, hlv, h1, _, hcc⟩ := hN.l.at_ (by intro h; rw [h] at hlen; simp at hlen)
  subst hlv
  have HX := hid hX
  have HE := hid hE
  have HF := hid HF
  have HN := hid hN
  have HC := hid hC
  have Hcc := hid hcc
  have Hinl : Hid (∀ j ∈ (nd d i).l, j < d.length) := hid fun j hj => by have := hE.dat.par i hi j hj; omega
  have e1 := X.cell hX hC.hx
  have e2 := X.cell hX hC.hd
  have e3 := X.cell hX hN.c4
  have e4 := X.cell hX hN.c1
  have hl := hN.l
  have Hr := hid hr
  clear hX hE hN hC hcc hr
  generalize (nd d i).l = l at *
  match l, hlen with
  | y :: t, _ =>
    have htl := NatsR.tailIf hl
    generalize hA : (if c1 = 1 then (some ⟨b1, o1, none⟩ : Option Addr) else some ⟨b1, o1 + 1, none⟩) = A1 at htl
    have Htl := hid htl
    have g1 : (1 : Int) ≤ (t.length : Int) + 1 := by omega
    clear hl htl
    go_enter Try.func89, Try.ntmps89
    go_wp2_with fail
    refine wp_plan 10 (.take 0 (.take 1 (.take 2 (.take 3 (.take 4 (.take 5 (.take 6 (.take 7 (.take 8 (.take 9 .fin)))))))))) (fun w_ => w_ = _) (by kernel_rfl) (by kernel_rfl) (fun _ _ d_ _ _ h_ => by cases d_ <;> exact h_) rfl ?_
    refine Pl.takeW rfl rfl ?v1 ?hy1 ?rest1
    case hy1 => intro w_ hS_; subst hS_; first | (go_simp; done) | (go_simp; with_reducible rfl)
    simp only [Act.put, List.setIfInBounds_toArray, List.set_cons_zero, List.set_cons_succ]
    refine Pl.takeW rfl rfl ?v2 ?hy2 ?rest2
    case hy2 => intro w_ hS_; subst hS_; first | (go_simp; done) | (go_simp; with_reducible rfl)
    simp only [Act.put, List.setIfInBounds_toArray, List.set_cons_zero, List.set_cons_succ]
    refine Pl.takeW rfl rfl ?v3 ?hy3 ?rest3
    case hy3 => intro w_ _; first | (go_simp; done) | (go_simp; with_reducible rfl)
    simp only [Act.put, List.setIfInBounds_toArray, List.set_cons_zero, List.set_cons_succ]
    refine Pl.takeW rfl rfl ?v4 ?hy4 ?rest4
    case hy4 => intro w_ _; first | (go_simp; done) | (go_simp; with_reducible rfl)
    simp only [Act.put, List.setIfInBounds_toArray, List.set_cons_zero, List.set_cons_succ]
    refine Pl.takeW rfl rfl ?v5 ?hy5 ?rest5
    case hy5 => intro w_ hS_; subst hS_; first | (go_simp; done) | (go_simp; with_reducible rfl)
    simp only [Act.put, List.setIfInBounds_toArray, List.set_cons_zero, List.set_cons_succ]
    refine Pl.takeW rfl rfl ?v6 ?hy6 ?rest6
    case hy6 => intro w_ hS_; subst hS_; first | (go_simp; done) | (go_simp; with_reducible rfl)
    simp only [Act.put, List.setIfInBounds_toArray, List.set_cons_zero, List.set_cons_succ]
    refine Pl.takeW rfl rfl ?v7 ?hy7 ?rest7
    case hy7 => intro w_ _; first | (go_simp; done) | (go_simp; with_reducible rfl)
    simp only [Act.put, List.setIfInBounds_toArray, List.set_cons_zero, List.set_cons_succ]
    refine Pl.takeW rfl rfl ?v8 ?hy8 ?rest8
    case hy8 => intro w_ _; first | (go_simp; done) | (go_simp; with_reducible rfl)
    simp only [Act.put, List.setIfInBounds_toArray, List.set_cons_zero, List.set_cons_succ]
    refine Pl.takeW rfl rfl ?v9 ?hy9 ?rest9
    case hy9 => intro w_ hS_; subst hS_; first | (go_simp; done) | (go_simp; with_reducible rfl)
    simp only [Act.put, List.setIfInBounds_toArray, List.set_cons_zero, List.set_cons_succ]
    refine Pl.takeW rfl rfl ?v10 ?hy10 ?rest10
    case hy10 => intro w_ _; first | (go_simp; done) | (go_simp; with_reducible rfl)
    simp only [Act.put, List.setIfInBounds_toArray, List.set_cons_zero, List.set_cons_succ]
    show wpList _ _ _ _ _ _
    simp only [List.drop_succ_cons, List.drop_zero]
    go_wp2_with fail
    refine (P_and p b off c d F HF.out _ t st L S _ _ r st' (X.drew HX.out) HE.out Htl.out (fun j hj => Hinl.out j (List.mem_cons_of_mem _ hj)) Hr.out).mono ?_
    rintro e w1 ⟨rfl, S1, k1, hX1⟩
    go_wp2_with fail
    go_ret
    exact Ret.intro rfl k1 hX1
set_option maxRecDepth 100000 in
set_option maxHeartbeats 2000000 in
theorem P_orC (F : Fm) (HF : OkP p b off c d F) (i bl bx bd : Nat) (r : Nat) (st' : St) (hX : PX p (dval b off c d) st L S w) (hE : Env S b off c d) (hC : Cap p b off d S i bl bx bd) (hi : i < d.length) (hlen : 1 ≤ (nd d i).l.length)
    (hr : orS F (nd d i).at_ st ((nd d i).l.drop 1) = some (r, st')) :
    Calls Try.prog 91 #[ptr bx, ptr bd] w (Ret S (PX p (dval b off c d) st' L) (nat r)) := by
  have X := PX.xs p (dval b off c d) st
  obtain ⟨lv, hN⟩ := hE.at_ i hi
  obtain ⟨b1, o1, c1, hlv, h1, _, hcc⟩ := hN.l.at_ (by intro h; rw [h] at hlen; simp at hlen)
  subst hlv
  have HX := hid hX
  have HE := hid hE
  have HF := hid HF
  have HN := hid hN
  have HC := hid hC
  have Hcc := hid hcc
  have Hinl : Hid (∀ j ∈ (nd d i).l, j < d.length) := hid fun j hj => by have := hE.dat.par i hi j hj; omega
  have e1 := X.cell hX hC.hx
  have e2 := X.cell hX hC.hd
  have e3 := X.cell hX hN.c4
  have e4 := X.cell hX hN.c1
  have hl := hN.l
  have Hr := hid hr
  clear hX hE hN hC hcc hr
  generalize (nd d i).l = l at *
  match l, hlen with
  | y :: t, _ =>
    have htl := NatsR.tailIf hl
    generalize hA : (if c1 = 1 then (some ⟨b1, o1, none⟩ : Option Addr) else some ⟨b1, o1 + 1, none⟩) = A1 at htl
    have Htl := hid htl
    have g1 : (1 : Int) ≤ (t.length : Int) + 1 := by omega
    clear hl htl
    go_enter Try.func91, Try.ntmps91
    go_wp2_with fail
    refine wp_plan 10 (.take 0 (.take 1 (.take 2 (.take 3 (.take 4 (.take 5 (.take 6 (.take 7 (.take 8 (.take 9 .fin)))))))))) (fun w_ => w_ = _) (by kernel_rfl) (by kernel_rfl) (fun _ _ d_ _ _ h_ => by cases d_ <;> exact h_) rfl ?_
    refine Pl.takeW rfl rfl ?v11 ?hy11 ?rest11
    case hy11 => intro w_ hS_; subst hS_; first | (go_simp; done) | (go_simp; with_reducible rfl)
    simp only [Act.put, List.setIfInBounds_toArray, List.set_cons_zero, List.set_cons_succ]
    refine Pl.takeW rfl rfl ?v12 ?hy12 ?rest12
    case hy12 => intro w_ hS_; subst hS_; first | (go_simp; done) | (go_simp; with_reducible rfl)
    simp only [Act.put, List.setIfInBounds_toArray, List.set_cons_zero, List.set_cons_succ]
    refine Pl.takeW rfl rfl ?v13 ?hy13 ?rest13
    case hy13 => intro w_ _; first | (go_simp; done) | (go_simp; with_reducible rfl)
    simp only [Act.put, List.setIfInBounds_toArray, List.set_cons_zero, List.set_cons_succ]
    refine Pl.takeW rfl rfl ?v14 ?hy14 ?rest14
    case hy14 => intro w_ _; first | (go_simp; done) | (go_simp; with_reducible rfl)
    simp only [Act.put, List.setIfInBounds_toArray, List.set_cons_zero, List.set_cons_succ]
    refine Pl.takeW rfl rfl ?v15 ?hy15 ?rest15
    case hy15 => intro w_ hS_; subst hS_; first | (go_simp; done) | (go_simp; with_reducible rfl)
    simp only [Act.put, List.setIfInBounds_toArray, List.set_cons_zero, List.set_cons_succ]
    refine Pl.takeW rfl rfl ?v16 ?hy16 ?rest16
    case hy16 => intro w_ hS_; subst hS_; first | (go_simp; done) | (go_simp; with_reducible rfl)
    simp only [Act.put, List.setIfInBounds_toArray, List.set_cons_zero, List.set_cons_succ]
    refine Pl.takeW rfl rfl ?v17 ?hy17 ?rest17
    case hy17 => intro w_ _; first | (go_simp; done) | (go_simp; with_reducible rfl)
    simp only [Act.put, List.setIfInBounds_toArray, List.set_cons_zero, List.set_cons_succ]
    refine Pl.takeW rfl rfl ?v18 ?hy18 ?rest18
    case hy18 => intro w_ _; first | (go_simp; done) | (go_simp; with_reducible rfl)
    simp only [Act.put, List.setIfInBounds_toArray, List.set_cons_zero, List.set_cons_succ]
    refine Pl.takeW rfl rfl ?v19 ?hy19 ?rest19
    case hy19 => intro w_ hS_; subst hS_; first | (go_simp; done) | (go_simp; with_reducible rfl)
    simp only [Act.put, List.setIfInBounds_toArray, List.set_cons_zero, List.set_cons_succ]
    refine Pl.takeW rfl rfl ?v20 ?hy20 ?rest20
    case hy20 => intro w_ _; first | (go_simp; done) | (go_simp; with_reducible rfl)
    simp only [Act.put, List.setIfInBounds_toArray, List.set_cons_zero, List.set_cons_succ]
    show wpList _ _ _ _ _ _
    simp only [List.drop_succ_cons, List.drop_zero]
    go_wp2_with fail
    refine (P_or p b off c d F HF.out _ t st L S _ _ r st' (X.drew HX.out) HE.out Htl.out (fun j hj => Hinl.out j (List.mem_cons_of_mem _ hj)) Hr.out).mono ?_
    rintro e w1 ⟨rfl, S1, k1, hX1⟩
    go_wp2_with fail
    go_ret
    exact Ret.intro rfl k1 hX1
set_option maxRecDepth 100000 in
set_option maxHeartbeats 2000000 in
theorem P_quoteC (F : Fm) (HF : OkP p b off c d F) (i bl bx bd : Nat) (r : Nat) (st' : St) (hX : PX p (dval b off c d) st L S w) (hE : Env S b off c d) (hC : Cap p b off d S i bl bx bd) (hi : i < d.length) (hlen : 1 ≤ (nd d i).l.length)
    (hr : quoteS d i st = some (r, st')) :
    Calls Try.prog 71 #[ptr bl, ptr bx, ptr bd] w (Ret S (PX p (dval b off c d) st' L) (nat r)) := by
  have X := PX.xs p (dval b off c d) st
  obtain ⟨lv, hN⟩ := hE.at_ i hi
  obtain ⟨b1, o1, c1, hlv, h1, _, hcc⟩ := hN.l.at_ (by intro h; rw [h] at hlen; simp at hlen)
  subst hlv
  have HX := hid hX
  have HE := hid hE
  have HF := hid HF
  have HN := hid hN
  have HC := hid hC
  have Hcc := hid hcc
  have Hinl : Hid (∀ j ∈ (nd d i).l, j < d.length) := hid fun j hj => by have := hE.dat.par i hi j hj; omega
  have e0 := X.cell hX hC.hl
  have e1 := X.cell hX hC.hx
  have e2 := X.cell hX hC.hd
  have e3 := X.cell hX hN.c4
  have e4 := X.cell hX hN.c1
  unfold quoteS at hr
  by_cases h2 : (nd d i).l.length = 2
  · rw [if_neg (by simpa using h2)] at hr
    obtain ⟨x1, hx1⟩ : ∃ x1, (nd d i).l[1]? = some x1 := ⟨_, List.getElem?_eq_some_iff.2 ⟨by omega, rfl⟩⟩
    have hg : (nd d i).l.getD 1 0 = x1 := by rw [List.getD_eq_getElem?_getD, hx1]; rfl
    rw [hg] at hr
    have e5 := X.cell hX (hcc 1 x1 hx1)
    have q1 : (((nd d i).l.length : Int) - 1 != 1) = false := by rw [h2]; rfl
    have q2 : (1 : Int) < ((nd d i).l.length : Int) := by omega
    have Hr := hid hr
    clear hX hE hN hC hcc hr hx1 hg h2
    go_enter Try.func71, Try.ntmps71
    go_wp2_with fail
    refine wp_plan 12 (.take 0 (.take 1 (.take 2 (.take 3 (.take 4 (.take 5 (.take 6 (.take 7 (.take 8 (.take 9 (.take 10 (.take 11 .fin)))))))))))) (fun w_ => w_ = _) (by kernel_rfl) (by kernel_rfl) (fun _ _ d_ _ _ h_ => by cases d_ <;> exact h_) rfl ?_
    refine Pl.takeW rfl rfl ?v21 ?hy21 ?rest21
    case hy21 => intro w_ hS_; subst hS_; first | (go_simp; done) | (go_simp; with_reducible rfl)
    simp only [Act.put, List.setIfInBounds_toArray, List.set_cons_zero, List.set_cons_succ]
    refine Pl.takeW rfl rfl ?v22 ?hy22 ?rest22
    case hy22 => intro w_ hS_; subst hS_; first | (go_simp; done) | (go_simp; with_reducible rfl)
    simp only [Act.put, List.setIfInBounds_toArray, List.set_cons_zero, List.set_cons_succ]
    refine Pl.takeW rfl rfl ?v23 ?hy23 ?rest23
    case hy23 => intro w_ _; first | (go_simp; done) | (go_simp; with_reducible rfl)
    simp only [Act.put, List.setIfInBounds_toArray, List.set_cons_zero, List.set_cons_succ]
    refine Pl.takeW rfl rfl ?v24 ?hy24 ?rest24
    case hy24 => intro w_ _; first | (go_simp; done) | (go_simp; with_reducible rfl)
    simp only [Act.put, List.setIfInBounds_toArray, List.set_cons_zero, List.set_cons_succ]
    refine Pl.takeW rfl rfl ?v25 ?hy25 ?rest25
    case hy25 => intro w_ hS_; subst hS_; first | (go_simp; done) | (go_simp; with_reducible rfl)
    simp only [Act.put, List.setIfInBounds_toArray, List.set_cons_zero, List.set_cons_succ]
    refine Pl.takeW rfl rfl ?v26 ?hy26 ?rest26
    case hy26 => intro w_ hS_; subst hS_; first | (go_simp; done) | (go_simp; with_reducible rfl)
    simp only [Act.put, List.setIfInBounds_toArray, List.set_cons_zero, List.set_cons_succ]
    refine Pl.takeW rfl rfl ?v27 ?hy27 ?rest27
    case hy27 => intro w_ _; first | (go_simp; done) | (go_simp; with_reducible rfl)
    simp only [Act.put, List.setIfInBounds_toArray, List.set_cons_zero, List.set_cons_succ]
    refine Pl.takeW rfl rfl ?v28 ?hy28 ?rest28
    case hy28 => intro w_ _; first | (go_simp; done) | (go_simp; with_reducible rfl)
    simp only [Act.put, List.setIfInBounds_toArray, List.set_cons_zero, List.set_cons_succ]
    refine Pl.takeW rfl rfl ?v29 ?hy29 ?rest29
    case hy29 => intro w_ hS_; subst hS_; first | (go_simp; done) | (go_simp; with_reducible rfl)
    simp only [Act.put, List.setIfInBounds_toArray, List.set_cons_zero, List.set_cons_succ]
    refine Pl.takeW rfl rfl ?v30 ?hy30 ?rest30
    case hy30 => intro w_ _; first | (go_simp; done) | (go_simp; with_reducible rfl)
    simp only [Act.put, List.setIfInBounds_toArray, List.set_cons_zero, List.set_cons_succ]
    refine Pl.takeW rfl rfl ?v31 ?hy31 ?rest31
    case hy31 => intro w_ hS_; subst hS_; first | (go_simp; done) | (go_simp; with_reducible rfl)
    simp only [Act.put, List.setIfInBounds_toArray, List.set_cons_zero, List.set_cons_succ]
    refine Pl.takeW rfl rfl ?v32 ?hy32 ?rest32
    case hy32 => intro w_ _; first | (go_simp; done) | (go_simp; with_reducible rfl)
    simp only [Act.put, List.setIfInBounds_toArray, List.set_cons_zero, List.set_cons_succ]
    show wpList _ _ _ _ _ _
    simp only [List.drop_succ_cons, List.drop_zero]
    go_wp2_with fail
    refine (P_put p (dval b off c d) st L S _ 3 (nd d i).at_ (x1 : Int) 0 [] [] 0 [] (.slice none 0 0) (.slice none 0 0) r st' (X.drew HX.out) (StrsR.nil _) (NatsR.nil _) Hr.out).mono ?_
    rintro e w1 ⟨rfl, S1, k1, hX1⟩
    go_wp2_with fail
    go_ret
    exact Ret.intro rfl k1 hX1
  · rw [if_pos (by simpa using h2)] at hr
    have q1 : (((nd d i).l.length : Int) - 1 != 1) = true := by rw [bne_iff_ne]; omega
    have Hr := hid hr
    clear hX hE hN hC hcc hr h2
    go_enter Try.func71, Try.ntmps71
    go_wp2_with fail
    refine (P_wrongR p b off c d st L S _ i r st' HX.out HE.out hi Hr.out).mono ?_
    rintro e w1 ⟨rfl, S1, k1, hX1⟩
    go_wp2_with fail
    go_ret
    exact Ret.intro rfl k1 hX1
set_option maxRecDepth 100000 in
set_option maxHeartbeats 2000000 in
theorem P_beginC (F : Fm) (HF : OkP p b off c d F) (i bl bx bd : Nat) (r : Nat) (st' : St) (hX : PX p (dval b off c d) st L S w) (hE : Env S b off c d) (hC : Cap p b off d S i bl bx bd) (hi : i < d.length) (hlen : 1 ≤ (nd d i).l.length)
    (hr : beginS d F i st = some (r, st')) :
    Calls Try.prog 80 #[ptr bl, ptr bx, ptr bd] w (Ret S (PX p (dval b off c d) st' L) (nat r)) := by
  have X := PX.xs p (dval b off c d) st
  obtain ⟨lv, hN⟩ := hE.at_ i hi
  obtain ⟨b1, o1, c1, hlv, h1, _, hcc⟩ := hN.l.at_ (by intro h; rw [h] at hlen; simp at hlen)
  subst hlv
  have HX := hid hX
  have HE := hid hE
  have HF := hid HF
  have HN := hid hN
  have HC := hid hC
  have Hcc := hid hcc
  have Hinl : Hid (∀ j ∈ (nd d i).l, j < d.length) := hid fun j hj => by have := hE.dat.par i hi j hj; omega
  have e0 := X.cell hX hC.hl
  have e1 := X.cell hX hC.hx
  have e2 := X.cell hX hC.hd
  have e3 := X.cell hX hN.c4
  have e4 := X.cell hX hN.c1
  unfold beginS at hr
  by_cases h2 : (nd d i).l.length < 2
  · rw [if_pos h2] at hr
    have q1 : ((nd d i).l.length : Int) - 1 < 1 := by omega
    have Hr := hid hr
    clear hX hE hN hC hcc hr h2
    go_enter Try.func80, Try.ntmps80
    go_wp2_with fail
    refine (P_wrongR p b off c d st L S _ i r st' HX.out HE.out hi Hr.out).mono ?_
    rintro e w1 ⟨rfl, S1, k1, hX1⟩
    go_wp2_with fail
    go_ret
    exact Ret.intro rfl k1 hX1
  · rw [if_neg h2] at hr
    have Hr := hid hr
    have Hl := hid (hN.l.drop (k := 1) (by omega) (by omega))
    have Hin1 : Hid (∀ j ∈ (nd d i).l.drop 1, j < d.length) := hid fun j hj => Hinl.out j (List.mem_of_mem_drop hj)
    have Hll : Hid (((nd d i).l.drop 1).length ≤ 1099511627776) := hid (by have := hE.dat.ll i hi; simp; omega)
    have hc : ¬ c1 = 1 := by omega
    have hlI : (1 : Int) ≤ ((nd d i).l.length : Int) := by omega
    have q1 : ¬ ((nd d i).l.length : Int) - 1 < 1 := by omega
    clear hX hE hN hC hcc hr h2
    go_enter Try.func80, Try.ntmps80
    go_wp2_with fail
    refine wp_plan 10 (.take 0 (.take 1 (.take 2 (.take 3 (.take 4 (.take 5 (.take 6 (.take 7 (.take 8 (.take 9 .fin)))))))))) (fun w_ => w_ = _) (by kernel_rfl) (by kernel_rfl) (fun _ _ d_ _ _ h_ => by cases d_ <;> exact h_) rfl ?_
    refine Pl.takeW rfl rfl ?v33 ?hy33 ?rest33
    case hy33 => intro w_ hS_; subst hS_; first | (go_simp; done) | (go_simp; with_reducible rfl)
    simp only [Act.put, List.setIfInBounds_toArray, List.set_cons_zero, List.set_cons_succ]
    refine Pl.takeW rfl rfl ?v34 ?hy34 ?rest34
    case hy34 => intro w_ hS_; subst hS_; first | (go_simp; done) | (go_simp; with_reducible rfl)
    simp only [Act.put, List.setIfInBounds_toArray, List.set_cons_zero, List.set_cons_succ]
    refine Pl.takeW rfl rfl ?v35 ?hy35 ?rest35
    case hy35 => intro w_ _; first | (go_simp; done) | (go_simp; with_reducible rfl)
    simp only [Act.put, List.setIfInBounds_toArray, List.set_cons_zero, List.set_cons_succ]
    refine Pl.takeW rfl rfl ?v36 ?hy36 ?rest36
    case hy36 => intro w_ _; first | (go_simp; done) | (go_simp; with_reducible rfl)
    simp only [Act.put, List.setIfInBounds_toArray, List.set_cons_zero, List.set_cons_succ]
    refine Pl.takeW rfl rfl ?v37 ?hy37 ?rest37
    case hy37 => intro w_ hS_; subst hS_; first | (go_simp; done) | (go_simp; with_reducible rfl)
    simp only [Act.put, List.setIfInBounds_toArray, List.set_cons_zero, List.set_cons_succ]
    refine Pl.takeW rfl rfl ?v38 ?hy38 ?rest38
    case hy38 => intro w_ hS_; subst hS_; first | (go_simp; done) | (go_simp; with_reducible rfl)
    simp only [Act.put, List.setIfInBounds_toArray, List.set_cons_zero, List.set_cons_succ]
    refine Pl.takeW rfl rfl ?v39 ?hy39 ?rest39
    case hy39 => intro w_ _; first | (go_simp; done) | (go_simp; with_reducible rfl)
    simp only [Act.put, List.setIfInBounds_toArray, List.set_cons_zero, List.set_cons_succ]
    refine Pl.takeW rfl rfl ?v40 ?hy40 ?rest40
    case hy40 => intro w_ _; first | (go_simp; done) | (go_simp; with_reducible rfl)
    simp only [Act.put, List.setIfInBounds_toArray, List.set_cons_zero, List.set_cons_succ]
    refine Pl.takeW rfl rfl ?v41 ?hy41 ?rest41
    case hy41 => intro w_ hS_; subst hS_; first | (go_simp; done) | (go_simp; with_reducible rfl)
    simp only [Act.put, List.setIfInBounds_toArray, List.set_cons_zero, List.set_cons_succ]
    refine Pl.takeW rfl rfl ?v42 ?hy42 ?rest42
    case hy42 => intro w_ _; first | (go_simp; done) | (go_simp; with_reducible rfl)
    simp only [Act.put, List.setIfInBounds_toArray, List.set_cons_zero, List.set_cons_succ]
    show wpList _ _ _ _ _ _
    simp only [List.drop_succ_cons, List.drop_zero]
    go_wp2_with fail
    refine (P_body p b off c d st L S _ F HF.out _ _ _ r st' (X.drew HX.out) HE.out Hl.out Hin1.out Hll.out Hr.out).mono ?_
    rintro e w1 ⟨rfl, S1, k1, hX1⟩
    go_wp2_with fail
    go_ret
    exact Ret.intro rfl k1 hX1
set_option maxRecDepth 100000 in
set_option maxHeartbeats 2000000 in
theorem P_condsC (F : Fm) (HF : OkP p b off c d F) (i bl bx bd : Nat) (r : Nat) (st' : St) (hX : PX p (dval b off c d) st L S w) (hE : Env S b off c d) (hC : Cap p b off d S i bl bx bd) (hi : i < d.length) (hlen : 1 ≤ (nd d i).l.length)
    (hr : condsS d F i st = some (r, st')) :
    Calls Try.prog 81 #[ptr bl, ptr bx, ptr bd] w (Ret S (PX p (dval b off c d) st' L) (nat r)) := by
  have X := PX.xs p (dval b off c d) st
  obtain ⟨lv, hN⟩ := hE.at_ i hi
  obtain ⟨b1, o1, c1, hlv, h1, _, hcc⟩ := hN.l.at_ (by intro h; rw [h] at hlen; simp at hlen)
  subst hlv
  have HX := hid hX
  have HE := hid hE
  have HF := hid HF
  have HN := hid hN
  have HC := hid hC
  have Hcc := hid hcc
  have Hinl : Hid (∀ j ∈ (nd d i).l, j < d.length) := hid fun j hj => by have := hE.dat.par i hi j hj; omega
  have e0 := X.cell hX hC.hl
  have e1 := X.cell hX hC.hx
  have e2 := X.cell hX hC.hd
  have e3 := X.cell hX hN.c4
  have e4 := X.cell hX hN.c1
  unfold condsS at hr
  by_cases h2 : (nd d i).l.length < 2
  · rw [if_pos h2] at hr
    have q1 : ((nd d i).l.length : Int) - 1 < 1 := by omega
    have Hr := hid hr
    clear hX hE hN hC hcc hr h2
    go_enter Try.func81, Try.ntmps81
    go_wp2_with fail
    refine (P_wrongR p b off c d st L S _ i r st' HX.out HE.out hi Hr.out).mono ?_
    rintro e w1 ⟨rfl, S1, k1, hX1⟩
    go_wp2_with fail
    go_ret
    exact Ret.intro rfl k1 hX1
  · rw [if_neg h2] at hr
    have Hr := hid hr
    have Hl := hid (hN.l.drop (k := 1) (by omega) (by omega))
    have Hin1 : Hid (∀ j ∈ (nd d i).l.drop 1, j < d.length) := hid fun j hj => Hinl.out j (List.mem_of_mem_drop hj)
    have Hll : Hid (((nd d i).l.drop 1).length ≤ 1099511627776) := hid (by have := hE.dat.ll i hi; simp; omega)
    have hc : ¬ c1 = 1 := by omega
    have hlI : (1 : Int) ≤ ((nd d i).l.length : Int) := by omega
    have q1 : ¬ ((nd d i).l.length : Int) - 1 < 1 := by omega
    clear hX hE hN hC hcc hr h2
    go_enter Try.func81, Try.ntmps81
    go_wp2_with fail
    refine wp_plan 10 (.take 0 (.take 1 (.take 2 (.take 3 (.take 4 (.take 5 (.take 6 (.take 7 (.take 8 (.take 9 .fin)))))))))) (fun w_ => w_ = _) (by kernel_rfl) (by kernel_rfl) (fun _ _ d_ _ _ h_ => by cases d_ <;> exact h_) rfl ?_
    refine Pl.takeW rfl rfl ?v43 ?hy43 ?rest43
    case hy43 => intro w_ hS_; subst hS_; first | (go_simp; done) | (go_simp; with_reducible rfl)
    simp only [Act.put, List.setIfInBounds_toArray, List.set_cons_zero, List.set_cons_succ]
    refine Pl.takeW rfl rfl ?v44 ?hy44 ?rest44
    case hy44 => intro w_ hS_; subst hS_; first | (go_simp; done) | (go_simp; with_reducible rfl)
    simp only [Act.put, List.setIfInBounds_toArray, List.set_cons_zero, List.set_cons_succ]
    refine Pl.takeW rfl rfl ?v45 ?hy45 ?rest45
    case hy45 => intro w_ _; first | (go_simp; done) | (go_simp; with_reducible rfl)
    simp only [Act.put, List.setIfInBounds_toArray, List.set_cons_zero, List.set_cons_succ]
    refine Pl.takeW rfl rfl ?v46 ?hy46 ?rest46
    case hy46 => intro w_ _; first | (go_simp; done) | (go_simp; with_reducible rfl)
    simp only [Act.put, List.setIfInBounds_toArray, List.set_cons_zero, List.set_cons_succ]
    refine Pl.takeW rfl rfl ?v47 ?hy47 ?rest47
    case hy47 => intro w_ hS_; subst hS_; first | (go_simp; done) | (go_simp; with_reducible rfl)
    simp only [Act.put, List.setIfInBounds_toArray, List.set_cons_zero, List.set_cons_succ]
    refine Pl.takeW rfl rfl ?v48 ?hy48 ?rest48
    case hy48 => intro w_ hS_; subst hS_; first | (go_simp; done) | (go_simp; with_reducible rfl)
    simp only [Act.put, List.setIfInBounds_toArray, List.set_cons_zero, List.set_cons_succ]
    refine Pl.takeW rfl rfl ?v49 ?hy49 ?rest49
    case hy49 => intro w_ _; first | (go_simp; done) | (go_simp; with_reducible rfl)
    simp only [Act.put, List.setIfInBounds_toArray, List.set_cons_zero, List.set_cons_succ]
    refine Pl.takeW rfl rfl ?v50 ?hy50 ?rest50
    case hy50 => intro w_ _; first | (go_simp; done) | (go_simp; with_reducible rfl)
    simp only [Act.put, List.setIfInBounds_toArray, List.set_cons_zero, List.set_cons_succ]
    refine Pl.takeW rfl rfl ?v51 ?hy51 ?rest51
    case hy51 => intro w_ hS_; subst hS_; first | (go_simp; done) | (go_simp; with_reducible rfl)
    simp only [Act.put, List.setIfInBounds_toArray, List.set_cons_zero, List.set_cons_succ]
    refine Pl.takeW rfl rfl ?v52 ?hy52 ?rest52
    case hy52 => intro w_ _; first | (go_simp; done) | (go_simp; with_reducible rfl)
    simp only [Act.put, List.setIfInBounds_toArray, List.set_cons_zero, List.set_cons_succ]
    show wpList _ _ _ _ _ _
    simp only [List.drop_succ_cons, List.drop_zero]
    go_wp2_with fail
    refine (P_cond p b off c d F HF.out _ _ st L S _ _ r st' (X.drew HX.out) HE.out Hl.out Hin1.out Hr.out).mono ?_
    rintro e w1 ⟨rfl, S1, k1, hX1⟩
    go_wp2_with fail
    go_ret
    exact Ret.intro rfl k1 hX1
set_option maxRecDepth 100000 in
set_option maxHeartbeats 4000000 in
theorem P_setC (F : Fm) (HF : OkP p b off c d F) (i bl bx bd : Nat) (r : Nat) (st' : St) (hX : PX p (dval b off c d) st L S w) (hE : Env S b off c d) (hC : Cap p b off d S i bl bx bd) (hi : i < d.length) (hlen : 1 ≤ (nd d i).l.length)
    (hr : setS d F i st = some (r, st')) :
    Calls Try.prog 79 #[ptr bl, ptr bx, ptr bd] w (Ret S (PX p (dval b off c d) st' L) (nat r)) := by
  have X := PX.xs p (dval b off c d) st
  obtain ⟨lv, hN⟩ := hE.at_ i hi
  obtain ⟨b1, o1, c1, hlv, h1, _, hcc⟩ := hN.l.at_ (by intro h; rw [h] at hlen; simp at hlen)
  subst hlv
  have HX := hid hX
  have HE := hid hE
  have HF := hid HF
  have HN := hid hN
  have HC := hid hC
  have Hcc := hid hcc
  have Hinl : Hid (∀ j ∈ (nd d i).l, j < d.length) := hid fun j hj => by have := hE.dat.par i hi j hj; omega
  have e0 := X.cell hX hC.hl
  have e1 := X.cell hX hC.hx
  have e2 := X.cell hX hC.hd
  have e3 := X.cell hX hN.c4
  unfold setS at hr
  by_cases h2 : (nd d i).l.length = 3
  case neg =>
    rw [if_pos (.inl h2)] at hr
    have q1 : (((nd d i).l.length : Int) - 1 != 2) = true := by rw [bne_iff_ne]; omega
    have Hr := hid hr
    clear hX hE hN hC hcc hr h2
    go_enter Try.func79, Try.ntmps79
    go_wp2_with fail
    refine (P_wrongR p b off c d st L S _ i r st' HX.out HE.out hi Hr.out).mono ?_
    rintro e w1 ⟨rfl, S1, k1, hX1⟩
    go_wp2_with fail
    go_ret
    exact Ret.intro rfl k1 hX1
  have q1 : (((nd d i).l.length : Int) - 1 != 2) = false := by rw [h2]; rfl
  obtain ⟨x1, hx1⟩ : ∃ x1, (nd d i).l[1]? = some x1 := ⟨_, List.getElem?_eq_some_iff.2 ⟨by omega, rfl⟩⟩
  obtain ⟨x2, hx2⟩ : ∃ x2, (nd d i).l[2]? = some x2 := ⟨_, List.getElem?_eq_some_iff.2 ⟨by omega, rfl⟩⟩
  have hg1 : (nd d i).l.getD 1 0 = x1 := by rw [List.getD_eq_getElem?_getD, hx1]; rfl
  have hg2 : (nd d i).l.getD 2 0 = x2 := by rw [List.getD_eq_getElem?_getD, hx2]; rfl
  rw [hg1, hg2] at hr
  have hi1 := Hinl.out x1 (List.mem_of_getElem? hx1)
  have hi2 := Hinl.out x2 (List.mem_of_getElem? hx2)
  have Hx1 := hid (hcc 1 x1 hx1)
  have Hx2 := hid (hcc 2 x2 hx2)
  have q2 : (1 : Int) < ((nd d i).l.length : Int) := by omega
  have q3 : (2 : Int) < ((nd d i).l.length : Int) := by omega
  have Hr := hid hr
  have Hlen := hid h2
  have Hn := hid (P_name p b off c d st L S _ x1 (X.drew HX.out) HE.out hi1)
  clear hX hE hN hC hcc hr hx1 hx2 hg1 hg2 h2
  by_cases h1 : nameOf d x1 = []
  · have hr := Hr.out
    rw [if_pos (.inr h1)] at hr
    have Hr' := hid hr
    have h1b : (nameOf d x1 == []) = true := by simpa using h1
    have h1c : (nameOf d x1).isEmpty = true := by simpa using h1
    clear hr h1
    go_enter Try.func79, Try.ntmps79
    go_wp2_with fail
    refine wp_plan 12 (.take 0 (.take 1 (.take 2 (.take 3 (.take 4 (.take 5 (.take 6 (.one 7 (.take 8 (.take 9 (.take 10 (.take 11 .fin)))))))))))) (fun w' => w'.cell? ⟨bx, 0, none⟩ = some (ptr p) ∧ w'.cell? ⟨bd, 0, none⟩ = some (elem b off i) ∧ w'.cell? ⟨b, off + i * 5 + 4, none⟩ = some (.slice (some ⟨b1, o1, none⟩) (nd d i).l.length c1) ∧ w'.cell? ⟨b1, o1 + 1, none⟩ = some (nat x1)) (by kernel_rfl) (by kernel_rfl) (fun _ _ d_ _ _ h_ => by cases d_ <;> exact h_) (⟨X.cell (X.drew HX.out) (HC.out.hx), X.cell (X.drew HX.out) (HC.out.hd), X.cell (X.drew HX.out) (HN.out.c4), X.cell (X.drew HX.out) (Hx1.out)⟩) ?_
    refine Pl.takeW rfl rfl ?v53 ?hy53 ?rest53
    case hy53 => intro w_ hS_; obtain ⟨f_x, f_d, f_e4, f_l1⟩ := hS_; first | (go_simp; done) | (go_simp; with_reducible rfl)
    simp only [Act.put, List.setIfInBounds_toArray, List.set_cons_zero, List.set_cons_succ]
    refine Pl.takeW rfl rfl ?v54 ?hy54 ?rest54
    case hy54 => intro w_ hS_; obtain ⟨f_x, f_d, f_e4, f_l1⟩ := hS_; first | (go_simp; done) | (go_simp; with_reducible rfl)
    simp only [Act.put, List.setIfInBounds_toArray, List.set_cons_zero, List.set_cons_succ]
    refine Pl.takeW rfl rfl ?v55 ?hy55 ?rest55
    case hy55 => intro w_ _; first | (go_simp; done) | (go_simp; with_reducible rfl)
    simp only [Act.put, List.setIfInBounds_toArray, List.set_cons_zero, List.set_cons_succ]
    refine Pl.takeW rfl rfl ?v56 ?hy56 ?rest56
    case hy56 => intro w_ _; first | (go_simp; done) | (go_simp; with_reducible rfl)
    simp only [Act.put, List.setIfInBounds_toArray, List.set_cons_zero, List.set_cons_succ]
    refine Pl.takeW rfl rfl ?v57 ?hy57 ?rest57
    case hy57 => intro w_ hS_; obtain ⟨f_x, f_d, f_e4, f_l1⟩ := hS_; first | (go_simp; done) | (go_simp; with_reducible rfl)
    simp only [Act.put, List.setIfInBounds_toArray, List.set_cons_zero, List.set_cons_succ]
    refine Pl.takeW rfl rfl ?v58 ?hy58 ?rest58
    case hy58 => intro w_ _; first | (go_simp; done) | (go_simp; with_reducible rfl)
    simp only [Act.put, List.setIfInBounds_toArray, List.set_cons_zero, List.set_cons_succ]
    refine Pl.takeW rfl rfl ?v59 ?hy59 ?rest59
    case hy59 => intro w_ hS_; obtain ⟨f_x, f_d, f_e4, f_l1⟩ := hS_; first | (go_simp; done) | (go_simp; with_reducible rfl)
    simp only [Act.put, List.setIfInBounds_toArray, List.set_cons_zero, List.set_cons_succ]
    refine Pl.oneW rfl rfl (fun K_ hK_ => ?_)
    go_simp
    refine (Hn.out).mono ?_
    rintro e w3 ⟨rfl, S3, k3, hX3⟩
    have HX3 := hid hX3
    have HK3 := hid k3
    have f1 := X.cell hX3 (HC.out.hx.mono k3)
    have f2 := X.cell hX3 (HC.out.hd.mono k3)
    refine hK_ _ _ ⟨X.cell hX3 ((HC.out.hx).mono (k3)), X.cell hX3 ((HC.out.hd).mono (k3)), X.cell hX3 ((HN.out.c4).mono (k3)), X.cell hX3 ((Hx1.out).mono (k3))⟩ ?_
    refine Pl.takeW rfl rfl ?v60 ?hy60 ?rest60
    case hy60 => intro w_ _; first | (go_simp; done) | (go_simp; with_reducible rfl)
    simp only [Act.put, List.setIfInBounds_toArray, List.set_cons_zero, List.set_cons_succ]
    refine Pl.takeW rfl rfl ?v61 ?hy61 ?rest61
    case hy61 => intro w_ _; first | (go_simp; done) | (go_simp; with_reducible rfl)
    simp only [Act.put, List.setIfInBounds_toArray, List.set_cons_zero, List.set_cons_succ]
    refine Pl.takeW rfl rfl ?v62 ?hy62 ?rest62
    case hy62 => intro w_ _; first | (go_simp; done) | (go_simp; with_reducible rfl)
    simp only [Act.put, List.setIfInBounds_toArray, List.set_cons_zero, List.set_cons_succ]
    refine Pl.takeW rfl rfl ?v63 ?hy63 ?rest63
    case hy63 => intro w_ _; first | (go_simp; done) | (go_simp; with_reducible rfl)
    simp only [Act.put, List.setIfInBounds_toArray, List.set_cons_zero, List.set_cons_succ]
    show wpList _ _ _ _ _ _
    simp only [List.drop_succ_cons, List.drop_zero]
    clear hX3 k3
    go_wp2_with fail
    refine (P_wrongR p b off c d st L S3 _ i r st' HX3.out (HE.out.mono HK3.out) hi Hr'.out).mono ?_
    rintro e w6 ⟨rfl, S6, k6, hX6⟩
    go_wp2_with fail
    go_ret
    exact Ret.intro rfl (HK3.out.trans k6) hX6
  · have hr := Hr.out
    rw [if_neg (fun h => h.elim (fun h => h Hlen.out) h1)] at hr
    simp only [Option.bind_eq_some_iff] at hr
    obtain ⟨⟨a, st1⟩, hr1, hr2⟩ := hr
    rw [nameOf_eq h1] at hr2
    have h1b : (nameOf d x1 == []) = false := by simpa using h1
    have h1c : (nameOf d x1).isEmpty = false := by simpa using h1
    have Hr1 := hid hr1
    have Hr2 := hid hr2
    clear hr1 hr2 h1
    go_enter Try.func79, Try.ntmps79
    go_wp2_with fail
    refine wp_plan 12 (.take 0 (.take 1 (.take 2 (.take 3 (.take 4 (.take 5 (.take 6 (.one 7 (.take 8 (.take 9 (.take 10 (.take 11 .fin)))))))))))) (fun w' => w'.cell? ⟨bx, 0, none⟩ = some (ptr p) ∧ w'.cell? ⟨bd, 0, none⟩ = some (elem b off i) ∧ w'.cell? ⟨b, off + i * 5 + 4, none⟩ = some (.slice (some ⟨b1, o1, none⟩) (nd d i).l.length c1) ∧ w'.cell? ⟨b1, o1 + 1, none⟩ = some (nat x1)) (by kernel_rfl) (by kernel_rfl) (fun _ _ d_ _ _ h_ => by cases d_ <;> exact h_) (⟨X.cell (X.drew HX.out) (HC.out.hx), X.cell (X.drew HX.out) (HC.out.hd), X.cell (X.drew HX.out) (HN.out.c4), X.cell (X.drew HX.out) (Hx1.out)⟩) ?_
    refine Pl.takeW rfl rfl ?v64 ?hy64 ?rest64
    case hy64 => intro w_ hS_; obtain ⟨f_x, f_d, f_e4, f_l1⟩ := hS_; first | (go_simp; done) | (go_simp; with_reducible rfl)
    simp only [Act.put, List.setIfInBounds_toArray, List.set_cons_zero, List.set_cons_succ]
    refine Pl.takeW rfl rfl ?v65 ?hy65 ?rest65
    case hy65 => intro w_ hS_; obtain ⟨f_x, f_d, f_e4, f_l1⟩ := hS_; first | (go_simp; done) | (go_simp; with_reducible rfl)
    simp only [Act.put, List.setIfInBounds_toArray, List.set_cons_zero, List.set_cons_succ]
    refine Pl.takeW rfl rfl ?v66 ?hy66 ?rest66
    case hy66 => intro w_ _; first | (go_simp; done) | (go_simp; with_reducible rfl)
    simp only [Act.put, List.setIfInBounds_toArray, List.set_cons_zero, List.set_cons_succ]
    refine Pl.takeW rfl rfl ?v67 ?hy67 ?rest67
    case hy67 => intro w_ _; first | (go_simp; done) | (go_simp; with_reducible rfl)
    simp only [Act.put, List.setIfInBounds_toArray, List.set_cons_zero, List.set_cons_succ]
    refine Pl.takeW rfl rfl ?v68 ?hy68 ?rest68
    case hy68 => intro w_ hS_; obtain ⟨f_x, f_d, f_e4, f_l1⟩ := hS_; first | (go_simp; done) | (go_simp; with_reducible rfl)
    simp only [Act.put, List.setIfInBounds_toArray, List.set_cons_zero, List.set_cons_succ]
    refine Pl.takeW rfl rfl ?v69 ?hy69 ?rest69
    case hy69 => intro w_ _; first | (go_simp; done) | (go_simp; with_reducible rfl)
    simp only [Act.put, List.setIfInBounds_toArray, List.set_cons_zero, List.set_cons_succ]
    refine Pl.takeW rfl rfl ?v70 ?hy70 ?rest70
    case hy70 => intro w_ hS_; obtain ⟨f_x, f_d, f_e4, f_l1⟩ := hS_; first | (go_simp; done) | (go_simp; with_reducible rfl)
    simp only [Act.put, List.setIfInBounds_toArray, List.set_cons_zero, List.set_cons_succ]
    refine Pl.oneW rfl rfl (fun K_ hK_ => ?_)
    go_simp
    refine (Hn.out).mono ?_
    rintro e w3 ⟨rfl, S3, k3, hX3⟩
    have HX3 := hid hX3
    have HK3 := hid k3
    have f1 := X.cell hX3 (HC.out.hx.mono k3)
    have f2 := X.cell hX3 (HC.out.hd.mono k3)
    have f3 := X.cell hX3 (HN.out.c4.mono k3)
    have f4 := X.cell hX3 (Hx2.out.mono k3)
    refine hK_ _ _ ⟨X.cell hX3 ((HC.out.hx).mono (k3)), X.cell hX3 ((HC.out.hd).mono (k3)), X.cell hX3 ((HN.out.c4).mono (k3)), X.cell hX3 ((Hx1.out).mono (k3))⟩ ?_
    refine Pl.takeW rfl rfl ?v71 ?hy71 ?rest71
    case hy71 => intro w_ _; first | (go_simp; done) | (go_simp; with_reducible rfl)
    simp only [Act.put, List.setIfInBounds_toArray, List.set_cons_zero, List.set_cons_succ]
    refine Pl.takeW rfl rfl ?v72 ?hy72 ?rest72
    case hy72 => intro w_ _; first | (go_simp; done) | (go_simp; with_reducible rfl)
    simp only [Act.put, List.setIfInBounds_toArray, List.set_cons_zero, List.set_cons_succ]
    refine Pl.takeW rfl rfl ?v73 ?hy73 ?rest73
    case hy73 => intro w_ _; first | (go_simp; done) | (go_simp; with_reducible rfl)
    simp only [Act.put, List.setIfInBounds_toArray, List.set_cons_zero, List.set_cons_succ]
    refine Pl.takeW rfl rfl ?v74 ?hy74 ?rest74
    case hy74 => intro w_ _; first | (go_simp; done) | (go_simp; with_reducible rfl)
    simp only [Act.put, List.setIfInBounds_toArray, List.set_cons_zero, List.set_cons_succ]
    show wpList _ _ _ _ _ _
    simp only [List.drop_succ_cons, List.drop_zero]
    clear hX3 k3
    go_wp2_with fail
    refine wp_plan 7 (.take 0 (.take 1 (.take 2 (.take 3 (.take 4 (.take 5 (.take 6 .fin))))))) (fun w_ => w_ = _) (by kernel_rfl) (by kernel_rfl) (fun _ _ d_ _ _ h_ => by cases d_ <;> exact h_) rfl ?_
    refine Pl.takeW rfl rfl ?v75 ?hy75 ?rest75
    case hy75 => intro w_ hS_; subst hS_; first | (go_simp; done) | (go_simp; with_reducible rfl)
    simp only [Act.put, List.setIfInBounds_toArray, List.set_cons_zero, List.set_cons_succ]
    refine Pl.takeW rfl rfl ?v76 ?hy76 ?rest76
    case hy76 => intro w_ hS_; subst hS_; first | (go_simp; done) | (go_simp; with_reducible rfl)
    simp only [Act.put, List.setIfInBounds_toArray, List.set_cons_zero, List.set_cons_succ]
    refine Pl.takeW rfl rfl ?v77 ?hy77 ?rest77
    case hy77 => intro w_ _; first | (go_simp; done) | (go_simp; with_reducible rfl)
    simp only [Act.put, List.setIfInBounds_toArray, List.set_cons_zero, List.set_cons_succ]
    refine Pl.takeW rfl rfl ?v78 ?hy78 ?rest78
    case hy78 => intro w_ _; first | (go_simp; done) | (go_simp; with_reducible rfl)
    simp only [Act.put, List.setIfInBounds_toArray, List.set_cons_zero, List.set_cons_succ]
    refine Pl.takeW rfl rfl ?v79 ?hy79 ?rest79
    case hy79 => intro w_ hS_; subst hS_; first | (go_simp; done) | (go_simp; with_reducible rfl)
    simp only [Act.put, List.setIfInBounds_toArray, List.set_cons_zero, List.set_cons_succ]
    refine Pl.takeW rfl rfl ?v80 ?hy80 ?rest80
    case hy80 => intro w_ _; first | (go_simp; done) | (go_simp; with_reducible rfl)
    simp only [Act.put, List.setIfInBounds_toArray, List.set_cons_zero, List.set_cons_succ]
    refine Pl.takeW rfl rfl ?v81 ?hy81 ?rest81
    case hy81 => intro w_ hS_; subst hS_; first | (go_simp; done) | (go_simp; with_reducible rfl)
    simp only [Act.put, List.setIfInBounds_toArray, List.set_cons_zero, List.set_cons_succ]
    show wpList _ _ _ _ _ _
    simp only [List.drop_succ_cons, List.drop_zero]
    go_wp2_with fail
    refine (HF.out st L S3 _ x2 a st1 (X.drew HX3.out) (HE.out.mono HK3.out) hi2 Hr1.out).mono ?_
    rintro e w4 ⟨rfl, S4, k4, hX4⟩
    have X1 := PX.xs p (dval b off c d) st1
    have HK4 := hid (HK3.out.trans k4)
    have HX4 := hid hX4
    clear k4 hX4 f1 f2 f3 f4
    obtain ⟨S8, k8, hX8, s8⟩ := X1.box (X1.drew HX4.out) #[nat a] 3
    have HX8 := hid hX8
    have HK8 := hid (HK4.out.trans k8)
    have HS8 := hid (NatsR.box1 s8)
    go_wp2_with fail
    refine wp_plan 9 (.take 0 (.take 1 (.take 2 (.take 3 (.take 4 (.take 5 (.take 6 (.one 7 (.take 8 .fin))))))))) (fun w' => w'.cell? ⟨bx, 0, none⟩ = some (ptr p) ∧ w'.cell? ⟨bd, 0, none⟩ = some (elem b off i) ∧ w'.cell? ⟨b, off + i * 5 + 1, none⟩ = some (.int .i64 (nd d i).at_)) (by kernel_rfl) (by kernel_rfl) (fun _ _ d_ _ _ h_ => by cases d_ <;> exact h_) (⟨X1.cell (X1.drew HX4.out) (HC.out.hx.mono HK4.out), X1.cell (X1.drew HX4.out) (HC.out.hd.mono HK4.out), X1.cell (X1.drew HX4.out) (HN.out.c1.mono HK4.out)⟩) ?_
    refine Pl.takeW rfl rfl ?v82 ?hy82 ?rest82
    case hy82 => intro w_ hS_; obtain ⟨f_x4, f_d4, f_e14⟩ := hS_; first | (go_simp; done) | (go_simp; with_reducible rfl)
    simp only [Act.put, List.setIfInBounds_toArray, List.set_cons_zero, List.set_cons_succ]
    refine Pl.takeW rfl rfl ?v83 ?hy83 ?rest83
    case hy83 => intro w_ hS_; obtain ⟨f_x4, f_d4, f_e14⟩ := hS_; first | (go_simp; done) | (go_simp; with_reducible rfl)
    simp only [Act.put, List.setIfInBounds_toArray, List.set_cons_zero, List.set_cons_succ]
    refine Pl.takeW rfl rfl ?v84 ?hy84 ?rest84
    case hy84 => intro w_ _; first | (go_simp; done) | (go_simp; with_reducible rfl)
    simp only [Act.put, List.setIfInBounds_toArray, List.set_cons_zero, List.set_cons_succ]
    refine Pl.takeW rfl rfl ?v85 ?hy85 ?rest85
    case hy85 => intro w_ _; first | (go_simp; done) | (go_simp; with_reducible rfl)
    simp only [Act.put, List.setIfInBounds_toArray, List.set_cons_zero, List.set_cons_succ]
    refine Pl.takeW rfl rfl ?v86 ?hy86 ?rest86
    case hy86 => intro w_ hS_; obtain ⟨f_x4, f_d4, f_e14⟩ := hS_; first | (go_simp; done) | (go_simp; with_reducible rfl)
    simp only [Act.put, List.setIfInBounds_toArray, List.set_cons_zero, List.set_cons_succ]
    refine Pl.takeW rfl rfl ?v87 ?hy87 ?rest87
    case hy87 => intro w_ _; first | (go_simp; done) | (go_simp; with_reducible rfl)
    simp only [Act.put, List.setIfInBounds_toArray, List.set_cons_zero, List.set_cons_succ]
    refine Pl.takeW rfl rfl ?v88 ?hy88 ?rest88
    case hy88 => intro w_ _; first | (go_simp; done) | (go_simp; with_reducible rfl)
    simp only [Act.put, List.setIfInBounds_toArray, List.set_cons_zero, List.set_cons_succ]
    refine Pl.oneW rfl rfl (fun K_ hK_ => ?_)
    go_simp
    refine hK_ _ _ ⟨X1.cell HX8.out ((HC.out.hx.mono HK4.out).mono (k8)), X1.cell HX8.out ((HC.out.hd.mono HK4.out).mono (k8)), X1.cell HX8.out ((HN.out.c1.mono HK4.out).mono (k8))⟩ ?_
    refine Pl.takeW rfl rfl ?v89 ?hy89 ?rest89
    case hy89 => intro w_ _; first | (go_simp; done) | (go_simp; with_reducible rfl)
    simp only [Act.put, List.setIfInBounds_toArray, List.set_cons_zero, List.set_cons_succ]
    show wpList _ _ _ _ _ _
    simp only [List.drop_succ_cons, List.drop_zero]
    clear hX8 s8
    go_wp2_with fail
    refine (P_put p (dval b off c d) st1 L S8 _ 7 (nd d i).at_ 0 0 (nd d x1).s [] 0 [a] (.slice none 0 0) (.slice (some ⟨w4.heap.size, 0, none⟩) 1 1) r st' HX8.out (StrsR.nil _) HS8.out Hr2.out).mono ?_
    rintro e w5 ⟨rfl, S5, k5, hX5⟩
    go_wp2_with fail
    go_ret
    exact Ret.intro rfl (HK8.out.trans k5) hX5
end
end Go.Proofs.Ytjjbidajkmodfaa
