/- Texts P7, P8, P10 of the proof. What each theorem says stands in its own statement. No condition beyond those that it names. -/
import Derived.Test.YtjjbidajkmodfaaXa2
set_option linter.unusedVariables false
set_option linter.unusedSimpArgs false
namespace Go.Proofs.Ytjjbidajkmodfaa
open Go Go.RowKit
section
variable (p b off c : Nat) (d : List Node) (st : St) (L : List Atom) (S : Seal) (w : World)
set_option maxRecDepth 100000 in
set_option maxHeartbeats 1000000 in
theorem P_fn (g : FuncId) (caps : Array Value) (hg : ∀ w, (callFunc g caps).run Try.prog w = .ok (.enter g caps) w) (at_ : Int) (nv : Value) (ns : List Str) (z r : Nat) (st1 st' : St) (hn : StrsR S nv ns)
    (Hd : Calls Try.prog g caps w (Ret S (PX p (dval b off c d) st1 L) (nat z))) (hr : put st1 { kind := 6, at_ := at_, p := ns, l := [z] } = some (r, st')) :
    Calls Try.prog 51 #[ptr p, .int .i64 at_, nv, .func (.func g) #[] caps] w (Ret S (PX p (dval b off c d) st' L) (nat r)) := by
  obtain ⟨An, cn, rfl, _, _⟩ := Sl.shape hn
  have Hd := hid Hd
  have Hr := hid hr
  have Hn := hid hn
  clear hr hn
  go_enter Try.func51, Try.ntmps51
  go_wp2_with fail
  refine (Hd.out).mono ?_
  rintro e w1 ⟨rfl, S1, k1, hX1⟩
  clear hg
  have HX := hid ((PX.xs _ _ _).alloc hX1 (.cells #[nat z] 3))
  have HK := hid (k1.trans ((PX.xs _ _ _).le_alloc hX1 (.cells #[nat z] 3)))
  clear hX1 k1
  go_wp2_with fail
  refine (P_put p (dval b off c d) st1 L _ _ 6 at_ 0 0 [] ns 0 [z] _ (.slice (some ⟨w1.heap.size, 0, none⟩) 1 1) r st' HX.out (Hn.out.mono HK.out) (NatsR.new S1 w1.heap.size 3 [z] (by unfold maxLen; simp)) Hr.out).mono ?_
  rintro e w2 ⟨rfl, S2, k2, hX2⟩
  go_wp2_with fail
  go_ret
  exact Ret.intro rfl (HK.out.trans k2) hX2
set_option maxRecDepth 100000 in
set_option maxHeartbeats 1000000 in
theorem P_lambda1 (F : Fm) (HF : OkP p b off c d F) (bx bd i r : Nat) (st' : St) (hX : PX p (dval b off c d) st L S w) (hE : Env S b off c d) (hi : i < d.length) (hx : Sc S bx 0 (ptr p)) (hd : Sc S bd 0 (elem b off i))
    (hlen : 3 ≤ (nd d i).l.length) (hr : body F (nd d i).at_ st ((nd d i).l.drop 2) = some (r, st')) :
    Calls Try.prog 102 #[ptr bx, ptr bd] w (Ret S (PX p (dval b off c d) st' L) (nat r)) := by
  obtain ⟨lv, hN⟩ := hE.at_ i hi
  obtain ⟨b1, o1, c1, hlv, h1, h2, _⟩ := hN.l.at_ (by intro h; rw [h] at hlen; simp at hlen)
  subst hlv
  have e1 := hX.cell hx
  have e2 := hX.cell hd
  have e3 := hX.cell hN.c1
  have e4 := hX.cell hN.c4
  have hc : ¬ c1 = 2 := by omega
  have hlI : (2 : Int) ≤ ((nd d i).l.length : Int) := by omega
  have Hl := hid (hN.l.drop (k := 2) (by omega) (by omega))
  have HX := hid hX
  have HE := hid hE
  have HF := hid HF
  have Hr := hid hr
  have Hin : Hid (∀ j ∈ (nd d i).l.drop 2, j < d.length) := hid fun j hj => by have := hE.dat.par i hi j (List.mem_of_mem_drop hj); omega
  have Hll : Hid (((nd d i).l.drop 2).length ≤ 1099511627776) := hid (by have := hE.dat.ll i hi; simp; omega)
  clear hX hE hN hx hd hr
  go_enter Try.func102, Try.ntmps102
  go_wp2_with fail
  refine wp_plan 10 (.take 0 (.take 1 (.take 2 (.take 3 (.take 4 (.take 5 (.take 6 (.take 7 (.take 8 (.take 9 .fin)))))))))) (fun w_ => w_ = _) (by kernel_rfl) (by kernel_rfl) (fun _ _ d_ _ _ h_ => by cases d_ <;> exact h_) rfl ?_
  refine Pl.takeW rfl rfl ?v1 ?hy1 ?rest1
  case hy1 => intro w_ hS_; subst hS_; first | (go_simp; done) | (go_simp; with_reducible rfl)
  simp only [Act.put, List.setIfInBounds_toArray, List.set_cons_zero, List.set_cons_succ]
  refine Pl.takeW rfl rfl ?v2 ?hy2 ?rest2
  case hy2 => intro w_ hS_; subst hS_; first | (go_simp; done) | (go_simp; with_reducible rfl)
  simp only [Act.put, List.setIfInBounds_toArray, List.set_cons_zero, List.set_cons_succ]
  refine Pl.takeW rfl rfl ?v3 ?hy3 ?rest3
  case hy3 => intro w_ _; first | (go_simp; done) | (go_simp; with_reducible rfl)
  simp only [Act.put, List.setIfInBounds_toArray, List.set_cons_zero, List.set_cons_succ]
  refine Pl.takeW rfl rfl ?v4 ?hy4 ?rest4
  case hy4 => intro w_ _; first | (go_simp; done) | (go_simp; with_reducible rfl)
  simp only [Act.put, List.setIfInBounds_toArray, List.set_cons_zero, List.set_cons_succ]
  refine Pl.takeW rfl rfl ?v5 ?hy5 ?rest5
  case hy5 => intro w_ hS_; subst hS_; first | (go_simp; done) | (go_simp; with_reducible rfl)
  simp only [Act.put, List.setIfInBounds_toArray, List.set_cons_zero, List.set_cons_succ]
  refine Pl.takeW rfl rfl ?v6 ?hy6 ?rest6
  case hy6 => intro w_ hS_; subst hS_; first | (go_simp; done) | (go_simp; with_reducible rfl)
  simp only [Act.put, List.setIfInBounds_toArray, List.set_cons_zero, List.set_cons_succ]
  refine Pl.takeW rfl rfl ?v7 ?hy7 ?rest7
  case hy7 => intro w_ _; first | (go_simp; done) | (go_simp; with_reducible rfl)
  simp only [Act.put, List.setIfInBounds_toArray, List.set_cons_zero, List.set_cons_succ]
  refine Pl.takeW rfl rfl ?v8 ?hy8 ?rest8
  case hy8 => intro w_ _; first | (go_simp; done) | (go_simp; with_reducible rfl)
  simp only [Act.put, List.setIfInBounds_toArray, List.set_cons_zero, List.set_cons_succ]
  refine Pl.takeW rfl rfl ?v9 ?hy9 ?rest9
  case hy9 => intro w_ hS_; subst hS_; first | (go_simp; done) | (go_simp; with_reducible rfl)
  simp only [Act.put, List.setIfInBounds_toArray, List.set_cons_zero, List.set_cons_succ]
  refine Pl.takeW rfl rfl ?v10 ?hy10 ?rest10
  case hy10 => intro w_ _; first | (go_simp; done) | (go_simp; with_reducible rfl)
  simp only [Act.put, List.setIfInBounds_toArray, List.set_cons_zero, List.set_cons_succ]
  show wpList _ _ _ _ _ _
  simp only [List.drop_succ_cons, List.drop_zero]
  go_wp2_with fail
  refine (P_body p b off c d st L S _ F HF.out _ _ _ r st' HX.out.drew HE.out Hl.out Hin.out Hll.out Hr.out).mono ?_
  rintro e w1 ⟨rfl, S1, k1, hX1⟩
  go_wp2_with fail
  go_ret
  exact Ret.intro rfl k1 hX1
set_option maxRecDepth 100000 in
set_option maxHeartbeats 1000000 in
theorem P_let1 (F : Fm) (HF : OkP p b off c d F) (bx bd i r : Nat) (st' : St) (hX : PX p (dval b off c d) st L S w) (hE : Env S b off c d) (hi : i < d.length) (hx : Sc S bx 0 (ptr p)) (hd : Sc S bd 0 (elem b off i))
    (hlen : 3 ≤ (nd d i).l.length) (hr : body F (nd d i).at_ st ((nd d i).l.drop 2) = some (r, st')) :
    Calls Try.prog 104 #[ptr bx, ptr bd] w (Ret S (PX p (dval b off c d) st' L) (nat r)) := by
  obtain ⟨lv, hN⟩ := hE.at_ i hi
  obtain ⟨b1, o1, c1, hlv, h1, h2, _⟩ := hN.l.at_ (by intro h; rw [h] at hlen; simp at hlen)
  subst hlv
  have e1 := hX.cell hx
  have e2 := hX.cell hd
  have e3 := hX.cell hN.c1
  have e4 := hX.cell hN.c4
  have hc : ¬ c1 = 2 := by omega
  have hlI : (2 : Int) ≤ ((nd d i).l.length : Int) := by omega
  have Hl := hid (hN.l.drop (k := 2) (by omega) (by omega))
  have HX := hid hX
  have HE := hid hE
  have HF := hid HF
  have Hr := hid hr
  have Hin : Hid (∀ j ∈ (nd d i).l.drop 2, j < d.length) := hid fun j hj => by have := hE.dat.par i hi j (List.mem_of_mem_drop hj); omega
  have Hll : Hid (((nd d i).l.drop 2).length ≤ 1099511627776) := hid (by have := hE.dat.ll i hi; simp; omega)
  clear hX hE hN hx hd hr
  go_enter Try.func104, Try.ntmps104
  go_wp2_with fail
  refine wp_plan 10 (.take 0 (.take 1 (.take 2 (.take 3 (.take 4 (.take 5 (.take 6 (.take 7 (.take 8 (.take 9 .fin)))))))))) (fun w_ => w_ = _) (by kernel_rfl) (by kernel_rfl) (fun _ _ d_ _ _ h_ => by cases d_ <;> exact h_) rfl ?_
  refine Pl.takeW rfl rfl ?v11 ?hy11 ?rest11
  case hy11 => intro w_ hS_; subst hS_; first | (go_simp; done) | (go_simp; with_reducible rfl)
  simp only [Act.put, List.setIfInBounds_toArray, List.set_cons_zero, List.set_cons_succ]
  refine Pl.takeW rfl rfl ?v12 ?hy12 ?rest12
  case hy12 => intro w_ hS_; subst hS_; first | (go_simp; done) | (go_simp; with_reducible rfl)
  simp only [Act.put, List.setIfInBounds_toArray, List.set_cons_zero, List.set_cons_succ]
  refine Pl.takeW rfl rfl ?v13 ?hy13 ?rest13
  case hy13 => intro w_ _; first | (go_simp; done) | (go_simp; with_reducible rfl)
  simp only [Act.put, List.setIfInBounds_toArray, List.set_cons_zero, List.set_cons_succ]
  refine Pl.takeW rfl rfl ?v14 ?hy14 ?rest14
  case hy14 => intro w_ _; first | (go_simp; done) | (go_simp; with_reducible rfl)
  simp only [Act.put, List.setIfInBounds_toArray, List.set_cons_zero, List.set_cons_succ]
  refine Pl.takeW rfl rfl ?v15 ?hy15 ?rest15
  case hy15 => intro w_ hS_; subst hS_; first | (go_simp; done) | (go_simp; with_reducible rfl)
  simp only [Act.put, List.setIfInBounds_toArray, List.set_cons_zero, List.set_cons_succ]
  refine Pl.takeW rfl rfl ?v16 ?hy16 ?rest16
  case hy16 => intro w_ hS_; subst hS_; first | (go_simp; done) | (go_simp; with_reducible rfl)
  simp only [Act.put, List.setIfInBounds_toArray, List.set_cons_zero, List.set_cons_succ]
  refine Pl.takeW rfl rfl ?v17 ?hy17 ?rest17
  case hy17 => intro w_ _; first | (go_simp; done) | (go_simp; with_reducible rfl)
  simp only [Act.put, List.setIfInBounds_toArray, List.set_cons_zero, List.set_cons_succ]
  refine Pl.takeW rfl rfl ?v18 ?hy18 ?rest18
  case hy18 => intro w_ _; first | (go_simp; done) | (go_simp; with_reducible rfl)
  simp only [Act.put, List.setIfInBounds_toArray, List.set_cons_zero, List.set_cons_succ]
  refine Pl.takeW rfl rfl ?v19 ?hy19 ?rest19
  case hy19 => intro w_ hS_; subst hS_; first | (go_simp; done) | (go_simp; with_reducible rfl)
  simp only [Act.put, List.setIfInBounds_toArray, List.set_cons_zero, List.set_cons_succ]
  refine Pl.takeW rfl rfl ?v20 ?hy20 ?rest20
  case hy20 => intro w_ _; first | (go_simp; done) | (go_simp; with_reducible rfl)
  simp only [Act.put, List.setIfInBounds_toArray, List.set_cons_zero, List.set_cons_succ]
  show wpList _ _ _ _ _ _
  simp only [List.drop_succ_cons, List.drop_zero]
  go_wp2_with fail
  refine (P_body p b off c d st L S _ F HF.out _ _ _ r st' HX.out.drew HE.out Hl.out Hin.out Hll.out Hr.out).mono ?_
  rintro e w1 ⟨rfl, S1, k1, hX1⟩
  go_wp2_with fail
  go_ret
  exact Ret.intro rfl k1 hX1
set_option maxRecDepth 100000 in
set_option maxHeartbeats 1000000 in
theorem P_define1 (F : Fm) (HF : OkP p b off c d F) (bx bd i r : Nat) (st' : St) (hX : PX p (dval b off c d) st L S w) (hE : Env S b off c d) (hi : i < d.length) (hx : Sc S bx 0 (ptr p)) (hd : Sc S bd 0 (elem b off i))
    (hlen : 3 ≤ (nd d i).l.length) (hr : body F (nd d i).at_ st ((nd d i).l.drop 2) = some (r, st')) :
    Calls Try.prog 52 #[ptr bx, ptr bd] w (Ret S (PX p (dval b off c d) st' L) (nat r)) := by
  obtain ⟨lv, hN⟩ := hE.at_ i hi
  obtain ⟨b1, o1, c1, hlv, h1, h2, _⟩ := hN.l.at_ (by intro h; rw [h] at hlen; simp at hlen)
  subst hlv
  have e1 := hX.cell hx
  have e2 := hX.cell hd
  have e3 := hX.cell hN.c1
  have e4 := hX.cell hN.c4
  have hc : ¬ c1 = 2 := by omega
  have hlI : (2 : Int) ≤ ((nd d i).l.length : Int) := by omega
  have Hl := hid (hN.l.drop (k := 2) (by omega) (by omega))
  have HX := hid hX
  have HE := hid hE
  have HF := hid HF
  have Hr := hid hr
  have Hin : Hid (∀ j ∈ (nd d i).l.drop 2, j < d.length) := hid fun j hj => by have := hE.dat.par i hi j (List.mem_of_mem_drop hj); omega
  have Hll : Hid (((nd d i).l.drop 2).length ≤ 1099511627776) := hid (by have := hE.dat.ll i hi; simp; omega)
  clear hX hE hN hx hd hr
  go_enter Try.func52, Try.ntmps52
  go_wp2_with fail
  refine wp_plan 10 (.take 0 (.take 1 (.take 2 (.take 3 (.take 4 (.take 5 (.take 6 (.take 7 (.take 8 (.take 9 .fin)))))))))) (fun w_ => w_ = _) (by kernel_rfl) (by kernel_rfl) (fun _ _ d_ _ _ h_ => by cases d_ <;> exact h_) rfl ?_
  refine Pl.takeW rfl rfl ?v21 ?hy21 ?rest21
  case hy21 => intro w_ hS_; subst hS_; first | (go_simp; done) | (go_simp; with_reducible rfl)
  simp only [Act.put, List.setIfInBounds_toArray, List.set_cons_zero, List.set_cons_succ]
  refine Pl.takeW rfl rfl ?v22 ?hy22 ?rest22
  case hy22 => intro w_ hS_; subst hS_; first | (go_simp; done) | (go_simp; with_reducible rfl)
  simp only [Act.put, List.setIfInBounds_toArray, List.set_cons_zero, List.set_cons_succ]
  refine Pl.takeW rfl rfl ?v23 ?hy23 ?rest23
  case hy23 => intro w_ _; first | (go_simp; done) | (go_simp; with_reducible rfl)
  simp only [Act.put, List.setIfInBounds_toArray, List.set_cons_zero, List.set_cons_succ]
  refine Pl.takeW rfl rfl ?v24 ?hy24 ?rest24
  case hy24 => intro w_ _; first | (go_simp; done) | (go_simp; with_reducible rfl)
  simp only [Act.put, List.setIfInBounds_toArray, List.set_cons_zero, List.set_cons_succ]
  refine Pl.takeW rfl rfl ?v25 ?hy25 ?rest25
  case hy25 => intro w_ hS_; subst hS_; first | (go_simp; done) | (go_simp; with_reducible rfl)
  simp only [Act.put, List.setIfInBounds_toArray, List.set_cons_zero, List.set_cons_succ]
  refine Pl.takeW rfl rfl ?v26 ?hy26 ?rest26
  case hy26 => intro w_ hS_; subst hS_; first | (go_simp; done) | (go_simp; with_reducible rfl)
  simp only [Act.put, List.setIfInBounds_toArray, List.set_cons_zero, List.set_cons_succ]
  refine Pl.takeW rfl rfl ?v27 ?hy27 ?rest27
  case hy27 => intro w_ _; first | (go_simp; done) | (go_simp; with_reducible rfl)
  simp only [Act.put, List.setIfInBounds_toArray, List.set_cons_zero, List.set_cons_succ]
  refine Pl.takeW rfl rfl ?v28 ?hy28 ?rest28
  case hy28 => intro w_ _; first | (go_simp; done) | (go_simp; with_reducible rfl)
  simp only [Act.put, List.setIfInBounds_toArray, List.set_cons_zero, List.set_cons_succ]
  refine Pl.takeW rfl rfl ?v29 ?hy29 ?rest29
  case hy29 => intro w_ hS_; subst hS_; first | (go_simp; done) | (go_simp; with_reducible rfl)
  simp only [Act.put, List.setIfInBounds_toArray, List.set_cons_zero, List.set_cons_succ]
  refine Pl.takeW rfl rfl ?v30 ?hy30 ?rest30
  case hy30 => intro w_ _; first | (go_simp; done) | (go_simp; with_reducible rfl)
  simp only [Act.put, List.setIfInBounds_toArray, List.set_cons_zero, List.set_cons_succ]
  show wpList _ _ _ _ _ _
  simp only [List.drop_succ_cons, List.drop_zero]
  go_wp2_with fail
  refine (P_body p b off c d st L S _ F HF.out _ _ _ r st' HX.out.drew HE.out Hl.out Hin.out Hll.out Hr.out).mono ?_
  rintro e w1 ⟨rfl, S1, k1, hX1⟩
  go_wp2_with fail
  go_ret
  exact Ret.intro rfl k1 hX1
set_option maxRecDepth 100000 in
set_option maxHeartbeats 2000000 in
theorem P_lambda (F : Fm) (HF : OkP p b off c d F) (i r : Nat) (st' : St) (hX : PX p (dval b off c d) st L S w) (hE : Env S b off c d) (hi : i < d.length) (hr : lambdaS d F i st = some (r, st')) :
    Calls Try.prog 84 #[ptr p, elem b off i] w (Ret S (PX p (dval b off c d) st' L) (nat r)) := by
  have X := PX.xs p (dval b off c d) st
  have HF := hid HF
  obtain ⟨S2, k2, hX2, sx, sd⟩ := X.box2 hX #[ptr p] #[elem b off i] 54 55
  have hx := sx 0 _ rfl
  have hd := sd 0 _ rfl
  clear sx sd hX
  have HE := hid (hE.mono k2)
  obtain ⟨lv, hN⟩ := HE.out.at_ i hi
  have e3 := X.cell hX2 hN.c1
  have e4 := X.cell hX2 hN.c4
  unfold lambdaS at hr
  by_cases hlen : (nd d i).l.length < 3
  · obtain ⟨A1, cc, hlv, _, _⟩ := Sl.shape hN.l
    subst hlv
    rw [if_pos (.inl hlen)] at hr
    have HX2 := hid hX2
    have Hr := hid hr
    clear hr hX2 hE hN
    go_enter Try.func84, Try.ntmps84
    go_wp2_with fail
    refine (P_wrongR p b off c d st L S2 _ i r st' HX2.out HE.out hi Hr.out).mono ?_
    rintro e w1 ⟨rfl, S1, k1, hX1⟩
    go_wp2_with fail
    go_ret
    exact Ret.intro rfl (k2.trans k1) hX1
  obtain ⟨b1, o1, c1, hlv, h1, h2, hcc⟩ := hN.l.at_ (by intro h; rw [h] at hlen; simp at hlen)
  subst hlv
  obtain ⟨x1, hx1⟩ : ∃ x1, (nd d i).l[1]? = some x1 := ⟨_, List.getElem?_eq_some_iff.2 ⟨by omega, rfl⟩⟩
  have hg : (nd d i).l.getD 1 0 = x1 := by rw [List.getD_eq_getElem?_getD, hx1]; rfl
  have hi1 : x1 < d.length := by have := HE.out.dat.par i hi x1 (List.mem_of_getElem? hx1); omega
  rw [hg] at hr
  have Hx1 := hid (hcc 1 x1 hx1)
  have hl1 : (1 : Int) < ((nd d i).l.length : Int) := by omega
  have hlI2 : ¬ ((nd d i).l.length : Int) < 3 := by omega
  obtain ⟨lv2, hl2, Hc⟩ := P_list p b off c d st L S2 _ x1 (X.drew hX2) HE.out hi1
  have Hc := hid Hc
  have Hl2 := hid hl2
  have HX2 := hid hX2
  have Hx := hid hx
  have Hd := hid hd
  have Hr := hid hr
  have HN := hid hN
  have Hin : Hid (∀ j ∈ (nd d x1).l, j < d.length) := hid fun j hj => by have := HE.out.dat.par x1 hi1 j hj; omega
  obtain ⟨A2, cc2, hlv2, _, _⟩ := Sl.shape hl2
  subst hlv2
  clear hX2 hE hN hx hd hl2 hcc
  go_enter Try.func84, Try.ntmps84
  go_wp2_with fail
  refine wp_plan 12 (.take 0 (.take 1 (.take 2 (.take 3 (.take 4 (.take 5 (.take 6 (.one 7 (.take 8 (.take 9 (.take 10 (.take 11 .fin)))))))))))) (fun w' => w'.cell? ⟨w.heap.size, 0, none⟩ = some (ptr p) ∧ w'.cell? ⟨w.heap.size + 1, 0, none⟩ = some (elem b off i) ∧ w'.cell? ⟨b, off + i * 5 + 4, none⟩ = some (.slice (some ⟨b1, o1, none⟩) (nd d i).l.length c1) ∧ w'.cell? ⟨b1, o1 + 1, none⟩ = some (nat x1)) (by kernel_rfl) (by kernel_rfl) (fun _ _ d_ _ _ h_ => by cases d_ <;> exact h_) (⟨X.cell HX2.out (Hx.out), X.cell HX2.out (Hd.out), X.cell HX2.out (HN.out.c4), X.cell HX2.out (Hx1.out)⟩) ?_
  refine Pl.takeW rfl rfl ?v31 ?hy31 ?rest31
  case hy31 => intro w_ hS_; obtain ⟨f_x, f_d, f_e4, f_l1⟩ := hS_; first | (go_simp; done) | (go_simp; with_reducible rfl)
  simp only [Act.put, List.setIfInBounds_toArray, List.set_cons_zero, List.set_cons_succ]
  refine Pl.takeW rfl rfl ?v32 ?hy32 ?rest32
  case hy32 => intro w_ hS_; obtain ⟨f_x, f_d, f_e4, f_l1⟩ := hS_; first | (go_simp; done) | (go_simp; with_reducible rfl)
  simp only [Act.put, List.setIfInBounds_toArray, List.set_cons_zero, List.set_cons_succ]
  refine Pl.takeW rfl rfl ?v33 ?hy33 ?rest33
  case hy33 => intro w_ _; first | (go_simp; done) | (go_simp; with_reducible rfl)
  simp only [Act.put, List.setIfInBounds_toArray, List.set_cons_zero, List.set_cons_succ]
  refine Pl.takeW rfl rfl ?v34 ?hy34 ?rest34
  case hy34 => intro w_ _; first | (go_simp; done) | (go_simp; with_reducible rfl)
  simp only [Act.put, List.setIfInBounds_toArray, List.set_cons_zero, List.set_cons_succ]
  refine Pl.takeW rfl rfl ?v35 ?hy35 ?rest35
  case hy35 => intro w_ hS_; obtain ⟨f_x, f_d, f_e4, f_l1⟩ := hS_; first | (go_simp; done) | (go_simp; with_reducible rfl)
  simp only [Act.put, List.setIfInBounds_toArray, List.set_cons_zero, List.set_cons_succ]
  refine Pl.takeW rfl rfl ?v36 ?hy36 ?rest36
  case hy36 => intro w_ _; first | (go_simp; done) | (go_simp; with_reducible rfl)
  simp only [Act.put, List.setIfInBounds_toArray, List.set_cons_zero, List.set_cons_succ]
  refine Pl.takeW rfl rfl ?v37 ?hy37 ?rest37
  case hy37 => intro w_ hS_; obtain ⟨f_x, f_d, f_e4, f_l1⟩ := hS_; first | (go_simp; done) | (go_simp; with_reducible rfl)
  simp only [Act.put, List.setIfInBounds_toArray, List.set_cons_zero, List.set_cons_succ]
  refine Pl.oneW rfl rfl (fun K_ hK_ => ?_)
  go_simp
  refine (Hc.out).mono ?_
  rintro e w3 ⟨rfl, S3, k3, hX3⟩
  refine hK_ _ _ ⟨X.cell hX3 ((Hx.out).mono (k3)), X.cell hX3 ((Hd.out).mono (k3)), X.cell hX3 ((HN.out.c4).mono (k3)), X.cell hX3 ((Hx1.out).mono (k3))⟩ ?_
  refine Pl.takeW rfl rfl ?v38 ?hy38 ?rest38
  case hy38 => intro w_ _; first | (go_simp; done) | (go_simp; with_reducible rfl)
  simp only [Act.put, List.setIfInBounds_toArray, List.set_cons_zero, List.set_cons_succ]
  refine Pl.takeW rfl rfl ?v39 ?hy39 ?rest39
  case hy39 => intro w_ _; first | (go_simp; done) | (go_simp; with_reducible rfl)
  simp only [Act.put, List.setIfInBounds_toArray, List.set_cons_zero, List.set_cons_succ]
  refine Pl.takeW rfl rfl ?v40 ?hy40 ?rest40
  case hy40 => intro w_ _; first | (go_simp; done) | (go_simp; with_reducible rfl)
  simp only [Act.put, List.setIfInBounds_toArray, List.set_cons_zero, List.set_cons_succ]
  refine Pl.takeW rfl rfl ?v41 ?hy41 ?rest41
  case hy41 => intro w_ _; first | (go_simp; done) | (go_simp; with_reducible rfl)
  simp only [Act.put, List.setIfInBounds_toArray, List.set_cons_zero, List.set_cons_succ]
  show wpList _ _ _ _ _ _
  simp only [List.drop_succ_cons, List.drop_zero]
  have HK3 := hid k3
  have HX3 := hid hX3
  have f2 := X.cell hX3 (Hx.out.mono k3)
  have f3 := X.cell hX3 (Hd.out.mono k3)
  clear k3 hX3
  have Hnm := hid (P_names p b off c d st L S3 w3 (.slice A2 (nd d x1).l.length cc2) (nd d x1).l HX3.out (HE.out.mono HK3.out) (Hl2.out.mono HK3.out) Hin.out)
  have Hgo : Hid ((((nd d x1).kind == 4) = false ∨ names d (nd d x1).l = none) ∧ some (wrong d st i) = some (r, st') ∨ ((nd d x1).kind == 4) = true ∧ ∃ ns, names d (nd d x1).l = some ns ∧ fn F (nd d i).at_ ns st ((nd d i).l.drop 2) = some (r, st')) := by
    have h := Hr.out
    by_cases hk : (nd d x1).kind = 4
    · rw [if_neg (by rintro (h | h) <;> simp_all)] at h
      cases hn : names d (nd d x1).l with
      | none => rw [hn] at h; exact .inl ⟨.inr rfl, h⟩
      | some ns => rw [hn] at h; exact .inr ⟨by simpa using hk, ns, rfl, h⟩
    · rw [if_pos (.inr hk)] at h
      exact .inl ⟨.inl (by simpa using hk), h⟩
  clear hr
  go_wp2_with fail
  refine Hnm.out.mono ?_
  rintro e w5 ⟨v5, S5, k5, hX5, h5⟩
  have HK5 := hid (HK3.out.trans k5)
  have HX5 := hid hX5
  have f2 := X.cell hX5 (Hx.out.mono HK5.out)
  have f3 := X.cell hX5 (Hd.out.mono HK5.out)
  have f4 := X.cell hX5 (HN.out.c1.mono HK5.out)
  clear k5 hX5
  rcases Hgo.out with ⟨hno, hw⟩ | ⟨hk, ns, hns, hf⟩
  · have Hw := hid hw
    rcases h5 with ⟨h5, rfl⟩ | ⟨ns, h5, rfl, hs5⟩
    · have H5 := hid h5
      clear hno hw h5
      go_wp2_with fail
      all_goals
        refine (P_wrongR p b off c d st L S5 _ i r st' HX5.out (HE.out.mono HK5.out) hi Hw.out).mono ?_
        rintro e w6 ⟨rfl, S6, k6, hX6⟩
        go_wp2_with fail
        go_ret
        exact Ret.intro rfl ((k2.trans HK5.out).trans k6) hX6
    · have hk : ((nd d x1).kind == 4) = false := by
        rcases hno with h | h
        · exact h
        · rw [h5] at h; cases h
      clear hno hw h5 hs5
      go_wp2_with fail
      refine (P_wrongR p b off c d st L S5 _ i r st' HX5.out (HE.out.mono HK5.out) hi Hw.out).mono ?_
      rintro e w6 ⟨rfl, S6, k6, hX6⟩
      go_wp2_with fail
      go_ret
      exact Ret.intro rfl ((k2.trans HK5.out).trans k6) hX6
  · rcases h5 with ⟨h5, rfl⟩ | ⟨ns', h5, rfl, hs5⟩
    · rw [hns] at h5; cases h5
    rw [hns] at h5
    cases h5
    simp only [fn, Option.bind_eq_some_iff] at hf
    obtain ⟨⟨z, st1⟩, hf1, hf2⟩ := hf
    have Hf1 := hid hf1
    have Hf2 := hid hf2
    have Hs5 := hid hs5
    have hlen3 : 3 ≤ (nd d i).l.length := by omega
    obtain ⟨A5, c5, rfl, _, _⟩ := Sl.shape hs5
    clear hns hf1 hf2 hs5
    go_wp2_with fail
    refine wp_plan 7 (.take 0 (.take 1 (.take 2 (.take 3 (.take 4 (.take 5 (.take 6 .fin))))))) (fun w_ => w_ = _) (by kernel_rfl) (by kernel_rfl) (fun _ _ d_ _ _ h_ => by cases d_ <;> exact h_) rfl ?_
    refine Pl.takeW rfl rfl ?v42 ?hy42 ?rest42
    case hy42 => intro w_ hS_; subst hS_; first | (go_simp; done) | (go_simp; with_reducible rfl)
    simp only [Act.put, List.setIfInBounds_toArray, List.set_cons_zero, List.set_cons_succ]
    refine Pl.takeW rfl rfl ?v43 ?hy43 ?rest43
    case hy43 => intro w_ hS_; subst hS_; first | (go_simp; done) | (go_simp; with_reducible rfl)
    simp only [Act.put, List.setIfInBounds_toArray, List.set_cons_zero, List.set_cons_succ]
    refine Pl.takeW rfl rfl ?v44 ?hy44 ?rest44
    case hy44 => intro w_ _; first | (go_simp; done) | (go_simp; with_reducible rfl)
    simp only [Act.put, List.setIfInBounds_toArray, List.set_cons_zero, List.set_cons_succ]
    refine Pl.takeW rfl rfl ?v45 ?hy45 ?rest45
    case hy45 => intro w_ _; first | (go_simp; done) | (go_simp; with_reducible rfl)
    simp only [Act.put, List.setIfInBounds_toArray, List.set_cons_zero, List.set_cons_succ]
    refine Pl.takeW rfl rfl ?v46 ?hy46 ?rest46
    case hy46 => intro w_ hS_; subst hS_; first | (go_simp; done) | (go_simp; with_reducible rfl)
    simp only [Act.put, List.setIfInBounds_toArray, List.set_cons_zero, List.set_cons_succ]
    refine Pl.takeW rfl rfl ?v47 ?hy47 ?rest47
    case hy47 => intro w_ _; first | (go_simp; done) | (go_simp; with_reducible rfl)
    simp only [Act.put, List.setIfInBounds_toArray, List.set_cons_zero, List.set_cons_succ]
    refine Pl.takeW rfl rfl ?v48 ?hy48 ?rest48
    case hy48 => intro w_ _; first | (go_simp; done) | (go_simp; with_reducible rfl)
    simp only [Act.put, List.setIfInBounds_toArray, List.set_cons_zero, List.set_cons_succ]
    show wpList _ _ _ _ _ _
    simp only [List.drop_succ_cons, List.drop_zero]
    go_wp2_with fail
    refine (P_fn p b off c d L S5 _ 102 #[ptr w.heap.size, ptr (w.heap.size + 1)] (fun w => by kernel_rfl) (nd d i).at_ _ ns z r st1 st' Hs5.out (P_lambda1 p b off c d st L S5 _ F HF.out w.heap.size (w.heap.size + 1) i z st1 (X.drew HX5.out) (HE.out.mono HK5.out) hi (Hx.out.mono HK5.out) (Hd.out.mono HK5.out) hlen3 Hf1.out) Hf2.out).mono ?_
    rintro e w6 ⟨rfl, S6, k6, hX6⟩
    go_wp2_with fail
    go_ret
    exact Ret.intro rfl ((k2.trans HK5.out).trans k6) hX6
example (b1 b2 : Nat) : ∀ w, (callFunc 102 #[ptr b1, ptr b2]).run Try.prog w = .ok (.enter 102 #[ptr b1, ptr b2]) w := fun w => by kernel_rfl
end
end Go.Proofs.Ytjjbidajkmodfaa
namespace Go.Proofs.Ytjjbidajkmodfaa
open Go Go.RowKit
theorem pairsGo_in (d : List Node) (n : Nat) (hp : ∀ i, i < n → ∀ j ∈ (nd d i).l, j < i) : ∀ (l ps vs : List Nat), (∀ j ∈ l, j < n) → pairsGo d l = some (ps, vs) → (∀ j ∈ ps, j < n) ∧ (∀ j ∈ vs, j < n) ∧ ps.length = l.length ∧ vs.length = l.length
  | [], ps, vs, _, h => by simp [pairsGo] at h; obtain ⟨rfl, rfl⟩ := h; simp
  | p :: l, ps, vs, hl, h => by
    rw [pairsGo_cons] at h
    split at h
    · rename_i hk
      simp only [Option.bind_eq_some_iff] at h
      obtain ⟨⟨ps', vs'⟩, h1, h2⟩ := h
      simp only [Option.some.injEq, Prod.mk.injEq] at h2
      obtain ⟨rfl, rfl⟩ := h2
      obtain ⟨i1, i2, i3, i4⟩ := pairsGo_in d n hp l ps' vs' (fun j hj => hl j (List.mem_cons_of_mem _ hj)) h1
      have hpn := hl p List.mem_cons_self
      match e : (nd d p).l, hk.2.1 with
      | [x, y], _ =>
        have hx := hp p hpn x (by rw [e]; exact List.mem_cons_self)
        have hy := hp p hpn y (by rw [e]; exact List.mem_cons_of_mem _ List.mem_cons_self)
        simp only [List.getD_cons_zero, List.getD_cons_succ, List.mem_cons, List.length_cons]
        refine ⟨?_, ?_, by omega, by omega⟩
        · rintro j (rfl | hj)
          · omega
          · exact i1 j hj
        · rintro j (rfl | hj)
          · omega
          · exact i2 j hj
    · cases h
theorem pairs_in {S : Seal} {b off c : Nat} {d : List Node} (hE : Env S b off c d) {i : Nat} (hi : i < d.length) {ps vs : List Nat} (h : pairs d i = some (ps, vs)) :
    (∀ j ∈ ps, j < d.length) ∧ (∀ j ∈ vs, j < d.length) ∧ ps.length ≤ 1099511627776 ∧ vs.length ≤ 1099511627776 ∧ ps.length = vs.length := by
  unfold pairs at h
  split at h
  · obtain ⟨h1, h2, h3, h4⟩ := pairsGo_in d d.length (fun i hi j hj => hE.dat.par i hi j hj) _ ps vs (fun j hj => by have := hE.dat.par i hi j hj; omega) h
    have := hE.dat.ll i hi
    exact ⟨h1, h2, by omega, by omega, by omega⟩
  · cases h
section
variable (p b off c : Nat) (d : List Node) (st : St) (L : List Atom) (S : Seal) (w : World)
set_option maxRecDepth 100000 in
set_option maxHeartbeats 4000000 in
theorem P_let (F : Fm) (HF : OkP p b off c d F) (i r : Nat) (st' : St) (hX : PX p (dval b off c d) st L S w) (hE : Env S b off c d) (hi : i < d.length) (hr : letS d F i st = some (r, st')) :
    Calls Try.prog 86 #[ptr p, elem b off i] w (Ret S (PX p (dval b off c d) st' L) (nat r)) := by
  have X := PX.xs p (dval b off c d) st
  have HF := hid HF
  obtain ⟨S2, k2, hX2, sx, sd⟩ := X.box2 hX #[ptr p] #[elem b off i] 54 55
  have hx := sx 0 _ rfl
  have hd := sd 0 _ rfl
  clear sx sd hX
  have HE := hid (hE.mono k2)
  obtain ⟨lv, hN⟩ := HE.out.at_ i hi
  have e3 := X.cell hX2 hN.c1
  have e4 := X.cell hX2 hN.c4
  unfold letS at hr
  by_cases hlen : (nd d i).l.length < 3
  · obtain ⟨A1, cc, hlv, _, _⟩ := Sl.shape hN.l
    subst hlv
    rw [if_pos hlen] at hr
    have HX2 := hid hX2
    have Hr := hid hr
    clear hr hX2 hE hN
    go_enter Try.func86, Try.ntmps86
    go_wp2_with fail
    refine (P_wrongR p b off c d st L S2 _ i r st' HX2.out HE.out hi Hr.out).mono ?_
    rintro e w1 ⟨rfl, S1, k1, hX1⟩
    go_wp2_with fail
    go_ret
    exact Ret.intro rfl (k2.trans k1) hX1
  obtain ⟨b1, o1, c1, hlv, h1, h2, hcc⟩ := hN.l.at_ (by intro h; rw [h] at hlen; simp at hlen)
  subst hlv
  obtain ⟨x1, hx1⟩ : ∃ x1, (nd d i).l[1]? = some x1 := ⟨_, List.getElem?_eq_some_iff.2 ⟨by omega, rfl⟩⟩
  have hg : (nd d i).l.getD 1 0 = x1 := by rw [List.getD_eq_getElem?_getD, hx1]; rfl
  have hi1 : x1 < d.length := by have := HE.out.dat.par i hi x1 (List.mem_of_getElem? hx1); omega
  rw [hg] at hr
  have Hx1 := hid (hcc 1 x1 hx1)
  have hl1 : (1 : Int) < ((nd d i).l.length : Int) := by omega
  have hlI2 : ¬ ((nd d i).l.length : Int) < 3 := by omega
  have HX2 := hid hX2
  have Hx := hid hx
  have Hd := hid hd
  have HN := hid hN
  clear hX2 hE hN hx hd
  rw [if_neg hlen] at hr
  have Hr := hid hr
  have Hc := hid (P_bound p b off c d st L S2 _ x1 (X.drew HX2.out) HE.out hi1)
  clear hcc hr
  go_enter Try.func86, Try.ntmps86
  go_wp2_with fail
  refine wp_plan 14 (.take 0 (.take 1 (.take 2 (.take 3 (.take 4 (.take 5 (.take 6 (.one 7 (.take 8 (.take 9 (.take 10 (.take 11 (.take 12 (.take 13 .fin)))))))))))))) (fun w' => w'.cell? ⟨w.heap.size, 0, none⟩ = some (ptr p) ∧ w'.cell? ⟨w.heap.size + 1, 0, none⟩ = some (elem b off i) ∧ w'.cell? ⟨b, off + i * 5 + 4, none⟩ = some (.slice (some ⟨b1, o1, none⟩) (nd d i).l.length c1) ∧ w'.cell? ⟨b1, o1 + 1, none⟩ = some (nat x1)) (by kernel_rfl) (by kernel_rfl) (fun _ _ d_ _ _ h_ => by cases d_ <;> exact h_) (⟨X.cell HX2.out (Hx.out), X.cell HX2.out (Hd.out), X.cell HX2.out (HN.out.c4), X.cell HX2.out (Hx1.out)⟩) ?_
  refine Pl.takeW rfl rfl ?v1 ?hy1 ?rest1
  case hy1 => intro w_ hS_; obtain ⟨f_x, f_d, f_e4, f_l1⟩ := hS_; first | (go_simp; done) | (go_simp; with_reducible rfl)
  simp only [Act.put, List.setIfInBounds_toArray, List.set_cons_zero, List.set_cons_succ]
  refine Pl.takeW rfl rfl ?v2 ?hy2 ?rest2
  case hy2 => intro w_ hS_; obtain ⟨f_x, f_d, f_e4, f_l1⟩ := hS_; first | (go_simp; done) | (go_simp; with_reducible rfl)
  simp only [Act.put, List.setIfInBounds_toArray, List.set_cons_zero, List.set_cons_succ]
  refine Pl.takeW rfl rfl ?v3 ?hy3 ?rest3
  case hy3 => intro w_ _; first | (go_simp; done) | (go_simp; with_reducible rfl)
  simp only [Act.put, List.setIfInBounds_toArray, List.set_cons_zero, List.set_cons_succ]
  refine Pl.takeW rfl rfl ?v4 ?hy4 ?rest4
  case hy4 => intro w_ _; first | (go_simp; done) | (go_simp; with_reducible rfl)
  simp only [Act.put, List.setIfInBounds_toArray, List.set_cons_zero, List.set_cons_succ]
  refine Pl.takeW rfl rfl ?v5 ?hy5 ?rest5
  case hy5 => intro w_ hS_; obtain ⟨f_x, f_d, f_e4, f_l1⟩ := hS_; first | (go_simp; done) | (go_simp; with_reducible rfl)
  simp only [Act.put, List.setIfInBounds_toArray, List.set_cons_zero, List.set_cons_succ]
  refine Pl.takeW rfl rfl ?v6 ?hy6 ?rest6
  case hy6 => intro w_ _; first | (go_simp; done) | (go_simp; with_reducible rfl)
  simp only [Act.put, List.setIfInBounds_toArray, List.set_cons_zero, List.set_cons_succ]
  refine Pl.takeW rfl rfl ?v7 ?hy7 ?rest7
  case hy7 => intro w_ hS_; obtain ⟨f_x, f_d, f_e4, f_l1⟩ := hS_; first | (go_simp; done) | (go_simp; with_reducible rfl)
  simp only [Act.put, List.setIfInBounds_toArray, List.set_cons_zero, List.set_cons_succ]
  refine Pl.oneW rfl rfl (fun K_ hK_ => ?_)
  go_simp
  refine Hc.out.mono ?_
  rintro e w3 ⟨v3, u3, S3, k3, hX3, h3⟩
  have HK3 := hid k3
  have HX3 := hid hX3
  have f2 := X.cell hX3 (Hx.out.mono k3)
  have f3 := X.cell hX3 (Hd.out.mono k3)
  clear k3 hX3
  rcases h3 with ⟨h3, rfl⟩ | ⟨ps, vs, h3, rfl, hps, hvs⟩
  · have hr := Hr.out
    rw [h3] at hr
    have Hr' := hid hr
    clear h3 hr
    refine hK_ _ _ ⟨X.cell HX3.out ((Hx.out).mono (HK3.out)), X.cell HX3.out ((Hd.out).mono (HK3.out)), X.cell HX3.out ((HN.out.c4).mono (HK3.out)), X.cell HX3.out ((Hx1.out).mono (HK3.out))⟩ ?_
    refine Pl.takeW rfl rfl ?v8 ?hy8 ?rest8
    case hy8 => intro w_ _; first | (go_simp; done) | (go_simp; with_reducible rfl)
    simp only [Act.put, List.setIfInBounds_toArray, List.set_cons_zero, List.set_cons_succ]
    refine Pl.takeW rfl rfl ?v9 ?hy9 ?rest9
    case hy9 => intro w_ _; first | (go_simp; done) | (go_simp; with_reducible rfl)
    simp only [Act.put, List.setIfInBounds_toArray, List.set_cons_zero, List.set_cons_succ]
    refine Pl.takeW rfl rfl ?v10 ?hy10 ?rest10
    case hy10 => intro w_ _; first | (go_simp; done) | (go_simp; with_reducible rfl)
    simp only [Act.put, List.setIfInBounds_toArray, List.set_cons_zero, List.set_cons_succ]
    refine Pl.takeW rfl rfl ?v11 ?hy11 ?rest11
    case hy11 => intro w_ _; first | (go_simp; done) | (go_simp; with_reducible rfl)
    simp only [Act.put, List.setIfInBounds_toArray, List.set_cons_zero, List.set_cons_succ]
    refine Pl.takeW rfl rfl ?v12 ?hy12 ?rest12
    case hy12 => intro w_ _; first | (go_simp; done) | (go_simp; with_reducible rfl)
    simp only [Act.put, List.setIfInBounds_toArray, List.set_cons_zero, List.set_cons_succ]
    refine Pl.takeW rfl rfl ?v13 ?hy13 ?rest13
    case hy13 => intro w_ _; first | (go_simp; done) | (go_simp; with_reducible rfl)
    simp only [Act.put, List.setIfInBounds_toArray, List.set_cons_zero, List.set_cons_succ]
    show wpList _ _ _ _ _ _
    simp only [List.drop_succ_cons, List.drop_zero]
    go_wp2_with fail
    refine (P_names p b off c d st L S3 w3 (.slice none 0 0) [] HX3.out (HE.out.mono HK3.out) (NatsR.nil _) (by simp)).mono ?_
    rintro e w5 ⟨v5, S5, k5, hX5, h5⟩
    have HK5 := hid (HK3.out.trans k5)
    have HX5 := hid hX5
    have f2 := X.cell hX5 (Hx.out.mono HK5.out)
    have f3 := X.cell hX5 (Hd.out.mono HK5.out)
    clear k5 hX5
    rcases h5 with ⟨h5, rfl⟩ | ⟨ns, h5, rfl, hs5⟩
    all_goals
      clear h5
      go_wp2_with fail
      refine (P_wrongR p b off c d st L S5 _ i r st' HX5.out (HE.out.mono HK5.out) hi Hr'.out).mono ?_
      rintro e w6 ⟨rfl, S6, k6, hX6⟩
      go_wp2_with fail
      go_ret
      exact Ret.intro rfl ((k2.trans HK5.out).trans k6) hX6
  · have hr := Hr.out
    rw [h3] at hr
    have hin := pairs_in HE.out hi1 h3
    obtain ⟨A3, c3, rfl, _, _⟩ := Sl.shape hps
    obtain ⟨A4, c4, rfl, _, _⟩ := Sl.shape hvs
    have Hr' := hid hr
    have Hin := hid hin
    have Hps := hid hps
    have Hvs := hid hvs
    clear h3 hr hin hps hvs
    refine hK_ _ _ ⟨X.cell HX3.out ((Hx.out).mono (HK3.out)), X.cell HX3.out ((Hd.out).mono (HK3.out)), X.cell HX3.out ((HN.out.c4).mono (HK3.out)), X.cell HX3.out ((Hx1.out).mono (HK3.out))⟩ ?_
    refine Pl.takeW rfl rfl ?v14 ?hy14 ?rest14
    case hy14 => intro w_ _; first | (go_simp; done) | (go_simp; with_reducible rfl)
    simp only [Act.put, List.setIfInBounds_toArray, List.set_cons_zero, List.set_cons_succ]
    refine Pl.takeW rfl rfl ?v15 ?hy15 ?rest15
    case hy15 => intro w_ _; first | (go_simp; done) | (go_simp; with_reducible rfl)
    simp only [Act.put, List.setIfInBounds_toArray, List.set_cons_zero, List.set_cons_succ]
    refine Pl.takeW rfl rfl ?v16 ?hy16 ?rest16
    case hy16 => intro w_ _; first | (go_simp; done) | (go_simp; with_reducible rfl)
    simp only [Act.put, List.setIfInBounds_toArray, List.set_cons_zero, List.set_cons_succ]
    refine Pl.takeW rfl rfl ?v17 ?hy17 ?rest17
    case hy17 => intro w_ _; first | (go_simp; done) | (go_simp; with_reducible rfl)
    simp only [Act.put, List.setIfInBounds_toArray, List.set_cons_zero, List.set_cons_succ]
    refine Pl.takeW rfl rfl ?v18 ?hy18 ?rest18
    case hy18 => intro w_ _; first | (go_simp; done) | (go_simp; with_reducible rfl)
    simp only [Act.put, List.setIfInBounds_toArray, List.set_cons_zero, List.set_cons_succ]
    refine Pl.takeW rfl rfl ?v19 ?hy19 ?rest19
    case hy19 => intro w_ _; first | (go_simp; done) | (go_simp; with_reducible rfl)
    simp only [Act.put, List.setIfInBounds_toArray, List.set_cons_zero, List.set_cons_succ]
    show wpList _ _ _ _ _ _
    simp only [List.drop_succ_cons, List.drop_zero]
    go_wp2_with fail
    refine (P_names p b off c d st L S3 w3 (.slice A3 ps.length c3) ps HX3.out (HE.out.mono HK3.out) Hps.out Hin.out.1).mono ?_
    rintro e w5 ⟨v5, S5, k5, hX5, h5⟩
    have HK5 := hid (HK3.out.trans k5)
    have HX5 := hid hX5
    have Hvs5 := hid (Hvs.out.mono k5)
    have f2 := X.cell hX5 (Hx.out.mono HK5.out)
    have f3 := X.cell hX5 (Hd.out.mono HK5.out)
    have f4 := X.cell hX5 (HN.out.c1.mono HK5.out)
    clear k5 hX5
    rcases h5 with ⟨h5, rfl⟩ | ⟨ns, h5, rfl, hs5⟩
    · have hr := Hr'.out
      simp only [h5] at hr
      have Hr2 := hid hr
      clear h5 hr
      go_wp2_with fail
      refine (P_wrongR p b off c d st L S5 _ i r st' HX5.out (HE.out.mono HK5.out) hi Hr2.out).mono ?_
      rintro e w6 ⟨rfl, S6, k6, hX6⟩
      go_wp2_with fail
      go_ret
      exact Ret.intro rfl ((k2.trans HK5.out).trans k6) hX6
    · have hr := Hr'.out
      simp only [h5, Option.bind_eq_some_iff] at hr
      obtain ⟨⟨f, st2⟩, hf, hcall⟩ := hr
      simp only [fn, Option.bind_eq_some_iff] at hf
      obtain ⟨⟨z, st1⟩, hf1, hf2⟩ := hf
      have Hf1 := hid hf1
      have Hf2 := hid hf2
      have Hs5 := hid hs5
      have Hcall := hid hcall
      have hlen3 : 3 ≤ (nd d i).l.length := by omega
      obtain ⟨A5, c5, rfl, _, _⟩ := Sl.shape hs5
      clear h5 hf1 hf2 hs5 hcall
      go_wp2_with fail
      refine wp_plan 7 (.take 0 (.take 1 (.take 2 (.take 3 (.take 4 (.take 5 (.take 6 .fin))))))) (fun w_ => w_ = _) (by kernel_rfl) (by kernel_rfl) (fun _ _ d_ _ _ h_ => by cases d_ <;> exact h_) rfl ?_
      refine Pl.takeW rfl rfl ?v20 ?hy20 ?rest20
      case hy20 => intro w_ hS_; subst hS_; first | (go_simp; done) | (go_simp; with_reducible rfl)
      simp only [Act.put, List.setIfInBounds_toArray, List.set_cons_zero, List.set_cons_succ]
      refine Pl.takeW rfl rfl ?v21 ?hy21 ?rest21
      case hy21 => intro w_ hS_; subst hS_; first | (go_simp; done) | (go_simp; with_reducible rfl)
      simp only [Act.put, List.setIfInBounds_toArray, List.set_cons_zero, List.set_cons_succ]
      refine Pl.takeW rfl rfl ?v22 ?hy22 ?rest22
      case hy22 => intro w_ _; first | (go_simp; done) | (go_simp; with_reducible rfl)
      simp only [Act.put, List.setIfInBounds_toArray, List.set_cons_zero, List.set_cons_succ]
      refine Pl.takeW rfl rfl ?v23 ?hy23 ?rest23
      case hy23 => intro w_ _; first | (go_simp; done) | (go_simp; with_reducible rfl)
      simp only [Act.put, List.setIfInBounds_toArray, List.set_cons_zero, List.set_cons_succ]
      refine Pl.takeW rfl rfl ?v24 ?hy24 ?rest24
      case hy24 => intro w_ hS_; subst hS_; first | (go_simp; done) | (go_simp; with_reducible rfl)
      simp only [Act.put, List.setIfInBounds_toArray, List.set_cons_zero, List.set_cons_succ]
      refine Pl.takeW rfl rfl ?v25 ?hy25 ?rest25
      case hy25 => intro w_ _; first | (go_simp; done) | (go_simp; with_reducible rfl)
      simp only [Act.put, List.setIfInBounds_toArray, List.set_cons_zero, List.set_cons_succ]
      refine Pl.takeW rfl rfl ?v26 ?hy26 ?rest26
      case hy26 => intro w_ _; first | (go_simp; done) | (go_simp; with_reducible rfl)
      simp only [Act.put, List.setIfInBounds_toArray, List.set_cons_zero, List.set_cons_succ]
      show wpList _ _ _ _ _ _
      simp only [List.drop_succ_cons, List.drop_zero]
      go_wp2_with fail
      refine (P_fn p b off c d L S5 _ 104 #[ptr w.heap.size, ptr (w.heap.size + 1)] (fun w => by kernel_rfl) (nd d i).at_ _ ns z f st1 st2 Hs5.out (P_let1 p b off c d st L S5 _ F HF.out w.heap.size (w.heap.size + 1) i z st1 (X.drew HX5.out) (HE.out.mono HK5.out) hi (Hx.out.mono HK5.out) (Hd.out.mono HK5.out) hlen3 Hf1.out) Hf2.out).mono ?_
      rintro e w6 ⟨rfl, S6, k6, hX6⟩
      have X2 := PX.xs p (dval b off c d) st2
      have HK6 := hid (HK5.out.trans k6)
      have HX6 := hid hX6
      have Hvs6 := hid (Hvs5.out.mono k6)
      have f2 := X2.cell hX6 (Hx.out.mono HK6.out)
      have f3 := X2.cell hX6 (Hd.out.mono HK6.out)
      have f4 := X2.cell hX6 (HN.out.c1.mono HK6.out)
      clear k6 hX6
      go_wp2_with fail
      refine wp_plan 7 (.take 0 (.take 1 (.take 2 (.take 3 (.take 4 (.take 5 (.take 6 .fin))))))) (fun w_ => w_ = _) (by kernel_rfl) (by kernel_rfl) (fun _ _ d_ _ _ h_ => by cases d_ <;> exact h_) rfl ?_
      refine Pl.takeW rfl rfl ?v27 ?hy27 ?rest27
      case hy27 => intro w_ hS_; subst hS_; first | (go_simp; done) | (go_simp; with_reducible rfl)
      simp only [Act.put, List.setIfInBounds_toArray, List.set_cons_zero, List.set_cons_succ]
      refine Pl.takeW rfl rfl ?v28 ?hy28 ?rest28
      case hy28 => intro w_ hS_; subst hS_; first | (go_simp; done) | (go_simp; with_reducible rfl)
      simp only [Act.put, List.setIfInBounds_toArray, List.set_cons_zero, List.set_cons_succ]
      refine Pl.takeW rfl rfl ?v29 ?hy29 ?rest29
      case hy29 => intro w_ _; first | (go_simp; done) | (go_simp; with_reducible rfl)
      simp only [Act.put, List.setIfInBounds_toArray, List.set_cons_zero, List.set_cons_succ]
      refine Pl.takeW rfl rfl ?v30 ?hy30 ?rest30
      case hy30 => intro w_ _; first | (go_simp; done) | (go_simp; with_reducible rfl)
      simp only [Act.put, List.setIfInBounds_toArray, List.set_cons_zero, List.set_cons_succ]
      refine Pl.takeW rfl rfl ?v31 ?hy31 ?rest31
      case hy31 => intro w_ hS_; subst hS_; first | (go_simp; done) | (go_simp; with_reducible rfl)
      simp only [Act.put, List.setIfInBounds_toArray, List.set_cons_zero, List.set_cons_succ]
      refine Pl.takeW rfl rfl ?v32 ?hy32 ?rest32
      case hy32 => intro w_ _; first | (go_simp; done) | (go_simp; with_reducible rfl)
      simp only [Act.put, List.setIfInBounds_toArray, List.set_cons_zero, List.set_cons_succ]
      refine Pl.takeW rfl rfl ?v33 ?hy33 ?rest33
      case hy33 => intro w_ _; first | (go_simp; done) | (go_simp; with_reducible rfl)
      simp only [Act.put, List.setIfInBounds_toArray, List.set_cons_zero, List.set_cons_succ]
      show wpList _ _ _ _ _ _
      simp only [List.drop_succ_cons, List.drop_zero]
      go_wp2_with fail
      refine (P_call p b off c d st2 L S6 _ F HF.out (nd d i).at_ f _ vs r st' (X2.drew HX6.out) (HE.out.mono HK6.out) Hvs6.out Hin.out.2.1 Hin.out.2.2.2.1 Hcall.out).mono ?_
      rintro e w7 ⟨rfl, S7, k7, hX7⟩
      go_wp2_with fail
      go_ret
      exact Ret.intro rfl ((k2.trans HK6.out).trans k7) hX7
end
end Go.Proofs.Ytjjbidajkmodfaa
namespace Go.Proofs.Ytjjbidajkmodfaa
open Go Go.RowKit
theorem NatsR.tailIf {S : Seal} {b o c y : Nat} {t : List Nat} (h : NatsR S (.slice (some ⟨b, o, none⟩) (y :: t).length c) (y :: t)) : NatsR S (.slice (if c = 1 then some ⟨b, o, none⟩ else some ⟨b, o + 1, none⟩) t.length (c - 1)) t := by
  have := Sl.drop1 h 1 (by simp)
  simp only [List.map_cons, List.drop_succ_cons, List.drop_zero, List.length_cons, Nat.add_sub_cancel] at this
  unfold NatsR
  have e : (some (⟨b, o, none⟩ : Addr)).map (·.add 1) = some ⟨b, o + 1, none⟩ := by
    show some (Addr.add ⟨b, o, none⟩ 1) = _
    unfold Addr.add; rw [if_neg (by omega)]
  rw [e] at this
  exact this
theorem NatsR.tail2 {S : Seal} {b o c y z : Nat} {t : List Nat} (h : NatsR S (.slice (some ⟨b, o, none⟩) (y :: z :: t).length c) (y :: z :: t)) : NatsR S (.slice (some ⟨b, o + 1, none⟩) (z :: t).length (c - 1)) (z :: t) := by
  have h2 := NatsR.drop h (k := 1) (by simp) (by omega)
  simpa using h2
section
variable (p b off c : Nat) (d : List Node)
set_option maxRecDepth 100000 in
set_option maxHeartbeats 2000000 in
theorem P_and (F : Fm) (HF : OkP p b off c d F) (at_ : Int) : ∀ (l : List Nat) (st : St) (L : List Atom) (S : Seal) (w : World) (lv : Value) (r : Nat) (st' : St), PX p (dval b off c d) st L S w → Env S b off c d →
    NatsR S lv l → (∀ j ∈ l, j < d.length) → andS F at_ st l = some (r, st') → Calls Try.prog 90 #[ptr p, .int .i64 at_, lv] w (Ret S (PX p (dval b off c d) st' L) (nat r))
  | [], st, L, S, w, lv, r, st', hX, hE, hl, _, hr => by
    obtain ⟨A, cc, rfl, _, _⟩ := Sl.shape hl
    have HX := hid hX
    have Hr := hid (show bit st at_ 1 = some (r, st') from hr)
    clear hX hE hl hr
    go_enter Try.func90, Try.ntmps90
    go_wp2_with fail
    refine (P_truth p st L S w (dval b off c d) at_ 1 r st' HX.out Hr.out).mono ?_
    rintro e w1 ⟨rfl, S1, k1, hX1⟩
    go_wp2_with fail
    go_ret
    exact Ret.intro rfl k1 hX1
  | [i], st, L, S, w, lv, r, st', hX, hE, hl, hin, hr => by
    obtain ⟨b1, o1, c1, rfl, h1, h2, hc⟩ := hl.cons
    have e1 := hX.cell hc
    have HX := hid hX
    have HE := hid hE
    have HF := hid HF
    have Hi := hid (hin i List.mem_cons_self)
    have Hr := hid (show F st i = some (r, st') from hr)
    clear hX hE hl hr hin hc
    go_enter Try.func90, Try.ntmps90
    go_wp2_with fail
    refine (HF.out st L S w i r st' HX.out HE.out Hi.out Hr.out).mono ?_
    rintro e w1 ⟨rfl, S1, k1, hX1⟩
    go_wp2_with fail
    go_ret
    exact Ret.intro rfl k1 hX1
  | i :: j :: t, st, L, S, w, lv, r, st', hX, hE, hl, hin, hr => by
    obtain ⟨b1, o1, c1, rfl, h1, h2, hc⟩ := hl.cons
    have e1 := hX.cell hc
    have hc1 : ¬ c1 = 1 := by simp at h1; omega
    simp only [andS, Option.bind_eq_some_iff] at hr
    obtain ⟨⟨z1, st1⟩, hr1, ⟨z2, st2⟩, hr2, ⟨z3, st3⟩, hr3, hr4⟩ := hr
    have HX := hid hX
    have HE := hid hE
    have HF := hid HF
    have Hi := hid (hin i List.mem_cons_self)
    have Hin := hid (fun x hx => hin x (List.mem_cons_of_mem _ hx))
    have Hl := hid (NatsR.tail2 hl)
    have Hr1 := hid hr1
    have Hr2 := hid hr2
    have Hr3 := hid hr3
    have Hr4 := hid hr4
    have ih := hid (P_and F HF.out at_ (j :: t))
    have g0 : (((i :: j :: t).length : Int) == 0) = false := by rw [beq_eq_false_iff_ne]; simp; omega
    have g1 : (((i :: j :: t).length : Int) == 1) = false := by rw [beq_eq_false_iff_ne]; simp; omega
    have g2 : ((t.length : Int) + 1 + 1 == 0) = false := by rw [beq_eq_false_iff_ne]; omega
    have g3 : ((t.length : Int) + 1 + 1 == 1) = false := by rw [beq_eq_false_iff_ne]; omega
    have g4 : (0 : Int) < (t.length : Int) + 1 + 1 := by omega
    have g5 : (1 : Int) ≤ (t.length : Int) + 1 + 1 := by omega
    clear hX hE hl hr1 hr2 hr3 hr4 hin hc
    go_enter Try.func90, Try.ntmps90
    go_wp2_with fail
    refine (HF.out st L S w i z1 st1 HX.out HE.out Hi.out Hr1.out).mono ?_
    rintro e w1 ⟨rfl, S1, k1, hX1⟩
    go_wp2_with fail
    refine (ih.out st1 L S1 _ _ z2 st2 hX1 (HE.out.mono k1) (Hl.out.mono k1) Hin.out Hr2.out).mono ?_
    rintro e w2 ⟨rfl, S2, k2, hX2⟩
    go_wp2_with fail
    refine (P_truth p st2 L S2 _ (dval b off c d) at_ 0 z3 st3 hX2 Hr3.out).mono ?_
    rintro e w3 ⟨rfl, S3, k3, hX3⟩
    go_wp2_with fail
    refine (P_asks p st3 L S3 _ (dval b off c d) at_ z1 z2 z3 r st' hX3 Hr4.out).mono ?_
    rintro e w4 ⟨rfl, S4, k4, hX4⟩
    go_wp2_with fail
    go_ret
    exact Ret.intro rfl (((k1.trans k2).trans k3).trans k4) hX4
set_option maxRecDepth 100000 in
set_option maxHeartbeats 2000000 in
theorem P_or1 (at_ : Int) (i j : Nat) (t : List Nat) (F : Fm) (st : St) (L : List Atom) (S : Seal) (w : World) (bx ba bl b1 o1 c1 : Nat) (z : Nat) (st5 : St) (hX : PX p (dval b off c d) st L S w)
    (hx : Sc S bx 0 (ptr p)) (ha : Sc S ba 0 (.int .i64 at_)) (hb : Sc S bl 0 (.slice (some ⟨b1, o1, none⟩) (t.length + 1 + 1) c1)) (hc1 : t.length + 1 + 1 ≤ c1)
    (ih : ∀ (st : St) (S' : Seal) (w : World) (r : Nat) (st' : St), S.le S' → PX p (dval b off c d) st L S' w → orS F at_ st (j :: t) = some (r, st') →
      Calls Try.prog 92 #[ptr p, .int .i64 at_, .slice (some ⟨b1, o1 + 1, none⟩) (t.length + 1) (c1 - 1)] w (Ret S' (PX p (dval b off c d) st' L) (nat r)))
    (hr : ((put st { kind := 4, at_ := at_, s := [32] }).bind fun p => (put p.2 { kind := 4, at_ := at_, s := [32] }).bind fun q => (orS F at_ q.2 (j :: t)).bind fun b => asks b.2 at_ p.1 q.1 b.1) = some (z, st5)) :
    Calls Try.prog 107 #[ptr bx, ptr ba, ptr bl] w (Ret S (PX p (dval b off c d) st5 L) (nat z)) := by
  have hc : ¬ c1 = 1 := by omega
  simp only [Option.bind_eq_some_iff] at hr
  obtain ⟨⟨z1, st1⟩, hr1, ⟨z2, st2⟩, hr2, ⟨z3, st3⟩, hr3, hr4⟩ := hr
  have e1 := hX.cell hx
  have e2 := hX.cell ha
  have e3 := hX.cell hb
  have HX := hid hX
  have Hx := hid hx
  have Ha := hid ha
  have Hb := hid hb
  have Hr1 := hid hr1
  have Hr2 := hid hr2
  have Hr3 := hid hr3
  have Hr4 := hid hr4
  have Ih := hid ih
  have g5 : (1 : Int) ≤ (t.length : Int) + 1 + 1 := by omega
  clear hX hr1 hr2 hr3 hr4 hx ha hb ih hc1
  go_enter Try.func107, Try.ntmps107
  go_wp2_with fail
  refine (P_put p (dval b off c d) st L S w 4 at_ 0 0 [32] [] 0 [] (.slice none 0 0) (.slice none 0 0) z1 st1 HX.out (StrsR.nil _) (NatsR.nil _) Hr1.out).mono ?_
  rintro e w1 ⟨rfl, S1, k1, hX1⟩
  have f1 := hX1.cell (Hx.out.mono k1)
  have f2 := hX1.cell (Ha.out.mono k1)
  go_wp2_with fail
  clear e1 e2 e3 f1 f2
  refine (P_put p (dval b off c d) st1 L S1 _ 4 at_ 0 0 [32] [] 0 [] (.slice none 0 0) (.slice none 0 0) z2 st2 hX1 (StrsR.nil _) (NatsR.nil _) Hr2.out).mono ?_
  rintro e w2 ⟨rfl, S2, k2, hX2⟩
  clear hX1
  have X := PX.xs p (dval b off c d) st2
  have HX2 := hid hX2
  have HK2 := hid (k1.trans k2)
  clear k1 k2 hX2
  go_wp2_with fail
  refine wp_plan 9 (.take 0 (.take 1 (.take 2 (.take 3 (.take 4 (.take 5 (.take 6 (.take 7 (.one 8 .fin))))))))) (fun w' => w'.cell? ⟨bx, 0, none⟩ = some (ptr p) ∧ w'.cell? ⟨ba, 0, none⟩ = some (.int .i64 at_) ∧ w'.cell? ⟨bl, 0, none⟩ = some (.slice (some ⟨b1, o1, none⟩) (t.length + 1 + 1) c1)) (by kernel_rfl) (by kernel_rfl) (fun _ _ d_ _ _ h_ => by cases d_ <;> exact h_) (⟨X.cell (X.drew HX2.out) (Hx.out.mono HK2.out), X.cell (X.drew HX2.out) (Ha.out.mono HK2.out), X.cell (X.drew HX2.out) (Hb.out.mono HK2.out)⟩) ?_
  refine Pl.takeW rfl rfl ?v1 ?hy1 ?rest1
  case hy1 => intro w_ hS_; obtain ⟨f_x, f_a, f_l⟩ := hS_; first | (go_simp; done) | (go_simp; with_reducible rfl)
  simp only [Act.put, List.setIfInBounds_toArray, List.set_cons_zero, List.set_cons_succ]
  refine Pl.takeW rfl rfl ?v2 ?hy2 ?rest2
  case hy2 => intro w_ hS_; obtain ⟨f_x, f_a, f_l⟩ := hS_; first | (go_simp; done) | (go_simp; with_reducible rfl)
  simp only [Act.put, List.setIfInBounds_toArray, List.set_cons_zero, List.set_cons_succ]
  refine Pl.takeW rfl rfl ?v3 ?hy3 ?rest3
  case hy3 => intro w_ _; first | (go_simp; done) | (go_simp; with_reducible rfl)
  simp only [Act.put, List.setIfInBounds_toArray, List.set_cons_zero, List.set_cons_succ]
  refine Pl.takeW rfl rfl ?v4 ?hy4 ?rest4
  case hy4 => intro w_ _; first | (go_simp; done) | (go_simp; with_reducible rfl)
  simp only [Act.put, List.setIfInBounds_toArray, List.set_cons_zero, List.set_cons_succ]
  refine Pl.takeW rfl rfl ?v5 ?hy5 ?rest5
  case hy5 => intro w_ hS_; obtain ⟨f_x, f_a, f_l⟩ := hS_; first | (go_simp; done) | (go_simp; with_reducible rfl)
  simp only [Act.put, List.setIfInBounds_toArray, List.set_cons_zero, List.set_cons_succ]
  refine Pl.takeW rfl rfl ?v6 ?hy6 ?rest6
  case hy6 => intro w_ hS_; obtain ⟨f_x, f_a, f_l⟩ := hS_; first | (go_simp; done) | (go_simp; with_reducible rfl)
  simp only [Act.put, List.setIfInBounds_toArray, List.set_cons_zero, List.set_cons_succ]
  refine Pl.takeW rfl rfl ?v7 ?hy7 ?rest7
  case hy7 => intro w_ hS_; obtain ⟨f_x, f_a, f_l⟩ := hS_; first | (go_simp; done) | (go_simp; with_reducible rfl)
  simp only [Act.put, List.setIfInBounds_toArray, List.set_cons_zero, List.set_cons_succ]
  refine Pl.takeW rfl rfl ?v8 ?hy8 ?rest8
  case hy8 => intro w_ _; first | (go_simp; done) | (go_simp; with_reducible rfl)
  simp only [Act.put, List.setIfInBounds_toArray, List.set_cons_zero, List.set_cons_succ]
  refine Pl.oneW rfl rfl (fun K_ hK_ => ?_)
  go_simp
  refine (Ih.out st2 S2 _ z3 st3 HK2.out (X.drew HX2.out) Hr3.out).mono ?_
  rintro e w3 ⟨rfl, S3, k3, hX3⟩
  have X3 := PX.xs p (dval b off c d) st3
  have HX3 := hid hX3
  have HK3 := hid k3
  refine hK_ _ _ ⟨X3.cell HX3.out ((Hx.out.mono HK2.out).mono (HK3.out)), X3.cell HX3.out ((Ha.out.mono HK2.out).mono (HK3.out)), X3.cell HX3.out ((Hb.out.mono HK2.out).mono (HK3.out))⟩ ?_
  show wpList _ _ _ _ _ _
  simp only [List.drop_succ_cons, List.drop_zero]
  clear hX3 k3
  go_wp2_with fail
  refine (P_asks p st3 L S3 _ (dval b off c d) at_ z1 z2 z3 z st5 HX3.out Hr4.out).mono ?_
  rintro e w4 ⟨rfl, S4, k4, hX4⟩
  go_wp2_with fail
  go_ret
  exact Ret.intro rfl ((HK2.out.trans HK3.out).trans k4) hX4
set_option maxRecDepth 100000 in
set_option maxHeartbeats 2000000 in
theorem P_or (F : Fm) (HF : OkP p b off c d F) (at_ : Int) : ∀ (l : List Nat) (st : St) (L : List Atom) (S : Seal) (w : World) (lv : Value) (r : Nat) (st' : St), PX p (dval b off c d) st L S w → Env S b off c d →
    NatsR S lv l → (∀ j ∈ l, j < d.length) → orS F at_ st l = some (r, st') → Calls Try.prog 92 #[ptr p, .int .i64 at_, lv] w (Ret S (PX p (dval b off c d) st' L) (nat r))
  | [], st, L, S, w, lv, r, st', hX, hE, hl, _, hr => by
    have X := PX.xs p (dval b off c d) st
    obtain ⟨A, cc, rfl, _, _⟩ := Sl.shape hl
    obtain ⟨S2, k2, hX2, _, _, _⟩ := X.box3 hX #[ptr p] #[.int .i64 at_] #[.slice A 0 cc] 54 3 23
    have HX := hid hX2
    have Hr := hid (show bit st at_ 0 = some (r, st') from hr)
    clear hX hE hl hr hX2
    go_enter Try.func92, Try.ntmps92
    go_wp2_with fail
    refine (P_truth p st L S2 _ (dval b off c d) at_ 0 r st' HX.out Hr.out).mono ?_
    rintro e w1 ⟨rfl, S1, k1, hX1⟩
    go_wp2_with fail
    go_ret
    exact Ret.intro rfl (k2.trans k1) hX1
  | [i], st, L, S, w, lv, r, st', hX, hE, hl, hin, hr => by
    have X := PX.xs p (dval b off c d) st
    obtain ⟨b1, o1, c1, rfl, h1, h2, hc⟩ := hl.cons
    obtain ⟨S2, k2, hX2, s1, s2, s3⟩ := X.box3 hX #[ptr p] #[.int .i64 at_] #[.slice (some ⟨b1, o1, none⟩) 1 c1] 54 3 23
    have e1 := X.cell hX2 (hc.mono k2)
    have HX := hid hX2
    have HE := hid (hE.mono k2)
    have HF := hid HF
    have Hi := hid (hin i List.mem_cons_self)
    have Hr := hid (show F st i = some (r, st') from hr)
    clear hX hE hl hr hin hc s1 s2 s3 hX2
    go_enter Try.func92, Try.ntmps92
    go_wp2_with fail
    refine wp_plan 4 (.take 0 (.take 1 (.take 2 (.take 3 .fin)))) (fun w_ => w_ = _) (by kernel_rfl) (by kernel_rfl) (fun _ _ d_ _ _ h_ => by cases d_ <;> exact h_) rfl ?_
    refine Pl.takeW rfl rfl ?v9 ?hy9 ?rest9
    case hy9 => intro w_ hS_; subst hS_; first | (go_simp; done) | (go_simp; with_reducible rfl)
    simp only [Act.put, List.setIfInBounds_toArray, List.set_cons_zero, List.set_cons_succ]
    refine Pl.takeW rfl rfl ?v10 ?hy10 ?rest10
    case hy10 => intro w_ hS_; subst hS_; first | (go_simp; done) | (go_simp; with_reducible rfl)
    simp only [Act.put, List.setIfInBounds_toArray, List.set_cons_zero, List.set_cons_succ]
    refine Pl.takeW rfl rfl ?v11 ?hy11 ?rest11
    case hy11 => intro w_ _; first | (go_simp; done) | (go_simp; with_reducible rfl)
    simp only [Act.put, List.setIfInBounds_toArray, List.set_cons_zero, List.set_cons_succ]
    refine Pl.takeW rfl rfl ?v12 ?hy12 ?rest12
    case hy12 => intro w_ hS_; subst hS_; first | (go_simp; done) | (go_simp; with_reducible rfl)
    simp only [Act.put, List.setIfInBounds_toArray, List.set_cons_zero, List.set_cons_succ]
    show wpList _ _ _ _ _ _
    simp only [List.drop_succ_cons, List.drop_zero]
    go_wp2_with fail
    refine (HF.out st L S2 _ i r st' (X.drew HX.out) HE.out Hi.out Hr.out).mono ?_
    rintro e w1 ⟨rfl, S1, k1, hX1⟩
    go_wp2_with fail
    go_ret
    exact Ret.intro rfl (k2.trans k1) hX1
  | i :: j :: t, st, L, S, w, lv, r, st', hX, hE, hl, hin, hr => by
    have X := PX.xs p (dval b off c d) st
    obtain ⟨b1, o1, c1, rfl, h1, h2, hc⟩ := hl.cons
    have hcl : t.length + 1 + 1 ≤ c1 := by simpa using h1
    obtain ⟨S2, k2, hX2, s1, s2, s3⟩ := X.box3 hX #[ptr p] #[.int .i64 at_] #[.slice (some ⟨b1, o1, none⟩) (t.length + 1 + 1) c1] 54 3 23
    obtain ⟨S3, k3, hX3, s4⟩ := X.box hX2 #[str [32]] 9
    have hsz : ((((w.alloc (.cells #[ptr p] 54)).alloc (.cells #[.int .i64 at_] 3)).alloc (.cells #[.slice (some ⟨b1, o1, none⟩) (t.length + 1 + 1) c1] 23))).heap.size = w.heap.size + 3 := by simp
    rw [hsz] at s4
    have HE := hid ((hE.mono k2).mono k3)
    have HF := hid HF
    have Hi := hid (hin i List.mem_cons_self)
    have hi0 := hc.mono (k2.trans k3)
    have hs1 := (s1 0 _ rfl).mono k3
    have hs2 := (s2 0 _ rfl).mono k3
    have hs3 := (s3 0 _ rfl).mono k3
    have hs4 := StrsR.box1 s4
    have hin' : ∀ x ∈ j :: t, x < d.length := fun x hx => hin x (List.mem_cons_of_mem _ hx)
    have htl := (NatsR.tail2 hl).mono (k2.trans k3)
    have hr' : ∃ z st5, ((put st { kind := 4, at_ := at_, s := [32] }).bind fun p => (put p.2 { kind := 4, at_ := at_, s := [32] }).bind fun q => (orS F at_ q.2 (j :: t)).bind fun b => asks b.2 at_ p.1 q.1 b.1) = some (z, st5) ∧
        (put st5 { kind := 6, at_ := at_, p := [[32]], l := [z] }).bind (fun f => call F at_ f.1 f.2 [i]) = some (r, st') := by
      simp only [orS, Option.bind_eq_some_iff] at hr
      obtain ⟨⟨z1, st1⟩, hr1, ⟨z2, st2⟩, hr2, ⟨z3, st3⟩, hr3, ⟨z4, st4⟩, hr4, ⟨z5, st5⟩, hr5, hr6⟩ := hr
      refine ⟨z4, st4, ?_, ?_⟩
      · simp only [Option.bind_eq_some_iff]; exact ⟨_, hr1, _, hr2, _, hr3, hr4⟩
      · simp only [Option.bind_eq_some_iff]; exact ⟨_, hr5, hr6⟩
    obtain ⟨z, st5, hz, hz2⟩ := hr'
    simp only [Option.bind_eq_some_iff] at hz2
    obtain ⟨⟨f, st6⟩, hf, hcall⟩ := hz2
    have ih : ∀ (st : St) (S' : Seal) (w : World) (r : Nat) (st' : St), S3.le S' → PX p (dval b off c d) st L S' w → orS F at_ st (j :: t) = some (r, st') →
      Calls Try.prog 92 #[ptr p, .int .i64 at_, .slice (some ⟨b1, o1 + 1, none⟩) (t.length + 1) (c1 - 1)] w (Ret S' (PX p (dval b off c d) st' L) (nat r)) :=
      fun st S' w r st' k h hr => P_or F HF.out at_ (j :: t) st L S' w _ r st' h (HE.out.mono k) (htl.mono k) hin' hr
    have Hor := hid (P_or1 p b off c d at_ i j t F st L S3 _ w.heap.size (w.heap.size + 1) (w.heap.size + 2) b1 o1 c1 z st5 hX3 hs1 hs2 hs3 hcl ih hz)
    have Hs1 := hid hs1
    have Hs2 := hid hs2
    have Hs3 := hid hs3
    have Hs4 := hid hs4
    have Hi0 := hid hi0
    have HX3 := hid hX3
    have Hf := hid hf
    have Hcall := hid hcall
    have HK3 := hid (k2.trans k3)
    have g0 : (((i :: j :: t).length : Int) == 0) = false := by rw [beq_eq_false_iff_ne]; simp; omega
    have g1 : (((i :: j :: t).length : Int) == 1) = false := by rw [beq_eq_false_iff_ne]; simp; omega
    have g2 : ((t.length : Int) + 1 + 1 == 0) = false := by rw [beq_eq_false_iff_ne]; omega
    have g3 : ((t.length : Int) + 1 + 1 == 1) = false := by rw [beq_eq_false_iff_ne]; omega
    have g4 : (0 : Int) < (t.length : Int) + 1 + 1 := by omega
    clear hX hE hl hr hin hc s1 s2 s3 s4 hX2 hsz hi0 hs1 hs2 hs3 hs4 hin' htl hz hf hcall ih hX3 k2 k3
    go_enter Try.func92, Try.ntmps92
    go_wp2_with fail
    refine (P_fn p b off c d L S3 _ 107 #[ptr w.heap.size, ptr (w.heap.size + 1), ptr (w.heap.size + 2)] (fun w => by kernel_rfl) at_ _ [[32]] z f st5 st6 Hs4.out Hor.out Hf.out).mono ?_
    rintro e w1 ⟨rfl, S1, k1, hX1⟩
    have X6 := PX.xs p (dval b off c d) st6
    have HX1 := hid hX1
    have HK1 := hid k1
    clear k1 hX1
    go_wp2_with fail
    obtain ⟨S8, k8, hX8, s8⟩ := X6.box (X6.drew HX1.out) #[nat i] 3
    have HX8 := hid hX8
    have HK8 := hid (HK1.out.trans k8)
    have HS8 := hid (NatsR.box1 s8)
    refine wp_plan 7 (.take 0 (.take 1 (.take 2 (.take 3 (.take 4 (.take 5 (.one 6 .fin))))))) (fun w' => w'.cell? ⟨w.heap.size, 0, none⟩ = some (ptr p) ∧ w'.cell? ⟨w.heap.size + 1, 0, none⟩ = some (.int .i64 at_) ∧ w'.cell? ⟨w.heap.size + 2, 0, none⟩ = some (.slice (some ⟨b1, o1, none⟩) (t.length + 1 + 1) c1) ∧ w'.cell? ⟨b1, o1, none⟩ = some (nat i)) (by kernel_rfl) (by kernel_rfl) (fun _ _ d_ _ _ h_ => by cases d_ <;> exact h_) (⟨X6.cell (X6.drew HX1.out) (Hs1.out.mono HK1.out), X6.cell (X6.drew HX1.out) (Hs2.out.mono HK1.out), X6.cell (X6.drew HX1.out) (Hs3.out.mono HK1.out), X6.cell (X6.drew HX1.out) (Hi0.out.mono HK1.out)⟩) ?_
    refine Pl.takeW rfl rfl ?v13 ?hy13 ?rest13
    case hy13 => intro w_ hS_; obtain ⟨f_x, f_a, f_l, f_i⟩ := hS_; first | (go_simp; done) | (go_simp; with_reducible rfl)
    simp only [Act.put, List.setIfInBounds_toArray, List.set_cons_zero, List.set_cons_succ]
    refine Pl.takeW rfl rfl ?v14 ?hy14 ?rest14
    case hy14 => intro w_ hS_; obtain ⟨f_x, f_a, f_l, f_i⟩ := hS_; first | (go_simp; done) | (go_simp; with_reducible rfl)
    simp only [Act.put, List.setIfInBounds_toArray, List.set_cons_zero, List.set_cons_succ]
    refine Pl.takeW rfl rfl ?v15 ?hy15 ?rest15
    case hy15 => intro w_ _; first | (go_simp; done) | (go_simp; with_reducible rfl)
    simp only [Act.put, List.setIfInBounds_toArray, List.set_cons_zero, List.set_cons_succ]
    refine Pl.takeW rfl rfl ?v16 ?hy16 ?rest16
    case hy16 => intro w_ hS_; obtain ⟨f_x, f_a, f_l, f_i⟩ := hS_; first | (go_simp; done) | (go_simp; with_reducible rfl)
    simp only [Act.put, List.setIfInBounds_toArray, List.set_cons_zero, List.set_cons_succ]
    refine Pl.takeW rfl rfl ?v17 ?hy17 ?rest17
    case hy17 => intro w_ _; first | (go_simp; done) | (go_simp; with_reducible rfl)
    simp only [Act.put, List.setIfInBounds_toArray, List.set_cons_zero, List.set_cons_succ]
    refine Pl.takeW rfl rfl ?v18 ?hy18 ?rest18
    case hy18 => intro w_ hS_; obtain ⟨f_x, f_a, f_l, f_i⟩ := hS_; first | (go_simp; done) | (go_simp; with_reducible rfl)
    simp only [Act.put, List.setIfInBounds_toArray, List.set_cons_zero, List.set_cons_succ]
    refine Pl.oneW rfl rfl (fun K_ hK_ => ?_)
    go_simp
    refine hK_ _ _ ⟨X6.cell HX8.out ((Hs1.out.mono HK1.out).mono (k8)), X6.cell HX8.out ((Hs2.out.mono HK1.out).mono (k8)), X6.cell HX8.out ((Hs3.out.mono HK1.out).mono (k8)), X6.cell HX8.out ((Hi0.out.mono HK1.out).mono (k8))⟩ ?_
    show wpList _ _ _ _ _ _
    simp only [List.drop_succ_cons, List.drop_zero]
    clear hX8 s8
    go_wp2_with fail
    refine (P_call p b off c d st6 L S8 _ F HF.out at_ f _ [i] r st' HX8.out (HE.out.mono HK8.out) HS8.out (by intro x hx; rw [List.mem_singleton.1 hx]; exact Hi.out) (by simp) Hcall.out).mono ?_
    rintro e w7 ⟨rfl, S7, k7, hX7⟩
    go_wp2_with fail
    go_ret
    exact Ret.intro rfl ((HK3.out.trans HK8.out).trans k7) hX7
end
end Go.Proofs.Ytjjbidajkmodfaa
