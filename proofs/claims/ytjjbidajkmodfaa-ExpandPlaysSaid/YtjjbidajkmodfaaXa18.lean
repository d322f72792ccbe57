/- Texts R11, R12, R13 of the proof. What each theorem says stands in its own statement. No condition beyond those that it names. -/
import Derived.Test.YtjjbidajkmodfaaXa7
import Derived.Test.YtjjbidajkmodfaaXa17
set_option linter.unusedVariables false
set_option linter.unusedSimpArgs false
namespace Go.Proofs.Ytjjbidajkmodfaa
open Go Go.RowKit
section
variable (p b off c : Nat) (d : List Node) (st : St) (L : List Atom) (S : Seal) (w : World)
set_option maxRecDepth 100000 in
set_option maxHeartbeats 8000000 in
theorem R_wrongIf (F : Fm) (HF : OkR p b off c d F) (i r : Nat) (st' : St) (hX : RX p (dval b off c d) st L S w) (hE : Env S b off c d) (hi : i < d.length) (h3 : (nd d i).l.length < 3) (hr : some (wrong d st i) = some (r, st')) :
    Calls Try.prog 57 #[ptr p, nat i, .string ⟨#[105, 102]⟩] w (Ret S (RX p (dval b off c d) st' L) (nat r)) := by
  have X := RX.xs p (dval b off c d) st
  have hlenD := Dat.len hE
  have hiI : (i : Int) < (d.length : Int) := by omega
  have hll := hE.dat.ll i hi
  have Hpar := hid (hE.dat.par i hi)
  obtain ⟨lv, hN⟩ := hE.at_ i hi
  have x0 := hX.d0
  obtain ⟨A1, c1, hlv, hc1, hc2⟩ := Sl.shape hN.l
  subst hlv
  have n0 := X.cell hX hN.c0
  have n1 := X.cell hX hN.c1
  have n2 := X.cell hX hN.c2
  have n3 := X.cell hX hN.c3
  have n4 := X.cell hX hN.c4
  obtain ⟨S1, k1, hX1, s1⟩ := X.box hX #[.int .u8 (nd d i).kind, .int .i64 (nd d i).at_, .int .i64 (nd d i).n, str (nd d i).s, .slice A1 (nd d i).l.length c1] 60
  have Hd1 := hid (s1 1 _ rfl)
  have Hd4 := hid (s1 4 _ rfl)
  have d4 := X.cell hX1 Hd4.out
  have y0 := hX1.d0
  have HK1 := hid k1
  have HX1 := hid hX1
  have HE := hid (hE.mono k1)
  have HF := hid HF
  have HL := hid (hN.l.mono k1)
  clear hX hX1 hN hE s1 k1
  have Hr := hid hr
  have h3I : ((nd d i).l.length : Int) < 3 := by omega
  clear hr h3
  go_enter Try.func57, Try.ntmps57
  go_wp2_with fail
  refine (R_wrongR p b off c d st L S1 _ i r st' HX1.out HE.out hi Hr.out).mono ?_
  rintro e w2 ⟨rfl, S2, k2, hX2⟩
  go_wp2_with fail
  go_ret
  exact Ret.intro rfl (HK1.out.trans k2) hX2
set_option maxRecDepth 100000 in
set_option maxHeartbeats 8000000 in
theorem R_wrongIf4 (F : Fm) (HF : OkR p b off c d F) (i r : Nat) (st' : St) (hX : RX p (dval b off c d) st L S w) (hE : Env S b off c d) (hi : i < d.length) (h3 : (nd d i).l.length > 4) (hr : some (wrong d st i) = some (r, st')) :
    Calls Try.prog 57 #[ptr p, nat i, .string ⟨#[105, 102]⟩] w (Ret S (RX p (dval b off c d) st' L) (nat r)) := by
  have X := RX.xs p (dval b off c d) st
  have hlenD := Dat.len hE
  have hiI : (i : Int) < (d.length : Int) := by omega
  have hll := hE.dat.ll i hi
  have Hpar := hid (hE.dat.par i hi)
  obtain ⟨lv, hN⟩ := hE.at_ i hi
  have x0 := hX.d0
  obtain ⟨A1, c1, hlv, hc1, hc2⟩ := Sl.shape hN.l
  subst hlv
  have n0 := X.cell hX hN.c0
  have n1 := X.cell hX hN.c1
  have n2 := X.cell hX hN.c2
  have n3 := X.cell hX hN.c3
  have n4 := X.cell hX hN.c4
  obtain ⟨S1, k1, hX1, s1⟩ := X.box hX #[.int .u8 (nd d i).kind, .int .i64 (nd d i).at_, .int .i64 (nd d i).n, str (nd d i).s, .slice A1 (nd d i).l.length c1] 60
  have Hd1 := hid (s1 1 _ rfl)
  have Hd4 := hid (s1 4 _ rfl)
  have d4 := X.cell hX1 Hd4.out
  have y0 := hX1.d0
  have HK1 := hid k1
  have HX1 := hid hX1
  have HE := hid (hE.mono k1)
  have HF := hid HF
  have HL := hid (hN.l.mono k1)
  clear hX hX1 hN hE s1 k1
  have Hr := hid hr
  have h3I : ¬ ((nd d i).l.length : Int) < 3 := (by omega); have h4I : (4 : Int) < ((nd d i).l.length : Int) := by omega
  clear hr h3
  go_enter Try.func57, Try.ntmps57
  go_wp2_with fail
  refine (R_wrongR p b off c d st L S1 _ i r st' HX1.out HE.out hi Hr.out).mono ?_
  rintro e w2 ⟨rfl, S2, k2, hX2⟩
  go_wp2_with fail
  go_ret
  exact Ret.intro rfl (HK1.out.trans k2) hX2
set_option maxRecDepth 100000 in
set_option maxHeartbeats 8000000 in
theorem R_wrongWhen (F : Fm) (HF : OkR p b off c d F) (i r : Nat) (st' : St) (hX : RX p (dval b off c d) st L S w) (hE : Env S b off c d) (hi : i < d.length) (h3 : (nd d i).l.length < 3) (hr : some (wrong d st i) = some (r, st')) :
    Calls Try.prog 57 #[ptr p, nat i, .string ⟨#[119, 104, 101, 110]⟩] w (Ret S (RX p (dval b off c d) st' L) (nat r)) := by
  have X := RX.xs p (dval b off c d) st
  have hlenD := Dat.len hE
  have hiI : (i : Int) < (d.length : Int) := by omega
  have hll := hE.dat.ll i hi
  have Hpar := hid (hE.dat.par i hi)
  obtain ⟨lv, hN⟩ := hE.at_ i hi
  have x0 := hX.d0
  obtain ⟨A1, c1, hlv, hc1, hc2⟩ := Sl.shape hN.l
  subst hlv
  have n0 := X.cell hX hN.c0
  have n1 := X.cell hX hN.c1
  have n2 := X.cell hX hN.c2
  have n3 := X.cell hX hN.c3
  have n4 := X.cell hX hN.c4
  obtain ⟨S1, k1, hX1, s1⟩ := X.box hX #[.int .u8 (nd d i).kind, .int .i64 (nd d i).at_, .int .i64 (nd d i).n, str (nd d i).s, .slice A1 (nd d i).l.length c1] 60
  have Hd1 := hid (s1 1 _ rfl)
  have Hd4 := hid (s1 4 _ rfl)
  have d4 := X.cell hX1 Hd4.out
  have y0 := hX1.d0
  have HK1 := hid k1
  have HX1 := hid hX1
  have HE := hid (hE.mono k1)
  have HF := hid HF
  have HL := hid (hN.l.mono k1)
  clear hX hX1 hN hE s1 k1
  have Hr := hid hr
  have h3I : ((nd d i).l.length : Int) < 3 := by omega
  clear hr h3
  go_enter Try.func57, Try.ntmps57
  go_wp2_with fail
  refine (R_wrongR p b off c d st L S1 _ i r st' HX1.out HE.out hi Hr.out).mono ?_
  rintro e w2 ⟨rfl, S2, k2, hX2⟩
  go_wp2_with fail
  go_ret
  exact Ret.intro rfl (HK1.out.trans k2) hX2
set_option maxRecDepth 100000 in
set_option maxHeartbeats 8000000 in
theorem R_wrongUnless (F : Fm) (HF : OkR p b off c d F) (i r : Nat) (st' : St) (hX : RX p (dval b off c d) st L S w) (hE : Env S b off c d) (hi : i < d.length) (h3 : (nd d i).l.length < 3) (hr : some (wrong d st i) = some (r, st')) :
    Calls Try.prog 57 #[ptr p, nat i, .string ⟨#[117, 110, 108, 101, 115, 115]⟩] w (Ret S (RX p (dval b off c d) st' L) (nat r)) := by
  have X := RX.xs p (dval b off c d) st
  have hlenD := Dat.len hE
  have hiI : (i : Int) < (d.length : Int) := by omega
  have hll := hE.dat.ll i hi
  have Hpar := hid (hE.dat.par i hi)
  obtain ⟨lv, hN⟩ := hE.at_ i hi
  have x0 := hX.d0
  obtain ⟨A1, c1, hlv, hc1, hc2⟩ := Sl.shape hN.l
  subst hlv
  have n0 := X.cell hX hN.c0
  have n1 := X.cell hX hN.c1
  have n2 := X.cell hX hN.c2
  have n3 := X.cell hX hN.c3
  have n4 := X.cell hX hN.c4
  obtain ⟨S1, k1, hX1, s1⟩ := X.box hX #[.int .u8 (nd d i).kind, .int .i64 (nd d i).at_, .int .i64 (nd d i).n, str (nd d i).s, .slice A1 (nd d i).l.length c1] 60
  have Hd1 := hid (s1 1 _ rfl)
  have Hd4 := hid (s1 4 _ rfl)
  have d4 := X.cell hX1 Hd4.out
  have y0 := hX1.d0
  have HK1 := hid k1
  have HX1 := hid hX1
  have HE := hid (hE.mono k1)
  have HF := hid HF
  have HL := hid (hN.l.mono k1)
  clear hX hX1 hN hE s1 k1
  have Hr := hid hr
  have h3I : ((nd d i).l.length : Int) < 3 := by omega
  clear hr h3
  go_enter Try.func57, Try.ntmps57
  go_wp2_with fail
  refine (R_wrongR p b off c d st L S1 _ i r st' HX1.out HE.out hi Hr.out).mono ?_
  rintro e w2 ⟨rfl, S2, k2, hX2⟩
  go_wp2_with fail
  go_ret
  exact Ret.intro rfl (HK1.out.trans k2) hX2
set_option maxRecDepth 100000 in
set_option maxHeartbeats 8000000 in
theorem R_when (F : Fm) (HF : OkR p b off c d F) (i r : Nat) (st' : St) (hX : RX p (dval b off c d) st L S w) (hE : Env S b off c d) (hi : i < d.length) (hr : whenS d F i st = some (r, st')) :
    Calls Try.prog 57 #[ptr p, nat i, .string ⟨#[119, 104, 101, 110]⟩] w (Ret S (RX p (dval b off c d) st' L) (nat r)) := by
  unfold whenS at hr
  by_cases hlen : (nd d i).l.length < 3
  · rw [if_pos hlen] at hr
    exact R_wrongWhen p b off c d st L S w F HF i r st' hX hE hi hlen hr
  rw [if_neg hlen] at hr
  have X := RX.xs p (dval b off c d) st
  have hlenD := Dat.len hE
  have hiI : (i : Int) < (d.length : Int) := by omega
  have hll := hE.dat.ll i hi
  have Hpar := hid (hE.dat.par i hi)
  obtain ⟨lv, hN⟩ := hE.at_ i hi
  have x0 := hX.d0
  obtain ⟨A1, c1, hlv, hc1, hc2⟩ := Sl.shape hN.l
  subst hlv
  have n0 := X.cell hX hN.c0
  have n1 := X.cell hX hN.c1
  have n2 := X.cell hX hN.c2
  have n3 := X.cell hX hN.c3
  have n4 := X.cell hX hN.c4
  obtain ⟨S1, k1, hX1, s1⟩ := X.box hX #[.int .u8 (nd d i).kind, .int .i64 (nd d i).at_, .int .i64 (nd d i).n, str (nd d i).s, .slice A1 (nd d i).l.length c1] 60
  have Hd1 := hid (s1 1 _ rfl)
  have Hd4 := hid (s1 4 _ rfl)
  have d4 := X.cell hX1 Hd4.out
  have y0 := hX1.d0
  have HK1 := hid k1
  have HX1 := hid hX1
  have HE := hid (hE.mono k1)
  have HF := hid HF
  have HL := hid (hN.l.mono k1)
  clear hX hX1 hN hE s1 k1
  have h3' : 3 ≤ (nd d i).l.length := by omega
  have h3I : ¬ ((nd d i).l.length : Int) < 3 := by omega
  have h1I : (1 : Int) < ((nd d i).l.length : Int) := by omega
  have h2I : (2 : Int) < ((nd d i).l.length : Int) := by omega
  have h2J : (2 : Int) ≤ ((nd d i).l.length : Int) := by omega
  obtain ⟨b1, o1, c2, hlv, _, _, hcc⟩ := HL.out.at_ (by intro h; rw [h] at h3'; simp at h3')
  simp only [Value.slice.injEq, true_and] at hlv
  obtain ⟨rfl, rfl⟩ := hlv
  have hcn : ¬ c1 = 2 := by omega
  obtain ⟨x1, hx1⟩ : ∃ x1, (nd d i).l[1]? = some x1 := ⟨_, List.getElem?_eq_some_iff.2 ⟨by omega, rfl⟩⟩
  obtain ⟨x2, hx2⟩ : ∃ x2, (nd d i).l[2]? = some x2 := ⟨_, List.getElem?_eq_some_iff.2 ⟨by omega, rfl⟩⟩
  have hg1 : (nd d i).l.getD 1 0 = x1 := by rw [List.getD_eq_getElem?_getD, hx1]; rfl
  have hg2 : (nd d i).l.getD 2 0 = x2 := by rw [List.getD_eq_getElem?_getD, hx2]; rfl
  have hi1 : x1 < d.length := by have := Hpar.out x1 (List.mem_of_getElem? hx1); omega
  have hi2 : x2 < d.length := by have := Hpar.out x2 (List.mem_of_getElem? hx2); omega
  have Hx1 := hid (hcc 1 x1 hx1)
  have Hx2 := hid (hcc 2 x2 hx2)
  have Hcc := hid hcc
  have Hdr := hid (NatsR.drop HL.out (k := 2) (by omega) (by omega))
  have Hxl := hid (fun j (hj : j ∈ (nd d i).l.drop 2) => (by have := Hpar.out j (List.mem_of_mem_drop hj); omega : j < d.length))
  have f1 := X.cell HX1.out Hx1.out
  rw [hg1] at hr
  obtain ⟨⟨z1, st1⟩, h1, hr⟩ := Option.bind_eq_some_iff.1 hr
  obtain ⟨⟨z2, st2⟩, h2, hr⟩ := Option.bind_eq_some_iff.1 hr
  obtain ⟨⟨z3, st3⟩, h3, hr⟩ := Option.bind_eq_some_iff.1 hr
  have H1 := hid h1
  have H2 := hid h2
  have H3 := hid h3
  have H4 := hid (show put st3 _ = some (r, st') from hr)
  clear hr h1 h2 h3 hcc hx1 hx2 hg1 hg2 hlen
  go_enter Try.func57, Try.ntmps57
  go_wp2_with fail
  refine (HF.out st L S1 _ x1 z1 st1 HX1.out HE.out hi1 H1.out).mono ?_
  rintro e w2 ⟨rfl, S2, k2, hX2⟩
  have X1 := RX.xs p (dval b off c d) st1
  have HX2 := hid hX2
  have HK2 := hid k2
  have g1 := X1.cell hX2 (Hd1.out.mono k2)
  have g4 := X1.cell hX2 (Hd4.out.mono k2)
  clear hX2 k2 f1
  go_wp2_with fail
  refine wp_plan 6 (.take 0 (.take 1 (.take 2 (.take 3 (.take 4 (.take 5 .fin)))))) (fun w_ => w_ = _) (by kernel_rfl) (by kernel_rfl) (fun _ _ d_ _ _ h_ => by cases d_ <;> exact h_) rfl ?_
  refine Pl.takeW rfl rfl ?v1 ?hy1 ?rest1
  case hy1 => intro w_ _; first | (go_simp; done) | (go_simp; with_reducible rfl)
  simp only [Act.put, List.setIfInBounds_toArray, List.set_cons_zero, List.set_cons_succ]
  refine Pl.takeW rfl rfl ?v2 ?hy2 ?rest2
  case hy2 => intro w_ _; first | (go_simp; done) | (go_simp; with_reducible rfl)
  simp only [Act.put, List.setIfInBounds_toArray, List.set_cons_zero, List.set_cons_succ]
  refine Pl.takeW rfl rfl ?v3 ?hy3 ?rest3
  case hy3 => intro w_ hS_; subst hS_; first | (go_simp; done) | (go_simp; with_reducible rfl)
  simp only [Act.put, List.setIfInBounds_toArray, List.set_cons_zero, List.set_cons_succ]
  refine Pl.takeW rfl rfl ?v4 ?hy4 ?rest4
  case hy4 => intro w_ _; first | (go_simp; done) | (go_simp; with_reducible rfl)
  simp only [Act.put, List.setIfInBounds_toArray, List.set_cons_zero, List.set_cons_succ]
  refine Pl.takeW rfl rfl ?v5 ?hy5 ?rest5
  case hy5 => intro w_ hS_; subst hS_; first | (go_simp; done) | (go_simp; with_reducible rfl)
  simp only [Act.put, List.setIfInBounds_toArray, List.set_cons_zero, List.set_cons_succ]
  refine Pl.takeW rfl rfl ?v6 ?hy6 ?rest6
  case hy6 => intro w_ _; first | (go_simp; done) | (go_simp; with_reducible rfl)
  simp only [Act.put, List.setIfInBounds_toArray, List.set_cons_zero, List.set_cons_succ]
  show wpList _ _ _ _ _ _
  simp only [List.drop_succ_cons, List.drop_zero]
  go_wp2_with fail
  refine (R_body p b off c d st1 L S2 _ F HF.out _ _ ((nd d i).l.drop 2) z2 st2 (X1.drew HX2.out) (HE.out.mono HK2.out) (Hdr.out.mono HK2.out) Hxl.out (by simp; omega) H2.out).mono ?_
  rintro e w3 ⟨rfl, S3, k3, hX3⟩
  have X2 := RX.xs p (dval b off c d) st2
  have HX3 := hid hX3
  have HK3 := hid (HK2.out.trans k3)
  have g1 := X2.cell hX3 (Hd1.out.mono HK3.out)
  clear hX3 k3 g4
  go_wp2_with fail
  refine (R_bit p st2 L S3 _ (dval b off c d) (nd d i).at_ 0 z3 st3 HX3.out H3.out).mono ?_
  rintro e w4 ⟨rfl, S4, k4, hX4⟩
  have X9 := RX.xs p (dval b off c d) st3
  have q1 := X9.cell hX4 ((Hd1.out.mono HK3.out).mono k4)
  obtain ⟨S8, k8, hX8, s8⟩ := X9.box hX4 #[nat z1, nat z2, nat z3] 3
  have HX8 := hid hX8
  have HK8 := hid ((HK3.out.trans k4).trans k8)
  have HS8 := hid (NatsR.ofBox (l := [z1, z2, z3]) (by unfold maxLen; simp) s8)
  clear hX8 k8 s8 hX4 k4
  go_wp2_with fail
  refine (R_put p (dval b off c d) st3 L S8 _ 5 (nd d i).at_ 0 0 [] [] 0 [z1, z2, z3] (.slice none 0 0) (.slice (some ⟨w4.heap.size, 0, none⟩) 3 3) r st' HX8.out (StrsR.nil _) HS8.out H4.out).mono ?_
  rintro e w9 ⟨rfl, S9, k9, hX9⟩
  go_wp2_with fail
  go_ret
  exact Ret.intro rfl ((HK1.out.trans HK8.out).trans k9) hX9
set_option maxRecDepth 100000 in
set_option maxHeartbeats 8000000 in
theorem R_unless (F : Fm) (HF : OkR p b off c d F) (i r : Nat) (st' : St) (hX : RX p (dval b off c d) st L S w) (hE : Env S b off c d) (hi : i < d.length) (hr : unlessS d F i st = some (r, st')) :
    Calls Try.prog 57 #[ptr p, nat i, .string ⟨#[117, 110, 108, 101, 115, 115]⟩] w (Ret S (RX p (dval b off c d) st' L) (nat r)) := by
  unfold unlessS at hr
  by_cases hlen : (nd d i).l.length < 3
  · rw [if_pos hlen] at hr
    exact R_wrongUnless p b off c d st L S w F HF i r st' hX hE hi hlen hr
  rw [if_neg hlen] at hr
  have X := RX.xs p (dval b off c d) st
  have hlenD := Dat.len hE
  have hiI : (i : Int) < (d.length : Int) := by omega
  have hll := hE.dat.ll i hi
  have Hpar := hid (hE.dat.par i hi)
  obtain ⟨lv, hN⟩ := hE.at_ i hi
  have x0 := hX.d0
  obtain ⟨A1, c1, hlv, hc1, hc2⟩ := Sl.shape hN.l
  subst hlv
  have n0 := X.cell hX hN.c0
  have n1 := X.cell hX hN.c1
  have n2 := X.cell hX hN.c2
  have n3 := X.cell hX hN.c3
  have n4 := X.cell hX hN.c4
  obtain ⟨S1, k1, hX1, s1⟩ := X.box hX #[.int .u8 (nd d i).kind, .int .i64 (nd d i).at_, .int .i64 (nd d i).n, str (nd d i).s, .slice A1 (nd d i).l.length c1] 60
  have Hd1 := hid (s1 1 _ rfl)
  have Hd4 := hid (s1 4 _ rfl)
  have d4 := X.cell hX1 Hd4.out
  have y0 := hX1.d0
  have HK1 := hid k1
  have HX1 := hid hX1
  have HE := hid (hE.mono k1)
  have HF := hid HF
  have HL := hid (hN.l.mono k1)
  clear hX hX1 hN hE s1 k1
  have h3' : 3 ≤ (nd d i).l.length := by omega
  have h3I : ¬ ((nd d i).l.length : Int) < 3 := by omega
  have h1I : (1 : Int) < ((nd d i).l.length : Int) := by omega
  have h2I : (2 : Int) < ((nd d i).l.length : Int) := by omega
  have h2J : (2 : Int) ≤ ((nd d i).l.length : Int) := by omega
  obtain ⟨b1, o1, c2, hlv, _, _, hcc⟩ := HL.out.at_ (by intro h; rw [h] at h3'; simp at h3')
  simp only [Value.slice.injEq, true_and] at hlv
  obtain ⟨rfl, rfl⟩ := hlv
  have hcn : ¬ c1 = 2 := by omega
  obtain ⟨x1, hx1⟩ : ∃ x1, (nd d i).l[1]? = some x1 := ⟨_, List.getElem?_eq_some_iff.2 ⟨by omega, rfl⟩⟩
  obtain ⟨x2, hx2⟩ : ∃ x2, (nd d i).l[2]? = some x2 := ⟨_, List.getElem?_eq_some_iff.2 ⟨by omega, rfl⟩⟩
  have hg1 : (nd d i).l.getD 1 0 = x1 := by rw [List.getD_eq_getElem?_getD, hx1]; rfl
  have hg2 : (nd d i).l.getD 2 0 = x2 := by rw [List.getD_eq_getElem?_getD, hx2]; rfl
  have hi1 : x1 < d.length := by have := Hpar.out x1 (List.mem_of_getElem? hx1); omega
  have hi2 : x2 < d.length := by have := Hpar.out x2 (List.mem_of_getElem? hx2); omega
  have Hx1 := hid (hcc 1 x1 hx1)
  have Hx2 := hid (hcc 2 x2 hx2)
  have Hcc := hid hcc
  have Hdr := hid (NatsR.drop HL.out (k := 2) (by omega) (by omega))
  have Hxl := hid (fun j (hj : j ∈ (nd d i).l.drop 2) => (by have := Hpar.out j (List.mem_of_mem_drop hj); omega : j < d.length))
  have f1 := X.cell HX1.out Hx1.out
  rw [hg1] at hr
  obtain ⟨⟨z1, st1⟩, h1, hr⟩ := Option.bind_eq_some_iff.1 hr
  obtain ⟨⟨z2, st2⟩, h2, hr⟩ := Option.bind_eq_some_iff.1 hr
  obtain ⟨⟨z3, st3⟩, h3, hr⟩ := Option.bind_eq_some_iff.1 hr
  have H1 := hid h1
  have H2 := hid h2
  have H3 := hid h3
  have H4 := hid (show put st3 _ = some (r, st') from hr)
  clear hr h1 h2 h3 hcc hx1 hx2 hg1 hg2 hlen
  go_enter Try.func57, Try.ntmps57
  go_wp2_with fail
  refine (HF.out st L S1 _ x1 z1 st1 HX1.out HE.out hi1 H1.out).mono ?_
  rintro e w2 ⟨rfl, S2, k2, hX2⟩
  have X1 := RX.xs p (dval b off c d) st1
  have HX2 := hid hX2
  have HK2 := hid k2
  have g1 := X1.cell hX2 (Hd1.out.mono k2)
  clear hX2 k2 f1
  go_wp2_with fail
  refine (R_bit p st1 L S2 _ (dval b off c d) (nd d i).at_ 0 z2 st2 HX2.out H2.out).mono ?_
  rintro e w3 ⟨rfl, S3, k3, hX3⟩
  have X2 := RX.xs p (dval b off c d) st2
  have HX3 := hid hX3
  have HK3 := hid (HK2.out.trans k3)
  have g1 := X2.cell hX3 (Hd1.out.mono HK3.out)
  have g4 := X2.cell hX3 (Hd4.out.mono HK3.out)
  clear hX3 k3
  go_wp2_with fail
  refine wp_plan 6 (.take 0 (.take 1 (.take 2 (.take 3 (.take 4 (.take 5 .fin)))))) (fun w_ => w_ = _) (by kernel_rfl) (by kernel_rfl) (fun _ _ d_ _ _ h_ => by cases d_ <;> exact h_) rfl ?_
  refine Pl.takeW rfl rfl ?v7 ?hy7 ?rest7
  case hy7 => intro w_ _; first | (go_simp; done) | (go_simp; with_reducible rfl)
  simp only [Act.put, List.setIfInBounds_toArray, List.set_cons_zero, List.set_cons_succ]
  refine Pl.takeW rfl rfl ?v8 ?hy8 ?rest8
  case hy8 => intro w_ _; first | (go_simp; done) | (go_simp; with_reducible rfl)
  simp only [Act.put, List.setIfInBounds_toArray, List.set_cons_zero, List.set_cons_succ]
  refine Pl.takeW rfl rfl ?v9 ?hy9 ?rest9
  case hy9 => intro w_ hS_; subst hS_; first | (go_simp; done) | (go_simp; with_reducible rfl)
  simp only [Act.put, List.setIfInBounds_toArray, List.set_cons_zero, List.set_cons_succ]
  refine Pl.takeW rfl rfl ?v10 ?hy10 ?rest10
  case hy10 => intro w_ _; first | (go_simp; done) | (go_simp; with_reducible rfl)
  simp only [Act.put, List.setIfInBounds_toArray, List.set_cons_zero, List.set_cons_succ]
  refine Pl.takeW rfl rfl ?v11 ?hy11 ?rest11
  case hy11 => intro w_ hS_; subst hS_; first | (go_simp; done) | (go_simp; with_reducible rfl)
  simp only [Act.put, List.setIfInBounds_toArray, List.set_cons_zero, List.set_cons_succ]
  refine Pl.takeW rfl rfl ?v12 ?hy12 ?rest12
  case hy12 => intro w_ _; first | (go_simp; done) | (go_simp; with_reducible rfl)
  simp only [Act.put, List.setIfInBounds_toArray, List.set_cons_zero, List.set_cons_succ]
  show wpList _ _ _ _ _ _
  simp only [List.drop_succ_cons, List.drop_zero]
  go_wp2_with fail
  refine (R_body p b off c d st2 L S3 _ F HF.out _ _ ((nd d i).l.drop 2) z3 st3 (X2.drew HX3.out) (HE.out.mono HK3.out) (Hdr.out.mono HK3.out) Hxl.out (by simp; omega) H3.out).mono ?_
  rintro e w4 ⟨rfl, S4, k4, hX4⟩
  have X9 := RX.xs p (dval b off c d) st3
  have q1 := X9.cell hX4 ((Hd1.out.mono HK3.out).mono k4)
  obtain ⟨S8, k8, hX8, s8⟩ := X9.box hX4 #[nat z1, nat z2, nat z3] 3
  have HX8 := hid hX8
  have HK8 := hid ((HK3.out.trans k4).trans k8)
  have HS8 := hid (NatsR.ofBox (l := [z1, z2, z3]) (by unfold maxLen; simp) s8)
  clear hX8 k8 s8 hX4 k4
  go_wp2_with fail
  refine (R_put p (dval b off c d) st3 L S8 _ 5 (nd d i).at_ 0 0 [] [] 0 [z1, z2, z3] (.slice none 0 0) (.slice (some ⟨w4.heap.size, 0, none⟩) 3 3) r st' HX8.out (StrsR.nil _) HS8.out H4.out).mono ?_
  rintro e w9 ⟨rfl, S9, k9, hX9⟩
  go_wp2_with fail
  go_ret
  exact Ret.intro rfl ((HK1.out.trans HK8.out).trans k9) hX9
set_option maxRecDepth 100000 in
set_option maxHeartbeats 8000000 in
theorem R_if (F : Fm) (HF : OkR p b off c d F) (i r : Nat) (st' : St) (hX : RX p (dval b off c d) st L S w) (hE : Env S b off c d) (hi : i < d.length) (hr : ifS d F i st = some (r, st')) :
    Calls Try.prog 57 #[ptr p, nat i, .string ⟨#[105, 102]⟩] w (Ret S (RX p (dval b off c d) st' L) (nat r)) := by
  unfold ifS at hr
  by_cases hlen : (nd d i).l.length < 3 ∨ 4 < (nd d i).l.length
  · rw [if_pos hlen] at hr
    rcases hlen with hlen | hlen
    · exact R_wrongIf p b off c d st L S w F HF i r st' hX hE hi hlen hr
    · exact R_wrongIf4 p b off c d st L S w F HF i r st' hX hE hi hlen hr
  rw [if_neg hlen] at hr
  have h4I : ¬ (4 : Int) < ((nd d i).l.length : Int) := by omega
  have X := RX.xs p (dval b off c d) st
  have hlenD := Dat.len hE
  have hiI : (i : Int) < (d.length : Int) := by omega
  have hll := hE.dat.ll i hi
  have Hpar := hid (hE.dat.par i hi)
  obtain ⟨lv, hN⟩ := hE.at_ i hi
  have x0 := hX.d0
  obtain ⟨A1, c1, hlv, hc1, hc2⟩ := Sl.shape hN.l
  subst hlv
  have n0 := X.cell hX hN.c0
  have n1 := X.cell hX hN.c1
  have n2 := X.cell hX hN.c2
  have n3 := X.cell hX hN.c3
  have n4 := X.cell hX hN.c4
  obtain ⟨S1, k1, hX1, s1⟩ := X.box hX #[.int .u8 (nd d i).kind, .int .i64 (nd d i).at_, .int .i64 (nd d i).n, str (nd d i).s, .slice A1 (nd d i).l.length c1] 60
  have Hd1 := hid (s1 1 _ rfl)
  have Hd4 := hid (s1 4 _ rfl)
  have d4 := X.cell hX1 Hd4.out
  have y0 := hX1.d0
  have HK1 := hid k1
  have HX1 := hid hX1
  have HE := hid (hE.mono k1)
  have HF := hid HF
  have HL := hid (hN.l.mono k1)
  clear hX hX1 hN hE s1 k1
  have h3' : 3 ≤ (nd d i).l.length := by omega
  have h3I : ¬ ((nd d i).l.length : Int) < 3 := by omega
  have h1I : (1 : Int) < ((nd d i).l.length : Int) := by omega
  have h2I : (2 : Int) < ((nd d i).l.length : Int) := by omega
  have h2J : (2 : Int) ≤ ((nd d i).l.length : Int) := by omega
  obtain ⟨b1, o1, c2, hlv, _, _, hcc⟩ := HL.out.at_ (by intro h; rw [h] at h3'; simp at h3')
  simp only [Value.slice.injEq, true_and] at hlv
  obtain ⟨rfl, rfl⟩ := hlv
  have hcn : ¬ c1 = 2 := by omega
  obtain ⟨x1, hx1⟩ : ∃ x1, (nd d i).l[1]? = some x1 := ⟨_, List.getElem?_eq_some_iff.2 ⟨by omega, rfl⟩⟩
  obtain ⟨x2, hx2⟩ : ∃ x2, (nd d i).l[2]? = some x2 := ⟨_, List.getElem?_eq_some_iff.2 ⟨by omega, rfl⟩⟩
  have hg1 : (nd d i).l.getD 1 0 = x1 := by rw [List.getD_eq_getElem?_getD, hx1]; rfl
  have hg2 : (nd d i).l.getD 2 0 = x2 := by rw [List.getD_eq_getElem?_getD, hx2]; rfl
  have hi1 : x1 < d.length := by have := Hpar.out x1 (List.mem_of_getElem? hx1); omega
  have hi2 : x2 < d.length := by have := Hpar.out x2 (List.mem_of_getElem? hx2); omega
  have Hx1 := hid (hcc 1 x1 hx1)
  have Hx2 := hid (hcc 2 x2 hx2)
  have Hcc := hid hcc
  have Hdr := hid (NatsR.drop HL.out (k := 2) (by omega) (by omega))
  have Hxl := hid (fun j (hj : j ∈ (nd d i).l.drop 2) => (by have := Hpar.out j (List.mem_of_mem_drop hj); omega : j < d.length))
  have f1 := X.cell HX1.out Hx1.out
  unfold ifWays at hr
  rw [hg1, hg2] at hr
  obtain ⟨⟨z1, st1⟩, h1, hr⟩ := Option.bind_eq_some_iff.1 hr
  obtain ⟨⟨z2, st2⟩, h2, hr⟩ := Option.bind_eq_some_iff.1 hr
  obtain ⟨⟨z3, st3⟩, h3, hr⟩ := Option.bind_eq_some_iff.1 hr
  have H1 := hid h1
  have H2 := hid h2
  have H4 := hid (show put st3 _ = some (r, st') from hr)
  by_cases h4 : (nd d i).l.length = 4
  · rw [if_pos h4] at h3
    have h4b : (((nd d i).l.length : Int) == 4) = true := by rw [h4]; rfl
    obtain ⟨x3, hx3⟩ : ∃ x3, (nd d i).l[3]? = some x3 := ⟨_, List.getElem?_eq_some_iff.2 ⟨by omega, rfl⟩⟩
    have hg3 : (nd d i).l.getD 3 0 = x3 := by rw [List.getD_eq_getElem?_getD, hx3]; rfl
    have hi3 : x3 < d.length := by have := Hpar.out x3 (List.mem_of_getElem? hx3); omega
    have Hx3 := hid (hcc 3 x3 hx3)
    have h3I' : (3 : Int) < ((nd d i).l.length : Int) := by omega
    rw [hg3] at h3
    have H3 := hid h3
    clear hr h1 h2 h3 hcc hx1 hx2 hx3 hg1 hg2 hg3 hlen h4
    go_enter Try.func57, Try.ntmps57
    go_wp2_with fail
    refine (HF.out st L S1 _ x1 z1 st1 HX1.out HE.out hi1 H1.out).mono ?_
    rintro e w2 ⟨rfl, S2, k2, hX2⟩
    have X1 := RX.xs p (dval b off c d) st1
    have HX2 := hid hX2
    have HK2 := hid k2
    have f2 := X1.cell hX2 (Hx2.out.mono k2)
    have g4 := X1.cell hX2 (Hd4.out.mono k2)
    clear hX2 k2 f1
    go_wp2_with fail
    refine (HF.out st1 L S2 _ x2 z2 st2 HX2.out (HE.out.mono HK2.out) hi2 H2.out).mono ?_
    rintro e w3 ⟨rfl, S3, k3, hX3⟩
    have X2 := RX.xs p (dval b off c d) st2
    have HX3 := hid hX3
    have HK3 := hid (HK2.out.trans k3)
    have f3 := X2.cell hX3 (Hx3.out.mono HK3.out)
    have g4 := X2.cell hX3 (Hd4.out.mono HK3.out)
    clear hX3 k3 f2
    go_wp2_with fail
    refine (HF.out st2 L S3 _ x3 z3 st3 HX3.out (HE.out.mono HK3.out) hi3 H3.out).mono ?_
    rintro e w4 ⟨rfl, S4, k4, hX4⟩
    have X9 := RX.xs p (dval b off c d) st3
    have q1 := X9.cell hX4 ((Hd1.out.mono HK3.out).mono k4)
    obtain ⟨S8, k8, hX8, s8⟩ := X9.box hX4 #[nat z1, nat z2, nat z3] 3
    have HX8 := hid hX8
    have HK8 := hid ((HK3.out.trans k4).trans k8)
    have HS8 := hid (NatsR.ofBox (l := [z1, z2, z3]) (by unfold maxLen; simp) s8)
    clear hX8 k8 s8 hX4 k4
    go_wp2_with fail
    refine (R_put p (dval b off c d) st3 L S8 _ 5 (nd d i).at_ 0 0 [] [] 0 [z1, z2, z3] (.slice none 0 0) (.slice (some ⟨w4.heap.size, 0, none⟩) 3 3) r st' HX8.out (StrsR.nil _) HS8.out H4.out).mono ?_
    rintro e w9 ⟨rfl, S9, k9, hX9⟩
    go_wp2_with fail
    go_ret
    exact Ret.intro rfl ((HK1.out.trans HK8.out).trans k9) hX9
  · rw [if_neg h4] at h3
    have h4b : (((nd d i).l.length : Int) == 4) = false := by rw [beq_eq_false_iff_ne]; omega
    have H3 := hid h3
    clear hr h1 h2 h3 hcc hx1 hx2 hg1 hg2 hlen h4
    go_enter Try.func57, Try.ntmps57
    go_wp2_with fail
    refine (HF.out st L S1 _ x1 z1 st1 HX1.out HE.out hi1 H1.out).mono ?_
    rintro e w2 ⟨rfl, S2, k2, hX2⟩
    have X1 := RX.xs p (dval b off c d) st1
    have HX2 := hid hX2
    have HK2 := hid k2
    have f2 := X1.cell hX2 (Hx2.out.mono k2)
    have g4 := X1.cell hX2 (Hd4.out.mono k2)
    clear hX2 k2 f1
    go_wp2_with fail
    refine (HF.out st1 L S2 _ x2 z2 st2 HX2.out (HE.out.mono HK2.out) hi2 H2.out).mono ?_
    rintro e w3 ⟨rfl, S3, k3, hX3⟩
    have X2 := RX.xs p (dval b off c d) st2
    have HX3 := hid hX3
    have HK3 := hid (HK2.out.trans k3)
    have g1 := X2.cell hX3 (Hd1.out.mono HK3.out)
    have g4 := X2.cell hX3 (Hd4.out.mono HK3.out)
    clear hX3 k3 f2
    go_wp2_with fail
    refine (R_bit p st2 L S3 _ (dval b off c d) (nd d i).at_ 0 z3 st3 HX3.out H3.out).mono ?_
    rintro e w4 ⟨rfl, S4, k4, hX4⟩
    have X9 := RX.xs p (dval b off c d) st3
    have q1 := X9.cell hX4 ((Hd1.out.mono HK3.out).mono k4)
    obtain ⟨S8, k8, hX8, s8⟩ := X9.box hX4 #[nat z1, nat z2, nat z3] 3
    have HX8 := hid hX8
    have HK8 := hid ((HK3.out.trans k4).trans k8)
    have HS8 := hid (NatsR.ofBox (l := [z1, z2, z3]) (by unfold maxLen; simp) s8)
    clear hX8 k8 s8 hX4 k4
    go_wp2_with fail
    refine (R_put p (dval b off c d) st3 L S8 _ 5 (nd d i).at_ 0 0 [] [] 0 [z1, z2, z3] (.slice none 0 0) (.slice (some ⟨w4.heap.size, 0, none⟩) 3 3) r st' HX8.out (StrsR.nil _) HS8.out H4.out).mono ?_
    rintro e w9 ⟨rfl, S9, k9, hX9⟩
    go_wp2_with fail
    go_ret
    exact Ret.intro rfl ((HK1.out.trans HK8.out).trans k9) hX9
end
end Go.Proofs.Ytjjbidajkmodfaa
namespace Go.Proofs.Ytjjbidajkmodfaa
open Go Go.RowKit
section
variable (p b off c : Nat) (d : List Node) (st : St) (L : List Atom) (S : Seal) (w : World)
set_option maxRecDepth 100000 in
set_option maxHeartbeats 16000000 in
theorem R_define (F : Fm) (HF : OkR p b off c d F) (i r : Nat) (st' : St) (hX : RX p (dval b off c d) st L S w) (hE : Env S b off c d) (hi : i < d.length) (hr : defineS d F i st = some (r, st')) :
    Calls Try.prog 61 #[ptr p, nat i] w (Ret S (RX p (dval b off c d) st' L) (nat r)) := by
  have X := RX.xs p (dval b off c d) st
  have hlenD := Dat.len hE
  have hiI : (i : Int) < (d.length : Int) := by omega
  have hll := hE.dat.ll i hi
  have Hpar := hid (hE.dat.par i hi)
  obtain ⟨lv, hN⟩ := hE.at_ i hi
  have x0 := hX.d0
  obtain ⟨A1, c1, hlv, hc1, hc2⟩ := Sl.shape hN.l
  subst hlv
  have n0 := X.cell hX hN.c0
  have n1 := X.cell hX hN.c1
  have n2 := X.cell hX hN.c2
  have n3 := X.cell hX hN.c3
  have n4 := X.cell hX hN.c4
  obtain ⟨S1, k1, hX1, s1⟩ := X.box hX #[.int .u8 (nd d i).kind, .int .i64 (nd d i).at_, .int .i64 (nd d i).n, str (nd d i).s, .slice A1 (nd d i).l.length c1] 60
  have Hd1 := hid (s1 1 _ rfl)
  have Hd4 := hid (s1 4 _ rfl)
  have d4 := X.cell hX1 Hd4.out
  have y0 := hX1.d0
  have HK1 := hid k1
  have HX1 := hid hX1
  have HE := hid (hE.mono k1)
  have HF := hid HF
  have HL := hid (hN.l.mono k1)
  clear hX hX1 hN hE s1 k1
  unfold defineS at hr
  by_cases h3 : (nd d i).l.length < 3
  · rw [if_pos h3] at hr
    have h3I : ((nd d i).l.length : Int) < 3 := by omega
    have Hr := hid hr
    clear hr h3
    go_enter Try.func61, Try.ntmps61
    go_wp2_with fail
    refine (R_wrongR p b off c d st L S1 _ i r st' HX1.out HE.out hi Hr.out).mono ?_
    rintro e w2 ⟨rfl, S2, k2, hX2⟩
    go_wp2_with fail
    go_ret
    exact Ret.intro rfl (HK1.out.trans k2) hX2
  rw [if_neg h3] at hr
  have h3' : 3 ≤ (nd d i).l.length := by omega
  have h3I : ¬ ((nd d i).l.length : Int) < 3 := by omega
  have h1I : (1 : Int) < ((nd d i).l.length : Int) := by omega
  have h2I : (2 : Int) < ((nd d i).l.length : Int) := by omega
  have h2J : (2 : Int) ≤ ((nd d i).l.length : Int) := by omega
  obtain ⟨b1, o1, c2, hlv, _, _, hcc⟩ := HL.out.at_ (by intro h; rw [h] at h3; simp at h3)
  simp only [Value.slice.injEq, true_and] at hlv
  obtain ⟨rfl, rfl⟩ := hlv
  have hcn : ¬ c1 = 2 := by omega
  obtain ⟨x1, hx1⟩ : ∃ x1, (nd d i).l[1]? = some x1 := ⟨_, List.getElem?_eq_some_iff.2 ⟨by omega, rfl⟩⟩
  obtain ⟨x2, hx2⟩ : ∃ x2, (nd d i).l[2]? = some x2 := ⟨_, List.getElem?_eq_some_iff.2 ⟨by omega, rfl⟩⟩
  have hg1 : (nd d i).l.getD 1 0 = x1 := by rw [List.getD_eq_getElem?_getD, hx1]; rfl
  have hg2 : (nd d i).l.getD 2 0 = x2 := by rw [List.getD_eq_getElem?_getD, hx2]; rfl
  have hi1 : x1 < d.length := by have := Hpar.out x1 (List.mem_of_getElem? hx1); omega
  have hi2 : x2 < d.length := by have := Hpar.out x2 (List.mem_of_getElem? hx2); omega
  rw [hg1] at hr
  rw [hg2] at hr
  have Hx1 := hid (hcc 1 x1 hx1)
  have Hx2 := hid (hcc 2 x2 hx2)
  have f1 := X.cell HX1.out Hx1.out
  have Hdr := hid (NatsR.drop HL.out (k := 2) (by omega) (by omega))
  have Hxl := hid (fun j (hj : j ∈ (nd d i).l.drop 2) => (by have := Hpar.out j (List.mem_of_mem_drop hj); omega : j < d.length))
  obtain ⟨lv2, hN2⟩ := HE.out.at_ x1 hi1
  obtain ⟨A2, c5, hlv2, _, _⟩ := Sl.shape hN2.l
  subst hlv2
  have m0 := X.cell HX1.out hN2.c0
  have m4 := X.cell HX1.out hN2.c4
  have hx1I : (x1 : Int) < (d.length : Int) := by omega
  have HN24 := hid hN2.c4
  have HN2l := hid hN2.l
  clear hcc hx1 hx2 hg1 hg2 hN2 h3
  by_cases hk : (nd d x1).kind = 3
  · rw [if_pos hk] at hr
    have hkb : ((nd d x1).kind == 3) = true := by simpa using hk
    have Hn := hid (R_name p b off c d st L S1 _ x1 (X.drew HX1.out) HE.out hi1)
    by_cases hn : nameOf d x1 = []
    · rw [if_pos (.inl hn)] at hr
      rw [hn] at Hn
      have Hr := hid hr
      clear hr hk hn
      go_enter Try.func61, Try.ntmps61
      go_wp2_with fail
      refine wp_plan 8 (.take 0 (.take 1 (.take 2 (.take 3 (.take 4 (.take 5 (.take 6 (.take 7 .fin)))))))) (fun w_ => w_ = _) (by kernel_rfl) (by kernel_rfl) (fun _ _ d_ _ _ h_ => by cases d_ <;> exact h_) rfl ?_
      refine Pl.takeW rfl rfl ?v1 ?hy1 ?rest1
      case hy1 => intro w_ _; first | (go_simp; done) | (go_simp; with_reducible rfl)
      simp only [Act.put, List.setIfInBounds_toArray, List.set_cons_zero, List.set_cons_succ]
      refine Pl.takeW rfl rfl ?v2 ?hy2 ?rest2
      case hy2 => intro w_ _; first | (go_simp; done) | (go_simp; with_reducible rfl)
      simp only [Act.put, List.setIfInBounds_toArray, List.set_cons_zero, List.set_cons_succ]
      refine Pl.takeW rfl rfl ?v3 ?hy3 ?rest3
      case hy3 => intro w_ _; first | (go_simp; done) | (go_simp; with_reducible rfl)
      simp only [Act.put, List.setIfInBounds_toArray, List.set_cons_zero, List.set_cons_succ]
      refine Pl.takeW rfl rfl ?v4 ?hy4 ?rest4
      case hy4 => intro w_ hS_; subst hS_; first | (go_simp; done) | (go_simp; with_reducible rfl)
      simp only [Act.put, List.setIfInBounds_toArray, List.set_cons_zero, List.set_cons_succ]
      refine Pl.takeW rfl rfl ?v5 ?hy5 ?rest5
      case hy5 => intro w_ _; first | (go_simp; done) | (go_simp; with_reducible rfl)
      simp only [Act.put, List.setIfInBounds_toArray, List.set_cons_zero, List.set_cons_succ]
      refine Pl.takeW rfl rfl ?v6 ?hy6 ?rest6
      case hy6 => intro w_ hS_; subst hS_; first | (go_simp; done) | (go_simp; with_reducible rfl)
      simp only [Act.put, List.setIfInBounds_toArray, List.set_cons_zero, List.set_cons_succ]
      refine Pl.takeW rfl rfl ?v7 ?hy7 ?rest7
      case hy7 => intro w_ _; first | (go_simp; done) | (go_simp; with_reducible rfl)
      simp only [Act.put, List.setIfInBounds_toArray, List.set_cons_zero, List.set_cons_succ]
      refine Pl.takeW rfl rfl ?v8 ?hy8 ?rest8
      case hy8 => intro w_ hS_; subst hS_; first | (go_simp; done) | (go_simp; with_reducible rfl)
      simp only [Act.put, List.setIfInBounds_toArray, List.set_cons_zero, List.set_cons_succ]
      show wpList _ _ _ _ _ _
      simp only [List.drop_succ_cons, List.drop_zero]
      go_wp2_with fail
      refine (Hn.out).mono ?_
      rintro e w3 ⟨rfl, S3, k3, hX3⟩
      go_wp2_with fail
      refine (R_wrongR p b off c d st L S3 _ i r st' hX3 (HE.out.mono k3) hi Hr.out).mono ?_
      rintro e w4 ⟨rfl, S4, k4, hX4⟩
      go_wp2_with fail
      go_ret
      exact Ret.intro rfl ((HK1.out.trans k3).trans k4) hX4
    have hb1 : (nameOf d x1 == []) = false := by simpa using hn
    have hb2 : (nameOf d x1).isEmpty = false := by simpa using hn
    by_cases h3 : (nd d i).l.length = 3
    case neg =>
      rw [if_pos (.inr h3)] at hr
      have h3b : (((nd d i).l.length : Int) != 3) = true := by simp only [bne_iff_ne]; omega
      have Hr := hid hr
      clear hr hk hn h3
      go_enter Try.func61, Try.ntmps61
      go_wp2_with fail
      refine wp_plan 8 (.take 0 (.take 1 (.take 2 (.take 3 (.take 4 (.take 5 (.take 6 (.take 7 .fin)))))))) (fun w_ => w_ = _) (by kernel_rfl) (by kernel_rfl) (fun _ _ d_ _ _ h_ => by cases d_ <;> exact h_) rfl ?_
      refine Pl.takeW rfl rfl ?v9 ?hy9 ?rest9
      case hy9 => intro w_ _; first | (go_simp; done) | (go_simp; with_reducible rfl)
      simp only [Act.put, List.setIfInBounds_toArray, List.set_cons_zero, List.set_cons_succ]
      refine Pl.takeW rfl rfl ?v10 ?hy10 ?rest10
      case hy10 => intro w_ _; first | (go_simp; done) | (go_simp; with_reducible rfl)
      simp only [Act.put, List.setIfInBounds_toArray, List.set_cons_zero, List.set_cons_succ]
      refine Pl.takeW rfl rfl ?v11 ?hy11 ?rest11
      case hy11 => intro w_ _; first | (go_simp; done) | (go_simp; with_reducible rfl)
      simp only [Act.put, List.setIfInBounds_toArray, List.set_cons_zero, List.set_cons_succ]
      refine Pl.takeW rfl rfl ?v12 ?hy12 ?rest12
      case hy12 => intro w_ hS_; subst hS_; first | (go_simp; done) | (go_simp; with_reducible rfl)
      simp only [Act.put, List.setIfInBounds_toArray, List.set_cons_zero, List.set_cons_succ]
      refine Pl.takeW rfl rfl ?v13 ?hy13 ?rest13
      case hy13 => intro w_ _; first | (go_simp; done) | (go_simp; with_reducible rfl)
      simp only [Act.put, List.setIfInBounds_toArray, List.set_cons_zero, List.set_cons_succ]
      refine Pl.takeW rfl rfl ?v14 ?hy14 ?rest14
      case hy14 => intro w_ hS_; subst hS_; first | (go_simp; done) | (go_simp; with_reducible rfl)
      simp only [Act.put, List.setIfInBounds_toArray, List.set_cons_zero, List.set_cons_succ]
      refine Pl.takeW rfl rfl ?v15 ?hy15 ?rest15
      case hy15 => intro w_ _; first | (go_simp; done) | (go_simp; with_reducible rfl)
      simp only [Act.put, List.setIfInBounds_toArray, List.set_cons_zero, List.set_cons_succ]
      refine Pl.takeW rfl rfl ?v16 ?hy16 ?rest16
      case hy16 => intro w_ hS_; subst hS_; first | (go_simp; done) | (go_simp; with_reducible rfl)
      simp only [Act.put, List.setIfInBounds_toArray, List.set_cons_zero, List.set_cons_succ]
      show wpList _ _ _ _ _ _
      simp only [List.drop_succ_cons, List.drop_zero]
      go_wp2_with fail
      refine (Hn.out).mono ?_
      rintro e w3 ⟨rfl, S3, k3, hX3⟩
      have g4 := X.cell hX3 (Hd4.out.mono k3)
      have HX3 := hid hX3
      have HK3 := hid k3
      clear hX3 k3
      go_wp2_with fail
      refine (R_wrongR p b off c d st L S3 _ i r st' HX3.out (HE.out.mono HK3.out) hi Hr.out).mono ?_
      rintro e w4 ⟨rfl, S4, k4, hX4⟩
      go_wp2_with fail
      go_ret
      exact Ret.intro rfl ((HK1.out.trans HK3.out).trans k4) hX4
    rw [if_neg (by rintro (h | h); exact hn h; exact h h3)] at hr
    have h3b : (((nd d i).l.length : Int) != 3) = false := by rw [h3]; rfl
    obtain ⟨⟨z1, st1⟩, h1, hr⟩ := Option.bind_eq_some_iff.1 hr
    have H1 := hid h1
    have Hr := hid hr
    clear hr h1 hk hn h3
    go_enter Try.func61, Try.ntmps61
    go_wp2_with fail
    refine wp_plan 8 (.take 0 (.take 1 (.take 2 (.take 3 (.take 4 (.take 5 (.take 6 (.take 7 .fin)))))))) (fun w_ => w_ = _) (by kernel_rfl) (by kernel_rfl) (fun _ _ d_ _ _ h_ => by cases d_ <;> exact h_) rfl ?_
    refine Pl.takeW rfl rfl ?v17 ?hy17 ?rest17
    case hy17 => intro w_ _; first | (go_simp; done) | (go_simp; with_reducible rfl)
    simp only [Act.put, List.setIfInBounds_toArray, List.set_cons_zero, List.set_cons_succ]
    refine Pl.takeW rfl rfl ?v18 ?hy18 ?rest18
    case hy18 => intro w_ _; first | (go_simp; done) | (go_simp; with_reducible rfl)
    simp only [Act.put, List.setIfInBounds_toArray, List.set_cons_zero, List.set_cons_succ]
    refine Pl.takeW rfl rfl ?v19 ?hy19 ?rest19
    case hy19 => intro w_ _; first | (go_simp; done) | (go_simp; with_reducible rfl)
    simp only [Act.put, List.setIfInBounds_toArray, List.set_cons_zero, List.set_cons_succ]
    refine Pl.takeW rfl rfl ?v20 ?hy20 ?rest20
    case hy20 => intro w_ hS_; subst hS_; first | (go_simp; done) | (go_simp; with_reducible rfl)
    simp only [Act.put, List.setIfInBounds_toArray, List.set_cons_zero, List.set_cons_succ]
    refine Pl.takeW rfl rfl ?v21 ?hy21 ?rest21
    case hy21 => intro w_ _; first | (go_simp; done) | (go_simp; with_reducible rfl)
    simp only [Act.put, List.setIfInBounds_toArray, List.set_cons_zero, List.set_cons_succ]
    refine Pl.takeW rfl rfl ?v22 ?hy22 ?rest22
    case hy22 => intro w_ hS_; subst hS_; first | (go_simp; done) | (go_simp; with_reducible rfl)
    simp only [Act.put, List.setIfInBounds_toArray, List.set_cons_zero, List.set_cons_succ]
    refine Pl.takeW rfl rfl ?v23 ?hy23 ?rest23
    case hy23 => intro w_ _; first | (go_simp; done) | (go_simp; with_reducible rfl)
    simp only [Act.put, List.setIfInBounds_toArray, List.set_cons_zero, List.set_cons_succ]
    refine Pl.takeW rfl rfl ?v24 ?hy24 ?rest24
    case hy24 => intro w_ hS_; subst hS_; first | (go_simp; done) | (go_simp; with_reducible rfl)
    simp only [Act.put, List.setIfInBounds_toArray, List.set_cons_zero, List.set_cons_succ]
    show wpList _ _ _ _ _ _
    simp only [List.drop_succ_cons, List.drop_zero]
    go_wp2_with fail
    refine (Hn.out).mono ?_
    rintro e w3 ⟨rfl, S3, k3, hX3⟩
    have g4 := X.cell hX3 (Hd4.out.mono k3)
    have f2 := X.cell hX3 (Hx2.out.mono k3)
    have HX3 := hid hX3
    have HK3 := hid k3
    clear hX3 k3
    go_wp2_with fail
    refine (HF.out st L S3 _ x2 z1 st1 HX3.out (HE.out.mono HK3.out) hi2 H1.out).mono ?_
    rintro e w4 ⟨rfl, S4, k4, hX4⟩
    have X4 := RX.xs p (dval b off c d) st1
    have HK4 := hid (HK3.out.trans k4)
    have g1 := X4.cell hX4 (Hd1.out.mono HK4.out)
    obtain ⟨S8, k8, hX8, s8⟩ := X4.box hX4 #[nat z1] 3
    have HX8 := hid hX8
    have HK8 := hid (HK4.out.trans k8)
    have HS8 := hid (NatsR.box1 s8)
    clear hX8 k8 s8 hX4 k4 g4 f2
    go_wp2_with fail
    refine (R_put p (dval b off c d) st1 L S8 _ 9 (nd d i).at_ 0 0 (nameOf d x1) [] 0 [z1] (.slice none 0 0) (.slice (some ⟨w4.heap.size, 0, none⟩) 1 1) r st' HX8.out (StrsR.nil _) HS8.out Hr.out).mono ?_
    rintro e w5 ⟨rfl, S5, k5, hX5⟩
    go_wp2_with fail
    go_ret
    exact Ret.intro rfl ((HK1.out.trans HK8.out).trans k5) hX5
  rw [if_neg hk] at hr
  have hkb : ((nd d x1).kind == 3) = false := by simpa using hk
  have Hli := hid (R_list p b off c d st L S1 _ x1 1 (X.drew HX1.out) HE.out hi1)
  by_cases hq : (nd d x1).kind = 4 ∧ 1 ≤ (nd d x1).l.length
  case neg =>
    rw [decide_eq_false (fun h => hq ⟨h.1, by omega⟩)] at Hli
    rw [if_pos (by by_cases h : (nd d x1).kind = 4; exact .inr (by have : ¬ 1 ≤ (nd d x1).l.length := fun h2 => hq ⟨h, h2⟩; omega); exact .inl h)] at hr
    have Hr := hid hr
    clear hr hk hq
    go_enter Try.func61, Try.ntmps61
    go_wp2_with fail
    refine wp_plan 8 (.take 0 (.take 1 (.take 2 (.take 3 (.take 4 (.take 5 (.take 6 (.take 7 .fin)))))))) (fun w_ => w_ = _) (by kernel_rfl) (by kernel_rfl) (fun _ _ d_ _ _ h_ => by cases d_ <;> exact h_) rfl ?_
    refine Pl.takeW rfl rfl ?v25 ?hy25 ?rest25
    case hy25 => intro w_ _; first | (go_simp; done) | (go_simp; with_reducible rfl)
    simp only [Act.put, List.setIfInBounds_toArray, List.set_cons_zero, List.set_cons_succ]
    refine Pl.takeW rfl rfl ?v26 ?hy26 ?rest26
    case hy26 => intro w_ _; first | (go_simp; done) | (go_simp; with_reducible rfl)
    simp only [Act.put, List.setIfInBounds_toArray, List.set_cons_zero, List.set_cons_succ]
    refine Pl.takeW rfl rfl ?v27 ?hy27 ?rest27
    case hy27 => intro w_ _; first | (go_simp; done) | (go_simp; with_reducible rfl)
    simp only [Act.put, List.setIfInBounds_toArray, List.set_cons_zero, List.set_cons_succ]
    refine Pl.takeW rfl rfl ?v28 ?hy28 ?rest28
    case hy28 => intro w_ hS_; subst hS_; first | (go_simp; done) | (go_simp; with_reducible rfl)
    simp only [Act.put, List.setIfInBounds_toArray, List.set_cons_zero, List.set_cons_succ]
    refine Pl.takeW rfl rfl ?v29 ?hy29 ?rest29
    case hy29 => intro w_ _; first | (go_simp; done) | (go_simp; with_reducible rfl)
    simp only [Act.put, List.setIfInBounds_toArray, List.set_cons_zero, List.set_cons_succ]
    refine Pl.takeW rfl rfl ?v30 ?hy30 ?rest30
    case hy30 => intro w_ hS_; subst hS_; first | (go_simp; done) | (go_simp; with_reducible rfl)
    simp only [Act.put, List.setIfInBounds_toArray, List.set_cons_zero, List.set_cons_succ]
    refine Pl.takeW rfl rfl ?v31 ?hy31 ?rest31
    case hy31 => intro w_ _; first | (go_simp; done) | (go_simp; with_reducible rfl)
    simp only [Act.put, List.setIfInBounds_toArray, List.set_cons_zero, List.set_cons_succ]
    refine Pl.takeW rfl rfl ?v32 ?hy32 ?rest32
    case hy32 => intro w_ hS_; subst hS_; first | (go_simp; done) | (go_simp; with_reducible rfl)
    simp only [Act.put, List.setIfInBounds_toArray, List.set_cons_zero, List.set_cons_succ]
    show wpList _ _ _ _ _ _
    simp only [List.drop_succ_cons, List.drop_zero]
    go_wp2_with fail
    refine Hli.out.mono ?_
    rintro e w1 ⟨rfl, rfl⟩
    go_wp2_with fail
    refine (R_wrongR p b off c d st L S1 _ i r st' (X.drew HX1.out) HE.out hi Hr.out).mono ?_
    rintro e w4 ⟨rfl, S4, k4, hX4⟩
    go_wp2_with fail
    go_ret
    exact Ret.intro rfl (HK1.out.trans k4) hX4
  rw [decide_eq_true ⟨hq.1, by omega⟩] at Hli
  rw [if_neg (by rintro (h | h); exact h hq.1; have := hq.2; omega)] at hr
  obtain ⟨y, hy⟩ : ∃ y, (nd d x1).l[0]? = some y := ⟨_, List.getElem?_eq_some_iff.2 ⟨by omega, rfl⟩⟩
  have hgy : (nd d x1).l.getD 0 0 = y := by rw [List.getD_eq_getElem?_getD, hy]; rfl
  have hiy : y < d.length := by have := HE.out.dat.par x1 hi1 y (List.mem_of_getElem? hy); omega
  rw [hgy] at hr
  obtain ⟨b3, o3, c3, hlv3, _, _, hcc3⟩ := HN2l.out.at_ (by intro h; rw [h] at hy; simp at hy)
  simp only [Value.slice.injEq, true_and] at hlv3
  obtain ⟨rfl, rfl⟩ := hlv3
  have Hy := hid (hcc3 0 y hy)
  rw [Nat.add_zero] at Hy
  have fy := X.cell HX1.out Hy.out
  have hq1 : 0 < (nd d x1).l.length := by omega
  have hq1I : (1 : Int) ≤ ((nd d x1).l.length : Int) := by omega
  have htl := NatsR.tailD HN2l.out hq1
  generalize hA3 : (if c5 = 1 then (some ⟨b3, o3, none⟩ : Option Addr) else some ⟨b3, o3 + 1, none⟩) = A3 at htl
  have Htl := hid htl
  have HA3 := hid hA3
  have Hyl := hid (fun j (hj : j ∈ (nd d x1).l.drop 1) => (by have := HE.out.dat.par x1 hi1 j (List.mem_of_mem_drop hj); omega : j < d.length))
  have Hr := hid hr
  have Hny := hid (fun W (hW : RX p (dval b off c d) st L S1 W) => R_name p b off c d st L S1 W y hW HE.out hiy)
  clear hr hk hq hcc3 hy hgy htl hA3
  go_enter Try.func61, Try.ntmps61
  go_wp2_with fail
  refine wp_plan 8 (.take 0 (.take 1 (.take 2 (.take 3 (.take 4 (.take 5 (.take 6 (.take 7 .fin)))))))) (fun w_ => w_ = _) (by kernel_rfl) (by kernel_rfl) (fun _ _ d_ _ _ h_ => by cases d_ <;> exact h_) rfl ?_
  refine Pl.takeW rfl rfl ?v33 ?hy33 ?rest33
  case hy33 => intro w_ _; first | (go_simp; done) | (go_simp; with_reducible rfl)
  simp only [Act.put, List.setIfInBounds_toArray, List.set_cons_zero, List.set_cons_succ]
  refine Pl.takeW rfl rfl ?v34 ?hy34 ?rest34
  case hy34 => intro w_ _; first | (go_simp; done) | (go_simp; with_reducible rfl)
  simp only [Act.put, List.setIfInBounds_toArray, List.set_cons_zero, List.set_cons_succ]
  refine Pl.takeW rfl rfl ?v35 ?hy35 ?rest35
  case hy35 => intro w_ _; first | (go_simp; done) | (go_simp; with_reducible rfl)
  simp only [Act.put, List.setIfInBounds_toArray, List.set_cons_zero, List.set_cons_succ]
  refine Pl.takeW rfl rfl ?v36 ?hy36 ?rest36
  case hy36 => intro w_ hS_; subst hS_; first | (go_simp; done) | (go_simp; with_reducible rfl)
  simp only [Act.put, List.setIfInBounds_toArray, List.set_cons_zero, List.set_cons_succ]
  refine Pl.takeW rfl rfl ?v37 ?hy37 ?rest37
  case hy37 => intro w_ _; first | (go_simp; done) | (go_simp; with_reducible rfl)
  simp only [Act.put, List.setIfInBounds_toArray, List.set_cons_zero, List.set_cons_succ]
  refine Pl.takeW rfl rfl ?v38 ?hy38 ?rest38
  case hy38 => intro w_ hS_; subst hS_; first | (go_simp; done) | (go_simp; with_reducible rfl)
  simp only [Act.put, List.setIfInBounds_toArray, List.set_cons_zero, List.set_cons_succ]
  refine Pl.takeW rfl rfl ?v39 ?hy39 ?rest39
  case hy39 => intro w_ _; first | (go_simp; done) | (go_simp; with_reducible rfl)
  simp only [Act.put, List.setIfInBounds_toArray, List.set_cons_zero, List.set_cons_succ]
  refine Pl.takeW rfl rfl ?v40 ?hy40 ?rest40
  case hy40 => intro w_ hS_; subst hS_; first | (go_simp; done) | (go_simp; with_reducible rfl)
  simp only [Act.put, List.setIfInBounds_toArray, List.set_cons_zero, List.set_cons_succ]
  show wpList _ _ _ _ _ _
  simp only [List.drop_succ_cons, List.drop_zero]
  go_wp2_with fail
  refine Hli.out.mono ?_
  rintro e w1 ⟨rfl, rfl⟩
  go_wp2_with fail
  refine wp_plan 8 (.take 0 (.take 1 (.take 2 (.take 3 (.take 4 (.take 5 (.take 6 (.take 7 .fin)))))))) (fun w_ => w_ = _) (by kernel_rfl) (by kernel_rfl) (fun _ _ d_ _ _ h_ => by cases d_ <;> exact h_) rfl ?_
  refine Pl.takeW rfl rfl ?v41 ?hy41 ?rest41
  case hy41 => intro w_ _; first | (go_simp; done) | (go_simp; with_reducible rfl)
  simp only [Act.put, List.setIfInBounds_toArray, List.set_cons_zero, List.set_cons_succ]
  refine Pl.takeW rfl rfl ?v42 ?hy42 ?rest42
  case hy42 => intro w_ _; first | (go_simp; done) | (go_simp; with_reducible rfl)
  simp only [Act.put, List.setIfInBounds_toArray, List.set_cons_zero, List.set_cons_succ]
  refine Pl.takeW rfl rfl ?v43 ?hy43 ?rest43
  case hy43 => intro w_ _; first | (go_simp; done) | (go_simp; with_reducible rfl)
  simp only [Act.put, List.setIfInBounds_toArray, List.set_cons_zero, List.set_cons_succ]
  refine Pl.takeW rfl rfl ?v44 ?hy44 ?rest44
  case hy44 => intro w_ hS_; subst hS_; first | (go_simp; done) | (go_simp; with_reducible rfl)
  simp only [Act.put, List.setIfInBounds_toArray, List.set_cons_zero, List.set_cons_succ]
  refine Pl.takeW rfl rfl ?v45 ?hy45 ?rest45
  case hy45 => intro w_ _; first | (go_simp; done) | (go_simp; with_reducible rfl)
  simp only [Act.put, List.setIfInBounds_toArray, List.set_cons_zero, List.set_cons_succ]
  refine Pl.takeW rfl rfl ?v46 ?hy46 ?rest46
  case hy46 => intro w_ hS_; subst hS_; first | (go_simp; done) | (go_simp; with_reducible rfl)
  simp only [Act.put, List.setIfInBounds_toArray, List.set_cons_zero, List.set_cons_succ]
  refine Pl.takeW rfl rfl ?v47 ?hy47 ?rest47
  case hy47 => intro w_ _; first | (go_simp; done) | (go_simp; with_reducible rfl)
  simp only [Act.put, List.setIfInBounds_toArray, List.set_cons_zero, List.set_cons_succ]
  refine Pl.takeW rfl rfl ?v48 ?hy48 ?rest48
  case hy48 => intro w_ hS_; subst hS_; first | (go_simp; done) | (go_simp; with_reducible rfl)
  simp only [Act.put, List.setIfInBounds_toArray, List.set_cons_zero, List.set_cons_succ]
  show wpList _ _ _ _ _ _
  simp only [List.drop_succ_cons, List.drop_zero]
  go_wp2_with fail
  refine (Hny.out _ (X.drew (X.drew HX1.out))).mono ?_
  rintro e w3 ⟨rfl, S3, k3, hX3⟩
  have hA3 := HA3.out
  have HX3 := hid hX3
  have HK3 := hid k3
  clear hX3 k3
  go_wp2_with fail
  refine (R_names p b off c d st L S3 _ _ _ HX3.out (HE.out.mono HK3.out) (Htl.out.mono HK3.out) Hyl.out).mono ?_
  rintro e w4 ⟨v4, S4, k4, hX4, h4⟩
  clear hA3
  have HX4 := hid hX4
  have HK4 := hid (HK3.out.trans k4)
  clear k4
  rcases h4 with ⟨hn, rfl⟩ | ⟨ns, hn, rfl, hns⟩
  · have hr := Hr.out
    rw [hn] at hr
    have Hr2 := hid hr
    have key : ∃ sb : Bool, (nameOf d y == []) = sb := ⟨_, rfl⟩
    obtain ⟨sb, hsb⟩ := key
    clear hr hn hX4
    cases sb with
    | true =>
      go_wp2_with fail
      refine (R_wrongR p b off c d st L S4 _ i r st' HX4.out (HE.out.mono HK4.out) hi Hr2.out).mono ?_
      rintro e w5 ⟨rfl, S5, k5, hX5⟩
      go_wp2_with fail
      go_ret
      exact Ret.intro rfl ((HK1.out.trans HK4.out).trans k5) hX5
    | false =>
      go_wp2_with fail
      refine (R_wrongR p b off c d st L S4 _ i r st' HX4.out (HE.out.mono HK4.out) hi Hr2.out).mono ?_
      rintro e w5 ⟨rfl, S5, k5, hX5⟩
      go_wp2_with fail
      go_ret
      exact Ret.intro rfl ((HK1.out.trans HK4.out).trans k5) hX5
  · have hr := Hr.out
    rw [hn] at hr
    dsimp only at hr
    obtain ⟨A6, c6, rfl, _, _⟩ := Sl.shape hns
    by_cases hny : nameOf d y = []
    · rw [if_pos hny] at hr
      have Hr2 := hid hr
      have hsb : (nameOf d y == []) = true := by simpa using hny
      clear hr hn hX4 hny hns
      go_wp2_with fail
      refine (R_wrongR p b off c d st L S4 _ i r st' HX4.out (HE.out.mono HK4.out) hi Hr2.out).mono ?_
      rintro e w5 ⟨rfl, S5, k5, hX5⟩
      go_wp2_with fail
      go_ret
      exact Ret.intro rfl ((HK1.out.trans HK4.out).trans k5) hX5
    rw [if_neg hny] at hr
    have hsb : (nameOf d y == []) = false := by simpa using hny
    have hsb2 : (nameOf d y).isEmpty = false := by simpa using hny
    obtain ⟨⟨z1, st1⟩, h1, hr⟩ := Option.bind_eq_some_iff.1 hr
    have H1 := hid h1
    have Hr2 := hid hr
    have Hns := hid hns
    have g1 := X.cell hX4 (Hd1.out.mono HK4.out)
    have g4 := X.cell hX4 (Hd4.out.mono HK4.out)
    clear hr h1 hn hX4 hny hns
    go_wp2_with fail
    refine wp_plan 7 (.take 0 (.take 1 (.take 2 (.take 3 (.take 4 (.take 5 (.take 6 .fin))))))) (fun w_ => w_ = _) (by kernel_rfl) (by kernel_rfl) (fun _ _ d_ _ _ h_ => by cases d_ <;> exact h_) rfl ?_
    refine Pl.takeW rfl rfl ?v49 ?hy49 ?rest49
    case hy49 => intro w_ _; first | (go_simp; done) | (go_simp; with_reducible rfl)
    simp only [Act.put, List.setIfInBounds_toArray, List.set_cons_zero, List.set_cons_succ]
    refine Pl.takeW rfl rfl ?v50 ?hy50 ?rest50
    case hy50 => intro w_ _; first | (go_simp; done) | (go_simp; with_reducible rfl)
    simp only [Act.put, List.setIfInBounds_toArray, List.set_cons_zero, List.set_cons_succ]
    refine Pl.takeW rfl rfl ?v51 ?hy51 ?rest51
    case hy51 => intro w_ hS_; subst hS_; first | (go_simp; done) | (go_simp; with_reducible rfl)
    simp only [Act.put, List.setIfInBounds_toArray, List.set_cons_zero, List.set_cons_succ]
    refine Pl.takeW rfl rfl ?v52 ?hy52 ?rest52
    case hy52 => intro w_ _; first | (go_simp; done) | (go_simp; with_reducible rfl)
    simp only [Act.put, List.setIfInBounds_toArray, List.set_cons_zero, List.set_cons_succ]
    refine Pl.takeW rfl rfl ?v53 ?hy53 ?rest53
    case hy53 => intro w_ _; first | (go_simp; done) | (go_simp; with_reducible rfl)
    simp only [Act.put, List.setIfInBounds_toArray, List.set_cons_zero, List.set_cons_succ]
    refine Pl.takeW rfl rfl ?v54 ?hy54 ?rest54
    case hy54 => intro w_ hS_; subst hS_; first | (go_simp; done) | (go_simp; with_reducible rfl)
    simp only [Act.put, List.setIfInBounds_toArray, List.set_cons_zero, List.set_cons_succ]
    refine Pl.takeW rfl rfl ?v55 ?hy55 ?rest55
    case hy55 => intro w_ _; first | (go_simp; done) | (go_simp; with_reducible rfl)
    simp only [Act.put, List.setIfInBounds_toArray, List.set_cons_zero, List.set_cons_succ]
    show wpList _ _ _ _ _ _
    simp only [List.drop_succ_cons, List.drop_zero]
    go_wp2_with fail
    refine (R_fn p b off c d st L S4 _ F HF.out _ _ _ ns _ z1 st1 (X.drew HX4.out) (HE.out.mono HK4.out) Hns.out (Hdr.out.mono HK4.out) Hxl.out (by simp; omega) H1.out).mono ?_
    rintro e w5 ⟨rfl, S5, k5, hX5⟩
    have X5 := RX.xs p (dval b off c d) st1
    have HK5 := hid (HK4.out.trans k5)
    have g1 := X5.cell hX5 (Hd1.out.mono HK5.out)
    obtain ⟨S8, k8, hX8, s8⟩ := X5.box hX5 #[nat z1] 3
    have HX8 := hid hX8
    have HK8 := hid (HK5.out.trans k8)
    have HS8 := hid (NatsR.box1 s8)
    clear hX8 k8 s8 hX5 k5 g4
    go_wp2_with fail
    refine (R_put p (dval b off c d) st1 L S8 _ 9 (nd d i).at_ 0 0 (nameOf d y) [] 0 [z1] (.slice none 0 0) (.slice (some ⟨w5.heap.size, 0, none⟩) 1 1) r st' HX8.out (StrsR.nil _) HS8.out Hr2.out).mono ?_
    rintro e w6 ⟨rfl, S6, k6, hX6⟩
    go_wp2_with fail
    go_ret
    exact Ret.intro rfl ((HK1.out.trans HK8.out).trans k6) hX6
end
end Go.Proofs.Ytjjbidajkmodfaa
namespace Go.Proofs.Ytjjbidajkmodfaa
open Go Go.RowKit
section
variable (p b off c : Nat) (d : List Node) (st : St) (L : List Atom) (S : Seal) (w : World)
set_option maxRecDepth 100000 in
set_option maxHeartbeats 16000000 in
theorem R_spQuote (top : Bool) (F : Fm) (HF : OkR p b off c d F) (i r : Nat) (st' : St) (hX : RX p (dval b off c d) st L S w) (hE : Env S b off c d) (hi : i < d.length) (h0 : (nd d i).l ≠ []) (hs : headName d i = sQuote) (hr : quoteS d i st = some (r, st')) :
    Calls Try.prog 38 #[ptr p, nat i, .bool top] w (Ret S (RX p (dval b off c d) st' L) (nat r)) := by
  have X := RX.xs p (dval b off c d) st
  have hlenD := Dat.len hE
  have hiI : (i : Int) < (d.length : Int) := by omega
  have hll := hE.dat.ll i hi
  have Hpar := hid (hE.dat.par i hi)
  obtain ⟨lv, hN⟩ := hE.at_ i hi
  have x0 := hX.d0
  obtain ⟨A1, c1, hlv, hc1, hc2⟩ := Sl.shape hN.l
  subst hlv
  have n0 := X.cell hX hN.c0
  have n1 := X.cell hX hN.c1
  have n2 := X.cell hX hN.c2
  have n3 := X.cell hX hN.c3
  have n4 := X.cell hX hN.c4
  obtain ⟨S1, k1, hX1, s1⟩ := X.box hX #[.int .u8 (nd d i).kind, .int .i64 (nd d i).at_, .int .i64 (nd d i).n, str (nd d i).s, .slice A1 (nd d i).l.length c1] 60
  have Hd1 := hid (s1 1 _ rfl)
  have Hd4 := hid (s1 4 _ rfl)
  have d4 := X.cell hX1 Hd4.out
  have y0 := hX1.d0
  have HK1 := hid k1
  have HX1 := hid hX1
  have HE := hid (hE.mono k1)
  have HF := hid HF
  have HL := hid (hN.l.mono k1)
  clear hX hX1 hN hE s1 k1
  have hlen1 : 0 < (nd d i).l.length := List.length_pos_iff.2 h0
  have hl0I : (0 : Int) < ((nd d i).l.length : Int) := by omega
  obtain ⟨b1, o1, c2, hlv, _, _, hcc⟩ := HL.out.at_ h0
  simp only [Value.slice.injEq, true_and] at hlv
  obtain ⟨rfl, rfl⟩ := hlv
  obtain ⟨xh, hxh⟩ : ∃ xh, (nd d i).l[0]? = some xh := ⟨_, List.getElem?_eq_some_iff.2 ⟨hlen1, rfl⟩⟩
  have hgh : (nd d i).l.getD 0 0 = xh := by rw [List.getD_eq_getElem?_getD, hxh]; rfl
  have hih : xh < d.length := by have := Hpar.out xh (List.mem_of_getElem? hxh); omega
  have Hxh := hid (hcc 0 xh hxh)
  rw [Nat.add_zero] at Hxh
  have f0 := X.cell HX1.out Hxh.out
  obtain ⟨lvh, hNh⟩ := HE.out.at_ xh hih
  have m3 := X.cell HX1.out hNh.c3
  have hs' : (nd d xh).s = [113, 117, 111, 116, 101] := by rw [← hgh]; exact hs
  rw [hs'] at m3
  replace m3 : World.cell? _ ⟨b, off + xh * 5 + 3, none⟩ = some (.string ⟨#[113, 117, 111, 116, 101]⟩) := m3
  have hxhI : (xh : Int) < (d.length : Int) := by omega
  have Hcc := hid hcc
  have Hh0 := hid h0
  clear hcc hxh hgh hNh hs hs' h0
  unfold quoteS at hr
  by_cases h2 : (nd d i).l.length = 2
  case neg =>
    have h2b : (((nd d i).l.length : Int) != 2) = true := by simp only [bne_iff_ne]; omega
    rw [if_pos h2] at hr
    have Hr := hid hr
    clear hr h2
    go_enter Try.func38, Try.ntmps38
    go_wp2_with fail
    refine wp_plan 8 (.take 0 (.take 1 (.take 2 (.take 3 (.take 4 (.take 5 (.take 6 (.take 7 .fin)))))))) (fun w_ => w_ = _) (by kernel_rfl) (by kernel_rfl) (fun _ _ d_ _ _ h_ => by cases d_ <;> exact h_) rfl ?_
    refine Pl.takeW rfl rfl ?v1 ?hy1 ?rest1
    case hy1 => intro w_ _; first | (go_simp; done) | (go_simp; with_reducible rfl)
    simp only [Act.put, List.setIfInBounds_toArray, List.set_cons_zero, List.set_cons_succ]
    refine Pl.takeW rfl rfl ?v2 ?hy2 ?rest2
    case hy2 => intro w_ _; first | (go_simp; done) | (go_simp; with_reducible rfl)
    simp only [Act.put, List.setIfInBounds_toArray, List.set_cons_zero, List.set_cons_succ]
    refine Pl.takeW rfl rfl ?v3 ?hy3 ?rest3
    case hy3 => intro w_ _; first | (go_simp; done) | (go_simp; with_reducible rfl)
    simp only [Act.put, List.setIfInBounds_toArray, List.set_cons_zero, List.set_cons_succ]
    refine Pl.takeW rfl rfl ?v4 ?hy4 ?rest4
    case hy4 => intro w_ hS_; subst hS_; first | (go_simp; done) | (go_simp; with_reducible rfl)
    simp only [Act.put, List.setIfInBounds_toArray, List.set_cons_zero, List.set_cons_succ]
    refine Pl.takeW rfl rfl ?v5 ?hy5 ?rest5
    case hy5 => intro w_ _; first | (go_simp; done) | (go_simp; with_reducible rfl)
    simp only [Act.put, List.setIfInBounds_toArray, List.set_cons_zero, List.set_cons_succ]
    refine Pl.takeW rfl rfl ?v6 ?hy6 ?rest6
    case hy6 => intro w_ hS_; subst hS_; first | (go_simp; done) | (go_simp; with_reducible rfl)
    simp only [Act.put, List.setIfInBounds_toArray, List.set_cons_zero, List.set_cons_succ]
    refine Pl.takeW rfl rfl ?v7 ?hy7 ?rest7
    case hy7 => intro w_ _; first | (go_simp; done) | (go_simp; with_reducible rfl)
    simp only [Act.put, List.setIfInBounds_toArray, List.set_cons_zero, List.set_cons_succ]
    refine Pl.takeW rfl rfl ?v8 ?hy8 ?rest8
    case hy8 => intro w_ hS_; subst hS_; first | (go_simp; done) | (go_simp; with_reducible rfl)
    simp only [Act.put, List.setIfInBounds_toArray, List.set_cons_zero, List.set_cons_succ]
    show wpList _ _ _ _ _ _
    simp only [List.drop_succ_cons, List.drop_zero]
    go_wp2_with fail
    refine (R_wrongR p b off c d st L S1 _ i r st' (X.drew HX1.out) HE.out hi Hr.out).mono ?_
    rintro e w5 ⟨rfl, S5, k5, hX5⟩
    go_wp2_with fail
    go_ret
    exact Ret.intro rfl (HK1.out.trans k5) hX5
  have h2b : (((nd d i).l.length : Int) != 2) = false := by rw [h2]; rfl
  rw [if_neg (fun h => h h2)] at hr
  have h1I : (1 : Int) < ((nd d i).l.length : Int) := by omega
  obtain ⟨x1, hx1⟩ : ∃ x1, (nd d i).l[1]? = some x1 := ⟨_, List.getElem?_eq_some_iff.2 ⟨by omega, rfl⟩⟩
  have hg1 : (nd d i).l.getD 1 0 = x1 := by rw [List.getD_eq_getElem?_getD, hx1]; rfl
  have hi1 : x1 < d.length := by have := Hpar.out x1 (List.mem_of_getElem? hx1); omega
  have Hx1 := hid (Hcc.out 1 x1 hx1)
  have f1 := X.cell HX1.out Hx1.out
  rw [hg1] at hr
  have e1 := X.cell HX1.out Hd1.out
  have Hr := hid hr
  clear hr h2 hx1 hg1
  go_enter Try.func38, Try.ntmps38
  go_wp2_with fail
  refine wp_plan 8 (.take 0 (.take 1 (.take 2 (.take 3 (.take 4 (.take 5 (.take 6 (.take 7 .fin)))))))) (fun w_ => w_ = _) (by kernel_rfl) (by kernel_rfl) (fun _ _ d_ _ _ h_ => by cases d_ <;> exact h_) rfl ?_
  refine Pl.takeW rfl rfl ?v9 ?hy9 ?rest9
  case hy9 => intro w_ _; first | (go_simp; done) | (go_simp; with_reducible rfl)
  simp only [Act.put, List.setIfInBounds_toArray, List.set_cons_zero, List.set_cons_succ]
  refine Pl.takeW rfl rfl ?v10 ?hy10 ?rest10
  case hy10 => intro w_ _; first | (go_simp; done) | (go_simp; with_reducible rfl)
  simp only [Act.put, List.setIfInBounds_toArray, List.set_cons_zero, List.set_cons_succ]
  refine Pl.takeW rfl rfl ?v11 ?hy11 ?rest11
  case hy11 => intro w_ _; first | (go_simp; done) | (go_simp; with_reducible rfl)
  simp only [Act.put, List.setIfInBounds_toArray, List.set_cons_zero, List.set_cons_succ]
  refine Pl.takeW rfl rfl ?v12 ?hy12 ?rest12
  case hy12 => intro w_ hS_; subst hS_; first | (go_simp; done) | (go_simp; with_reducible rfl)
  simp only [Act.put, List.setIfInBounds_toArray, List.set_cons_zero, List.set_cons_succ]
  refine Pl.takeW rfl rfl ?v13 ?hy13 ?rest13
  case hy13 => intro w_ _; first | (go_simp; done) | (go_simp; with_reducible rfl)
  simp only [Act.put, List.setIfInBounds_toArray, List.set_cons_zero, List.set_cons_succ]
  refine Pl.takeW rfl rfl ?v14 ?hy14 ?rest14
  case hy14 => intro w_ hS_; subst hS_; first | (go_simp; done) | (go_simp; with_reducible rfl)
  simp only [Act.put, List.setIfInBounds_toArray, List.set_cons_zero, List.set_cons_succ]
  refine Pl.takeW rfl rfl ?v15 ?hy15 ?rest15
  case hy15 => intro w_ _; first | (go_simp; done) | (go_simp; with_reducible rfl)
  simp only [Act.put, List.setIfInBounds_toArray, List.set_cons_zero, List.set_cons_succ]
  refine Pl.takeW rfl rfl ?v16 ?hy16 ?rest16
  case hy16 => intro w_ hS_; subst hS_; first | (go_simp; done) | (go_simp; with_reducible rfl)
  simp only [Act.put, List.setIfInBounds_toArray, List.set_cons_zero, List.set_cons_succ]
  show wpList _ _ _ _ _ _
  simp only [List.drop_succ_cons, List.drop_zero]
  go_wp2_with fail
  refine wp_plan 8 (.take 0 (.take 1 (.take 2 (.take 3 (.take 4 (.take 5 (.take 6 (.take 7 .fin)))))))) (fun w_ => w_ = _) (by kernel_rfl) (by kernel_rfl) (fun _ _ d_ _ _ h_ => by cases d_ <;> exact h_) rfl ?_
  refine Pl.takeW rfl rfl ?v17 ?hy17 ?rest17
  case hy17 => intro w_ _; first | (go_simp; done) | (go_simp; with_reducible rfl)
  simp only [Act.put, List.setIfInBounds_toArray, List.set_cons_zero, List.set_cons_succ]
  refine Pl.takeW rfl rfl ?v18 ?hy18 ?rest18
  case hy18 => intro w_ _; first | (go_simp; done) | (go_simp; with_reducible rfl)
  simp only [Act.put, List.setIfInBounds_toArray, List.set_cons_zero, List.set_cons_succ]
  refine Pl.takeW rfl rfl ?v19 ?hy19 ?rest19
  case hy19 => intro w_ hS_; subst hS_; first | (go_simp; done) | (go_simp; with_reducible rfl)
  simp only [Act.put, List.setIfInBounds_toArray, List.set_cons_zero, List.set_cons_succ]
  refine Pl.takeW rfl rfl ?v20 ?hy20 ?rest20
  case hy20 => intro w_ _; first | (go_simp; done) | (go_simp; with_reducible rfl)
  simp only [Act.put, List.setIfInBounds_toArray, List.set_cons_zero, List.set_cons_succ]
  refine Pl.takeW rfl rfl ?v21 ?hy21 ?rest21
  case hy21 => intro w_ hS_; subst hS_; first | (go_simp; done) | (go_simp; with_reducible rfl)
  simp only [Act.put, List.setIfInBounds_toArray, List.set_cons_zero, List.set_cons_succ]
  refine Pl.takeW rfl rfl ?v22 ?hy22 ?rest22
  case hy22 => intro w_ _; first | (go_simp; done) | (go_simp; with_reducible rfl)
  simp only [Act.put, List.setIfInBounds_toArray, List.set_cons_zero, List.set_cons_succ]
  refine Pl.takeW rfl rfl ?v23 ?hy23 ?rest23
  case hy23 => intro w_ hS_; subst hS_; first | (go_simp; done) | (go_simp; with_reducible rfl)
  simp only [Act.put, List.setIfInBounds_toArray, List.set_cons_zero, List.set_cons_succ]
  refine Pl.takeW rfl rfl ?v24 ?hy24 ?rest24
  case hy24 => intro w_ _; first | (go_simp; done) | (go_simp; with_reducible rfl)
  simp only [Act.put, List.setIfInBounds_toArray, List.set_cons_zero, List.set_cons_succ]
  show wpList _ _ _ _ _ _
  simp only [List.drop_succ_cons, List.drop_zero]
  go_wp2_with fail
  refine (R_put p (dval b off c d) st L S1 _ 3 (nd d i).at_ x1 0 [] [] 0 [] (.slice none 0 0) (.slice none 0 0) r st' (X.drew (X.drew HX1.out)) (StrsR.nil _) (NatsR.nil _) Hr.out).mono ?_
  rintro e w5 ⟨rfl, S5, k5, hX5⟩
  go_wp2_with fail
  go_ret
  exact Ret.intro rfl (HK1.out.trans k5) hX5
set_option maxRecDepth 100000 in
set_option maxHeartbeats 16000000 in
theorem R_spIf (top : Bool) (F : Fm) (HF : OkR p b off c d F) (i r : Nat) (st' : St) (hX : RX p (dval b off c d) st L S w) (hE : Env S b off c d) (hi : i < d.length) (h0 : (nd d i).l ≠ []) (hs : headName d i = sIf) (hr : ifS d F i st = some (r, st')) :
    Calls Try.prog 38 #[ptr p, nat i, .bool top] w (Ret S (RX p (dval b off c d) st' L) (nat r)) := by
  have X := RX.xs p (dval b off c d) st
  have hlenD := Dat.len hE
  have hiI : (i : Int) < (d.length : Int) := by omega
  have hll := hE.dat.ll i hi
  have Hpar := hid (hE.dat.par i hi)
  obtain ⟨lv, hN⟩ := hE.at_ i hi
  have x0 := hX.d0
  obtain ⟨A1, c1, hlv, hc1, hc2⟩ := Sl.shape hN.l
  subst hlv
  have n0 := X.cell hX hN.c0
  have n1 := X.cell hX hN.c1
  have n2 := X.cell hX hN.c2
  have n3 := X.cell hX hN.c3
  have n4 := X.cell hX hN.c4
  obtain ⟨S1, k1, hX1, s1⟩ := X.box hX #[.int .u8 (nd d i).kind, .int .i64 (nd d i).at_, .int .i64 (nd d i).n, str (nd d i).s, .slice A1 (nd d i).l.length c1] 60
  have Hd1 := hid (s1 1 _ rfl)
  have Hd4 := hid (s1 4 _ rfl)
  have d4 := X.cell hX1 Hd4.out
  have y0 := hX1.d0
  have HK1 := hid k1
  have HX1 := hid hX1
  have HE := hid (hE.mono k1)
  have HF := hid HF
  have HL := hid (hN.l.mono k1)
  clear hX hX1 hN hE s1 k1
  have hlen1 : 0 < (nd d i).l.length := List.length_pos_iff.2 h0
  have hl0I : (0 : Int) < ((nd d i).l.length : Int) := by omega
  obtain ⟨b1, o1, c2, hlv, _, _, hcc⟩ := HL.out.at_ h0
  simp only [Value.slice.injEq, true_and] at hlv
  obtain ⟨rfl, rfl⟩ := hlv
  obtain ⟨xh, hxh⟩ : ∃ xh, (nd d i).l[0]? = some xh := ⟨_, List.getElem?_eq_some_iff.2 ⟨hlen1, rfl⟩⟩
  have hgh : (nd d i).l.getD 0 0 = xh := by rw [List.getD_eq_getElem?_getD, hxh]; rfl
  have hih : xh < d.length := by have := Hpar.out xh (List.mem_of_getElem? hxh); omega
  have Hxh := hid (hcc 0 xh hxh)
  rw [Nat.add_zero] at Hxh
  have f0 := X.cell HX1.out Hxh.out
  obtain ⟨lvh, hNh⟩ := HE.out.at_ xh hih
  have m3 := X.cell HX1.out hNh.c3
  have hs' : (nd d xh).s = [105, 102] := by rw [← hgh]; exact hs
  rw [hs'] at m3
  replace m3 : World.cell? _ ⟨b, off + xh * 5 + 3, none⟩ = some (.string ⟨#[105, 102]⟩) := m3
  have hxhI : (xh : Int) < (d.length : Int) := by omega
  have Hcc := hid hcc
  have Hh0 := hid h0
  clear hcc hxh hgh hNh hs hs' h0
  have Hr := hid hr
  clear hr
  go_enter Try.func38, Try.ntmps38
  go_wp2_with fail
  refine wp_plan 8 (.take 0 (.take 1 (.take 2 (.take 3 (.take 4 (.take 5 (.take 6 (.take 7 .fin)))))))) (fun w_ => w_ = _) (by kernel_rfl) (by kernel_rfl) (fun _ _ d_ _ _ h_ => by cases d_ <;> exact h_) rfl ?_
  refine Pl.takeW rfl rfl ?v25 ?hy25 ?rest25
  case hy25 => intro w_ _; first | (go_simp; done) | (go_simp; with_reducible rfl)
  simp only [Act.put, List.setIfInBounds_toArray, List.set_cons_zero, List.set_cons_succ]
  refine Pl.takeW rfl rfl ?v26 ?hy26 ?rest26
  case hy26 => intro w_ _; first | (go_simp; done) | (go_simp; with_reducible rfl)
  simp only [Act.put, List.setIfInBounds_toArray, List.set_cons_zero, List.set_cons_succ]
  refine Pl.takeW rfl rfl ?v27 ?hy27 ?rest27
  case hy27 => intro w_ _; first | (go_simp; done) | (go_simp; with_reducible rfl)
  simp only [Act.put, List.setIfInBounds_toArray, List.set_cons_zero, List.set_cons_succ]
  refine Pl.takeW rfl rfl ?v28 ?hy28 ?rest28
  case hy28 => intro w_ hS_; subst hS_; first | (go_simp; done) | (go_simp; with_reducible rfl)
  simp only [Act.put, List.setIfInBounds_toArray, List.set_cons_zero, List.set_cons_succ]
  refine Pl.takeW rfl rfl ?v29 ?hy29 ?rest29
  case hy29 => intro w_ _; first | (go_simp; done) | (go_simp; with_reducible rfl)
  simp only [Act.put, List.setIfInBounds_toArray, List.set_cons_zero, List.set_cons_succ]
  refine Pl.takeW rfl rfl ?v30 ?hy30 ?rest30
  case hy30 => intro w_ hS_; subst hS_; first | (go_simp; done) | (go_simp; with_reducible rfl)
  simp only [Act.put, List.setIfInBounds_toArray, List.set_cons_zero, List.set_cons_succ]
  refine Pl.takeW rfl rfl ?v31 ?hy31 ?rest31
  case hy31 => intro w_ _; first | (go_simp; done) | (go_simp; with_reducible rfl)
  simp only [Act.put, List.setIfInBounds_toArray, List.set_cons_zero, List.set_cons_succ]
  refine Pl.takeW rfl rfl ?v32 ?hy32 ?rest32
  case hy32 => intro w_ hS_; subst hS_; first | (go_simp; done) | (go_simp; with_reducible rfl)
  simp only [Act.put, List.setIfInBounds_toArray, List.set_cons_zero, List.set_cons_succ]
  show wpList _ _ _ _ _ _
  simp only [List.drop_succ_cons, List.drop_zero]
  go_wp2_with fail
  refine (R_if p b off c d st L S1 _ F HF.out i r st' (X.drew HX1.out) HE.out hi Hr.out).mono ?_
  rintro e w5 ⟨rfl, S5, k5, hX5⟩
  go_wp2_with fail
  go_ret
  exact Ret.intro rfl (HK1.out.trans k5) hX5
set_option maxRecDepth 100000 in
set_option maxHeartbeats 16000000 in
theorem R_spWhen (top : Bool) (F : Fm) (HF : OkR p b off c d F) (i r : Nat) (st' : St) (hX : RX p (dval b off c d) st L S w) (hE : Env S b off c d) (hi : i < d.length) (h0 : (nd d i).l ≠ []) (hs : headName d i = sWhen) (hr : whenS d F i st = some (r, st')) :
    Calls Try.prog 38 #[ptr p, nat i, .bool top] w (Ret S (RX p (dval b off c d) st' L) (nat r)) := by
  have X := RX.xs p (dval b off c d) st
  have hlenD := Dat.len hE
  have hiI : (i : Int) < (d.length : Int) := by omega
  have hll := hE.dat.ll i hi
  have Hpar := hid (hE.dat.par i hi)
  obtain ⟨lv, hN⟩ := hE.at_ i hi
  have x0 := hX.d0
  obtain ⟨A1, c1, hlv, hc1, hc2⟩ := Sl.shape hN.l
  subst hlv
  have n0 := X.cell hX hN.c0
  have n1 := X.cell hX hN.c1
  have n2 := X.cell hX hN.c2
  have n3 := X.cell hX hN.c3
  have n4 := X.cell hX hN.c4
  obtain ⟨S1, k1, hX1, s1⟩ := X.box hX #[.int .u8 (nd d i).kind, .int .i64 (nd d i).at_, .int .i64 (nd d i).n, str (nd d i).s, .slice A1 (nd d i).l.length c1] 60
  have Hd1 := hid (s1 1 _ rfl)
  have Hd4 := hid (s1 4 _ rfl)
  have d4 := X.cell hX1 Hd4.out
  have y0 := hX1.d0
  have HK1 := hid k1
  have HX1 := hid hX1
  have HE := hid (hE.mono k1)
  have HF := hid HF
  have HL := hid (hN.l.mono k1)
  clear hX hX1 hN hE s1 k1
  have hlen1 : 0 < (nd d i).l.length := List.length_pos_iff.2 h0
  have hl0I : (0 : Int) < ((nd d i).l.length : Int) := by omega
  obtain ⟨b1, o1, c2, hlv, _, _, hcc⟩ := HL.out.at_ h0
  simp only [Value.slice.injEq, true_and] at hlv
  obtain ⟨rfl, rfl⟩ := hlv
  obtain ⟨xh, hxh⟩ : ∃ xh, (nd d i).l[0]? = some xh := ⟨_, List.getElem?_eq_some_iff.2 ⟨hlen1, rfl⟩⟩
  have hgh : (nd d i).l.getD 0 0 = xh := by rw [List.getD_eq_getElem?_getD, hxh]; rfl
  have hih : xh < d.length := by have := Hpar.out xh (List.mem_of_getElem? hxh); omega
  have Hxh := hid (hcc 0 xh hxh)
  rw [Nat.add_zero] at Hxh
  have f0 := X.cell HX1.out Hxh.out
  obtain ⟨lvh, hNh⟩ := HE.out.at_ xh hih
  have m3 := X.cell HX1.out hNh.c3
  have hs' : (nd d xh).s = [119, 104, 101, 110] := by rw [← hgh]; exact hs
  rw [hs'] at m3
  replace m3 : World.cell? _ ⟨b, off + xh * 5 + 3, none⟩ = some (.string ⟨#[119, 104, 101, 110]⟩) := m3
  have hxhI : (xh : Int) < (d.length : Int) := by omega
  have Hcc := hid hcc
  have Hh0 := hid h0
  clear hcc hxh hgh hNh hs hs' h0
  have Hr := hid hr
  clear hr
  go_enter Try.func38, Try.ntmps38
  go_wp2_with fail
  refine wp_plan 8 (.take 0 (.take 1 (.take 2 (.take 3 (.take 4 (.take 5 (.take 6 (.take 7 .fin)))))))) (fun w_ => w_ = _) (by kernel_rfl) (by kernel_rfl) (fun _ _ d_ _ _ h_ => by cases d_ <;> exact h_) rfl ?_
  refine Pl.takeW rfl rfl ?v33 ?hy33 ?rest33
  case hy33 => intro w_ _; first | (go_simp; done) | (go_simp; with_reducible rfl)
  simp only [Act.put, List.setIfInBounds_toArray, List.set_cons_zero, List.set_cons_succ]
  refine Pl.takeW rfl rfl ?v34 ?hy34 ?rest34
  case hy34 => intro w_ _; first | (go_simp; done) | (go_simp; with_reducible rfl)
  simp only [Act.put, List.setIfInBounds_toArray, List.set_cons_zero, List.set_cons_succ]
  refine Pl.takeW rfl rfl ?v35 ?hy35 ?rest35
  case hy35 => intro w_ _; first | (go_simp; done) | (go_simp; with_reducible rfl)
  simp only [Act.put, List.setIfInBounds_toArray, List.set_cons_zero, List.set_cons_succ]
  refine Pl.takeW rfl rfl ?v36 ?hy36 ?rest36
  case hy36 => intro w_ hS_; subst hS_; first | (go_simp; done) | (go_simp; with_reducible rfl)
  simp only [Act.put, List.setIfInBounds_toArray, List.set_cons_zero, List.set_cons_succ]
  refine Pl.takeW rfl rfl ?v37 ?hy37 ?rest37
  case hy37 => intro w_ _; first | (go_simp; done) | (go_simp; with_reducible rfl)
  simp only [Act.put, List.setIfInBounds_toArray, List.set_cons_zero, List.set_cons_succ]
  refine Pl.takeW rfl rfl ?v38 ?hy38 ?rest38
  case hy38 => intro w_ hS_; subst hS_; first | (go_simp; done) | (go_simp; with_reducible rfl)
  simp only [Act.put, List.setIfInBounds_toArray, List.set_cons_zero, List.set_cons_succ]
  refine Pl.takeW rfl rfl ?v39 ?hy39 ?rest39
  case hy39 => intro w_ _; first | (go_simp; done) | (go_simp; with_reducible rfl)
  simp only [Act.put, List.setIfInBounds_toArray, List.set_cons_zero, List.set_cons_succ]
  refine Pl.takeW rfl rfl ?v40 ?hy40 ?rest40
  case hy40 => intro w_ hS_; subst hS_; first | (go_simp; done) | (go_simp; with_reducible rfl)
  simp only [Act.put, List.setIfInBounds_toArray, List.set_cons_zero, List.set_cons_succ]
  show wpList _ _ _ _ _ _
  simp only [List.drop_succ_cons, List.drop_zero]
  go_wp2_with fail
  refine (R_when p b off c d st L S1 _ F HF.out i r st' (X.drew HX1.out) HE.out hi Hr.out).mono ?_
  rintro e w5 ⟨rfl, S5, k5, hX5⟩
  go_wp2_with fail
  go_ret
  exact Ret.intro rfl (HK1.out.trans k5) hX5
set_option maxRecDepth 100000 in
set_option maxHeartbeats 16000000 in
theorem R_spUnless (top : Bool) (F : Fm) (HF : OkR p b off c d F) (i r : Nat) (st' : St) (hX : RX p (dval b off c d) st L S w) (hE : Env S b off c d) (hi : i < d.length) (h0 : (nd d i).l ≠ []) (hs : headName d i = sUnless) (hr : unlessS d F i st = some (r, st')) :
    Calls Try.prog 38 #[ptr p, nat i, .bool top] w (Ret S (RX p (dval b off c d) st' L) (nat r)) := by
  have X := RX.xs p (dval b off c d) st
  have hlenD := Dat.len hE
  have hiI : (i : Int) < (d.length : Int) := by omega
  have hll := hE.dat.ll i hi
  have Hpar := hid (hE.dat.par i hi)
  obtain ⟨lv, hN⟩ := hE.at_ i hi
  have x0 := hX.d0
  obtain ⟨A1, c1, hlv, hc1, hc2⟩ := Sl.shape hN.l
  subst hlv
  have n0 := X.cell hX hN.c0
  have n1 := X.cell hX hN.c1
  have n2 := X.cell hX hN.c2
  have n3 := X.cell hX hN.c3
  have n4 := X.cell hX hN.c4
  obtain ⟨S1, k1, hX1, s1⟩ := X.box hX #[.int .u8 (nd d i).kind, .int .i64 (nd d i).at_, .int .i64 (nd d i).n, str (nd d i).s, .slice A1 (nd d i).l.length c1] 60
  have Hd1 := hid (s1 1 _ rfl)
  have Hd4 := hid (s1 4 _ rfl)
  have d4 := X.cell hX1 Hd4.out
  have y0 := hX1.d0
  have HK1 := hid k1
  have HX1 := hid hX1
  have HE := hid (hE.mono k1)
  have HF := hid HF
  have HL := hid (hN.l.mono k1)
  clear hX hX1 hN hE s1 k1
  have hlen1 : 0 < (nd d i).l.length := List.length_pos_iff.2 h0
  have hl0I : (0 : Int) < ((nd d i).l.length : Int) := by omega
  obtain ⟨b1, o1, c2, hlv, _, _, hcc⟩ := HL.out.at_ h0
  simp only [Value.slice.injEq, true_and] at hlv
  obtain ⟨rfl, rfl⟩ := hlv
  obtain ⟨xh, hxh⟩ : ∃ xh, (nd d i).l[0]? = some xh := ⟨_, List.getElem?_eq_some_iff.2 ⟨hlen1, rfl⟩⟩
  have hgh : (nd d i).l.getD 0 0 = xh := by rw [List.getD_eq_getElem?_getD, hxh]; rfl
  have hih : xh < d.length := by have := Hpar.out xh (List.mem_of_getElem? hxh); omega
  have Hxh := hid (hcc 0 xh hxh)
  rw [Nat.add_zero] at Hxh
  have f0 := X.cell HX1.out Hxh.out
  obtain ⟨lvh, hNh⟩ := HE.out.at_ xh hih
  have m3 := X.cell HX1.out hNh.c3
  have hs' : (nd d xh).s = [117, 110, 108, 101, 115, 115] := by rw [← hgh]; exact hs
  rw [hs'] at m3
  replace m3 : World.cell? _ ⟨b, off + xh * 5 + 3, none⟩ = some (.string ⟨#[117, 110, 108, 101, 115, 115]⟩) := m3
  have hxhI : (xh : Int) < (d.length : Int) := by omega
  have Hcc := hid hcc
  have Hh0 := hid h0
  clear hcc hxh hgh hNh hs hs' h0
  have Hr := hid hr
  clear hr
  go_enter Try.func38, Try.ntmps38
  go_wp2_with fail
  refine wp_plan 8 (.take 0 (.take 1 (.take 2 (.take 3 (.take 4 (.take 5 (.take 6 (.take 7 .fin)))))))) (fun w_ => w_ = _) (by kernel_rfl) (by kernel_rfl) (fun _ _ d_ _ _ h_ => by cases d_ <;> exact h_) rfl ?_
  refine Pl.takeW rfl rfl ?v41 ?hy41 ?rest41
  case hy41 => intro w_ _; first | (go_simp; done) | (go_simp; with_reducible rfl)
  simp only [Act.put, List.setIfInBounds_toArray, List.set_cons_zero, List.set_cons_succ]
  refine Pl.takeW rfl rfl ?v42 ?hy42 ?rest42
  case hy42 => intro w_ _; first | (go_simp; done) | (go_simp; with_reducible rfl)
  simp only [Act.put, List.setIfInBounds_toArray, List.set_cons_zero, List.set_cons_succ]
  refine Pl.takeW rfl rfl ?v43 ?hy43 ?rest43
  case hy43 => intro w_ _; first | (go_simp; done) | (go_simp; with_reducible rfl)
  simp only [Act.put, List.setIfInBounds_toArray, List.set_cons_zero, List.set_cons_succ]
  refine Pl.takeW rfl rfl ?v44 ?hy44 ?rest44
  case hy44 => intro w_ hS_; subst hS_; first | (go_simp; done) | (go_simp; with_reducible rfl)
  simp only [Act.put, List.setIfInBounds_toArray, List.set_cons_zero, List.set_cons_succ]
  refine Pl.takeW rfl rfl ?v45 ?hy45 ?rest45
  case hy45 => intro w_ _; first | (go_simp; done) | (go_simp; with_reducible rfl)
  simp only [Act.put, List.setIfInBounds_toArray, List.set_cons_zero, List.set_cons_succ]
  refine Pl.takeW rfl rfl ?v46 ?hy46 ?rest46
  case hy46 => intro w_ hS_; subst hS_; first | (go_simp; done) | (go_simp; with_reducible rfl)
  simp only [Act.put, List.setIfInBounds_toArray, List.set_cons_zero, List.set_cons_succ]
  refine Pl.takeW rfl rfl ?v47 ?hy47 ?rest47
  case hy47 => intro w_ _; first | (go_simp; done) | (go_simp; with_reducible rfl)
  simp only [Act.put, List.setIfInBounds_toArray, List.set_cons_zero, List.set_cons_succ]
  refine Pl.takeW rfl rfl ?v48 ?hy48 ?rest48
  case hy48 => intro w_ hS_; subst hS_; first | (go_simp; done) | (go_simp; with_reducible rfl)
  simp only [Act.put, List.setIfInBounds_toArray, List.set_cons_zero, List.set_cons_succ]
  show wpList _ _ _ _ _ _
  simp only [List.drop_succ_cons, List.drop_zero]
  go_wp2_with fail
  refine (R_unless p b off c d st L S1 _ F HF.out i r st' (X.drew HX1.out) HE.out hi Hr.out).mono ?_
  rintro e w5 ⟨rfl, S5, k5, hX5⟩
  go_wp2_with fail
  go_ret
  exact Ret.intro rfl (HK1.out.trans k5) hX5
set_option maxRecDepth 100000 in
set_option maxHeartbeats 16000000 in
theorem R_spLambda (top : Bool) (F : Fm) (HF : OkR p b off c d F) (i r : Nat) (st' : St) (hX : RX p (dval b off c d) st L S w) (hE : Env S b off c d) (hi : i < d.length) (h0 : (nd d i).l ≠ []) (hs : headName d i = sLambda) (hr : lambdaS d F i st = some (r, st')) :
    Calls Try.prog 38 #[ptr p, nat i, .bool top] w (Ret S (RX p (dval b off c d) st' L) (nat r)) := by
  have X := RX.xs p (dval b off c d) st
  have hlenD := Dat.len hE
  have hiI : (i : Int) < (d.length : Int) := by omega
  have hll := hE.dat.ll i hi
  have Hpar := hid (hE.dat.par i hi)
  obtain ⟨lv, hN⟩ := hE.at_ i hi
  have x0 := hX.d0
  obtain ⟨A1, c1, hlv, hc1, hc2⟩ := Sl.shape hN.l
  subst hlv
  have n0 := X.cell hX hN.c0
  have n1 := X.cell hX hN.c1
  have n2 := X.cell hX hN.c2
  have n3 := X.cell hX hN.c3
  have n4 := X.cell hX hN.c4
  obtain ⟨S1, k1, hX1, s1⟩ := X.box hX #[.int .u8 (nd d i).kind, .int .i64 (nd d i).at_, .int .i64 (nd d i).n, str (nd d i).s, .slice A1 (nd d i).l.length c1] 60
  have Hd1 := hid (s1 1 _ rfl)
  have Hd4 := hid (s1 4 _ rfl)
  have d4 := X.cell hX1 Hd4.out
  have y0 := hX1.d0
  have HK1 := hid k1
  have HX1 := hid hX1
  have HE := hid (hE.mono k1)
  have HF := hid HF
  have HL := hid (hN.l.mono k1)
  clear hX hX1 hN hE s1 k1
  have hlen1 : 0 < (nd d i).l.length := List.length_pos_iff.2 h0
  have hl0I : (0 : Int) < ((nd d i).l.length : Int) := by omega
  obtain ⟨b1, o1, c2, hlv, _, _, hcc⟩ := HL.out.at_ h0
  simp only [Value.slice.injEq, true_and] at hlv
  obtain ⟨rfl, rfl⟩ := hlv
  obtain ⟨xh, hxh⟩ : ∃ xh, (nd d i).l[0]? = some xh := ⟨_, List.getElem?_eq_some_iff.2 ⟨hlen1, rfl⟩⟩
  have hgh : (nd d i).l.getD 0 0 = xh := by rw [List.getD_eq_getElem?_getD, hxh]; rfl
  have hih : xh < d.length := by have := Hpar.out xh (List.mem_of_getElem? hxh); omega
  have Hxh := hid (hcc 0 xh hxh)
  rw [Nat.add_zero] at Hxh
  have f0 := X.cell HX1.out Hxh.out
  obtain ⟨lvh, hNh⟩ := HE.out.at_ xh hih
  have m3 := X.cell HX1.out hNh.c3
  have hs' : (nd d xh).s = [108, 97, 109, 98, 100, 97] := by rw [← hgh]; exact hs
  rw [hs'] at m3
  replace m3 : World.cell? _ ⟨b, off + xh * 5 + 3, none⟩ = some (.string ⟨#[108, 97, 109, 98, 100, 97]⟩) := m3
  have hxhI : (xh : Int) < (d.length : Int) := by omega
  have Hcc := hid hcc
  have Hh0 := hid h0
  clear hcc hxh hgh hNh hs hs' h0
  have Hr := hid hr
  clear hr
  go_enter Try.func38, Try.ntmps38
  go_wp2_with fail
  refine wp_plan 8 (.take 0 (.take 1 (.take 2 (.take 3 (.take 4 (.take 5 (.take 6 (.take 7 .fin)))))))) (fun w_ => w_ = _) (by kernel_rfl) (by kernel_rfl) (fun _ _ d_ _ _ h_ => by cases d_ <;> exact h_) rfl ?_
  refine Pl.takeW rfl rfl ?v49 ?hy49 ?rest49
  case hy49 => intro w_ _; first | (go_simp; done) | (go_simp; with_reducible rfl)
  simp only [Act.put, List.setIfInBounds_toArray, List.set_cons_zero, List.set_cons_succ]
  refine Pl.takeW rfl rfl ?v50 ?hy50 ?rest50
  case hy50 => intro w_ _; first | (go_simp; done) | (go_simp; with_reducible rfl)
  simp only [Act.put, List.setIfInBounds_toArray, List.set_cons_zero, List.set_cons_succ]
  refine Pl.takeW rfl rfl ?v51 ?hy51 ?rest51
  case hy51 => intro w_ _; first | (go_simp; done) | (go_simp; with_reducible rfl)
  simp only [Act.put, List.setIfInBounds_toArray, List.set_cons_zero, List.set_cons_succ]
  refine Pl.takeW rfl rfl ?v52 ?hy52 ?rest52
  case hy52 => intro w_ hS_; subst hS_; first | (go_simp; done) | (go_simp; with_reducible rfl)
  simp only [Act.put, List.setIfInBounds_toArray, List.set_cons_zero, List.set_cons_succ]
  refine Pl.takeW rfl rfl ?v53 ?hy53 ?rest53
  case hy53 => intro w_ _; first | (go_simp; done) | (go_simp; with_reducible rfl)
  simp only [Act.put, List.setIfInBounds_toArray, List.set_cons_zero, List.set_cons_succ]
  refine Pl.takeW rfl rfl ?v54 ?hy54 ?rest54
  case hy54 => intro w_ hS_; subst hS_; first | (go_simp; done) | (go_simp; with_reducible rfl)
  simp only [Act.put, List.setIfInBounds_toArray, List.set_cons_zero, List.set_cons_succ]
  refine Pl.takeW rfl rfl ?v55 ?hy55 ?rest55
  case hy55 => intro w_ _; first | (go_simp; done) | (go_simp; with_reducible rfl)
  simp only [Act.put, List.setIfInBounds_toArray, List.set_cons_zero, List.set_cons_succ]
  refine Pl.takeW rfl rfl ?v56 ?hy56 ?rest56
  case hy56 => intro w_ hS_; subst hS_; first | (go_simp; done) | (go_simp; with_reducible rfl)
  simp only [Act.put, List.setIfInBounds_toArray, List.set_cons_zero, List.set_cons_succ]
  show wpList _ _ _ _ _ _
  simp only [List.drop_succ_cons, List.drop_zero]
  go_wp2_with fail
  refine (R_lambda p b off c d st L S1 _ F HF.out i r st' (X.drew HX1.out) HE.out hi Hr.out).mono ?_
  rintro e w5 ⟨rfl, S5, k5, hX5⟩
  go_wp2_with fail
  go_ret
  exact Ret.intro rfl (HK1.out.trans k5) hX5
set_option maxRecDepth 100000 in
set_option maxHeartbeats 16000000 in
theorem R_spLet (top : Bool) (F : Fm) (HF : OkR p b off c d F) (i r : Nat) (st' : St) (hX : RX p (dval b off c d) st L S w) (hE : Env S b off c d) (hi : i < d.length) (h0 : (nd d i).l ≠ []) (hs : headName d i = sLet) (hr : letS d F i st = some (r, st')) :
    Calls Try.prog 38 #[ptr p, nat i, .bool top] w (Ret S (RX p (dval b off c d) st' L) (nat r)) := by
  have X := RX.xs p (dval b off c d) st
  have hlenD := Dat.len hE
  have hiI : (i : Int) < (d.length : Int) := by omega
  have hll := hE.dat.ll i hi
  have Hpar := hid (hE.dat.par i hi)
  obtain ⟨lv, hN⟩ := hE.at_ i hi
  have x0 := hX.d0
  obtain ⟨A1, c1, hlv, hc1, hc2⟩ := Sl.shape hN.l
  subst hlv
  have n0 := X.cell hX hN.c0
  have n1 := X.cell hX hN.c1
  have n2 := X.cell hX hN.c2
  have n3 := X.cell hX hN.c3
  have n4 := X.cell hX hN.c4
  obtain ⟨S1, k1, hX1, s1⟩ := X.box hX #[.int .u8 (nd d i).kind, .int .i64 (nd d i).at_, .int .i64 (nd d i).n, str (nd d i).s, .slice A1 (nd d i).l.length c1] 60
  have Hd1 := hid (s1 1 _ rfl)
  have Hd4 := hid (s1 4 _ rfl)
  have d4 := X.cell hX1 Hd4.out
  have y0 := hX1.d0
  have HK1 := hid k1
  have HX1 := hid hX1
  have HE := hid (hE.mono k1)
  have HF := hid HF
  have HL := hid (hN.l.mono k1)
  clear hX hX1 hN hE s1 k1
  have hlen1 : 0 < (nd d i).l.length := List.length_pos_iff.2 h0
  have hl0I : (0 : Int) < ((nd d i).l.length : Int) := by omega
  obtain ⟨b1, o1, c2, hlv, _, _, hcc⟩ := HL.out.at_ h0
  simp only [Value.slice.injEq, true_and] at hlv
  obtain ⟨rfl, rfl⟩ := hlv
  obtain ⟨xh, hxh⟩ : ∃ xh, (nd d i).l[0]? = some xh := ⟨_, List.getElem?_eq_some_iff.2 ⟨hlen1, rfl⟩⟩
  have hgh : (nd d i).l.getD 0 0 = xh := by rw [List.getD_eq_getElem?_getD, hxh]; rfl
  have hih : xh < d.length := by have := Hpar.out xh (List.mem_of_getElem? hxh); omega
  have Hxh := hid (hcc 0 xh hxh)
  rw [Nat.add_zero] at Hxh
  have f0 := X.cell HX1.out Hxh.out
  obtain ⟨lvh, hNh⟩ := HE.out.at_ xh hih
  have m3 := X.cell HX1.out hNh.c3
  have hs' : (nd d xh).s = [108, 101, 116] := by rw [← hgh]; exact hs
  rw [hs'] at m3
  replace m3 : World.cell? _ ⟨b, off + xh * 5 + 3, none⟩ = some (.string ⟨#[108, 101, 116]⟩) := m3
  have hxhI : (xh : Int) < (d.length : Int) := by omega
  have Hcc := hid hcc
  have Hh0 := hid h0
  clear hcc hxh hgh hNh hs hs' h0
  have Hr := hid hr
  clear hr
  go_enter Try.func38, Try.ntmps38
  go_wp2_with fail
  refine wp_plan 8 (.take 0 (.take 1 (.take 2 (.take 3 (.take 4 (.take 5 (.take 6 (.take 7 .fin)))))))) (fun w_ => w_ = _) (by kernel_rfl) (by kernel_rfl) (fun _ _ d_ _ _ h_ => by cases d_ <;> exact h_) rfl ?_
  refine Pl.takeW rfl rfl ?v57 ?hy57 ?rest57
  case hy57 => intro w_ _; first | (go_simp; done) | (go_simp; with_reducible rfl)
  simp only [Act.put, List.setIfInBounds_toArray, List.set_cons_zero, List.set_cons_succ]
  refine Pl.takeW rfl rfl ?v58 ?hy58 ?rest58
  case hy58 => intro w_ _; first | (go_simp; done) | (go_simp; with_reducible rfl)
  simp only [Act.put, List.setIfInBounds_toArray, List.set_cons_zero, List.set_cons_succ]
  refine Pl.takeW rfl rfl ?v59 ?hy59 ?rest59
  case hy59 => intro w_ _; first | (go_simp; done) | (go_simp; with_reducible rfl)
  simp only [Act.put, List.setIfInBounds_toArray, List.set_cons_zero, List.set_cons_succ]
  refine Pl.takeW rfl rfl ?v60 ?hy60 ?rest60
  case hy60 => intro w_ hS_; subst hS_; first | (go_simp; done) | (go_simp; with_reducible rfl)
  simp only [Act.put, List.setIfInBounds_toArray, List.set_cons_zero, List.set_cons_succ]
  refine Pl.takeW rfl rfl ?v61 ?hy61 ?rest61
  case hy61 => intro w_ _; first | (go_simp; done) | (go_simp; with_reducible rfl)
  simp only [Act.put, List.setIfInBounds_toArray, List.set_cons_zero, List.set_cons_succ]
  refine Pl.takeW rfl rfl ?v62 ?hy62 ?rest62
  case hy62 => intro w_ hS_; subst hS_; first | (go_simp; done) | (go_simp; with_reducible rfl)
  simp only [Act.put, List.setIfInBounds_toArray, List.set_cons_zero, List.set_cons_succ]
  refine Pl.takeW rfl rfl ?v63 ?hy63 ?rest63
  case hy63 => intro w_ _; first | (go_simp; done) | (go_simp; with_reducible rfl)
  simp only [Act.put, List.setIfInBounds_toArray, List.set_cons_zero, List.set_cons_succ]
  refine Pl.takeW rfl rfl ?v64 ?hy64 ?rest64
  case hy64 => intro w_ hS_; subst hS_; first | (go_simp; done) | (go_simp; with_reducible rfl)
  simp only [Act.put, List.setIfInBounds_toArray, List.set_cons_zero, List.set_cons_succ]
  show wpList _ _ _ _ _ _
  simp only [List.drop_succ_cons, List.drop_zero]
  go_wp2_with fail
  refine (R_let p b off c d st L S1 _ F HF.out i r st' (X.drew HX1.out) HE.out hi Hr.out).mono ?_
  rintro e w5 ⟨rfl, S5, k5, hX5⟩
  go_wp2_with fail
  go_ret
  exact Ret.intro rfl (HK1.out.trans k5) hX5
set_option maxRecDepth 100000 in
set_option maxHeartbeats 16000000 in
theorem R_spDefineT (F : Fm) (HF : OkR p b off c d F) (i r : Nat) (st' : St) (hX : RX p (dval b off c d) st L S w) (hE : Env S b off c d) (hi : i < d.length) (h0 : (nd d i).l ≠ []) (hs : headName d i = sDefine) (hr : defineS d F i st = some (r, st')) :
    Calls Try.prog 38 #[ptr p, nat i, .bool true] w (Ret S (RX p (dval b off c d) st' L) (nat r)) := by
  have X := RX.xs p (dval b off c d) st
  have hlenD := Dat.len hE
  have hiI : (i : Int) < (d.length : Int) := by omega
  have hll := hE.dat.ll i hi
  have Hpar := hid (hE.dat.par i hi)
  obtain ⟨lv, hN⟩ := hE.at_ i hi
  have x0 := hX.d0
  obtain ⟨A1, c1, hlv, hc1, hc2⟩ := Sl.shape hN.l
  subst hlv
  have n0 := X.cell hX hN.c0
  have n1 := X.cell hX hN.c1
  have n2 := X.cell hX hN.c2
  have n3 := X.cell hX hN.c3
  have n4 := X.cell hX hN.c4
  obtain ⟨S1, k1, hX1, s1⟩ := X.box hX #[.int .u8 (nd d i).kind, .int .i64 (nd d i).at_, .int .i64 (nd d i).n, str (nd d i).s, .slice A1 (nd d i).l.length c1] 60
  have Hd1 := hid (s1 1 _ rfl)
  have Hd4 := hid (s1 4 _ rfl)
  have d4 := X.cell hX1 Hd4.out
  have y0 := hX1.d0
  have HK1 := hid k1
  have HX1 := hid hX1
  have HE := hid (hE.mono k1)
  have HF := hid HF
  have HL := hid (hN.l.mono k1)
  clear hX hX1 hN hE s1 k1
  have hlen1 : 0 < (nd d i).l.length := List.length_pos_iff.2 h0
  have hl0I : (0 : Int) < ((nd d i).l.length : Int) := by omega
  obtain ⟨b1, o1, c2, hlv, _, _, hcc⟩ := HL.out.at_ h0
  simp only [Value.slice.injEq, true_and] at hlv
  obtain ⟨rfl, rfl⟩ := hlv
  obtain ⟨xh, hxh⟩ : ∃ xh, (nd d i).l[0]? = some xh := ⟨_, List.getElem?_eq_some_iff.2 ⟨hlen1, rfl⟩⟩
  have hgh : (nd d i).l.getD 0 0 = xh := by rw [List.getD_eq_getElem?_getD, hxh]; rfl
  have hih : xh < d.length := by have := Hpar.out xh (List.mem_of_getElem? hxh); omega
  have Hxh := hid (hcc 0 xh hxh)
  rw [Nat.add_zero] at Hxh
  have f0 := X.cell HX1.out Hxh.out
  obtain ⟨lvh, hNh⟩ := HE.out.at_ xh hih
  have m3 := X.cell HX1.out hNh.c3
  have hs' : (nd d xh).s = [100, 101, 102, 105, 110, 101] := by rw [← hgh]; exact hs
  rw [hs'] at m3
  replace m3 : World.cell? _ ⟨b, off + xh * 5 + 3, none⟩ = some (.string ⟨#[100, 101, 102, 105, 110, 101]⟩) := m3
  have hxhI : (xh : Int) < (d.length : Int) := by omega
  have Hcc := hid hcc
  have Hh0 := hid h0
  clear hcc hxh hgh hNh hs hs' h0
  have Hr := hid hr
  clear hr
  go_enter Try.func38, Try.ntmps38
  go_wp2_with fail
  refine wp_plan 8 (.take 0 (.take 1 (.take 2 (.take 3 (.take 4 (.take 5 (.take 6 (.take 7 .fin)))))))) (fun w_ => w_ = _) (by kernel_rfl) (by kernel_rfl) (fun _ _ d_ _ _ h_ => by cases d_ <;> exact h_) rfl ?_
  refine Pl.takeW rfl rfl ?v65 ?hy65 ?rest65
  case hy65 => intro w_ _; first | (go_simp; done) | (go_simp; with_reducible rfl)
  simp only [Act.put, List.setIfInBounds_toArray, List.set_cons_zero, List.set_cons_succ]
  refine Pl.takeW rfl rfl ?v66 ?hy66 ?rest66
  case hy66 => intro w_ _; first | (go_simp; done) | (go_simp; with_reducible rfl)
  simp only [Act.put, List.setIfInBounds_toArray, List.set_cons_zero, List.set_cons_succ]
  refine Pl.takeW rfl rfl ?v67 ?hy67 ?rest67
  case hy67 => intro w_ _; first | (go_simp; done) | (go_simp; with_reducible rfl)
  simp only [Act.put, List.setIfInBounds_toArray, List.set_cons_zero, List.set_cons_succ]
  refine Pl.takeW rfl rfl ?v68 ?hy68 ?rest68
  case hy68 => intro w_ hS_; subst hS_; first | (go_simp; done) | (go_simp; with_reducible rfl)
  simp only [Act.put, List.setIfInBounds_toArray, List.set_cons_zero, List.set_cons_succ]
  refine Pl.takeW rfl rfl ?v69 ?hy69 ?rest69
  case hy69 => intro w_ _; first | (go_simp; done) | (go_simp; with_reducible rfl)
  simp only [Act.put, List.setIfInBounds_toArray, List.set_cons_zero, List.set_cons_succ]
  refine Pl.takeW rfl rfl ?v70 ?hy70 ?rest70
  case hy70 => intro w_ hS_; subst hS_; first | (go_simp; done) | (go_simp; with_reducible rfl)
  simp only [Act.put, List.setIfInBounds_toArray, List.set_cons_zero, List.set_cons_succ]
  refine Pl.takeW rfl rfl ?v71 ?hy71 ?rest71
  case hy71 => intro w_ _; first | (go_simp; done) | (go_simp; with_reducible rfl)
  simp only [Act.put, List.setIfInBounds_toArray, List.set_cons_zero, List.set_cons_succ]
  refine Pl.takeW rfl rfl ?v72 ?hy72 ?rest72
  case hy72 => intro w_ hS_; subst hS_; first | (go_simp; done) | (go_simp; with_reducible rfl)
  simp only [Act.put, List.setIfInBounds_toArray, List.set_cons_zero, List.set_cons_succ]
  show wpList _ _ _ _ _ _
  simp only [List.drop_succ_cons, List.drop_zero]
  go_wp2_with fail
  refine (R_define p b off c d st L S1 _ F HF.out i r st' (X.drew HX1.out) HE.out hi Hr.out).mono ?_
  rintro e w5 ⟨rfl, S5, k5, hX5⟩
  go_wp2_with fail
  go_ret
  exact Ret.intro rfl (HK1.out.trans k5) hX5
set_option maxRecDepth 100000 in
set_option maxHeartbeats 16000000 in
theorem R_spDefineF (F : Fm) (HF : OkR p b off c d F) (i r : Nat) (st' : St) (hX : RX p (dval b off c d) st L S w) (hE : Env S b off c d) (hi : i < d.length) (h0 : (nd d i).l ≠ []) (hs : headName d i = sDefine) (hr : some (wrong d st i) = some (r, st')) :
    Calls Try.prog 38 #[ptr p, nat i, .bool false] w (Ret S (RX p (dval b off c d) st' L) (nat r)) := by
  have X := RX.xs p (dval b off c d) st
  have hlenD := Dat.len hE
  have hiI : (i : Int) < (d.length : Int) := by omega
  have hll := hE.dat.ll i hi
  have Hpar := hid (hE.dat.par i hi)
  obtain ⟨lv, hN⟩ := hE.at_ i hi
  have x0 := hX.d0
  obtain ⟨A1, c1, hlv, hc1, hc2⟩ := Sl.shape hN.l
  subst hlv
  have n0 := X.cell hX hN.c0
  have n1 := X.cell hX hN.c1
  have n2 := X.cell hX hN.c2
  have n3 := X.cell hX hN.c3
  have n4 := X.cell hX hN.c4
  obtain ⟨S1, k1, hX1, s1⟩ := X.box hX #[.int .u8 (nd d i).kind, .int .i64 (nd d i).at_, .int .i64 (nd d i).n, str (nd d i).s, .slice A1 (nd d i).l.length c1] 60
  have Hd1 := hid (s1 1 _ rfl)
  have Hd4 := hid (s1 4 _ rfl)
  have d4 := X.cell hX1 Hd4.out
  have y0 := hX1.d0
  have HK1 := hid k1
  have HX1 := hid hX1
  have HE := hid (hE.mono k1)
  have HF := hid HF
  have HL := hid (hN.l.mono k1)
  clear hX hX1 hN hE s1 k1
  have hlen1 : 0 < (nd d i).l.length := List.length_pos_iff.2 h0
  have hl0I : (0 : Int) < ((nd d i).l.length : Int) := by omega
  obtain ⟨b1, o1, c2, hlv, _, _, hcc⟩ := HL.out.at_ h0
  simp only [Value.slice.injEq, true_and] at hlv
  obtain ⟨rfl, rfl⟩ := hlv
  obtain ⟨xh, hxh⟩ : ∃ xh, (nd d i).l[0]? = some xh := ⟨_, List.getElem?_eq_some_iff.2 ⟨hlen1, rfl⟩⟩
  have hgh : (nd d i).l.getD 0 0 = xh := by rw [List.getD_eq_getElem?_getD, hxh]; rfl
  have hih : xh < d.length := by have := Hpar.out xh (List.mem_of_getElem? hxh); omega
  have Hxh := hid (hcc 0 xh hxh)
  rw [Nat.add_zero] at Hxh
  have f0 := X.cell HX1.out Hxh.out
  obtain ⟨lvh, hNh⟩ := HE.out.at_ xh hih
  have m3 := X.cell HX1.out hNh.c3
  have hs' : (nd d xh).s = [100, 101, 102, 105, 110, 101] := by rw [← hgh]; exact hs
  rw [hs'] at m3
  replace m3 : World.cell? _ ⟨b, off + xh * 5 + 3, none⟩ = some (.string ⟨#[100, 101, 102, 105, 110, 101]⟩) := m3
  have hxhI : (xh : Int) < (d.length : Int) := by omega
  have Hcc := hid hcc
  have Hh0 := hid h0
  clear hcc hxh hgh hNh hs hs' h0
  have Hr := hid hr
  clear hr
  go_enter Try.func38, Try.ntmps38
  go_wp2_with fail
  refine wp_plan 8 (.take 0 (.take 1 (.take 2 (.take 3 (.take 4 (.take 5 (.take 6 (.take 7 .fin)))))))) (fun w_ => w_ = _) (by kernel_rfl) (by kernel_rfl) (fun _ _ d_ _ _ h_ => by cases d_ <;> exact h_) rfl ?_
  refine Pl.takeW rfl rfl ?v73 ?hy73 ?rest73
  case hy73 => intro w_ _; first | (go_simp; done) | (go_simp; with_reducible rfl)
  simp only [Act.put, List.setIfInBounds_toArray, List.set_cons_zero, List.set_cons_succ]
  refine Pl.takeW rfl rfl ?v74 ?hy74 ?rest74
  case hy74 => intro w_ _; first | (go_simp; done) | (go_simp; with_reducible rfl)
  simp only [Act.put, List.setIfInBounds_toArray, List.set_cons_zero, List.set_cons_succ]
  refine Pl.takeW rfl rfl ?v75 ?hy75 ?rest75
  case hy75 => intro w_ _; first | (go_simp; done) | (go_simp; with_reducible rfl)
  simp only [Act.put, List.setIfInBounds_toArray, List.set_cons_zero, List.set_cons_succ]
  refine Pl.takeW rfl rfl ?v76 ?hy76 ?rest76
  case hy76 => intro w_ hS_; subst hS_; first | (go_simp; done) | (go_simp; with_reducible rfl)
  simp only [Act.put, List.setIfInBounds_toArray, List.set_cons_zero, List.set_cons_succ]
  refine Pl.takeW rfl rfl ?v77 ?hy77 ?rest77
  case hy77 => intro w_ _; first | (go_simp; done) | (go_simp; with_reducible rfl)
  simp only [Act.put, List.setIfInBounds_toArray, List.set_cons_zero, List.set_cons_succ]
  refine Pl.takeW rfl rfl ?v78 ?hy78 ?rest78
  case hy78 => intro w_ hS_; subst hS_; first | (go_simp; done) | (go_simp; with_reducible rfl)
  simp only [Act.put, List.setIfInBounds_toArray, List.set_cons_zero, List.set_cons_succ]
  refine Pl.takeW rfl rfl ?v79 ?hy79 ?rest79
  case hy79 => intro w_ _; first | (go_simp; done) | (go_simp; with_reducible rfl)
  simp only [Act.put, List.setIfInBounds_toArray, List.set_cons_zero, List.set_cons_succ]
  refine Pl.takeW rfl rfl ?v80 ?hy80 ?rest80
  case hy80 => intro w_ hS_; subst hS_; first | (go_simp; done) | (go_simp; with_reducible rfl)
  simp only [Act.put, List.setIfInBounds_toArray, List.set_cons_zero, List.set_cons_succ]
  show wpList _ _ _ _ _ _
  simp only [List.drop_succ_cons, List.drop_zero]
  go_wp2_with fail
  refine (R_wrongR p b off c d st L S1 _ i r st' (X.drew HX1.out) HE.out hi Hr.out).mono ?_
  rintro e w5 ⟨rfl, S5, k5, hX5⟩
  go_wp2_with fail
  go_ret
  exact Ret.intro rfl (HK1.out.trans k5) hX5
set_option maxRecDepth 100000 in
set_option maxHeartbeats 16000000 in
theorem R_spElse (top : Bool) (F : Fm) (HF : OkR p b off c d F) (i r : Nat) (st' : St) (hX : RX p (dval b off c d) st L S w) (hE : Env S b off c d) (hi : i < d.length) (h0 : (nd d i).l ≠ []) (hs : headName d i = sElse) (hr : some (wrong d st i) = some (r, st')) :
    Calls Try.prog 38 #[ptr p, nat i, .bool top] w (Ret S (RX p (dval b off c d) st' L) (nat r)) := by
  have X := RX.xs p (dval b off c d) st
  have hlenD := Dat.len hE
  have hiI : (i : Int) < (d.length : Int) := by omega
  have hll := hE.dat.ll i hi
  have Hpar := hid (hE.dat.par i hi)
  obtain ⟨lv, hN⟩ := hE.at_ i hi
  have x0 := hX.d0
  obtain ⟨A1, c1, hlv, hc1, hc2⟩ := Sl.shape hN.l
  subst hlv
  have n0 := X.cell hX hN.c0
  have n1 := X.cell hX hN.c1
  have n2 := X.cell hX hN.c2
  have n3 := X.cell hX hN.c3
  have n4 := X.cell hX hN.c4
  obtain ⟨S1, k1, hX1, s1⟩ := X.box hX #[.int .u8 (nd d i).kind, .int .i64 (nd d i).at_, .int .i64 (nd d i).n, str (nd d i).s, .slice A1 (nd d i).l.length c1] 60
  have Hd1 := hid (s1 1 _ rfl)
  have Hd4 := hid (s1 4 _ rfl)
  have d4 := X.cell hX1 Hd4.out
  have y0 := hX1.d0
  have HK1 := hid k1
  have HX1 := hid hX1
  have HE := hid (hE.mono k1)
  have HF := hid HF
  have HL := hid (hN.l.mono k1)
  clear hX hX1 hN hE s1 k1
  have hlen1 : 0 < (nd d i).l.length := List.length_pos_iff.2 h0
  have hl0I : (0 : Int) < ((nd d i).l.length : Int) := by omega
  obtain ⟨b1, o1, c2, hlv, _, _, hcc⟩ := HL.out.at_ h0
  simp only [Value.slice.injEq, true_and] at hlv
  obtain ⟨rfl, rfl⟩ := hlv
  obtain ⟨xh, hxh⟩ : ∃ xh, (nd d i).l[0]? = some xh := ⟨_, List.getElem?_eq_some_iff.2 ⟨hlen1, rfl⟩⟩
  have hgh : (nd d i).l.getD 0 0 = xh := by rw [List.getD_eq_getElem?_getD, hxh]; rfl
  have hih : xh < d.length := by have := Hpar.out xh (List.mem_of_getElem? hxh); omega
  have Hxh := hid (hcc 0 xh hxh)
  rw [Nat.add_zero] at Hxh
  have f0 := X.cell HX1.out Hxh.out
  obtain ⟨lvh, hNh⟩ := HE.out.at_ xh hih
  have m3 := X.cell HX1.out hNh.c3
  have hs' : (nd d xh).s = [101, 108, 115, 101] := by rw [← hgh]; exact hs
  rw [hs'] at m3
  replace m3 : World.cell? _ ⟨b, off + xh * 5 + 3, none⟩ = some (.string ⟨#[101, 108, 115, 101]⟩) := m3
  have hxhI : (xh : Int) < (d.length : Int) := by omega
  have Hcc := hid hcc
  have Hh0 := hid h0
  clear hcc hxh hgh hNh hs hs' h0
  have Hr := hid hr
  clear hr
  go_enter Try.func38, Try.ntmps38
  go_wp2_with fail
  refine wp_plan 8 (.take 0 (.take 1 (.take 2 (.take 3 (.take 4 (.take 5 (.take 6 (.take 7 .fin)))))))) (fun w_ => w_ = _) (by kernel_rfl) (by kernel_rfl) (fun _ _ d_ _ _ h_ => by cases d_ <;> exact h_) rfl ?_
  refine Pl.takeW rfl rfl ?v81 ?hy81 ?rest81
  case hy81 => intro w_ _; first | (go_simp; done) | (go_simp; with_reducible rfl)
  simp only [Act.put, List.setIfInBounds_toArray, List.set_cons_zero, List.set_cons_succ]
  refine Pl.takeW rfl rfl ?v82 ?hy82 ?rest82
  case hy82 => intro w_ _; first | (go_simp; done) | (go_simp; with_reducible rfl)
  simp only [Act.put, List.setIfInBounds_toArray, List.set_cons_zero, List.set_cons_succ]
  refine Pl.takeW rfl rfl ?v83 ?hy83 ?rest83
  case hy83 => intro w_ _; first | (go_simp; done) | (go_simp; with_reducible rfl)
  simp only [Act.put, List.setIfInBounds_toArray, List.set_cons_zero, List.set_cons_succ]
  refine Pl.takeW rfl rfl ?v84 ?hy84 ?rest84
  case hy84 => intro w_ hS_; subst hS_; first | (go_simp; done) | (go_simp; with_reducible rfl)
  simp only [Act.put, List.setIfInBounds_toArray, List.set_cons_zero, List.set_cons_succ]
  refine Pl.takeW rfl rfl ?v85 ?hy85 ?rest85
  case hy85 => intro w_ _; first | (go_simp; done) | (go_simp; with_reducible rfl)
  simp only [Act.put, List.setIfInBounds_toArray, List.set_cons_zero, List.set_cons_succ]
  refine Pl.takeW rfl rfl ?v86 ?hy86 ?rest86
  case hy86 => intro w_ hS_; subst hS_; first | (go_simp; done) | (go_simp; with_reducible rfl)
  simp only [Act.put, List.setIfInBounds_toArray, List.set_cons_zero, List.set_cons_succ]
  refine Pl.takeW rfl rfl ?v87 ?hy87 ?rest87
  case hy87 => intro w_ _; first | (go_simp; done) | (go_simp; with_reducible rfl)
  simp only [Act.put, List.setIfInBounds_toArray, List.set_cons_zero, List.set_cons_succ]
  refine Pl.takeW rfl rfl ?v88 ?hy88 ?rest88
  case hy88 => intro w_ hS_; subst hS_; first | (go_simp; done) | (go_simp; with_reducible rfl)
  simp only [Act.put, List.setIfInBounds_toArray, List.set_cons_zero, List.set_cons_succ]
  show wpList _ _ _ _ _ _
  simp only [List.drop_succ_cons, List.drop_zero]
  go_wp2_with fail
  refine (R_wrongR p b off c d st L S1 _ i r st' (X.drew HX1.out) HE.out hi Hr.out).mono ?_
  rintro e w5 ⟨rfl, S5, k5, hX5⟩
  go_wp2_with fail
  go_ret
  exact Ret.intro rfl (HK1.out.trans k5) hX5
end
end Go.Proofs.Ytjjbidajkmodfaa
