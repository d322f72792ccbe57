/- Texts P13, P14 of the proof. What each theorem says stands in its own statement. No condition beyond those that it names. -/
import Derived.Test.YtjjbidajkmodfaaXa3
import Derived.Test.YtjjbidajkmodfaaXa4
import Derived.Laws.EntriesVeiled
set_option linter.unusedVariables false
set_option linter.unusedSimpArgs false
namespace Go.Proofs.Ytjjbidajkmodfaa
open Go Go.RowKit
def BoundU (S : Seal) (X : Seal → World → Prop) (o : Option (List Nat × List Nat)) (e : Ending) (w' : World) : Prop :=
  ∃ A n k A' n' k' ok S', S.le S' ∧ X S' w' ∧ e = .returned (.tuple #[.slice A n k, .slice A' n' k', .bool ok]) ∧ (ok = false ∧ o = none ∨ ok = true ∧ ∃ ps vs, o = some (ps, vs) ∧ NatsR S' (.slice A n k) ps ∧ NatsR S' (.slice A' n' k') vs)
section
variable (p b off c : Nat) (d : List Node) (st : St) (L : List Atom) (S : Seal) (w : World)
theorem P_boundU (i : Nat) (hX : PX p (dval b off c d) st L S w) (hE : Env S b off c d) (hi : i < d.length) :
    Calls Try.prog 103 #[ptr p, nat i] w (BoundU S (PX p (dval b off c d) st L) (pairs d i)) := by
  refine (P_bound p b off c d st L S w i hX hE hi).mono ?_
  rintro e w' ⟨v, u, S', k, h, h3⟩
  rcases h3 with ⟨h3, rfl⟩ | ⟨ps, vs, h3, rfl, h4, h5⟩
  · exact ⟨none, 0, 0, none, 0, 0, false, S', k, h, rfl, .inl ⟨rfl, h3⟩⟩
  · obtain ⟨A, c1, rfl, _, _⟩ := Sl.shape h4
    obtain ⟨A', c2, rfl, _, _⟩ := Sl.shape h5
    exact ⟨_, _, _, _, _, _, true, S', k, h, rfl, .inr ⟨rfl, ps, vs, h3, h4, h5⟩⟩
set_option maxRecDepth 100000 in
set_option maxHeartbeats 16000000 in
theorem P_lets (F : Fm) (HF : OkP p b off c d F) (i r : Nat) (st' : St) (hX : PX p (dval b off c d) st L S w) (hE : Env S b off c d) (hi : i < d.length) (hr : letsS d F i st = some (r, st')) :
    Calls Try.prog 88 #[ptr p, elem b off i] w (Ret S (PX p (dval b off c d) st' L) (nat r)) := by
  have X := PX.xs p (dval b off c d) st
  have HF := hid HF
  obtain ⟨S2, k2, hX2, sx, sd⟩ := X.box2 hX #[ptr p] #[elem b off i] 54 55
  have hx := sx 0 _ rfl
  have hd := sd 0 _ rfl
  clear sx sd hX
  have HE := hid (hE.mono k2)
  obtain ⟨lv, hN⟩ := HE.out.at_ i hi
  have e3 := X.cell hX2 hN.c1
  have e4 := X.cell hX2 hN.c4
  unfold letsS at hr
  by_cases hlen : (nd d i).l.length < 3
  · obtain ⟨A1, cc, hlv, _, _⟩ := Sl.shape hN.l
    subst hlv
    rw [if_pos hlen] at hr
    have HX2 := hid hX2
    have Hr := hid hr
    clear hr hX2 hE hN
    go_enter Try.func88, Try.ntmps88
    go_wp2_with fail
    refine (P_wrongR p b off c d st L S2 _ i r st' HX2.out HE.out hi Hr.out).mono ?_
    rintro e w1 ⟨rfl, S1, k1, hX1⟩
    go_wp2_with fail
    go_ret
    exact Ret.intro rfl (k2.trans k1) hX1
  obtain ⟨b1, o1, c1, hlv, h1, h2, hcc⟩ := hN.l.at_ (by intro h; rw [h] at hlen; simp at hlen)
  subst hlv
  obtain ⟨x1, hx1⟩ : ∃ x1, (nd d i).l[1]? = some x1 := ⟨_, List.getElem?_eq_some_iff.2 ⟨by omega, rfl⟩⟩
  have hg : (nd d i).l.getD 1 0 = x1 := by rw [List.getD_eq_getElem?_getD, hx1]; rfl
  have hi1 : x1 < d.length := by have := HE.out.dat.par i hi x1 (List.mem_of_getElem? hx1); omega
  rw [hg] at hr
  have Hx1 := hid (hcc 1 x1 hx1)
  have hl1 : (1 : Int) < ((nd d i).l.length : Int) := by omega
  have hlI2 : ¬ ((nd d i).l.length : Int) < 3 := by omega
  have HX2 := hid hX2
  have Hx := hid hx
  have Hd := hid hd
  have HN := hid hN
  clear hX2 hE hN hx hd
  rw [if_neg hlen] at hr
  have Hr := hid hr
  have hlen3 : 3 ≤ (nd d i).l.length := by omega
  clear hcc hr
  go_enter Try.func88, Try.ntmps88
  go_wp2_with fail
  refine wp_plan 16 (.take 0 (.take 1 (.take 2 (.take 3 (.take 4 (.take 5 (.take 6 (.tri 7 12 13 (.take 8 (.take 9 (.take 10 (.take 11 (.two 12 13 (.one 13 (.one 14 (.one 15 .fin))) (.one 12 (.one 14 (.one 15 .fin)))))))) (.two 7 13 (.take 8 (.take 9 (.take 10 (.take 11 (.one 13 (.one 14 (.one 15 .fin))))))) (.one 7 (.take 8 (.take 9 (.take 10 (.take 11 (.one 14 (.one 15 .fin)))))))) (.two 7 12 (.take 8 (.take 9 (.take 10 (.take 11 (.one 12 (.one 14 (.one 15 .fin))))))) (.one 7 (.take 8 (.take 9 (.take 10 (.take 11 (.one 14 (.one 15 .fin)))))))))))))))) (fun w' => w'.cell? ⟨w.heap.size, 0, none⟩ = some (ptr p) ∧ w'.cell? ⟨w.heap.size + 1, 0, none⟩ = some (elem b off i) ∧ w'.cell? ⟨b, off + i * 5 + 4, none⟩ = some (.slice (some ⟨b1, o1, none⟩) (nd d i).l.length c1) ∧ w'.cell? ⟨b1, o1 + 1, none⟩ = some (nat x1)) (by kernel_rfl) (by kernel_rfl) (fun _ _ d_ _ _ h_ => by cases d_ <;> exact h_) (⟨X.cell (X.drew HX2.out) (Hx.out), X.cell (X.drew HX2.out) (Hd.out), X.cell (X.drew HX2.out) (HN.out.c4), X.cell (X.drew HX2.out) (Hx1.out)⟩) ?_
  refine Pl.takeW rfl rfl ?v1 ?hy1 ?rest1
  case hy1 => intro w_ hS_; obtain ⟨f_x, f_d, f_e4, f_l1⟩ := hS_; first | (go_simp; done) | (go_simp; with_reducible rfl)
  simp only [Act.put, List.setIfInBounds_toArray, List.set_cons_zero, List.set_cons_succ]
  refine Pl.takeW rfl rfl ?v2 ?hy2 ?rest2
  case hy2 => intro w_ hS_; obtain ⟨f_x, f_d, f_e4, f_l1⟩ := hS_; first | (go_simp; done) | (go_simp; with_reducible rfl)
  simp only [Act.put, List.setIfInBounds_toArray, List.set_cons_zero, List.set_cons_succ]
  refine Pl.takeW rfl rfl ?v3 ?hy3 ?rest3
  case hy3 => intro w_ _; first | (go_simp; done) | (go_simp; with_reducible rfl)
  simp only [Act.put, List.setIfInBounds_toArray, List.set_cons_zero, List.set_cons_succ]
  refine Pl.takeW rfl rfl ?v4 ?hy4 ?rest4
  case hy4 => intro w_ _; first | (go_simp; done) | (go_simp; with_reducible rfl)
  simp only [Act.put, List.setIfInBounds_toArray, List.set_cons_zero, List.set_cons_succ]
  refine Pl.takeW rfl rfl ?v5 ?hy5 ?rest5
  case hy5 => intro w_ hS_; obtain ⟨f_x, f_d, f_e4, f_l1⟩ := hS_; first | (go_simp; done) | (go_simp; with_reducible rfl)
  simp only [Act.put, List.setIfInBounds_toArray, List.set_cons_zero, List.set_cons_succ]
  refine Pl.takeW rfl rfl ?v6 ?hy6 ?rest6
  case hy6 => intro w_ _; first | (go_simp; done) | (go_simp; with_reducible rfl)
  simp only [Act.put, List.setIfInBounds_toArray, List.set_cons_zero, List.set_cons_succ]
  refine Pl.takeW rfl rfl ?v7 ?hy7 ?rest7
  case hy7 => intro w_ hS_; obtain ⟨f_x, f_d, f_e4, f_l1⟩ := hS_; first | (go_simp; done) | (go_simp; with_reducible rfl)
  simp only [Act.put, List.setIfInBounds_toArray, List.set_cons_zero, List.set_cons_succ]
  refine Pl.triW ?_ ?_ ?_
  · refine Pl.oneW rfl rfl (fun K_ hK_ => ?_)
    go_simp
    refine (P_boundU p b off c d st (L) S2 _ x1 (X.drew HX2.out) HE.out hi1).mono ?_
    rintro e w3 ⟨A3, n3, c3, A4, n4, c4, ok, S3, k3, hX3, rfl, h3⟩
    have HK3 := hid k3
    have HX3 := hid hX3
    have H3 := hid h3
    clear k3 hX3 h3
    refine hK_ _ _ ⟨X.cell HX3.out ((Hx.out).mono (HK3.out)), X.cell HX3.out ((Hd.out).mono (HK3.out)), X.cell HX3.out ((HN.out.c4).mono (HK3.out)), X.cell HX3.out ((Hx1.out).mono (HK3.out))⟩ ?_
    refine Pl.takeW rfl rfl ?v8 ?hy8 ?rest8
    case hy8 => intro w_ _; first | (go_simp; done) | (go_simp; with_reducible rfl)
    simp only [Act.put, List.setIfInBounds_toArray, List.set_cons_zero, List.set_cons_succ]
    refine Pl.takeW rfl rfl ?v9 ?hy9 ?rest9
    case hy9 => intro w_ _; first | (go_simp; done) | (go_simp; with_reducible rfl)
    simp only [Act.put, List.setIfInBounds_toArray, List.set_cons_zero, List.set_cons_succ]
    refine Pl.takeW rfl rfl ?v10 ?hy10 ?rest10
    case hy10 => intro w_ _; first | (go_simp; done) | (go_simp; with_reducible rfl)
    simp only [Act.put, List.setIfInBounds_toArray, List.set_cons_zero, List.set_cons_succ]
    refine Pl.takeW rfl rfl ?v11 ?hy11 ?rest11
    case hy11 => intro w_ _; first | (go_simp; done) | (go_simp; with_reducible rfl)
    simp only [Act.put, List.setIfInBounds_toArray, List.set_cons_zero, List.set_cons_succ]
    refine Pl.twoW ?_ ?_
    · refine Pl.oneW rfl rfl (fun K_ hK_ => ?_)
      go_simp
      have hZ1 : PX p (dval b off c d) st (.blk w3.heap.size #[.slice none 0 0] 23 :: L) S3 (w3.alloc (.cells #[.slice none 0 0] 23)) := X.allocOwn HX3.out #[.slice none 0 0] 23
      generalize w3.alloc (.cells #[.slice none 0 0] 23) = W1 at hZ1 ⊢
      have HZ1 := hid hZ1
      clear hZ1
      refine hK_ _ _ ⟨X.cell HZ1.out ((Hx.out).mono (HK3.out)), X.cell HZ1.out ((Hd.out).mono (HK3.out)), X.cell HZ1.out ((HN.out.c4).mono (HK3.out)), X.cell HZ1.out ((Hx1.out).mono (HK3.out))⟩ ?_
      refine Pl.oneW rfl rfl (fun K_ hK_ => ?_)
      go_simp
      have hZ2 : PX p (dval b off c d) st (.blk W1.heap.size #[.slice none 0 0] 23 :: .blk w3.heap.size #[.slice none 0 0] 23 :: L) S3 (W1.alloc (.cells #[.slice none 0 0] 23)) := X.allocOwn HZ1.out #[.slice none 0 0] 23
      generalize W1.alloc (.cells #[.slice none 0 0] 23) = W2 at hZ2 ⊢
      have HZ2 := hid hZ2
      clear hZ2
      refine hK_ _ _ ⟨X.cell HZ2.out ((Hx.out).mono (HK3.out)), X.cell HZ2.out ((Hd.out).mono (HK3.out)), X.cell HZ2.out ((HN.out.c4).mono (HK3.out)), X.cell HZ2.out ((Hx1.out).mono (HK3.out))⟩ ?_
      refine Pl.oneW rfl rfl (fun K_ hK_ => ?_)
      have q1 := X.blkCell (X.swap HZ2.out) 0
      have q2 := X.blkFree (X.swap HZ2.out) 0
      go_simp
      clear q1 q2
      have hZ3 : PX p (dval b off c d) st (.blk w3.heap.size #[(.slice A3 n3 c3)] 23 :: .blk W1.heap.size #[.slice none 0 0] 23 :: L) S3 (W2.setCell ⟨w3.heap.size, 0, none⟩ (.slice A3 n3 c3)) := X.store (X.swap HZ2.out) 0 (.slice A3 n3 c3)
      generalize W2.setCell ⟨w3.heap.size, 0, none⟩ (.slice A3 n3 c3) = W3 at hZ3 ⊢
      have HZ3 := hid hZ3
      clear hZ3
      refine hK_ _ _ ⟨X.cell HZ3.out ((Hx.out).mono (HK3.out)), X.cell HZ3.out ((Hd.out).mono (HK3.out)), X.cell HZ3.out ((HN.out.c4).mono (HK3.out)), X.cell HZ3.out ((Hx1.out).mono (HK3.out))⟩ ?_
      refine Pl.oneW rfl rfl (fun K_ hK_ => ?_)
      have q1 := X.blkCell (X.swap HZ3.out) 0
      have q2 := X.blkFree (X.swap HZ3.out) 0
      go_simp
      clear q1 q2
      have hZ4 : PX p (dval b off c d) st (.blk W1.heap.size #[(.slice A4 n4 c4)] 23 :: .blk w3.heap.size #[(.slice A3 n3 c3)] 23 :: L) S3 (W3.setCell ⟨W1.heap.size, 0, none⟩ (.slice A4 n4 c4)) := X.store (X.swap HZ3.out) 0 (.slice A4 n4 c4)
      generalize W3.setCell ⟨W1.heap.size, 0, none⟩ (.slice A4 n4 c4) = W4 at hZ4 ⊢
      have HZ4 := hid hZ4
      clear hZ4
      refine hK_ _ _ ⟨X.cell HZ4.out ((Hx.out).mono (HK3.out)), X.cell HZ4.out ((Hd.out).mono (HK3.out)), X.cell HZ4.out ((HN.out.c4).mono (HK3.out)), X.cell HZ4.out ((Hx1.out).mono (HK3.out))⟩ ?_
      show wpList _ _ _ _ _ _
      simp only [List.drop_succ_cons, List.drop_zero]
      have HE3 := hid (HE.out.mono HK3.out)
      have f2 := X.cell (X.swap HZ4.out) (Hx.out.mono HK3.out)
      have f3 := X.cell (X.swap HZ4.out) (Hd.out.mono HK3.out)
      rcases H3.out with ⟨rfl, h4⟩ | ⟨rfl, ps, vs, h4, hps, hvs⟩
      · have hr := Hr.out
        rw [h4] at hr
        have Hr' := hid hr
        have HXf := hid (X.dropAtom (X.dropAtom (X.swap HZ4.out)))
        clear h4 hr
        go_wp2_with fail
        refine (P_wrongR p b off c d st L S3 _ i r st' HXf.out HE3.out hi Hr'.out).mono ?_
        rintro e w6 ⟨rfl, S6, k6, hX6⟩
        go_wp2_with fail
        go_ret
        exact Ret.intro rfl ((k2.trans HK3.out).trans k6) hX6
      · have hr := Hr.out
        rw [h4] at hr
        have Hr' := hid hr
        have Hin := hid (pairs_in HE.out hi1 h4)
        obtain ⟨k4, hX4⟩ := X.sealBlk (X.swap HZ4.out)
        have sA := (Sc.new rfl : Sc (S3.put (w3.heap.size) (.cells #[.slice A3 n3 c3] 23)) (w3.heap.size) 0 (.slice A3 n3 c3))
        obtain ⟨k5, hX5⟩ := X.sealBlk hX4
        have sB := (Sc.new rfl : Sc (((S3.put (w3.heap.size) (.cells #[.slice A3 n3 c3] 23))).put (W1.heap.size) (.cells #[.slice A4 n4 c4] 23)) (W1.heap.size) 0 (.slice A4 n4 c4))
        have sA := sA.mono k5
        obtain ⟨S6, k6, hX6, s6⟩ := X.box hX5 #[.func (.func 105) #[] #[ptr (w3.heap.size), ptr (w.heap.size), ptr (w.heap.size + 1), ptr (World.heap _).size, ptr (W1.heap.size)]] 58
        have HK6 := hid ((k4.trans k5).trans k6)
        have HC := hid (⟨sA.mono k6, (Hx.out.mono HK3.out).mono HK6.out, (Hd.out.mono HK3.out).mono HK6.out, s6 0 _ rfl, sB.mono k6, hps.mono HK6.out, hvs.mono HK6.out⟩ : LetsCap p b off S6 i (w3.heap.size) (w.heap.size) (w.heap.size + 1) _ (W1.heap.size) _ _ ps vs)
        have HX6 := hid hX6
        clear h4 hr hX4 hX5 hX6 k4 k5 k6 sA sB s6 hps hvs
        go_wp2_with fail
        refine (P_lets1 p b off c d F HF.out i (w3.heap.size) (w.heap.size) (w.heap.size + 1) _ (W1.heap.size) _ _ ps vs hi hlen3 Hin.out.1 Hin.out.2.1 Hin.out.2.2.1 Hin.out.2.2.2.2 ps.length 0 (by omega) st L S6 _ 0 r st' rfl HX6.out (HE3.out.mono HK6.out) HC.out Hr'.out).mono ?_
        rintro e w7 ⟨rfl, S7, k7, hX7⟩
        go_wp2_with fail
        go_ret
        exact Ret.intro rfl (((k2.trans HK3.out).trans HK6.out).trans k7) hX7
    · refine Pl.oneW rfl rfl (fun K_ hK_ => ?_)
      go_simp
      have hZ1 : PX p (dval b off c d) st (.blk w3.heap.size #[.slice none 0 0] 23 :: L) S3 (w3.alloc (.cells #[.slice none 0 0] 23)) := X.allocOwn HX3.out #[.slice none 0 0] 23
      generalize w3.alloc (.cells #[.slice none 0 0] 23) = W1 at hZ1 ⊢
      have HZ1 := hid hZ1
      clear hZ1
      refine hK_ _ _ ⟨X.cell HZ1.out ((Hx.out).mono (HK3.out)), X.cell HZ1.out ((Hd.out).mono (HK3.out)), X.cell HZ1.out ((HN.out.c4).mono (HK3.out)), X.cell HZ1.out ((Hx1.out).mono (HK3.out))⟩ ?_
      refine Pl.oneW rfl rfl (fun K_ hK_ => ?_)
      go_simp
      have hZ2 : PX p (dval b off c d) st (.blk W1.heap.size #[.slice none 0 0] 23 :: .blk w3.heap.size #[.slice none 0 0] 23 :: L) S3 (W1.alloc (.cells #[.slice none 0 0] 23)) := X.allocOwn HZ1.out #[.slice none 0 0] 23
      generalize W1.alloc (.cells #[.slice none 0 0] 23) = W2 at hZ2 ⊢
      have HZ2 := hid hZ2
      clear hZ2
      refine hK_ _ _ ⟨X.cell HZ2.out ((Hx.out).mono (HK3.out)), X.cell HZ2.out ((Hd.out).mono (HK3.out)), X.cell HZ2.out ((HN.out.c4).mono (HK3.out)), X.cell HZ2.out ((Hx1.out).mono (HK3.out))⟩ ?_
      refine Pl.oneW rfl rfl (fun K_ hK_ => ?_)
      have q1 := X.blkCell HZ2.out 0
      have q2 := X.blkFree HZ2.out 0
      go_simp
      clear q1 q2
      have hZ3 : PX p (dval b off c d) st (.blk W1.heap.size #[(.slice A3 n3 c3)] 23 :: .blk w3.heap.size #[.slice none 0 0] 23 :: L) S3 (W2.setCell ⟨W1.heap.size, 0, none⟩ (.slice A3 n3 c3)) := X.store HZ2.out 0 (.slice A3 n3 c3)
      generalize W2.setCell ⟨W1.heap.size, 0, none⟩ (.slice A3 n3 c3) = W3 at hZ3 ⊢
      have HZ3 := hid hZ3
      clear hZ3
      refine hK_ _ _ ⟨X.cell HZ3.out ((Hx.out).mono (HK3.out)), X.cell HZ3.out ((Hd.out).mono (HK3.out)), X.cell HZ3.out ((HN.out.c4).mono (HK3.out)), X.cell HZ3.out ((Hx1.out).mono (HK3.out))⟩ ?_
      refine Pl.oneW rfl rfl (fun K_ hK_ => ?_)
      have q1 := X.blkCell (X.swap HZ3.out) 0
      have q2 := X.blkFree (X.swap HZ3.out) 0
      go_simp
      clear q1 q2
      have hZ4 : PX p (dval b off c d) st (.blk w3.heap.size #[(.slice A4 n4 c4)] 23 :: .blk W1.heap.size #[(.slice A3 n3 c3)] 23 :: L) S3 (W3.setCell ⟨w3.heap.size, 0, none⟩ (.slice A4 n4 c4)) := X.store (X.swap HZ3.out) 0 (.slice A4 n4 c4)
      generalize W3.setCell ⟨w3.heap.size, 0, none⟩ (.slice A4 n4 c4) = W4 at hZ4 ⊢
      have HZ4 := hid hZ4
      clear hZ4
      refine hK_ _ _ ⟨X.cell HZ4.out ((Hx.out).mono (HK3.out)), X.cell HZ4.out ((Hd.out).mono (HK3.out)), X.cell HZ4.out ((HN.out.c4).mono (HK3.out)), X.cell HZ4.out ((Hx1.out).mono (HK3.out))⟩ ?_
      show wpList _ _ _ _ _ _
      simp only [List.drop_succ_cons, List.drop_zero]
      have HE3 := hid (HE.out.mono HK3.out)
      have f2 := X.cell (X.swap HZ4.out) (Hx.out.mono HK3.out)
      have f3 := X.cell (X.swap HZ4.out) (Hd.out.mono HK3.out)
      rcases H3.out with ⟨rfl, h4⟩ | ⟨rfl, ps, vs, h4, hps, hvs⟩
      · have hr := Hr.out
        rw [h4] at hr
        have Hr' := hid hr
        have HXf := hid (X.dropAtom (X.dropAtom (X.swap HZ4.out)))
        clear h4 hr
        go_wp2_with fail
        refine (P_wrongR p b off c d st L S3 _ i r st' HXf.out HE3.out hi Hr'.out).mono ?_
        rintro e w6 ⟨rfl, S6, k6, hX6⟩
        go_wp2_with fail
        go_ret
        exact Ret.intro rfl ((k2.trans HK3.out).trans k6) hX6
      · have hr := Hr.out
        rw [h4] at hr
        have Hr' := hid hr
        have Hin := hid (pairs_in HE.out hi1 h4)
        obtain ⟨k4, hX4⟩ := X.sealBlk (X.swap HZ4.out)
        have sA := (Sc.new rfl : Sc (S3.put (W1.heap.size) (.cells #[.slice A3 n3 c3] 23)) (W1.heap.size) 0 (.slice A3 n3 c3))
        obtain ⟨k5, hX5⟩ := X.sealBlk hX4
        have sB := (Sc.new rfl : Sc (((S3.put (W1.heap.size) (.cells #[.slice A3 n3 c3] 23))).put (w3.heap.size) (.cells #[.slice A4 n4 c4] 23)) (w3.heap.size) 0 (.slice A4 n4 c4))
        have sA := sA.mono k5
        obtain ⟨S6, k6, hX6, s6⟩ := X.box hX5 #[.func (.func 105) #[] #[ptr (W1.heap.size), ptr (w.heap.size), ptr (w.heap.size + 1), ptr (World.heap _).size, ptr (w3.heap.size)]] 58
        have HK6 := hid ((k4.trans k5).trans k6)
        have HC := hid (⟨sA.mono k6, (Hx.out.mono HK3.out).mono HK6.out, (Hd.out.mono HK3.out).mono HK6.out, s6 0 _ rfl, sB.mono k6, hps.mono HK6.out, hvs.mono HK6.out⟩ : LetsCap p b off S6 i (W1.heap.size) (w.heap.size) (w.heap.size + 1) _ (w3.heap.size) _ _ ps vs)
        have HX6 := hid hX6
        clear h4 hr hX4 hX5 hX6 k4 k5 k6 sA sB s6 hps hvs
        go_wp2_with fail
        refine (P_lets1 p b off c d F HF.out i (W1.heap.size) (w.heap.size) (w.heap.size + 1) _ (w3.heap.size) _ _ ps vs hi hlen3 Hin.out.1 Hin.out.2.1 Hin.out.2.2.1 Hin.out.2.2.2.2 ps.length 0 (by omega) st L S6 _ 0 r st' rfl HX6.out (HE3.out.mono HK6.out) HC.out Hr'.out).mono ?_
        rintro e w7 ⟨rfl, S7, k7, hX7⟩
        go_wp2_with fail
        go_ret
        exact Ret.intro rfl (((k2.trans HK3.out).trans HK6.out).trans k7) hX7
  · refine Pl.oneW rfl rfl (fun K_ hK_ => ?_)
    go_simp
    have hsz : (((w.alloc (.cells #[ptr p] 54)).alloc (.cells #[elem b off i] 55)).drew).heap.size = w.heap.size + 2 := by simp
    have hZ0 := X.allocOwn (X.drew HX2.out) #[.slice none 0 0] 23
    rw [hsz] at hZ0
    clear hsz
    replace hZ0 : PX p (dval b off c d) st (.blk (w.heap.size + 2) #[.slice none 0 0] 23 :: L) S2 ((((w.alloc (.cells #[ptr p] 54)).alloc (.cells #[elem b off i] 55)).alloc (.cells #[.slice none 0 0] 23)).drew) := hZ0
    generalize (((w.alloc (.cells #[ptr p] 54)).alloc (.cells #[elem b off i] 55)).alloc (.cells #[.slice none 0 0] 23)).drew = W0 at hZ0 ⊢
    have HZ0 := hid hZ0
    clear hZ0
    refine hK_ _ _ ⟨X.cell HZ0.out (Hx.out), X.cell HZ0.out (Hd.out), X.cell HZ0.out (HN.out.c4), X.cell HZ0.out (Hx1.out)⟩ ?_
    refine Pl.twoW ?_ ?_
    · refine Pl.oneW rfl rfl (fun K_ hK_ => ?_)
      go_simp
      refine (P_boundU p b off c d st (.blk (w.heap.size + 2) #[.slice none 0 0] 23 :: L) S2 _ x1 HZ0.out HE.out hi1).mono ?_
      rintro e w3 ⟨A3, n3, c3, A4, n4, c4, ok, S3, k3, hX3, rfl, h3⟩
      have HK3 := hid k3
      have HX3 := hid hX3
      have H3 := hid h3
      clear k3 hX3 h3
      refine hK_ _ _ ⟨X.cell HX3.out ((Hx.out).mono (HK3.out)), X.cell HX3.out ((Hd.out).mono (HK3.out)), X.cell HX3.out ((HN.out.c4).mono (HK3.out)), X.cell HX3.out ((Hx1.out).mono (HK3.out))⟩ ?_
      refine Pl.takeW rfl rfl ?v12 ?hy12 ?rest12
      case hy12 => intro w_ _; first | (go_simp; done) | (go_simp; with_reducible rfl)
      simp only [Act.put, List.setIfInBounds_toArray, List.set_cons_zero, List.set_cons_succ]
      refine Pl.takeW rfl rfl ?v13 ?hy13 ?rest13
      case hy13 => intro w_ _; first | (go_simp; done) | (go_simp; with_reducible rfl)
      simp only [Act.put, List.setIfInBounds_toArray, List.set_cons_zero, List.set_cons_succ]
      refine Pl.takeW rfl rfl ?v14 ?hy14 ?rest14
      case hy14 => intro w_ _; first | (go_simp; done) | (go_simp; with_reducible rfl)
      simp only [Act.put, List.setIfInBounds_toArray, List.set_cons_zero, List.set_cons_succ]
      refine Pl.takeW rfl rfl ?v15 ?hy15 ?rest15
      case hy15 => intro w_ _; first | (go_simp; done) | (go_simp; with_reducible rfl)
      simp only [Act.put, List.setIfInBounds_toArray, List.set_cons_zero, List.set_cons_succ]
      refine Pl.oneW rfl rfl (fun K_ hK_ => ?_)
      go_simp
      have hZ2 : PX p (dval b off c d) st (.blk w3.heap.size #[.slice none 0 0] 23 :: .blk (w.heap.size + 2) #[.slice none 0 0] 23 :: L) S3 (w3.alloc (.cells #[.slice none 0 0] 23)) := X.allocOwn HX3.out #[.slice none 0 0] 23
      generalize w3.alloc (.cells #[.slice none 0 0] 23) = W2 at hZ2 ⊢
      have HZ2 := hid hZ2
      clear hZ2
      refine hK_ _ _ ⟨X.cell HZ2.out ((Hx.out).mono (HK3.out)), X.cell HZ2.out ((Hd.out).mono (HK3.out)), X.cell HZ2.out ((HN.out.c4).mono (HK3.out)), X.cell HZ2.out ((Hx1.out).mono (HK3.out))⟩ ?_
      refine Pl.oneW rfl rfl (fun K_ hK_ => ?_)
      have q1 := X.blkCell (X.swap HZ2.out) 0
      have q2 := X.blkFree (X.swap HZ2.out) 0
      go_simp
      clear q1 q2
      have hZ3 : PX p (dval b off c d) st (.blk (w.heap.size + 2) #[(.slice A3 n3 c3)] 23 :: .blk w3.heap.size #[.slice none 0 0] 23 :: L) S3 (W2.setCell ⟨(w.heap.size + 2), 0, none⟩ (.slice A3 n3 c3)) := X.store (X.swap HZ2.out) 0 (.slice A3 n3 c3)
      generalize W2.setCell ⟨(w.heap.size + 2), 0, none⟩ (.slice A3 n3 c3) = W3 at hZ3 ⊢
      have HZ3 := hid hZ3
      clear hZ3
      refine hK_ _ _ ⟨X.cell HZ3.out ((Hx.out).mono (HK3.out)), X.cell HZ3.out ((Hd.out).mono (HK3.out)), X.cell HZ3.out ((HN.out.c4).mono (HK3.out)), X.cell HZ3.out ((Hx1.out).mono (HK3.out))⟩ ?_
      refine Pl.oneW rfl rfl (fun K_ hK_ => ?_)
      have q1 := X.blkCell (X.swap HZ3.out) 0
      have q2 := X.blkFree (X.swap HZ3.out) 0
      go_simp
      clear q1 q2
      have hZ4 : PX p (dval b off c d) st (.blk w3.heap.size #[(.slice A4 n4 c4)] 23 :: .blk (w.heap.size + 2) #[(.slice A3 n3 c3)] 23 :: L) S3 (W3.setCell ⟨w3.heap.size, 0, none⟩ (.slice A4 n4 c4)) := X.store (X.swap HZ3.out) 0 (.slice A4 n4 c4)
      generalize W3.setCell ⟨w3.heap.size, 0, none⟩ (.slice A4 n4 c4) = W4 at hZ4 ⊢
      have HZ4 := hid hZ4
      clear hZ4
      refine hK_ _ _ ⟨X.cell HZ4.out ((Hx.out).mono (HK3.out)), X.cell HZ4.out ((Hd.out).mono (HK3.out)), X.cell HZ4.out ((HN.out.c4).mono (HK3.out)), X.cell HZ4.out ((Hx1.out).mono (HK3.out))⟩ ?_
      show wpList _ _ _ _ _ _
      simp only [List.drop_succ_cons, List.drop_zero]
      have HE3 := hid (HE.out.mono HK3.out)
      have f2 := X.cell (X.swap HZ4.out) (Hx.out.mono HK3.out)
      have f3 := X.cell (X.swap HZ4.out) (Hd.out.mono HK3.out)
      rcases H3.out with ⟨rfl, h4⟩ | ⟨rfl, ps, vs, h4, hps, hvs⟩
      · have hr := Hr.out
        rw [h4] at hr
        have Hr' := hid hr
        have HXf := hid (X.dropAtom (X.dropAtom (X.swap HZ4.out)))
        clear h4 hr
        go_wp2_with fail
        refine (P_wrongR p b off c d st L S3 _ i r st' HXf.out HE3.out hi Hr'.out).mono ?_
        rintro e w6 ⟨rfl, S6, k6, hX6⟩
        go_wp2_with fail
        go_ret
        exact Ret.intro rfl ((k2.trans HK3.out).trans k6) hX6
      · have hr := Hr.out
        rw [h4] at hr
        have Hr' := hid hr
        have Hin := hid (pairs_in HE.out hi1 h4)
        obtain ⟨k4, hX4⟩ := X.sealBlk (X.swap HZ4.out)
        have sA := (Sc.new rfl : Sc (S3.put ((w.heap.size + 2)) (.cells #[.slice A3 n3 c3] 23)) ((w.heap.size + 2)) 0 (.slice A3 n3 c3))
        obtain ⟨k5, hX5⟩ := X.sealBlk hX4
        have sB := (Sc.new rfl : Sc (((S3.put ((w.heap.size + 2)) (.cells #[.slice A3 n3 c3] 23))).put (w3.heap.size) (.cells #[.slice A4 n4 c4] 23)) (w3.heap.size) 0 (.slice A4 n4 c4))
        have sA := sA.mono k5
        obtain ⟨S6, k6, hX6, s6⟩ := X.box hX5 #[.func (.func 105) #[] #[ptr ((w.heap.size + 2)), ptr (w.heap.size), ptr (w.heap.size + 1), ptr (World.heap _).size, ptr (w3.heap.size)]] 58
        have HK6 := hid ((k4.trans k5).trans k6)
        have HC := hid (⟨sA.mono k6, (Hx.out.mono HK3.out).mono HK6.out, (Hd.out.mono HK3.out).mono HK6.out, s6 0 _ rfl, sB.mono k6, hps.mono HK6.out, hvs.mono HK6.out⟩ : LetsCap p b off S6 i ((w.heap.size + 2)) (w.heap.size) (w.heap.size + 1) _ (w3.heap.size) _ _ ps vs)
        have HX6 := hid hX6
        clear h4 hr hX4 hX5 hX6 k4 k5 k6 sA sB s6 hps hvs
        go_wp2_with fail
        refine (P_lets1 p b off c d F HF.out i ((w.heap.size + 2)) (w.heap.size) (w.heap.size + 1) _ (w3.heap.size) _ _ ps vs hi hlen3 Hin.out.1 Hin.out.2.1 Hin.out.2.2.1 Hin.out.2.2.2.2 ps.length 0 (by omega) st L S6 _ 0 r st' rfl HX6.out (HE3.out.mono HK6.out) HC.out Hr'.out).mono ?_
        rintro e w7 ⟨rfl, S7, k7, hX7⟩
        go_wp2_with fail
        go_ret
        exact Ret.intro rfl (((k2.trans HK3.out).trans HK6.out).trans k7) hX7
    · refine Pl.oneW rfl rfl (fun K_ hK_ => ?_)
      go_simp
      have hZ1 : PX p (dval b off c d) st (.blk W0.heap.size #[.slice none 0 0] 23 :: .blk (w.heap.size + 2) #[.slice none 0 0] 23 :: L) S2 (W0.alloc (.cells #[.slice none 0 0] 23)) := X.allocOwn HZ0.out #[.slice none 0 0] 23
      generalize W0.alloc (.cells #[.slice none 0 0] 23) = W1 at hZ1 ⊢
      have HZ1 := hid hZ1
      clear hZ1
      refine hK_ _ _ ⟨X.cell HZ1.out (Hx.out), X.cell HZ1.out (Hd.out), X.cell HZ1.out (HN.out.c4), X.cell HZ1.out (Hx1.out)⟩ ?_
      refine Pl.oneW rfl rfl (fun K_ hK_ => ?_)
      go_simp
      refine (P_boundU p b off c d st (.blk W0.heap.size #[.slice none 0 0] 23 :: .blk (w.heap.size + 2) #[.slice none 0 0] 23 :: L) S2 _ x1 HZ1.out HE.out hi1).mono ?_
      rintro e w3 ⟨A3, n3, c3, A4, n4, c4, ok, S3, k3, hX3, rfl, h3⟩
      have HK3 := hid k3
      have HX3 := hid hX3
      have H3 := hid h3
      clear k3 hX3 h3
      refine hK_ _ _ ⟨X.cell HX3.out ((Hx.out).mono (HK3.out)), X.cell HX3.out ((Hd.out).mono (HK3.out)), X.cell HX3.out ((HN.out.c4).mono (HK3.out)), X.cell HX3.out ((Hx1.out).mono (HK3.out))⟩ ?_
      refine Pl.takeW rfl rfl ?v16 ?hy16 ?rest16
      case hy16 => intro w_ _; first | (go_simp; done) | (go_simp; with_reducible rfl)
      simp only [Act.put, List.setIfInBounds_toArray, List.set_cons_zero, List.set_cons_succ]
      refine Pl.takeW rfl rfl ?v17 ?hy17 ?rest17
      case hy17 => intro w_ _; first | (go_simp; done) | (go_simp; with_reducible rfl)
      simp only [Act.put, List.setIfInBounds_toArray, List.set_cons_zero, List.set_cons_succ]
      refine Pl.takeW rfl rfl ?v18 ?hy18 ?rest18
      case hy18 => intro w_ _; first | (go_simp; done) | (go_simp; with_reducible rfl)
      simp only [Act.put, List.setIfInBounds_toArray, List.set_cons_zero, List.set_cons_succ]
      refine Pl.takeW rfl rfl ?v19 ?hy19 ?rest19
      case hy19 => intro w_ _; first | (go_simp; done) | (go_simp; with_reducible rfl)
      simp only [Act.put, List.setIfInBounds_toArray, List.set_cons_zero, List.set_cons_succ]
      refine Pl.oneW rfl rfl (fun K_ hK_ => ?_)
      have q1 := X.blkCell (X.swap HX3.out) 0
      have q2 := X.blkFree (X.swap HX3.out) 0
      go_simp
      clear q1 q2
      have hZ3 : PX p (dval b off c d) st (.blk (w.heap.size + 2) #[(.slice A3 n3 c3)] 23 :: .blk W0.heap.size #[.slice none 0 0] 23 :: L) S3 (w3.setCell ⟨(w.heap.size + 2), 0, none⟩ (.slice A3 n3 c3)) := X.store (X.swap HX3.out) 0 (.slice A3 n3 c3)
      generalize w3.setCell ⟨(w.heap.size + 2), 0, none⟩ (.slice A3 n3 c3) = W3 at hZ3 ⊢
      have HZ3 := hid hZ3
      clear hZ3
      refine hK_ _ _ ⟨X.cell HZ3.out ((Hx.out).mono (HK3.out)), X.cell HZ3.out ((Hd.out).mono (HK3.out)), X.cell HZ3.out ((HN.out.c4).mono (HK3.out)), X.cell HZ3.out ((Hx1.out).mono (HK3.out))⟩ ?_
      refine Pl.oneW rfl rfl (fun K_ hK_ => ?_)
      have q1 := X.blkCell (X.swap HZ3.out) 0
      have q2 := X.blkFree (X.swap HZ3.out) 0
      go_simp
      clear q1 q2
      have hZ4 : PX p (dval b off c d) st (.blk W0.heap.size #[(.slice A4 n4 c4)] 23 :: .blk (w.heap.size + 2) #[(.slice A3 n3 c3)] 23 :: L) S3 (W3.setCell ⟨W0.heap.size, 0, none⟩ (.slice A4 n4 c4)) := X.store (X.swap HZ3.out) 0 (.slice A4 n4 c4)
      generalize W3.setCell ⟨W0.heap.size, 0, none⟩ (.slice A4 n4 c4) = W4 at hZ4 ⊢
      have HZ4 := hid hZ4
      clear hZ4
      refine hK_ _ _ ⟨X.cell HZ4.out ((Hx.out).mono (HK3.out)), X.cell HZ4.out ((Hd.out).mono (HK3.out)), X.cell HZ4.out ((HN.out.c4).mono (HK3.out)), X.cell HZ4.out ((Hx1.out).mono (HK3.out))⟩ ?_
      show wpList _ _ _ _ _ _
      simp only [List.drop_succ_cons, List.drop_zero]
      have HE3 := hid (HE.out.mono HK3.out)
      have f2 := X.cell (X.swap HZ4.out) (Hx.out.mono HK3.out)
      have f3 := X.cell (X.swap HZ4.out) (Hd.out.mono HK3.out)
      rcases H3.out with ⟨rfl, h4⟩ | ⟨rfl, ps, vs, h4, hps, hvs⟩
      · have hr := Hr.out
        rw [h4] at hr
        have Hr' := hid hr
        have HXf := hid (X.dropAtom (X.dropAtom (X.swap HZ4.out)))
        clear h4 hr
        go_wp2_with fail
        refine (P_wrongR p b off c d st L S3 _ i r st' HXf.out HE3.out hi Hr'.out).mono ?_
        rintro e w6 ⟨rfl, S6, k6, hX6⟩
        go_wp2_with fail
        go_ret
        exact Ret.intro rfl ((k2.trans HK3.out).trans k6) hX6
      · have hr := Hr.out
        rw [h4] at hr
        have Hr' := hid hr
        have Hin := hid (pairs_in HE.out hi1 h4)
        obtain ⟨k4, hX4⟩ := X.sealBlk (X.swap HZ4.out)
        have sA := (Sc.new rfl : Sc (S3.put ((w.heap.size + 2)) (.cells #[.slice A3 n3 c3] 23)) ((w.heap.size + 2)) 0 (.slice A3 n3 c3))
        obtain ⟨k5, hX5⟩ := X.sealBlk hX4
        have sB := (Sc.new rfl : Sc (((S3.put ((w.heap.size + 2)) (.cells #[.slice A3 n3 c3] 23))).put (W0.heap.size) (.cells #[.slice A4 n4 c4] 23)) (W0.heap.size) 0 (.slice A4 n4 c4))
        have sA := sA.mono k5
        obtain ⟨S6, k6, hX6, s6⟩ := X.box hX5 #[.func (.func 105) #[] #[ptr ((w.heap.size + 2)), ptr (w.heap.size), ptr (w.heap.size + 1), ptr (World.heap _).size, ptr (W0.heap.size)]] 58
        have HK6 := hid ((k4.trans k5).trans k6)
        have HC := hid (⟨sA.mono k6, (Hx.out.mono HK3.out).mono HK6.out, (Hd.out.mono HK3.out).mono HK6.out, s6 0 _ rfl, sB.mono k6, hps.mono HK6.out, hvs.mono HK6.out⟩ : LetsCap p b off S6 i ((w.heap.size + 2)) (w.heap.size) (w.heap.size + 1) _ (W0.heap.size) _ _ ps vs)
        have HX6 := hid hX6
        clear h4 hr hX4 hX5 hX6 k4 k5 k6 sA sB s6 hps hvs
        go_wp2_with fail
        refine (P_lets1 p b off c d F HF.out i ((w.heap.size + 2)) (w.heap.size) (w.heap.size + 1) _ (W0.heap.size) _ _ ps vs hi hlen3 Hin.out.1 Hin.out.2.1 Hin.out.2.2.1 Hin.out.2.2.2.2 ps.length 0 (by omega) st L S6 _ 0 r st' rfl HX6.out (HE3.out.mono HK6.out) HC.out Hr'.out).mono ?_
        rintro e w7 ⟨rfl, S7, k7, hX7⟩
        go_wp2_with fail
        go_ret
        exact Ret.intro rfl (((k2.trans HK3.out).trans HK6.out).trans k7) hX7
  · refine Pl.oneW rfl rfl (fun K_ hK_ => ?_)
    go_simp
    have hsz : (((w.alloc (.cells #[ptr p] 54)).alloc (.cells #[elem b off i] 55)).drew).heap.size = w.heap.size + 2 := by simp
    have hZ0 := X.allocOwn (X.drew HX2.out) #[.slice none 0 0] 23
    rw [hsz] at hZ0
    clear hsz
    replace hZ0 : PX p (dval b off c d) st (.blk (w.heap.size + 2) #[.slice none 0 0] 23 :: L) S2 ((((w.alloc (.cells #[ptr p] 54)).alloc (.cells #[elem b off i] 55)).alloc (.cells #[.slice none 0 0] 23)).drew) := hZ0
    generalize (((w.alloc (.cells #[ptr p] 54)).alloc (.cells #[elem b off i] 55)).alloc (.cells #[.slice none 0 0] 23)).drew = W0 at hZ0 ⊢
    have HZ0 := hid hZ0
    clear hZ0
    refine hK_ _ _ ⟨X.cell HZ0.out (Hx.out), X.cell HZ0.out (Hd.out), X.cell HZ0.out (HN.out.c4), X.cell HZ0.out (Hx1.out)⟩ ?_
    refine Pl.twoW ?_ ?_
    · refine Pl.oneW rfl rfl (fun K_ hK_ => ?_)
      go_simp
      refine (P_boundU p b off c d st (.blk (w.heap.size + 2) #[.slice none 0 0] 23 :: L) S2 _ x1 HZ0.out HE.out hi1).mono ?_
      rintro e w3 ⟨A3, n3, c3, A4, n4, c4, ok, S3, k3, hX3, rfl, h3⟩
      have HK3 := hid k3
      have HX3 := hid hX3
      have H3 := hid h3
      clear k3 hX3 h3
      refine hK_ _ _ ⟨X.cell HX3.out ((Hx.out).mono (HK3.out)), X.cell HX3.out ((Hd.out).mono (HK3.out)), X.cell HX3.out ((HN.out.c4).mono (HK3.out)), X.cell HX3.out ((Hx1.out).mono (HK3.out))⟩ ?_
      refine Pl.takeW rfl rfl ?v20 ?hy20 ?rest20
      case hy20 => intro w_ _; first | (go_simp; done) | (go_simp; with_reducible rfl)
      simp only [Act.put, List.setIfInBounds_toArray, List.set_cons_zero, List.set_cons_succ]
      refine Pl.takeW rfl rfl ?v21 ?hy21 ?rest21
      case hy21 => intro w_ _; first | (go_simp; done) | (go_simp; with_reducible rfl)
      simp only [Act.put, List.setIfInBounds_toArray, List.set_cons_zero, List.set_cons_succ]
      refine Pl.takeW rfl rfl ?v22 ?hy22 ?rest22
      case hy22 => intro w_ _; first | (go_simp; done) | (go_simp; with_reducible rfl)
      simp only [Act.put, List.setIfInBounds_toArray, List.set_cons_zero, List.set_cons_succ]
      refine Pl.takeW rfl rfl ?v23 ?hy23 ?rest23
      case hy23 => intro w_ _; first | (go_simp; done) | (go_simp; with_reducible rfl)
      simp only [Act.put, List.setIfInBounds_toArray, List.set_cons_zero, List.set_cons_succ]
      refine Pl.oneW rfl rfl (fun K_ hK_ => ?_)
      go_simp
      have hZ2 : PX p (dval b off c d) st (.blk w3.heap.size #[.slice none 0 0] 23 :: .blk (w.heap.size + 2) #[.slice none 0 0] 23 :: L) S3 (w3.alloc (.cells #[.slice none 0 0] 23)) := X.allocOwn HX3.out #[.slice none 0 0] 23
      generalize w3.alloc (.cells #[.slice none 0 0] 23) = W2 at hZ2 ⊢
      have HZ2 := hid hZ2
      clear hZ2
      refine hK_ _ _ ⟨X.cell HZ2.out ((Hx.out).mono (HK3.out)), X.cell HZ2.out ((Hd.out).mono (HK3.out)), X.cell HZ2.out ((HN.out.c4).mono (HK3.out)), X.cell HZ2.out ((Hx1.out).mono (HK3.out))⟩ ?_
      refine Pl.oneW rfl rfl (fun K_ hK_ => ?_)
      have q1 := X.blkCell HZ2.out 0
      have q2 := X.blkFree HZ2.out 0
      go_simp
      clear q1 q2
      have hZ3 : PX p (dval b off c d) st (.blk w3.heap.size #[(.slice A3 n3 c3)] 23 :: .blk (w.heap.size + 2) #[.slice none 0 0] 23 :: L) S3 (W2.setCell ⟨w3.heap.size, 0, none⟩ (.slice A3 n3 c3)) := X.store HZ2.out 0 (.slice A3 n3 c3)
      generalize W2.setCell ⟨w3.heap.size, 0, none⟩ (.slice A3 n3 c3) = W3 at hZ3 ⊢
      have HZ3 := hid hZ3
      clear hZ3
      refine hK_ _ _ ⟨X.cell HZ3.out ((Hx.out).mono (HK3.out)), X.cell HZ3.out ((Hd.out).mono (HK3.out)), X.cell HZ3.out ((HN.out.c4).mono (HK3.out)), X.cell HZ3.out ((Hx1.out).mono (HK3.out))⟩ ?_
      refine Pl.oneW rfl rfl (fun K_ hK_ => ?_)
      have q1 := X.blkCell (X.swap HZ3.out) 0
      have q2 := X.blkFree (X.swap HZ3.out) 0
      go_simp
      clear q1 q2
      have hZ4 : PX p (dval b off c d) st (.blk (w.heap.size + 2) #[(.slice A4 n4 c4)] 23 :: .blk w3.heap.size #[(.slice A3 n3 c3)] 23 :: L) S3 (W3.setCell ⟨(w.heap.size + 2), 0, none⟩ (.slice A4 n4 c4)) := X.store (X.swap HZ3.out) 0 (.slice A4 n4 c4)
      generalize W3.setCell ⟨(w.heap.size + 2), 0, none⟩ (.slice A4 n4 c4) = W4 at hZ4 ⊢
      have HZ4 := hid hZ4
      clear hZ4
      refine hK_ _ _ ⟨X.cell HZ4.out ((Hx.out).mono (HK3.out)), X.cell HZ4.out ((Hd.out).mono (HK3.out)), X.cell HZ4.out ((HN.out.c4).mono (HK3.out)), X.cell HZ4.out ((Hx1.out).mono (HK3.out))⟩ ?_
      show wpList _ _ _ _ _ _
      simp only [List.drop_succ_cons, List.drop_zero]
      have HE3 := hid (HE.out.mono HK3.out)
      have f2 := X.cell (X.swap HZ4.out) (Hx.out.mono HK3.out)
      have f3 := X.cell (X.swap HZ4.out) (Hd.out.mono HK3.out)
      rcases H3.out with ⟨rfl, h4⟩ | ⟨rfl, ps, vs, h4, hps, hvs⟩
      · have hr := Hr.out
        rw [h4] at hr
        have Hr' := hid hr
        have HXf := hid (X.dropAtom (X.dropAtom (X.swap HZ4.out)))
        clear h4 hr
        go_wp2_with fail
        refine (P_wrongR p b off c d st L S3 _ i r st' HXf.out HE3.out hi Hr'.out).mono ?_
        rintro e w6 ⟨rfl, S6, k6, hX6⟩
        go_wp2_with fail
        go_ret
        exact Ret.intro rfl ((k2.trans HK3.out).trans k6) hX6
      · have hr := Hr.out
        rw [h4] at hr
        have Hr' := hid hr
        have Hin := hid (pairs_in HE.out hi1 h4)
        obtain ⟨k4, hX4⟩ := X.sealBlk (X.swap HZ4.out)
        have sA := (Sc.new rfl : Sc (S3.put (w3.heap.size) (.cells #[.slice A3 n3 c3] 23)) (w3.heap.size) 0 (.slice A3 n3 c3))
        obtain ⟨k5, hX5⟩ := X.sealBlk hX4
        have sB := (Sc.new rfl : Sc (((S3.put (w3.heap.size) (.cells #[.slice A3 n3 c3] 23))).put ((w.heap.size + 2)) (.cells #[.slice A4 n4 c4] 23)) ((w.heap.size + 2)) 0 (.slice A4 n4 c4))
        have sA := sA.mono k5
        obtain ⟨S6, k6, hX6, s6⟩ := X.box hX5 #[.func (.func 105) #[] #[ptr (w3.heap.size), ptr (w.heap.size), ptr (w.heap.size + 1), ptr (World.heap _).size, ptr ((w.heap.size + 2))]] 58
        have HK6 := hid ((k4.trans k5).trans k6)
        have HC := hid (⟨sA.mono k6, (Hx.out.mono HK3.out).mono HK6.out, (Hd.out.mono HK3.out).mono HK6.out, s6 0 _ rfl, sB.mono k6, hps.mono HK6.out, hvs.mono HK6.out⟩ : LetsCap p b off S6 i (w3.heap.size) (w.heap.size) (w.heap.size + 1) _ ((w.heap.size + 2)) _ _ ps vs)
        have HX6 := hid hX6
        clear h4 hr hX4 hX5 hX6 k4 k5 k6 sA sB s6 hps hvs
        go_wp2_with fail
        refine (P_lets1 p b off c d F HF.out i (w3.heap.size) (w.heap.size) (w.heap.size + 1) _ ((w.heap.size + 2)) _ _ ps vs hi hlen3 Hin.out.1 Hin.out.2.1 Hin.out.2.2.1 Hin.out.2.2.2.2 ps.length 0 (by omega) st L S6 _ 0 r st' rfl HX6.out (HE3.out.mono HK6.out) HC.out Hr'.out).mono ?_
        rintro e w7 ⟨rfl, S7, k7, hX7⟩
        go_wp2_with fail
        go_ret
        exact Ret.intro rfl (((k2.trans HK3.out).trans HK6.out).trans k7) hX7
    · refine Pl.oneW rfl rfl (fun K_ hK_ => ?_)
      go_simp
      have hZ1 : PX p (dval b off c d) st (.blk W0.heap.size #[.slice none 0 0] 23 :: .blk (w.heap.size + 2) #[.slice none 0 0] 23 :: L) S2 (W0.alloc (.cells #[.slice none 0 0] 23)) := X.allocOwn HZ0.out #[.slice none 0 0] 23
      generalize W0.alloc (.cells #[.slice none 0 0] 23) = W1 at hZ1 ⊢
      have HZ1 := hid hZ1
      clear hZ1
      refine hK_ _ _ ⟨X.cell HZ1.out (Hx.out), X.cell HZ1.out (Hd.out), X.cell HZ1.out (HN.out.c4), X.cell HZ1.out (Hx1.out)⟩ ?_
      refine Pl.oneW rfl rfl (fun K_ hK_ => ?_)
      go_simp
      refine (P_boundU p b off c d st (.blk W0.heap.size #[.slice none 0 0] 23 :: .blk (w.heap.size + 2) #[.slice none 0 0] 23 :: L) S2 _ x1 HZ1.out HE.out hi1).mono ?_
      rintro e w3 ⟨A3, n3, c3, A4, n4, c4, ok, S3, k3, hX3, rfl, h3⟩
      have HK3 := hid k3
      have HX3 := hid hX3
      have H3 := hid h3
      clear k3 hX3 h3
      refine hK_ _ _ ⟨X.cell HX3.out ((Hx.out).mono (HK3.out)), X.cell HX3.out ((Hd.out).mono (HK3.out)), X.cell HX3.out ((HN.out.c4).mono (HK3.out)), X.cell HX3.out ((Hx1.out).mono (HK3.out))⟩ ?_
      refine Pl.takeW rfl rfl ?v24 ?hy24 ?rest24
      case hy24 => intro w_ _; first | (go_simp; done) | (go_simp; with_reducible rfl)
      simp only [Act.put, List.setIfInBounds_toArray, List.set_cons_zero, List.set_cons_succ]
      refine Pl.takeW rfl rfl ?v25 ?hy25 ?rest25
      case hy25 => intro w_ _; first | (go_simp; done) | (go_simp; with_reducible rfl)
      simp only [Act.put, List.setIfInBounds_toArray, List.set_cons_zero, List.set_cons_succ]
      refine Pl.takeW rfl rfl ?v26 ?hy26 ?rest26
      case hy26 => intro w_ _; first | (go_simp; done) | (go_simp; with_reducible rfl)
      simp only [Act.put, List.setIfInBounds_toArray, List.set_cons_zero, List.set_cons_succ]
      refine Pl.takeW rfl rfl ?v27 ?hy27 ?rest27
      case hy27 => intro w_ _; first | (go_simp; done) | (go_simp; with_reducible rfl)
      simp only [Act.put, List.setIfInBounds_toArray, List.set_cons_zero, List.set_cons_succ]
      refine Pl.oneW rfl rfl (fun K_ hK_ => ?_)
      have q1 := X.blkCell HX3.out 0
      have q2 := X.blkFree HX3.out 0
      go_simp
      clear q1 q2
      have hZ3 : PX p (dval b off c d) st (.blk W0.heap.size #[(.slice A3 n3 c3)] 23 :: .blk (w.heap.size + 2) #[.slice none 0 0] 23 :: L) S3 (w3.setCell ⟨W0.heap.size, 0, none⟩ (.slice A3 n3 c3)) := X.store HX3.out 0 (.slice A3 n3 c3)
      generalize w3.setCell ⟨W0.heap.size, 0, none⟩ (.slice A3 n3 c3) = W3 at hZ3 ⊢
      have HZ3 := hid hZ3
      clear hZ3
      refine hK_ _ _ ⟨X.cell HZ3.out ((Hx.out).mono (HK3.out)), X.cell HZ3.out ((Hd.out).mono (HK3.out)), X.cell HZ3.out ((HN.out.c4).mono (HK3.out)), X.cell HZ3.out ((Hx1.out).mono (HK3.out))⟩ ?_
      refine Pl.oneW rfl rfl (fun K_ hK_ => ?_)
      have q1 := X.blkCell (X.swap HZ3.out) 0
      have q2 := X.blkFree (X.swap HZ3.out) 0
      go_simp
      clear q1 q2
      have hZ4 : PX p (dval b off c d) st (.blk (w.heap.size + 2) #[(.slice A4 n4 c4)] 23 :: .blk W0.heap.size #[(.slice A3 n3 c3)] 23 :: L) S3 (W3.setCell ⟨(w.heap.size + 2), 0, none⟩ (.slice A4 n4 c4)) := X.store (X.swap HZ3.out) 0 (.slice A4 n4 c4)
      generalize W3.setCell ⟨(w.heap.size + 2), 0, none⟩ (.slice A4 n4 c4) = W4 at hZ4 ⊢
      have HZ4 := hid hZ4
      clear hZ4
      refine hK_ _ _ ⟨X.cell HZ4.out ((Hx.out).mono (HK3.out)), X.cell HZ4.out ((Hd.out).mono (HK3.out)), X.cell HZ4.out ((HN.out.c4).mono (HK3.out)), X.cell HZ4.out ((Hx1.out).mono (HK3.out))⟩ ?_
      show wpList _ _ _ _ _ _
      simp only [List.drop_succ_cons, List.drop_zero]
      have HE3 := hid (HE.out.mono HK3.out)
      have f2 := X.cell (X.swap HZ4.out) (Hx.out.mono HK3.out)
      have f3 := X.cell (X.swap HZ4.out) (Hd.out.mono HK3.out)
      rcases H3.out with ⟨rfl, h4⟩ | ⟨rfl, ps, vs, h4, hps, hvs⟩
      · have hr := Hr.out
        rw [h4] at hr
        have Hr' := hid hr
        have HXf := hid (X.dropAtom (X.dropAtom (X.swap HZ4.out)))
        clear h4 hr
        go_wp2_with fail
        refine (P_wrongR p b off c d st L S3 _ i r st' HXf.out HE3.out hi Hr'.out).mono ?_
        rintro e w6 ⟨rfl, S6, k6, hX6⟩
        go_wp2_with fail
        go_ret
        exact Ret.intro rfl ((k2.trans HK3.out).trans k6) hX6
      · have hr := Hr.out
        rw [h4] at hr
        have Hr' := hid hr
        have Hin := hid (pairs_in HE.out hi1 h4)
        obtain ⟨k4, hX4⟩ := X.sealBlk (X.swap HZ4.out)
        have sA := (Sc.new rfl : Sc (S3.put (W0.heap.size) (.cells #[.slice A3 n3 c3] 23)) (W0.heap.size) 0 (.slice A3 n3 c3))
        obtain ⟨k5, hX5⟩ := X.sealBlk hX4
        have sB := (Sc.new rfl : Sc (((S3.put (W0.heap.size) (.cells #[.slice A3 n3 c3] 23))).put ((w.heap.size + 2)) (.cells #[.slice A4 n4 c4] 23)) ((w.heap.size + 2)) 0 (.slice A4 n4 c4))
        have sA := sA.mono k5
        obtain ⟨S6, k6, hX6, s6⟩ := X.box hX5 #[.func (.func 105) #[] #[ptr (W0.heap.size), ptr (w.heap.size), ptr (w.heap.size + 1), ptr (World.heap _).size, ptr ((w.heap.size + 2))]] 58
        have HK6 := hid ((k4.trans k5).trans k6)
        have HC := hid (⟨sA.mono k6, (Hx.out.mono HK3.out).mono HK6.out, (Hd.out.mono HK3.out).mono HK6.out, s6 0 _ rfl, sB.mono k6, hps.mono HK6.out, hvs.mono HK6.out⟩ : LetsCap p b off S6 i (W0.heap.size) (w.heap.size) (w.heap.size + 1) _ ((w.heap.size + 2)) _ _ ps vs)
        have HX6 := hid hX6
        clear h4 hr hX4 hX5 hX6 k4 k5 k6 sA sB s6 hps hvs
        go_wp2_with fail
        refine (P_lets1 p b off c d F HF.out i (W0.heap.size) (w.heap.size) (w.heap.size + 1) _ ((w.heap.size + 2)) _ _ ps vs hi hlen3 Hin.out.1 Hin.out.2.1 Hin.out.2.2.1 Hin.out.2.2.2.2 ps.length 0 (by omega) st L S6 _ 0 r st' rfl HX6.out (HE3.out.mono HK6.out) HC.out Hr'.out).mono ?_
        rintro e w7 ⟨rfl, S7, k7, hX7⟩
        go_wp2_with fail
        go_ret
        exact Ret.intro rfl (((k2.trans HK3.out).trans HK6.out).trans k7) hX7
end
end Go.Proofs.Ytjjbidajkmodfaa
namespace Go.Proofs.Ytjjbidajkmodfaa
open Go Go.RowKit
def ifP (F : Fm) (at_ : Int) (l : List Nat) (st : St) : Option ((Nat × Nat) × St) :=
  (F st (l.getD 2 0)).bind fun b => (if l.length = 4 then F b.2 (l.getD 3 0) else bit b.2 at_ 0).bind fun c => some ((b.1, c.1), c.2)
def whenP (F : Fm) (at_ : Int) (l : List Nat) (st : St) : Option ((Nat × Nat) × St) :=
  (body F at_ st (l.drop 2)).bind fun b => (bit b.2 at_ 0).bind fun c => some ((b.1, c.1), c.2)
def unlessP (F : Fm) (at_ : Int) (l : List Nat) (st : St) : Option ((Nat × Nat) × St) :=
  (bit st at_ 0).bind fun b => (body F at_ b.2 (l.drop 2)).bind fun c => some ((b.1, c.1), c.2)
theorem ifWays_split {F : Fm} {at_ : Int} {l : List Nat} {a : Nat} {st : St} {o : Nat × St} (h : ifWays F at_ l a st = some o) : ∃ y z st3, ifP F at_ l st = some ((y, z), st3) ∧ asks st3 at_ a y z = some o := by
  unfold ifWays at h; simp only [Option.bind_eq_some_iff] at h
  obtain ⟨⟨y, st2⟩, h1, ⟨z, st3⟩, h2, h3⟩ := h
  exact ⟨y, z, st3, by unfold ifP; simp only [Option.bind_eq_some_iff]; exact ⟨_, h1, _, h2, rfl⟩, h3⟩
theorem whenWays_split {F : Fm} {at_ : Int} {l : List Nat} {a : Nat} {st : St} {o : Nat × St} (h : whenWays F at_ l a st = some o) : ∃ y z st3, whenP F at_ l st = some ((y, z), st3) ∧ asks st3 at_ a y z = some o := by
  unfold whenWays at h; simp only [Option.bind_eq_some_iff] at h
  obtain ⟨⟨y, st2⟩, h1, ⟨z, st3⟩, h2, h3⟩ := h
  exact ⟨y, z, st3, by unfold whenP; simp only [Option.bind_eq_some_iff]; exact ⟨_, h1, _, h2, rfl⟩, h3⟩
theorem unlessWays_split {F : Fm} {at_ : Int} {l : List Nat} {a : Nat} {st : St} {o : Nat × St} (h : unlessWays F at_ l a st = some o) : ∃ y z st3, unlessP F at_ l st = some ((y, z), st3) ∧ asks st3 at_ a y z = some o := by
  unfold unlessWays at h; simp only [Option.bind_eq_some_iff] at h
  obtain ⟨⟨y, st2⟩, h1, ⟨z, st3⟩, h2, h3⟩ := h
  exact ⟨y, z, st3, by unfold unlessP; simp only [Option.bind_eq_some_iff]; exact ⟨_, h1, _, h2, rfl⟩, h3⟩
section
variable (p b off c : Nat) (d : List Node) (st : St) (L : List Atom) (S : Seal) (w : World)
set_option maxRecDepth 100000 in
set_option maxHeartbeats 2000000 in
theorem P_asked (F : Fm) (HF : OkP p b off c d F) (g : FuncId) (caps : Array Value) (hg : ∀ w, (callFunc g caps).run Try.prog w = .ok (.enter g caps) w) (i : Nat) (lo hi_ : Int) (x1 a y z r : Nat) (st1 st3 st' : St)
    (hX : PX p (dval b off c d) st L S w) (hE : Env S b off c d) (hi : i < d.length) (h1 : lo ≤ ((nd d i).l.length : Int)) (h2 : ((nd d i).l.length : Int) ≤ hi_) (hlen : 3 ≤ (nd d i).l.length) (hx1 : (nd d i).l[1]? = some x1)
    (hr1 : F st x1 = some (a, st1)) (Hd : ∀ S1 w1, S.le S1 → PX p (dval b off c d) st1 L S1 w1 → Calls Try.prog g caps w1 (Ret S1 (PX p (dval b off c d) st3 L) (.tuple #[nat y, nat z])))
    (hr : asks st3 (nd d i).at_ a y z = some (r, st')) :
    Calls Try.prog 73 #[ptr p, elem b off i, .int .i64 lo, .int .i64 hi_, .func (.func g) #[] caps] w (Ret S (PX p (dval b off c d) st' L) (nat r)) := by
  have X := PX.xs p (dval b off c d) st
  obtain ⟨lv, hN⟩ := hE.at_ i hi
  obtain ⟨b1, o1, c1, hlv, _, _, hcc⟩ := hN.l.at_ (by intro h; rw [h] at hlen; simp at hlen)
  subst hlv
  have e1 := X.cell hX hN.c1
  have e4 := X.cell hX hN.c4
  have e5 := X.cell hX (hcc 1 x1 hx1)
  have hi1 : x1 < d.length := by have := hE.dat.par i hi x1 (List.mem_of_getElem? hx1); omega
  have q1 : ¬ ((nd d i).l.length : Int) < lo := by omega
  have q2 : ¬ hi_ < ((nd d i).l.length : Int) := by omega
  have q3 : (1 : Int) < ((nd d i).l.length : Int) := by omega
  have HX := hid hX
  have HE := hid hE
  have HF := hid HF
  have HN := hid hN
  have Hr1 := hid hr1
  have Hr := hid hr
  have Hd := hid Hd
  clear hX hE hN hr1 hr hcc hx1 h1 h2
  go_enter Try.func73, Try.ntmps73
  go_wp2_with fail
  refine (HF.out st L S _ x1 a st1 HX.out HE.out hi1 Hr1.out).mono ?_
  rintro e w1 ⟨rfl, S1, k1, hX1⟩
  have HK1 := hid k1
  have HX1 := hid hX1
  clear k1 hX1
  go_wp2_with fail
  refine (Hd.out S1 _ HK1.out HX1.out).mono ?_
  rintro e w2 ⟨rfl, S2, k2, hX2⟩
  have X3 := PX.xs p (dval b off c d) st3
  have e1 := X3.cell hX2 ((HN.out.c1.mono HK1.out).mono k2)
  have HK2 := hid (HK1.out.trans k2)
  have HX2 := hid hX2
  clear k2 hX2 hg
  go_wp2_with fail
  refine (P_asks p st3 L S2 _ (dval b off c d) _ a y z r st' HX2.out Hr.out).mono ?_
  rintro e w3 ⟨rfl, S3, k3, hX3⟩
  go_wp2_with fail
  go_ret
  exact Ret.intro rfl (HK2.out.trans k3) hX3
set_option maxRecDepth 100000 in
set_option maxHeartbeats 2000000 in
theorem P_askedW (g : FuncId) (caps : Array Value) (i : Nat) (lo hi_ : Int) (r : Nat) (st' : St)
    (hX : PX p (dval b off c d) st L S w) (hE : Env S b off c d) (hi : i < d.length) (h1 : ((nd d i).l.length : Int) < lo ∨ lo ≤ ((nd d i).l.length : Int) ∧ hi_ < ((nd d i).l.length : Int))
    (hr : some (wrong d st i) = some (r, st')) :
    Calls Try.prog 73 #[ptr p, elem b off i, .int .i64 lo, .int .i64 hi_, .func (.func g) #[] caps] w (Ret S (PX p (dval b off c d) st' L) (nat r)) := by
  have X := PX.xs p (dval b off c d) st
  obtain ⟨lv, hN⟩ := hE.at_ i hi
  obtain ⟨A1, c1, hlv, _, _⟩ := Sl.shape hN.l
  subst hlv
  have e4 := X.cell hX hN.c4
  have HX := hid hX
  have HE := hid hE
  have Hr := hid hr
  clear hX hE hN hr
  rcases h1 with h1 | ⟨h1, h2⟩
  · go_enter Try.func73, Try.ntmps73
    go_wp2_with fail
    refine (P_wrongR p b off c d st L S _ i r st' HX.out HE.out hi Hr.out).mono ?_
    rintro e w1 ⟨rfl, S1, k1, hX1⟩
    go_wp2_with fail
    go_ret
    exact Ret.intro rfl k1 hX1
  · go_enter Try.func73, Try.ntmps73
    go_wp2_with fail
    refine (P_wrongR p b off c d st L S _ i r st' HX.out HE.out hi Hr.out).mono ?_
    rintro e w1 ⟨rfl, S1, k1, hX1⟩
    go_wp2_with fail
    go_ret
    exact Ret.intro rfl k1 hX1
structure Cap (S : Seal) (i bl bx bd : Nat) : Prop where
  hl : Sc S bl 0 (.int .i64 (((nd d i).l.length : Int) - 1))
  hx : Sc S bx 0 (ptr p)
  hd : Sc S bd 0 (elem b off i)
theorem Cap.mono {p b off : Nat} {d : List Node} {S S' : Seal} (k : S.le S') {i bl bx bd : Nat} (h : Cap p b off d S i bl bx bd) : Cap p b off d S' i bl bx bd := ⟨h.hl.mono k, h.hx.mono k, h.hd.mono k⟩
set_option maxRecDepth 100000 in
set_option maxHeartbeats 4000000 in
theorem P_if1 (F : Fm) (HF : OkP p b off c d F) (i bl bx bd : Nat) (y0 z0 : Nat) (st0 : St) (hX : PX p (dval b off c d) st L S w) (hE : Env S b off c d) (hC : Cap p b off d S i bl bx bd) (hi : i < d.length) (hlen : 3 ≤ (nd d i).l.length)
    (hr : ifP F (nd d i).at_ (nd d i).l st = some ((y0, z0), st0)) :
    Calls Try.prog 74 #[ptr bx, ptr bd, ptr bl] w (Ret S (PX p (dval b off c d) st0 L) (.tuple #[nat y0, nat z0])) := by
  have X := PX.xs p (dval b off c d) st
  obtain ⟨lv, hN⟩ := hE.at_ i hi
  obtain ⟨b1, o1, c1, hlv, h1, _, hcc⟩ := hN.l.at_ (by intro h; rw [h] at hlen; simp at hlen)
  subst hlv
  have HX := hid hX
  have HE := hid hE
  have HF := hid HF
  have HN := hid hN
  have HC := hid hC
  have Hcc := hid hcc
  have Hinl : Hid (∀ j ∈ (nd d i).l, j < d.length) := hid fun j hj => by have := hE.dat.par i hi j hj; omega
  unfold ifP at hr
  simp only [Option.bind_eq_some_iff] at hr
  obtain ⟨⟨y, st2⟩, hr1, ⟨z, st3⟩, hr2, hr3⟩ := hr
  cases hr3
  obtain ⟨x2, hx2⟩ : ∃ x2, (nd d i).l[2]? = some x2 := ⟨_, List.getElem?_eq_some_iff.2 ⟨by omega, rfl⟩⟩
  have hg2 : (nd d i).l.getD 2 0 = x2 := by rw [List.getD_eq_getElem?_getD, hx2]; rfl
  have hi2 := Hinl.out x2 (List.mem_of_getElem? hx2)
  rw [hg2] at hr1
  have Hx2 := hid (hcc 2 x2 hx2)
  have q2 : (2 : Int) < ((nd d i).l.length : Int) := by omega
  have Hr1 := hid hr1
  have e1 := X.cell hX hC.hx
  have e2 := X.cell hX hC.hd
  have e3 := X.cell hX hN.c4
  have e4 := X.cell hX Hx2.out
  by_cases h4 : (nd d i).l.length = 4
  · rw [if_pos h4] at hr2
    obtain ⟨x3, hx3⟩ : ∃ x3, (nd d i).l[3]? = some x3 := ⟨_, List.getElem?_eq_some_iff.2 ⟨by omega, rfl⟩⟩
    have hg3 : (nd d i).l.getD 3 0 = x3 := by rw [List.getD_eq_getElem?_getD, hx3]; rfl
    have hi3 := Hinl.out x3 (List.mem_of_getElem? hx3)
    rw [hg3] at hr2
    have Hx3 := hid (hcc 3 x3 hx3)
    have q3 : (3 : Int) < ((nd d i).l.length : Int) := by omega
    have q5 : (((nd d i).l.length : Int) - 1 == 3) = true := by rw [h4]; rfl
    have Hr2 := hid hr2
    clear hX hE hN hC hcc hr1 hr2 hx2 hg2 hx3 hg3 h4
    go_enter Try.func74, Try.ntmps74
    go_wp2_with fail
    refine wp_plan 7 (.take 0 (.take 1 (.take 2 (.take 3 (.take 4 (.take 5 (.take 6 .fin))))))) (fun w_ => w_ = _) (by kernel_rfl) (by kernel_rfl) (fun _ _ d_ _ _ h_ => by cases d_ <;> exact h_) rfl ?_
    refine Pl.takeW rfl rfl ?v1 ?hy1 ?rest1
    case hy1 => intro w_ hS_; subst hS_; first | (go_simp; done) | (go_simp; with_reducible rfl)
    simp only [Act.put, List.setIfInBounds_toArray, List.set_cons_zero, List.set_cons_succ]
    refine Pl.takeW rfl rfl ?v2 ?hy2 ?rest2
    case hy2 => intro w_ hS_; subst hS_; first | (go_simp; done) | (go_simp; with_reducible rfl)
    simp only [Act.put, List.setIfInBounds_toArray, List.set_cons_zero, List.set_cons_succ]
    refine Pl.takeW rfl rfl ?v3 ?hy3 ?rest3
    case hy3 => intro w_ _; first | (go_simp; done) | (go_simp; with_reducible rfl)
    simp only [Act.put, List.setIfInBounds_toArray, List.set_cons_zero, List.set_cons_succ]
    refine Pl.takeW rfl rfl ?v4 ?hy4 ?rest4
    case hy4 => intro w_ _; first | (go_simp; done) | (go_simp; with_reducible rfl)
    simp only [Act.put, List.setIfInBounds_toArray, List.set_cons_zero, List.set_cons_succ]
    refine Pl.takeW rfl rfl ?v5 ?hy5 ?rest5
    case hy5 => intro w_ hS_; subst hS_; first | (go_simp; done) | (go_simp; with_reducible rfl)
    simp only [Act.put, List.setIfInBounds_toArray, List.set_cons_zero, List.set_cons_succ]
    refine Pl.takeW rfl rfl ?v6 ?hy6 ?rest6
    case hy6 => intro w_ _; first | (go_simp; done) | (go_simp; with_reducible rfl)
    simp only [Act.put, List.setIfInBounds_toArray, List.set_cons_zero, List.set_cons_succ]
    refine Pl.takeW rfl rfl ?v7 ?hy7 ?rest7
    case hy7 => intro w_ hS_; subst hS_; first | (go_simp; done) | (go_simp; with_reducible rfl)
    simp only [Act.put, List.setIfInBounds_toArray, List.set_cons_zero, List.set_cons_succ]
    show wpList _ _ _ _ _ _
    simp only [List.drop_succ_cons, List.drop_zero]
    go_wp2_with fail
    refine (HF.out st L S _ x2 y st2 (X.drew HX.out) HE.out hi2 Hr1.out).mono ?_
    rintro e w1 ⟨rfl, S1, k1, hX1⟩
    have X2 := PX.xs p (dval b off c d) st2
    have HX1 := hid hX1
    have HK1 := hid k1
    have f1 := X2.cell hX1 (HC.out.hl.mono k1)
    clear e1 e2 e3 e4 hX1 k1
    go_wp2_with fail
    clear f1
    refine wp_plan 9 (.take 0 (.take 1 (.take 2 (.take 3 (.take 4 (.take 5 (.take 6 (.take 7 (.one 8 .fin))))))))) (fun w' => w'.cell? ⟨bx, 0, none⟩ = some (ptr p) ∧ w'.cell? ⟨bd, 0, none⟩ = some (elem b off i) ∧ w'.cell? ⟨b, off + i * 5 + 4, none⟩ = some (.slice (some ⟨b1, o1, none⟩) (nd d i).l.length c1) ∧ w'.cell? ⟨b1, o1 + 3, none⟩ = some (nat x3)) (by kernel_rfl) (by kernel_rfl) (fun _ _ d_ _ _ h_ => by cases d_ <;> exact h_) (⟨X2.cell (X2.drew HX1.out) (HC.out.hx.mono HK1.out), X2.cell (X2.drew HX1.out) (HC.out.hd.mono HK1.out), X2.cell (X2.drew HX1.out) (HN.out.c4.mono HK1.out), X2.cell (X2.drew HX1.out) (Hx3.out.mono HK1.out)⟩) ?_
    refine Pl.takeW rfl rfl ?v8 ?hy8 ?rest8
    case hy8 => intro w_ _; first | (go_simp; done) | (go_simp; with_reducible rfl)
    simp only [Act.put, List.setIfInBounds_toArray, List.set_cons_zero, List.set_cons_succ]
    refine Pl.takeW rfl rfl ?v9 ?hy9 ?rest9
    case hy9 => intro w_ hS_; obtain ⟨f_x1, f_d1, f_e41, f_l3⟩ := hS_; first | (go_simp; done) | (go_simp; with_reducible rfl)
    simp only [Act.put, List.setIfInBounds_toArray, List.set_cons_zero, List.set_cons_succ]
    refine Pl.takeW rfl rfl ?v10 ?hy10 ?rest10
    case hy10 => intro w_ hS_; obtain ⟨f_x1, f_d1, f_e41, f_l3⟩ := hS_; first | (go_simp; done) | (go_simp; with_reducible rfl)
    simp only [Act.put, List.setIfInBounds_toArray, List.set_cons_zero, List.set_cons_succ]
    refine Pl.takeW rfl rfl ?v11 ?hy11 ?rest11
    case hy11 => intro w_ _; first | (go_simp; done) | (go_simp; with_reducible rfl)
    simp only [Act.put, List.setIfInBounds_toArray, List.set_cons_zero, List.set_cons_succ]
    refine Pl.takeW rfl rfl ?v12 ?hy12 ?rest12
    case hy12 => intro w_ _; first | (go_simp; done) | (go_simp; with_reducible rfl)
    simp only [Act.put, List.setIfInBounds_toArray, List.set_cons_zero, List.set_cons_succ]
    refine Pl.takeW rfl rfl ?v13 ?hy13 ?rest13
    case hy13 => intro w_ hS_; obtain ⟨f_x1, f_d1, f_e41, f_l3⟩ := hS_; first | (go_simp; done) | (go_simp; with_reducible rfl)
    simp only [Act.put, List.setIfInBounds_toArray, List.set_cons_zero, List.set_cons_succ]
    refine Pl.takeW rfl rfl ?v14 ?hy14 ?rest14
    case hy14 => intro w_ _; first | (go_simp; done) | (go_simp; with_reducible rfl)
    simp only [Act.put, List.setIfInBounds_toArray, List.set_cons_zero, List.set_cons_succ]
    refine Pl.takeW rfl rfl ?v15 ?hy15 ?rest15
    case hy15 => intro w_ hS_; obtain ⟨f_x1, f_d1, f_e41, f_l3⟩ := hS_; first | (go_simp; done) | (go_simp; with_reducible rfl)
    simp only [Act.put, List.setIfInBounds_toArray, List.set_cons_zero, List.set_cons_succ]
    refine Pl.oneW rfl rfl (fun K_ hK_ => ?_)
    go_simp
    refine (HF.out st2 L S1 _ x3 z st3 (X2.drew HX1.out) (HE.out.mono HK1.out) hi3 Hr2.out).mono ?_
    rintro e w2 ⟨rfl, S2, k2, hX2⟩
    have X3 := PX.xs p (dval b off c d) st3
    refine hK_ _ _ ⟨X3.cell hX2 ((HC.out.hx.mono HK1.out).mono (k2)), X3.cell hX2 ((HC.out.hd.mono HK1.out).mono (k2)), X3.cell hX2 ((HN.out.c4.mono HK1.out).mono (k2)), X3.cell hX2 ((Hx3.out.mono HK1.out).mono (k2))⟩ ?_
    show wpList _ _ _ _ _ _
    simp only [List.drop_succ_cons, List.drop_zero]
    go_wp2_with fail
    go_ret2
    exact Ret.intro (by simp) (HK1.out.trans k2) hX2
  · rw [if_neg h4] at hr2
    have q5 : (((nd d i).l.length : Int) - 1 == 3) = false := by rw [beq_eq_false_iff_ne]; omega
    have Hr2 := hid hr2
    clear hX hE hN hC hcc hr1 hr2 hx2 hg2 h4
    go_enter Try.func74, Try.ntmps74
    go_wp2_with fail
    refine wp_plan 7 (.take 0 (.take 1 (.take 2 (.take 3 (.take 4 (.take 5 (.take 6 .fin))))))) (fun w_ => w_ = _) (by kernel_rfl) (by kernel_rfl) (fun _ _ d_ _ _ h_ => by cases d_ <;> exact h_) rfl ?_
    refine Pl.takeW rfl rfl ?v16 ?hy16 ?rest16
    case hy16 => intro w_ hS_; subst hS_; first | (go_simp; done) | (go_simp; with_reducible rfl)
    simp only [Act.put, List.setIfInBounds_toArray, List.set_cons_zero, List.set_cons_succ]
    refine Pl.takeW rfl rfl ?v17 ?hy17 ?rest17
    case hy17 => intro w_ hS_; subst hS_; first | (go_simp; done) | (go_simp; with_reducible rfl)
    simp only [Act.put, List.setIfInBounds_toArray, List.set_cons_zero, List.set_cons_succ]
    refine Pl.takeW rfl rfl ?v18 ?hy18 ?rest18
    case hy18 => intro w_ _; first | (go_simp; done) | (go_simp; with_reducible rfl)
    simp only [Act.put, List.setIfInBounds_toArray, List.set_cons_zero, List.set_cons_succ]
    refine Pl.takeW rfl rfl ?v19 ?hy19 ?rest19
    case hy19 => intro w_ _; first | (go_simp; done) | (go_simp; with_reducible rfl)
    simp only [Act.put, List.setIfInBounds_toArray, List.set_cons_zero, List.set_cons_succ]
    refine Pl.takeW rfl rfl ?v20 ?hy20 ?rest20
    case hy20 => intro w_ hS_; subst hS_; first | (go_simp; done) | (go_simp; with_reducible rfl)
    simp only [Act.put, List.setIfInBounds_toArray, List.set_cons_zero, List.set_cons_succ]
    refine Pl.takeW rfl rfl ?v21 ?hy21 ?rest21
    case hy21 => intro w_ _; first | (go_simp; done) | (go_simp; with_reducible rfl)
    simp only [Act.put, List.setIfInBounds_toArray, List.set_cons_zero, List.set_cons_succ]
    refine Pl.takeW rfl rfl ?v22 ?hy22 ?rest22
    case hy22 => intro w_ hS_; subst hS_; first | (go_simp; done) | (go_simp; with_reducible rfl)
    simp only [Act.put, List.setIfInBounds_toArray, List.set_cons_zero, List.set_cons_succ]
    show wpList _ _ _ _ _ _
    simp only [List.drop_succ_cons, List.drop_zero]
    go_wp2_with fail
    refine (HF.out st L S _ x2 y st2 (X.drew HX.out) HE.out hi2 Hr1.out).mono ?_
    rintro e w1 ⟨rfl, S1, k1, hX1⟩
    have X2 := PX.xs p (dval b off c d) st2
    have HX1 := hid hX1
    have HK1 := hid k1
    have f1 := X2.cell hX1 (HC.out.hl.mono k1)
    clear e1 e2 e3 e4 hX1 k1
    go_wp2_with fail
    clear f1
    refine wp_plan 7 (.take 0 (.take 1 (.take 2 (.take 3 (.take 4 (.take 5 (.one 6 .fin))))))) (fun w' => w'.cell? ⟨bx, 0, none⟩ = some (ptr p) ∧ w'.cell? ⟨bd, 0, none⟩ = some (elem b off i) ∧ w'.cell? ⟨b, off + i * 5 + 1, none⟩ = some (.int .i64 (nd d i).at_)) (by kernel_rfl) (by kernel_rfl) (fun _ _ d_ _ _ h_ => by cases d_ <;> exact h_) (⟨X2.cell (X2.drew HX1.out) (HC.out.hx.mono HK1.out), X2.cell (X2.drew HX1.out) (HC.out.hd.mono HK1.out), X2.cell (X2.drew HX1.out) (HN.out.c1.mono HK1.out)⟩) ?_
    refine Pl.takeW rfl rfl ?v23 ?hy23 ?rest23
    case hy23 => intro w_ _; first | (go_simp; done) | (go_simp; with_reducible rfl)
    simp only [Act.put, List.setIfInBounds_toArray, List.set_cons_zero, List.set_cons_succ]
    refine Pl.takeW rfl rfl ?v24 ?hy24 ?rest24
    case hy24 => intro w_ hS_; obtain ⟨f_x1, f_d1, f_e11⟩ := hS_; first | (go_simp; done) | (go_simp; with_reducible rfl)
    simp only [Act.put, List.setIfInBounds_toArray, List.set_cons_zero, List.set_cons_succ]
    refine Pl.takeW rfl rfl ?v25 ?hy25 ?rest25
    case hy25 => intro w_ hS_; obtain ⟨f_x1, f_d1, f_e11⟩ := hS_; first | (go_simp; done) | (go_simp; with_reducible rfl)
    simp only [Act.put, List.setIfInBounds_toArray, List.set_cons_zero, List.set_cons_succ]
    refine Pl.takeW rfl rfl ?v26 ?hy26 ?rest26
    case hy26 => intro w_ _; first | (go_simp; done) | (go_simp; with_reducible rfl)
    simp only [Act.put, List.setIfInBounds_toArray, List.set_cons_zero, List.set_cons_succ]
    refine Pl.takeW rfl rfl ?v27 ?hy27 ?rest27
    case hy27 => intro w_ _; first | (go_simp; done) | (go_simp; with_reducible rfl)
    simp only [Act.put, List.setIfInBounds_toArray, List.set_cons_zero, List.set_cons_succ]
    refine Pl.takeW rfl rfl ?v28 ?hy28 ?rest28
    case hy28 => intro w_ hS_; obtain ⟨f_x1, f_d1, f_e11⟩ := hS_; first | (go_simp; done) | (go_simp; with_reducible rfl)
    simp only [Act.put, List.setIfInBounds_toArray, List.set_cons_zero, List.set_cons_succ]
    refine Pl.oneW rfl rfl (fun K_ hK_ => ?_)
    go_simp
    refine (P_truth p st2 L S1 _ (dval b off c d) _ 0 z st3 (X2.drew HX1.out) Hr2.out).mono ?_
    rintro e w2 ⟨rfl, S2, k2, hX2⟩
    have X3 := PX.xs p (dval b off c d) st3
    refine hK_ _ _ ⟨X3.cell hX2 ((HC.out.hx.mono HK1.out).mono (k2)), X3.cell hX2 ((HC.out.hd.mono HK1.out).mono (k2)), X3.cell hX2 ((HN.out.c1.mono HK1.out).mono (k2))⟩ ?_
    show wpList _ _ _ _ _ _
    simp only [List.drop_succ_cons, List.drop_zero]
    go_wp2_with fail
    go_ret2
    exact Ret.intro (by simp) (HK1.out.trans k2) hX2
set_option maxRecDepth 100000 in
set_option maxHeartbeats 4000000 in
theorem P_when1 (F : Fm) (HF : OkP p b off c d F) (i bl bx bd : Nat) (y0 z0 : Nat) (st0 : St) (hX : PX p (dval b off c d) st L S w) (hE : Env S b off c d) (hC : Cap p b off d S i bl bx bd) (hi : i < d.length) (hlen : 3 ≤ (nd d i).l.length)
    (hr : whenP F (nd d i).at_ (nd d i).l st = some ((y0, z0), st0)) :
    Calls Try.prog 76 #[ptr bx, ptr bd] w (Ret S (PX p (dval b off c d) st0 L) (.tuple #[nat y0, nat z0])) := by
  have X := PX.xs p (dval b off c d) st
  obtain ⟨lv, hN⟩ := hE.at_ i hi
  obtain ⟨b1, o1, c1, hlv, h1, _, hcc⟩ := hN.l.at_ (by intro h; rw [h] at hlen; simp at hlen)
  subst hlv
  have HX := hid hX
  have HE := hid hE
  have HF := hid HF
  have HN := hid hN
  have HC := hid hC
  have Hcc := hid hcc
  have Hinl : Hid (∀ j ∈ (nd d i).l, j < d.length) := hid fun j hj => by have := hE.dat.par i hi j hj; omega
  unfold whenP at hr
  simp only [Option.bind_eq_some_iff] at hr
  obtain ⟨⟨y, st2⟩, hr1, ⟨z, st3⟩, hr2, hr3⟩ := hr
  cases hr3
  have hc : ¬ c1 = 2 := by omega
  have hlI : (2 : Int) ≤ ((nd d i).l.length : Int) := by omega
  have Hl := hid (hN.l.drop (k := 2) (by omega) (by omega))
  have Hin2 : Hid (∀ j ∈ (nd d i).l.drop 2, j < d.length) := hid fun j hj => Hinl.out j (List.mem_of_mem_drop hj)
  have Hll : Hid (((nd d i).l.drop 2).length ≤ 1099511627776) := hid (by have := hE.dat.ll i hi; simp; omega)
  have e1 := X.cell hX hC.hx
  have e2 := X.cell hX hC.hd
  have e3 := X.cell hX hN.c4
  have e4 := X.cell hX hN.c1
  have Hr1 := hid hr1
  have Hr2 := hid hr2
  clear hX hE hN hC hcc hr1 hr2
  go_enter Try.func76, Try.ntmps76
  go_wp2_with fail
  refine wp_plan 10 (.take 0 (.take 1 (.take 2 (.take 3 (.take 4 (.take 5 (.take 6 (.take 7 (.take 8 (.take 9 .fin)))))))))) (fun w_ => w_ = _) (by kernel_rfl) (by kernel_rfl) (fun _ _ d_ _ _ h_ => by cases d_ <;> exact h_) rfl ?_
  refine Pl.takeW rfl rfl ?v29 ?hy29 ?rest29
  case hy29 => intro w_ hS_; subst hS_; first | (go_simp; done) | (go_simp; with_reducible rfl)
  simp only [Act.put, List.setIfInBounds_toArray, List.set_cons_zero, List.set_cons_succ]
  refine Pl.takeW rfl rfl ?v30 ?hy30 ?rest30
  case hy30 => intro w_ hS_; subst hS_; first | (go_simp; done) | (go_simp; with_reducible rfl)
  simp only [Act.put, List.setIfInBounds_toArray, List.set_cons_zero, List.set_cons_succ]
  refine Pl.takeW rfl rfl ?v31 ?hy31 ?rest31
  case hy31 => intro w_ _; first | (go_simp; done) | (go_simp; with_reducible rfl)
  simp only [Act.put, List.setIfInBounds_toArray, List.set_cons_zero, List.set_cons_succ]
  refine Pl.takeW rfl rfl ?v32 ?hy32 ?rest32
  case hy32 => intro w_ _; first | (go_simp; done) | (go_simp; with_reducible rfl)
  simp only [Act.put, List.setIfInBounds_toArray, List.set_cons_zero, List.set_cons_succ]
  refine Pl.takeW rfl rfl ?v33 ?hy33 ?rest33
  case hy33 => intro w_ hS_; subst hS_; first | (go_simp; done) | (go_simp; with_reducible rfl)
  simp only [Act.put, List.setIfInBounds_toArray, List.set_cons_zero, List.set_cons_succ]
  refine Pl.takeW rfl rfl ?v34 ?hy34 ?rest34
  case hy34 => intro w_ hS_; subst hS_; first | (go_simp; done) | (go_simp; with_reducible rfl)
  simp only [Act.put, List.setIfInBounds_toArray, List.set_cons_zero, List.set_cons_succ]
  refine Pl.takeW rfl rfl ?v35 ?hy35 ?rest35
  case hy35 => intro w_ _; first | (go_simp; done) | (go_simp; with_reducible rfl)
  simp only [Act.put, List.setIfInBounds_toArray, List.set_cons_zero, List.set_cons_succ]
  refine Pl.takeW rfl rfl ?v36 ?hy36 ?rest36
  case hy36 => intro w_ _; first | (go_simp; done) | (go_simp; with_reducible rfl)
  simp only [Act.put, List.setIfInBounds_toArray, List.set_cons_zero, List.set_cons_succ]
  refine Pl.takeW rfl rfl ?v37 ?hy37 ?rest37
  case hy37 => intro w_ hS_; subst hS_; first | (go_simp; done) | (go_simp; with_reducible rfl)
  simp only [Act.put, List.setIfInBounds_toArray, List.set_cons_zero, List.set_cons_succ]
  refine Pl.takeW rfl rfl ?v38 ?hy38 ?rest38
  case hy38 => intro w_ _; first | (go_simp; done) | (go_simp; with_reducible rfl)
  simp only [Act.put, List.setIfInBounds_toArray, List.set_cons_zero, List.set_cons_succ]
  show wpList _ _ _ _ _ _
  simp only [List.drop_succ_cons, List.drop_zero]
  go_wp2_with fail
  refine (P_body p b off c d st L S _ F HF.out _ _ _ y st2 (X.drew HX.out) HE.out Hl.out Hin2.out Hll.out Hr1.out).mono ?_
  rintro e w1 ⟨rfl, S1, k1, hX1⟩
  have X2 := PX.xs p (dval b off c d) st2
  have HX1 := hid hX1
  have HK1 := hid k1
  clear e1 e2 e3 e4 hX1 k1
  go_wp2_with fail
  refine wp_plan 7 (.take 0 (.take 1 (.take 2 (.take 3 (.take 4 (.take 5 (.one 6 .fin))))))) (fun w' => w'.cell? ⟨bx, 0, none⟩ = some (ptr p) ∧ w'.cell? ⟨bd, 0, none⟩ = some (elem b off i) ∧ w'.cell? ⟨b, off + i * 5 + 1, none⟩ = some (.int .i64 (nd d i).at_)) (by kernel_rfl) (by kernel_rfl) (fun _ _ d_ _ _ h_ => by cases d_ <;> exact h_) (⟨X2.cell (X2.drew HX1.out) (HC.out.hx.mono HK1.out), X2.cell (X2.drew HX1.out) (HC.out.hd.mono HK1.out), X2.cell (X2.drew HX1.out) (HN.out.c1.mono HK1.out)⟩) ?_
  refine Pl.takeW rfl rfl ?v39 ?hy39 ?rest39
  case hy39 => intro w_ _; first | (go_simp; done) | (go_simp; with_reducible rfl)
  simp only [Act.put, List.setIfInBounds_toArray, List.set_cons_zero, List.set_cons_succ]
  refine Pl.takeW rfl rfl ?v40 ?hy40 ?rest40
  case hy40 => intro w_ hS_; obtain ⟨f_x1, f_d1, f_e11⟩ := hS_; first | (go_simp; done) | (go_simp; with_reducible rfl)
  simp only [Act.put, List.setIfInBounds_toArray, List.set_cons_zero, List.set_cons_succ]
  refine Pl.takeW rfl rfl ?v41 ?hy41 ?rest41
  case hy41 => intro w_ hS_; obtain ⟨f_x1, f_d1, f_e11⟩ := hS_; first | (go_simp; done) | (go_simp; with_reducible rfl)
  simp only [Act.put, List.setIfInBounds_toArray, List.set_cons_zero, List.set_cons_succ]
  refine Pl.takeW rfl rfl ?v42 ?hy42 ?rest42
  case hy42 => intro w_ _; first | (go_simp; done) | (go_simp; with_reducible rfl)
  simp only [Act.put, List.setIfInBounds_toArray, List.set_cons_zero, List.set_cons_succ]
  refine Pl.takeW rfl rfl ?v43 ?hy43 ?rest43
  case hy43 => intro w_ _; first | (go_simp; done) | (go_simp; with_reducible rfl)
  simp only [Act.put, List.setIfInBounds_toArray, List.set_cons_zero, List.set_cons_succ]
  refine Pl.takeW rfl rfl ?v44 ?hy44 ?rest44
  case hy44 => intro w_ hS_; obtain ⟨f_x1, f_d1, f_e11⟩ := hS_; first | (go_simp; done) | (go_simp; with_reducible rfl)
  simp only [Act.put, List.setIfInBounds_toArray, List.set_cons_zero, List.set_cons_succ]
  refine Pl.oneW rfl rfl (fun K_ hK_ => ?_)
  go_simp
  refine (P_truth p st2 L S1 _ (dval b off c d) _ 0 z st3 (X2.drew HX1.out) Hr2.out).mono ?_
  rintro e w2 ⟨rfl, S2, k2, hX2⟩
  have X3 := PX.xs p (dval b off c d) st3
  refine hK_ _ _ ⟨X3.cell hX2 ((HC.out.hx.mono HK1.out).mono (k2)), X3.cell hX2 ((HC.out.hd.mono HK1.out).mono (k2)), X3.cell hX2 ((HN.out.c1.mono HK1.out).mono (k2))⟩ ?_
  show wpList _ _ _ _ _ _
  simp only [List.drop_succ_cons, List.drop_zero]
  go_wp2_with fail
  go_ret2
  exact Ret.intro (by simp) (HK1.out.trans k2) hX2
set_option maxRecDepth 100000 in
set_option maxHeartbeats 4000000 in
theorem P_unless1 (F : Fm) (HF : OkP p b off c d F) (i bl bx bd : Nat) (y0 z0 : Nat) (st0 : St) (hX : PX p (dval b off c d) st L S w) (hE : Env S b off c d) (hC : Cap p b off d S i bl bx bd) (hi : i < d.length) (hlen : 3 ≤ (nd d i).l.length)
    (hr : unlessP F (nd d i).at_ (nd d i).l st = some ((y0, z0), st0)) :
    Calls Try.prog 78 #[ptr bx, ptr bd] w (Ret S (PX p (dval b off c d) st0 L) (.tuple #[nat y0, nat z0])) := by
  have X := PX.xs p (dval b off c d) st
  obtain ⟨lv, hN⟩ := hE.at_ i hi
  obtain ⟨b1, o1, c1, hlv, h1, _, hcc⟩ := hN.l.at_ (by intro h; rw [h] at hlen; simp at hlen)
  subst hlv
  have HX := hid hX
  have HE := hid hE
  have HF := hid HF
  have HN := hid hN
  have HC := hid hC
  have Hcc := hid hcc
  have Hinl : Hid (∀ j ∈ (nd d i).l, j < d.length) := hid fun j hj => by have := hE.dat.par i hi j hj; omega
  unfold unlessP at hr
  simp only [Option.bind_eq_some_iff] at hr
  obtain ⟨⟨y, st2⟩, hr1, ⟨z, st3⟩, hr2, hr3⟩ := hr
  cases hr3
  have hc : ¬ c1 = 2 := by omega
  have hlI : (2 : Int) ≤ ((nd d i).l.length : Int) := by omega
  have Hl := hid (hN.l.drop (k := 2) (by omega) (by omega))
  have Hin2 : Hid (∀ j ∈ (nd d i).l.drop 2, j < d.length) := hid fun j hj => Hinl.out j (List.mem_of_mem_drop hj)
  have Hll : Hid (((nd d i).l.drop 2).length ≤ 1099511627776) := hid (by have := hE.dat.ll i hi; simp; omega)
  have e1 := X.cell hX hC.hx
  have e2 := X.cell hX hC.hd
  have e4 := X.cell hX hN.c1
  have Hr1 := hid hr1
  have Hr2 := hid hr2
  clear hX hE hN hC hcc hr1 hr2
  go_enter Try.func78, Try.ntmps78
  go_wp2_with fail
  refine wp_plan 5 (.take 0 (.take 1 (.take 2 (.take 3 (.take 4 .fin))))) (fun w_ => w_ = _) (by kernel_rfl) (by kernel_rfl) (fun _ _ d_ _ _ h_ => by cases d_ <;> exact h_) rfl ?_
  refine Pl.takeW rfl rfl ?v45 ?hy45 ?rest45
  case hy45 => intro w_ hS_; subst hS_; first | (go_simp; done) | (go_simp; with_reducible rfl)
  simp only [Act.put, List.setIfInBounds_toArray, List.set_cons_zero, List.set_cons_succ]
  refine Pl.takeW rfl rfl ?v46 ?hy46 ?rest46
  case hy46 => intro w_ hS_; subst hS_; first | (go_simp; done) | (go_simp; with_reducible rfl)
  simp only [Act.put, List.setIfInBounds_toArray, List.set_cons_zero, List.set_cons_succ]
  refine Pl.takeW rfl rfl ?v47 ?hy47 ?rest47
  case hy47 => intro w_ _; first | (go_simp; done) | (go_simp; with_reducible rfl)
  simp only [Act.put, List.setIfInBounds_toArray, List.set_cons_zero, List.set_cons_succ]
  refine Pl.takeW rfl rfl ?v48 ?hy48 ?rest48
  case hy48 => intro w_ _; first | (go_simp; done) | (go_simp; with_reducible rfl)
  simp only [Act.put, List.setIfInBounds_toArray, List.set_cons_zero, List.set_cons_succ]
  refine Pl.takeW rfl rfl ?v49 ?hy49 ?rest49
  case hy49 => intro w_ hS_; subst hS_; first | (go_simp; done) | (go_simp; with_reducible rfl)
  simp only [Act.put, List.setIfInBounds_toArray, List.set_cons_zero, List.set_cons_succ]
  show wpList _ _ _ _ _ _
  simp only [List.drop_succ_cons, List.drop_zero]
  go_wp2_with fail
  refine (P_truth p st L S _ (dval b off c d) _ 0 y st2 (X.drew HX.out) Hr1.out).mono ?_
  rintro e w1 ⟨rfl, S1, k1, hX1⟩
  have X2 := PX.xs p (dval b off c d) st2
  have HX1 := hid hX1
  have HK1 := hid k1
  clear e1 e2 e4 hX1 k1
  go_wp2_with fail
  refine wp_plan 12 (.take 0 (.take 1 (.take 2 (.take 3 (.take 4 (.take 5 (.take 6 (.take 7 (.take 8 (.take 9 (.take 10 (.one 11 .fin)))))))))))) (fun w' => w'.cell? ⟨bx, 0, none⟩ = some (ptr p) ∧ w'.cell? ⟨bd, 0, none⟩ = some (elem b off i) ∧ w'.cell? ⟨b, off + i * 5 + 1, none⟩ = some (.int .i64 (nd d i).at_) ∧ w'.cell? ⟨b, off + i * 5 + 4, none⟩ = some (.slice (some ⟨b1, o1, none⟩) (nd d i).l.length c1)) (by kernel_rfl) (by kernel_rfl) (fun _ _ d_ _ _ h_ => by cases d_ <;> exact h_) (⟨X2.cell (X2.drew HX1.out) (HC.out.hx.mono HK1.out), X2.cell (X2.drew HX1.out) (HC.out.hd.mono HK1.out), X2.cell (X2.drew HX1.out) (HN.out.c1.mono HK1.out), X2.cell (X2.drew HX1.out) (HN.out.c4.mono HK1.out)⟩) ?_
  refine Pl.takeW rfl rfl ?v50 ?hy50 ?rest50
  case hy50 => intro w_ _; first | (go_simp; done) | (go_simp; with_reducible rfl)
  simp only [Act.put, List.setIfInBounds_toArray, List.set_cons_zero, List.set_cons_succ]
  refine Pl.takeW rfl rfl ?v51 ?hy51 ?rest51
  case hy51 => intro w_ hS_; obtain ⟨f_x1, f_d1, f_e11, f_e41⟩ := hS_; first | (go_simp; done) | (go_simp; with_reducible rfl)
  simp only [Act.put, List.setIfInBounds_toArray, List.set_cons_zero, List.set_cons_succ]
  refine Pl.takeW rfl rfl ?v52 ?hy52 ?rest52
  case hy52 => intro w_ hS_; obtain ⟨f_x1, f_d1, f_e11, f_e41⟩ := hS_; first | (go_simp; done) | (go_simp; with_reducible rfl)
  simp only [Act.put, List.setIfInBounds_toArray, List.set_cons_zero, List.set_cons_succ]
  refine Pl.takeW rfl rfl ?v53 ?hy53 ?rest53
  case hy53 => intro w_ _; first | (go_simp; done) | (go_simp; with_reducible rfl)
  simp only [Act.put, List.setIfInBounds_toArray, List.set_cons_zero, List.set_cons_succ]
  refine Pl.takeW rfl rfl ?v54 ?hy54 ?rest54
  case hy54 => intro w_ _; first | (go_simp; done) | (go_simp; with_reducible rfl)
  simp only [Act.put, List.setIfInBounds_toArray, List.set_cons_zero, List.set_cons_succ]
  refine Pl.takeW rfl rfl ?v55 ?hy55 ?rest55
  case hy55 => intro w_ hS_; obtain ⟨f_x1, f_d1, f_e11, f_e41⟩ := hS_; first | (go_simp; done) | (go_simp; with_reducible rfl)
  simp only [Act.put, List.setIfInBounds_toArray, List.set_cons_zero, List.set_cons_succ]
  refine Pl.takeW rfl rfl ?v56 ?hy56 ?rest56
  case hy56 => intro w_ hS_; obtain ⟨f_x1, f_d1, f_e11, f_e41⟩ := hS_; first | (go_simp; done) | (go_simp; with_reducible rfl)
  simp only [Act.put, List.setIfInBounds_toArray, List.set_cons_zero, List.set_cons_succ]
  refine Pl.takeW rfl rfl ?v57 ?hy57 ?rest57
  case hy57 => intro w_ _; first | (go_simp; done) | (go_simp; with_reducible rfl)
  simp only [Act.put, List.setIfInBounds_toArray, List.set_cons_zero, List.set_cons_succ]
  refine Pl.takeW rfl rfl ?v58 ?hy58 ?rest58
  case hy58 => intro w_ _; first | (go_simp; done) | (go_simp; with_reducible rfl)
  simp only [Act.put, List.setIfInBounds_toArray, List.set_cons_zero, List.set_cons_succ]
  refine Pl.takeW rfl rfl ?v59 ?hy59 ?rest59
  case hy59 => intro w_ hS_; obtain ⟨f_x1, f_d1, f_e11, f_e41⟩ := hS_; first | (go_simp; done) | (go_simp; with_reducible rfl)
  simp only [Act.put, List.setIfInBounds_toArray, List.set_cons_zero, List.set_cons_succ]
  refine Pl.takeW rfl rfl ?v60 ?hy60 ?rest60
  case hy60 => intro w_ _; first | (go_simp; done) | (go_simp; with_reducible rfl)
  simp only [Act.put, List.setIfInBounds_toArray, List.set_cons_zero, List.set_cons_succ]
  refine Pl.oneW rfl rfl (fun K_ hK_ => ?_)
  go_simp
  refine (P_body p b off c d st2 L S1 _ F HF.out _ _ _ z st3 (X2.drew HX1.out) (HE.out.mono HK1.out) (Hl.out.mono HK1.out) Hin2.out Hll.out Hr2.out).mono ?_
  rintro e w2 ⟨rfl, S2, k2, hX2⟩
  have X3 := PX.xs p (dval b off c d) st3
  refine hK_ _ _ ⟨X3.cell hX2 ((HC.out.hx.mono HK1.out).mono (k2)), X3.cell hX2 ((HC.out.hd.mono HK1.out).mono (k2)), X3.cell hX2 ((HN.out.c1.mono HK1.out).mono (k2)), X3.cell hX2 ((HN.out.c4.mono HK1.out).mono (k2))⟩ ?_
  show wpList _ _ _ _ _ _
  simp only [List.drop_succ_cons, List.drop_zero]
  go_wp2_with fail
  go_ret2
  exact Ret.intro (by simp) (HK1.out.trans k2) hX2
theorem ask_first {i x1 : Nat} {F : Fm} {st : St} {W : Nat → St → Out} {o : Nat × St} (hx1 : (nd d i).l[1]? = some x1) (h : ((F st ((nd d i).l.getD 1 0)).bind fun a => W a.1 a.2) = some o) : ∃ a st1, F st x1 = some (a, st1) ∧ W a st1 = some o := by
  have hg : (nd d i).l.getD 1 0 = x1 := by rw [List.getD_eq_getElem?_getD, hx1]; rfl
  rw [hg] at h
  simp only [Option.bind_eq_some_iff] at h
  obtain ⟨⟨a, st1⟩, h1, h2⟩ := h
  exact ⟨a, st1, h1, h2⟩
set_option maxRecDepth 100000 in
set_option maxHeartbeats 4000000 in
theorem P_ifC (F : Fm) (HF : OkP p b off c d F) (i bl bx bd : Nat) (r : Nat) (st' : St) (hX : PX p (dval b off c d) st L S w) (hE : Env S b off c d) (hC : Cap p b off d S i bl bx bd) (hi : i < d.length)
    (hr : ifS d F i st = some (r, st')) :
    Calls Try.prog 72 #[ptr bx, ptr bd, ptr bl] w (Ret S (PX p (dval b off c d) st' L) (nat r)) := by
  have X := PX.xs p (dval b off c d) st
  have e1 := X.cell hX hC.hx
  have e2 := X.cell hX hC.hd
  have HX := hid hX
  have HE := hid hE
  have HF := hid HF
  have HC := hid hC
  obtain ⟨lv, hN⟩ := hE.at_ i hi
  obtain ⟨A1, c1, hlv, _, _⟩ := Sl.shape hN.l
  subst hlv
  have e3 := X.cell hX hN.c4
  unfold ifS at hr
  by_cases hbad : (nd d i).l.length < 3 ∨ 4 < (nd d i).l.length
  · rw [if_pos hbad] at hr
    have Hr := hid hr
    have hb : ((nd d i).l.length : Int) < 3 ∨ 3 ≤ ((nd d i).l.length : Int) ∧ (4 : Int) < ((nd d i).l.length : Int) := by omega
    have Hb := hid hb
    clear hX hE hC hr hN hbad hb
    go_enter Try.func72, Try.ntmps72
    go_wp2_with fail
    skip
    refine (P_askedW p b off c d st L S _ _ _ i 3 _ r st' HX.out HE.out hi Hb.out Hr.out).mono ?_
    rintro e w1 ⟨rfl, S1, k1, hX1⟩
    go_wp2_with fail
    go_ret
    exact Ret.intro rfl k1 hX1
  · rw [if_neg hbad] at hr
    obtain ⟨x1, hx1⟩ : ∃ x1, (nd d i).l[1]? = some x1 := ⟨_, List.getElem?_eq_some_iff.2 ⟨by omega, rfl⟩⟩
    have hlen : 3 ≤ (nd d i).l.length := by omega
    obtain ⟨a, st1, hf, hw⟩ := ask_first d hx1 hr
    obtain ⟨y, z, st3, hz, hr3⟩ := ifWays_split hw
    have Hf := hid hf
    have Hz := hid hz
    have Hr3 := hid hr3
    have Hx1 := hid hx1
    have HN := hid hN
    have hlo : (3 : Int) ≤ ((nd d i).l.length : Int) := by omega
    have hhi : ((nd d i).l.length : Int) ≤ 4 := by omega
    clear hX hE hC hr hN hbad hf hz hr3 hx1 hw
    go_enter Try.func72, Try.ntmps72
    go_wp2_with fail
    skip
    refine (P_asked p b off c d st L S _ F HF.out 74 #[ptr bx, ptr bd, ptr bl] (fun w => by kernel_rfl) i 3 _ x1 a y z r st1 st3 st' HX.out HE.out hi hlo hhi hlen Hx1.out Hf.out (fun S1 w1 k1 hX1 => P_if1 p b off c d st1 L S1 w1 F HF.out i bl bx bd y z st3 hX1 (HE.out.mono k1) (HC.out.mono k1) hi hlen Hz.out) Hr3.out).mono ?_
    rintro e w1 ⟨rfl, S1, k1, hX1⟩
    go_wp2_with fail
    go_ret
    exact Ret.intro rfl k1 hX1
set_option maxRecDepth 100000 in
set_option maxHeartbeats 4000000 in
theorem P_whenC (F : Fm) (HF : OkP p b off c d F) (i bl bx bd : Nat) (r : Nat) (st' : St) (hX : PX p (dval b off c d) st L S w) (hE : Env S b off c d) (hC : Cap p b off d S i bl bx bd) (hi : i < d.length)
    (hr : whenS d F i st = some (r, st')) :
    Calls Try.prog 75 #[ptr bx, ptr bd] w (Ret S (PX p (dval b off c d) st' L) (nat r)) := by
  have X := PX.xs p (dval b off c d) st
  have e1 := X.cell hX hC.hx
  have e2 := X.cell hX hC.hd
  have HX := hid hX
  have HE := hid hE
  have HF := hid HF
  have HC := hid hC
  obtain ⟨lv, hN⟩ := hE.at_ i hi
  obtain ⟨A1, c1, hlv, _, _⟩ := Sl.shape hN.l
  subst hlv
  have e3 := X.cell hX hN.c4
  unfold whenS at hr
  by_cases hbad : (nd d i).l.length < 3
  · rw [if_pos hbad] at hr
    have Hr := hid hr
    have hb : ((nd d i).l.length : Int) < 3 ∨ 3 ≤ ((nd d i).l.length : Int) ∧ (((nd d i).l.length : Int) : Int) < ((nd d i).l.length : Int) := by omega
    have Hb := hid hb
    clear hX hE hC hr hN hbad hb
    go_enter Try.func75, Try.ntmps75
    go_wp2_with fail
    refine wp_plan 8 (.take 0 (.take 1 (.take 2 (.take 3 (.take 4 (.take 5 (.take 6 (.take 7 .fin)))))))) (fun w_ => w_ = _) (by kernel_rfl) (by kernel_rfl) (fun _ _ d_ _ _ h_ => by cases d_ <;> exact h_) rfl ?_
    refine Pl.takeW rfl rfl ?v61 ?hy61 ?rest61
    case hy61 => intro w_ hS_; subst hS_; first | (go_simp; done) | (go_simp; with_reducible rfl)
    simp only [Act.put, List.setIfInBounds_toArray, List.set_cons_zero, List.set_cons_succ]
    refine Pl.takeW rfl rfl ?v62 ?hy62 ?rest62
    case hy62 => intro w_ hS_; subst hS_; first | (go_simp; done) | (go_simp; with_reducible rfl)
    simp only [Act.put, List.setIfInBounds_toArray, List.set_cons_zero, List.set_cons_succ]
    refine Pl.takeW rfl rfl ?v63 ?hy63 ?rest63
    case hy63 => intro w_ hS_; subst hS_; first | (go_simp; done) | (go_simp; with_reducible rfl)
    simp only [Act.put, List.setIfInBounds_toArray, List.set_cons_zero, List.set_cons_succ]
    refine Pl.takeW rfl rfl ?v64 ?hy64 ?rest64
    case hy64 => intro w_ _; first | (go_simp; done) | (go_simp; with_reducible rfl)
    simp only [Act.put, List.setIfInBounds_toArray, List.set_cons_zero, List.set_cons_succ]
    refine Pl.takeW rfl rfl ?v65 ?hy65 ?rest65
    case hy65 => intro w_ _; first | (go_simp; done) | (go_simp; with_reducible rfl)
    simp only [Act.put, List.setIfInBounds_toArray, List.set_cons_zero, List.set_cons_succ]
    refine Pl.takeW rfl rfl ?v66 ?hy66 ?rest66
    case hy66 => intro w_ hS_; subst hS_; first | (go_simp; done) | (go_simp; with_reducible rfl)
    simp only [Act.put, List.setIfInBounds_toArray, List.set_cons_zero, List.set_cons_succ]
    refine Pl.takeW rfl rfl ?v67 ?hy67 ?rest67
    case hy67 => intro w_ _; first | (go_simp; done) | (go_simp; with_reducible rfl)
    simp only [Act.put, List.setIfInBounds_toArray, List.set_cons_zero, List.set_cons_succ]
    refine Pl.takeW rfl rfl ?v68 ?hy68 ?rest68
    case hy68 => intro w_ _; first | (go_simp; done) | (go_simp; with_reducible rfl)
    simp only [Act.put, List.setIfInBounds_toArray, List.set_cons_zero, List.set_cons_succ]
    show wpList _ _ _ _ _ _
    simp only [List.drop_succ_cons, List.drop_zero]
    go_wp2_with fail
    refine (P_askedW p b off c d st L S _ _ _ i 3 _ r st' (X.drew HX.out) HE.out hi Hb.out Hr.out).mono ?_
    rintro e w1 ⟨rfl, S1, k1, hX1⟩
    go_wp2_with fail
    go_ret
    exact Ret.intro rfl k1 hX1
  · rw [if_neg hbad] at hr
    obtain ⟨x1, hx1⟩ : ∃ x1, (nd d i).l[1]? = some x1 := ⟨_, List.getElem?_eq_some_iff.2 ⟨by omega, rfl⟩⟩
    have hlen : 3 ≤ (nd d i).l.length := by omega
    obtain ⟨a, st1, hf, hw⟩ := ask_first d hx1 hr
    obtain ⟨y, z, st3, hz, hr3⟩ := whenWays_split hw
    have Hf := hid hf
    have Hz := hid hz
    have Hr3 := hid hr3
    have Hx1 := hid hx1
    have HN := hid hN
    have hlo : (3 : Int) ≤ ((nd d i).l.length : Int) := by omega
    have hhi : ((nd d i).l.length : Int) ≤ ((nd d i).l.length : Int) := by omega
    clear hX hE hC hr hN hbad hf hz hr3 hx1 hw
    go_enter Try.func75, Try.ntmps75
    go_wp2_with fail
    refine wp_plan 8 (.take 0 (.take 1 (.take 2 (.take 3 (.take 4 (.take 5 (.take 6 (.take 7 .fin)))))))) (fun w_ => w_ = _) (by kernel_rfl) (by kernel_rfl) (fun _ _ d_ _ _ h_ => by cases d_ <;> exact h_) rfl ?_
    refine Pl.takeW rfl rfl ?v69 ?hy69 ?rest69
    case hy69 => intro w_ hS_; subst hS_; first | (go_simp; done) | (go_simp; with_reducible rfl)
    simp only [Act.put, List.setIfInBounds_toArray, List.set_cons_zero, List.set_cons_succ]
    refine Pl.takeW rfl rfl ?v70 ?hy70 ?rest70
    case hy70 => intro w_ hS_; subst hS_; first | (go_simp; done) | (go_simp; with_reducible rfl)
    simp only [Act.put, List.setIfInBounds_toArray, List.set_cons_zero, List.set_cons_succ]
    refine Pl.takeW rfl rfl ?v71 ?hy71 ?rest71
    case hy71 => intro w_ hS_; subst hS_; first | (go_simp; done) | (go_simp; with_reducible rfl)
    simp only [Act.put, List.setIfInBounds_toArray, List.set_cons_zero, List.set_cons_succ]
    refine Pl.takeW rfl rfl ?v72 ?hy72 ?rest72
    case hy72 => intro w_ _; first | (go_simp; done) | (go_simp; with_reducible rfl)
    simp only [Act.put, List.setIfInBounds_toArray, List.set_cons_zero, List.set_cons_succ]
    refine Pl.takeW rfl rfl ?v73 ?hy73 ?rest73
    case hy73 => intro w_ _; first | (go_simp; done) | (go_simp; with_reducible rfl)
    simp only [Act.put, List.setIfInBounds_toArray, List.set_cons_zero, List.set_cons_succ]
    refine Pl.takeW rfl rfl ?v74 ?hy74 ?rest74
    case hy74 => intro w_ hS_; subst hS_; first | (go_simp; done) | (go_simp; with_reducible rfl)
    simp only [Act.put, List.setIfInBounds_toArray, List.set_cons_zero, List.set_cons_succ]
    refine Pl.takeW rfl rfl ?v75 ?hy75 ?rest75
    case hy75 => intro w_ _; first | (go_simp; done) | (go_simp; with_reducible rfl)
    simp only [Act.put, List.setIfInBounds_toArray, List.set_cons_zero, List.set_cons_succ]
    refine Pl.takeW rfl rfl ?v76 ?hy76 ?rest76
    case hy76 => intro w_ _; first | (go_simp; done) | (go_simp; with_reducible rfl)
    simp only [Act.put, List.setIfInBounds_toArray, List.set_cons_zero, List.set_cons_succ]
    show wpList _ _ _ _ _ _
    simp only [List.drop_succ_cons, List.drop_zero]
    go_wp2_with fail
    refine (P_asked p b off c d st L S _ F HF.out 76 #[ptr bx, ptr bd] (fun w => by kernel_rfl) i 3 _ x1 a y z r st1 st3 st' (X.drew HX.out) HE.out hi hlo hhi hlen Hx1.out Hf.out (fun S1 w1 k1 hX1 => P_when1 p b off c d st1 L S1 w1 F HF.out i bl bx bd y z st3 hX1 (HE.out.mono k1) (HC.out.mono k1) hi hlen Hz.out) Hr3.out).mono ?_
    rintro e w1 ⟨rfl, S1, k1, hX1⟩
    go_wp2_with fail
    go_ret
    exact Ret.intro rfl k1 hX1
set_option maxRecDepth 100000 in
set_option maxHeartbeats 4000000 in
theorem P_unlessC (F : Fm) (HF : OkP p b off c d F) (i bl bx bd : Nat) (r : Nat) (st' : St) (hX : PX p (dval b off c d) st L S w) (hE : Env S b off c d) (hC : Cap p b off d S i bl bx bd) (hi : i < d.length)
    (hr : unlessS d F i st = some (r, st')) :
    Calls Try.prog 77 #[ptr bx, ptr bd] w (Ret S (PX p (dval b off c d) st' L) (nat r)) := by
  have X := PX.xs p (dval b off c d) st
  have e1 := X.cell hX hC.hx
  have e2 := X.cell hX hC.hd
  have HX := hid hX
  have HE := hid hE
  have HF := hid HF
  have HC := hid hC
  obtain ⟨lv, hN⟩ := hE.at_ i hi
  obtain ⟨A1, c1, hlv, _, _⟩ := Sl.shape hN.l
  subst hlv
  have e3 := X.cell hX hN.c4
  unfold unlessS at hr
  by_cases hbad : (nd d i).l.length < 3
  · rw [if_pos hbad] at hr
    have Hr := hid hr
    have hb : ((nd d i).l.length : Int) < 3 ∨ 3 ≤ ((nd d i).l.length : Int) ∧ (((nd d i).l.length : Int) : Int) < ((nd d i).l.length : Int) := by omega
    have Hb := hid hb
    clear hX hE hC hr hN hbad hb
    go_enter Try.func77, Try.ntmps77
    go_wp2_with fail
    refine wp_plan 8 (.take 0 (.take 1 (.take 2 (.take 3 (.take 4 (.take 5 (.take 6 (.take 7 .fin)))))))) (fun w_ => w_ = _) (by kernel_rfl) (by kernel_rfl) (fun _ _ d_ _ _ h_ => by cases d_ <;> exact h_) rfl ?_
    refine Pl.takeW rfl rfl ?v77 ?hy77 ?rest77
    case hy77 => intro w_ hS_; subst hS_; first | (go_simp; done) | (go_simp; with_reducible rfl)
    simp only [Act.put, List.setIfInBounds_toArray, List.set_cons_zero, List.set_cons_succ]
    refine Pl.takeW rfl rfl ?v78 ?hy78 ?rest78
    case hy78 => intro w_ hS_; subst hS_; first | (go_simp; done) | (go_simp; with_reducible rfl)
    simp only [Act.put, List.setIfInBounds_toArray, List.set_cons_zero, List.set_cons_succ]
    refine Pl.takeW rfl rfl ?v79 ?hy79 ?rest79
    case hy79 => intro w_ hS_; subst hS_; first | (go_simp; done) | (go_simp; with_reducible rfl)
    simp only [Act.put, List.setIfInBounds_toArray, List.set_cons_zero, List.set_cons_succ]
    refine Pl.takeW rfl rfl ?v80 ?hy80 ?rest80
    case hy80 => intro w_ _; first | (go_simp; done) | (go_simp; with_reducible rfl)
    simp only [Act.put, List.setIfInBounds_toArray, List.set_cons_zero, List.set_cons_succ]
    refine Pl.takeW rfl rfl ?v81 ?hy81 ?rest81
    case hy81 => intro w_ _; first | (go_simp; done) | (go_simp; with_reducible rfl)
    simp only [Act.put, List.setIfInBounds_toArray, List.set_cons_zero, List.set_cons_succ]
    refine Pl.takeW rfl rfl ?v82 ?hy82 ?rest82
    case hy82 => intro w_ hS_; subst hS_; first | (go_simp; done) | (go_simp; with_reducible rfl)
    simp only [Act.put, List.setIfInBounds_toArray, List.set_cons_zero, List.set_cons_succ]
    refine Pl.takeW rfl rfl ?v83 ?hy83 ?rest83
    case hy83 => intro w_ _; first | (go_simp; done) | (go_simp; with_reducible rfl)
    simp only [Act.put, List.setIfInBounds_toArray, List.set_cons_zero, List.set_cons_succ]
    refine Pl.takeW rfl rfl ?v84 ?hy84 ?rest84
    case hy84 => intro w_ _; first | (go_simp; done) | (go_simp; with_reducible rfl)
    simp only [Act.put, List.setIfInBounds_toArray, List.set_cons_zero, List.set_cons_succ]
    show wpList _ _ _ _ _ _
    simp only [List.drop_succ_cons, List.drop_zero]
    go_wp2_with fail
    refine (P_askedW p b off c d st L S _ _ _ i 3 _ r st' (X.drew HX.out) HE.out hi Hb.out Hr.out).mono ?_
    rintro e w1 ⟨rfl, S1, k1, hX1⟩
    go_wp2_with fail
    go_ret
    exact Ret.intro rfl k1 hX1
  · rw [if_neg hbad] at hr
    obtain ⟨x1, hx1⟩ : ∃ x1, (nd d i).l[1]? = some x1 := ⟨_, List.getElem?_eq_some_iff.2 ⟨by omega, rfl⟩⟩
    have hlen : 3 ≤ (nd d i).l.length := by omega
    obtain ⟨a, st1, hf, hw⟩ := ask_first d hx1 hr
    obtain ⟨y, z, st3, hz, hr3⟩ := unlessWays_split hw
    have Hf := hid hf
    have Hz := hid hz
    have Hr3 := hid hr3
    have Hx1 := hid hx1
    have HN := hid hN
    have hlo : (3 : Int) ≤ ((nd d i).l.length : Int) := by omega
    have hhi : ((nd d i).l.length : Int) ≤ ((nd d i).l.length : Int) := by omega
    clear hX hE hC hr hN hbad hf hz hr3 hx1 hw
    go_enter Try.func77, Try.ntmps77
    go_wp2_with fail
    refine wp_plan 8 (.take 0 (.take 1 (.take 2 (.take 3 (.take 4 (.take 5 (.take 6 (.take 7 .fin)))))))) (fun w_ => w_ = _) (by kernel_rfl) (by kernel_rfl) (fun _ _ d_ _ _ h_ => by cases d_ <;> exact h_) rfl ?_
    refine Pl.takeW rfl rfl ?v85 ?hy85 ?rest85
    case hy85 => intro w_ hS_; subst hS_; first | (go_simp; done) | (go_simp; with_reducible rfl)
    simp only [Act.put, List.setIfInBounds_toArray, List.set_cons_zero, List.set_cons_succ]
    refine Pl.takeW rfl rfl ?v86 ?hy86 ?rest86
    case hy86 => intro w_ hS_; subst hS_; first | (go_simp; done) | (go_simp; with_reducible rfl)
    simp only [Act.put, List.setIfInBounds_toArray, List.set_cons_zero, List.set_cons_succ]
    refine Pl.takeW rfl rfl ?v87 ?hy87 ?rest87
    case hy87 => intro w_ hS_; subst hS_; first | (go_simp; done) | (go_simp; with_reducible rfl)
    simp only [Act.put, List.setIfInBounds_toArray, List.set_cons_zero, List.set_cons_succ]
    refine Pl.takeW rfl rfl ?v88 ?hy88 ?rest88
    case hy88 => intro w_ _; first | (go_simp; done) | (go_simp; with_reducible rfl)
    simp only [Act.put, List.setIfInBounds_toArray, List.set_cons_zero, List.set_cons_succ]
    refine Pl.takeW rfl rfl ?v89 ?hy89 ?rest89
    case hy89 => intro w_ _; first | (go_simp; done) | (go_simp; with_reducible rfl)
    simp only [Act.put, List.setIfInBounds_toArray, List.set_cons_zero, List.set_cons_succ]
    refine Pl.takeW rfl rfl ?v90 ?hy90 ?rest90
    case hy90 => intro w_ hS_; subst hS_; first | (go_simp; done) | (go_simp; with_reducible rfl)
    simp only [Act.put, List.setIfInBounds_toArray, List.set_cons_zero, List.set_cons_succ]
    refine Pl.takeW rfl rfl ?v91 ?hy91 ?rest91
    case hy91 => intro w_ _; first | (go_simp; done) | (go_simp; with_reducible rfl)
    simp only [Act.put, List.setIfInBounds_toArray, List.set_cons_zero, List.set_cons_succ]
    refine Pl.takeW rfl rfl ?v92 ?hy92 ?rest92
    case hy92 => intro w_ _; first | (go_simp; done) | (go_simp; with_reducible rfl)
    simp only [Act.put, List.setIfInBounds_toArray, List.set_cons_zero, List.set_cons_succ]
    show wpList _ _ _ _ _ _
    simp only [List.drop_succ_cons, List.drop_zero]
    go_wp2_with fail
    refine (P_asked p b off c d st L S _ F HF.out 78 #[ptr bx, ptr bd] (fun w => by kernel_rfl) i 3 _ x1 a y z r st1 st3 st' (X.drew HX.out) HE.out hi hlo hhi hlen Hx1.out Hf.out (fun S1 w1 k1 hX1 => P_unless1 p b off c d st1 L S1 w1 F HF.out i bl bx bd y z st3 hX1 (HE.out.mono k1) (HC.out.mono k1) hi hlen Hz.out) Hr3.out).mono ?_
    rintro e w1 ⟨rfl, S1, k1, hX1⟩
    go_wp2_with fail
    go_ret
    exact Ret.intro rfl k1 hX1
end
end Go.Proofs.Ytjjbidajkmodfaa
