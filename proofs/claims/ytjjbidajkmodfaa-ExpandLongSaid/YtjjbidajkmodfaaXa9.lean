/- Texts P20 of the proof. What each theorem says stands in its own statement. No condition beyond those that it names. -/
import Derived.Test.YtjjbidajkmodfaaXa7
import Derived.Test.YtjjbidajkmodfaaXa8
set_option linter.unusedVariables false
set_option linter.unusedSimpArgs false
namespace Go.Proofs.Ytjjbidajkmodfaa
open Go Go.RowKit
structure ERes where
  fs : List Form
  os : List Nat
  at_ : Int
  e : Int
def resOf (y : List Nat × St) : ERes := match y.2.bad with
  | some a => ⟨[], [], a, 80⟩
  | none => ⟨y.2.fs, y.1, 0, 0⟩
def expandR (rd : List RNode) (ts : List Int) : Option ERes :=
  if mayB rd = false ∨ ts.any (outR rd.length) = true then some ⟨[], [], 0, 1⟩
  else (expand (rd.map RNode.node) rd.length (ts.map Int.toNat)).map resOf
def ExpRet (S : Seal) (X : Seal → World → Prop) (r : ERes) (e : Ending) (w' : World) : Prop :=
  ∃ fv ov S', S.le S' ∧ X S' w' ∧ e = .returned (.tuple #[fv, ov, int r.at_, int r.e]) ∧ FormsR S' fv r.fs ∧ NatsR S' ov r.os
def TopsRel (p : Nat) (dv : Value) (T : Fm) (ts : List Nat) (r : ERes) (L : List Atom) (S : Seal) (v i : Value) (wr : World) : Prop :=
  ∃ k o st S1 y, k ≤ ts.length ∧ i = nat k ∧ S.le S1 ∧ PX p dv st (.row 3 1 v o.length (o.map nat) :: L) S1 wr ∧ st.bad = none ∧ tops T st (ts.drop k) = some y ∧ resOf (o ++ y.1, y.2) = r ∧ o.length = k
theorem FormsR.nil (S : Seal) : FormsR S (.slice none 0 0) [] := ⟨[], Sl.nil S 8, FormsC.nil S⟩
set_option maxRecDepth 100000 in
set_option maxHeartbeats 40000000 in
theorem P_Expand (L : List Atom) (S : Seal) (w : World) (v tv : Value) (rd : List RNode) (ts : List Int) (r : ERes) (hX : BX L S w) (hR : RNodesR S v rd) (hT : IntsR S tv ts)
    (hl : ∀ x ∈ rd, x.l.length ≤ 1099511627776) (hl2 : ts.length ≤ 1099511627776) (hr : expandR rd ts = some r) :
    Calls Try.prog 10 #[v, tv] w (ExpRet S (BX L) r) := by
  obtain ⟨A, cc, rfl, hr1, hr2⟩ := hR.shape
  obtain ⟨A2, c2, rfl, hr3, hr4⟩ := Sl.shape hT
  have hlen := hR.len
  have hlen2 := hT.len
  obtain ⟨S1, k1, hX1, s1⟩ := BX.xs.box hX #[.slice A rd.length cc] 22
  have hb := s1 0 _ rfl
  have Hmay := hid (P_May BX.xs L S1 _ _ rd hX1 (hR.mono k1))
  have e1 := BX.xs.cell hX1 hb
  have HR := hid (hR.mono k1)
  have HT := hid (hT.mono k1)
  have HK1 := hid k1
  have Hb := hid hb
  have Hr := hid hr
  have Hl := hid hl
  clear hX hX1 s1 hR hT k1 hb hr hl
  cases hm : mayB rd with
  | false =>
    rw [hm] at Hmay
    have hr := Hr.out
    unfold expandR at hr
    rw [if_pos (.inl hm)] at hr
    cases hr
    go_enter Try.func10, Try.ntmps10
    go_wp2_with fail
    refine (Hmay.out).mono ?_
    rintro e w2 ⟨rfl, S2, k2, hX2⟩
    go_wp2_with fail
    (try simp only [Exit.inBlock, Exit.then]); refine bodyPost_ret (results_tmp4 rfl _ _ _) rfl ?_
    exact ⟨_, _, S2, HK1.out.trans k2, hX2, rfl, FormsR.nil _, NatsR.nil _⟩
  | true =>
    rw [hm] at Hmay
    cases ha : ts.any (outR rd.length) with
    | true =>
      have hr := Hr.out
      unfold expandR at hr
      rw [if_pos (.inr ha)] at hr
      cases hr
      have Ha := hid ha
      clear ha
      go_enter Try.func10, Try.ntmps10
      go_wp2_with fail
      refine (Hmay.out).mono ?_
      rintro e w2 ⟨rfl, S2, k2, hX2⟩
      have Hc := hid (S_anyOut A rd.length cc _ ts _ S2 L _ hX2 (BX.xs.cell hX2 (Hb.out.mono k2)) (HT.out.mono k2))
      rw [Ha.out] at Hc
      have HK2 := hid (HK1.out.trans k2)
      have HX2 := hid hX2
      have e2 := BX.xs.cell hX2 (Hb.out.mono k2)
      clear k2 hX2
      go_wp2_with fail
      refine Hc.out.mono ?_
      rintro e w' ⟨rfl, rfl⟩
      go_wp2_with fail
      (try simp only [Exit.inBlock, Exit.then]); refine bodyPost_ret (results_tmp4 rfl _ _ _) rfl ?_
      exact ⟨_, _, S2, HK2.out, HX2.out, rfl, FormsR.nil _, NatsR.nil _⟩
    | false =>
      have hr := Hr.out
      unfold expandR at hr
      rw [if_neg (by rintro (h | h) <;> simp_all)] at hr
      rw [Option.map_eq_some_iff] at hr
      obtain ⟨y, hy, hyr⟩ := hr
      have Hy := hid hy
      have Hyr := hid hyr
      have Ha := hid ha
      clear ha hy hyr
      go_enter Try.func10, Try.ntmps10
      go_wp2_with fail
      refine (Hmay.out).mono ?_
      rintro e w2 ⟨rfl, S2, k2, hX2⟩
      have Hc := hid (S_anyOut A rd.length cc _ ts _ S2 L _ hX2 (BX.xs.cell hX2 (Hb.out.mono k2)) (HT.out.mono k2))
      rw [Ha.out] at Hc
      have HK2 := hid (HK1.out.trans k2)
      have HR2 := hid (HR.out.mono k2)
      have HT2 := hid (HT.out.mono k2)
      have HX2 := hid hX2
      have e2 := BX.xs.cell hX2 (Hb.out.mono k2)
      clear k2 hX2
      go_wp2_with fail
      refine Hc.out.mono ?_
      rintro e w' ⟨rfl, rfl⟩
      have hP := BX.newX HX2.out (.slice A rd.length cc)
      generalize hp : w'.heap.size = p at hP
      have HP := hid (Xs.rowNil (PX.xs p _ _) hP 3 1)
      clear hP
      have hfix := hid (fun (t : Int) (ht : t ∈ ts) => (show 0 ≤ t ∧ t < (rd.length : Int) by
        have h1 := Ha.out
        rw [List.any_eq_false] at h1
        have h2 := h1 t ht
        unfold outR at h2
        simp only [decide_eq_true_eq] at h2
        omega))
      go_wp2_with fail
      go_loopw [9, 26] (fun u i wr => TopsRel p (.slice A (rd.map RNode.node).length cc) (topS (rd.map RNode.node) (form (rd.map RNode.node) rd.length)) (ts.map Int.toNat) r L S2 u i wr) (fun _ i _ => ts.length - (intOf i).toNat)
      case atStart => exact ⟨0, [], ⟨[], none⟩, S2, y, Nat.zero_le _, rfl, Seal.le.refl _, by rw [List.length_map]; exact HP.out, rfl, Hy.out, Hyr.out, rfl⟩
      case round =>
        obtain ⟨k, o, st, S3, y2, hk, rfl, hS3, hX3, hbad, hy2, hyr, ho⟩ := hrel
        obtain ⟨A3, c3, rfl, _, _⟩ := (PX.xs p (.slice A (rd.map RNode.node).length cc) st).rowLen hX3
        have HX3 := hid hX3
        have HS3 := hid hS3
        have Hyr2 := hid hyr
        have Ho := hid ho
        have X3 := PX.xs p (.slice A (rd.map RNode.node).length cc) st
        by_cases hlt : k < ts.length
        · obtain ⟨b2, o2, c5, hv, _, _, hc⟩ := HT2.out.at_ (by intro h; rw [h] at hlt; simp at hlt)
          simp only [Value.slice.injEq, true_and] at hv
          obtain ⟨rfl, rfl⟩ := hv
          have hmem : ts[k] ∈ ts := List.getElem_mem hlt
          obtain ⟨h0, h1⟩ := hfix.out _ hmem
          obtain ⟨b, off, rfl⟩ : ∃ b off, A = some ⟨b, off, none⟩ := let ⟨b, off, h, _⟩ := HR2.out.at_ (k := ts[k].toNat) (by omega); ⟨b, off, h⟩
          have f1 := X3.cell hX3 ((hc k _ (List.getElem?_eq_some_iff.2 ⟨hlt, rfl⟩)).mono hS3)
          have hd : (ts.map Int.toNat).drop k = ts[k].toNat :: (ts.map Int.toNat).drop (k + 1) := by
            rw [List.drop_eq_getElem_cons (by simpa using hlt)]; simp
          rw [hd] at hy2
          have hq : ts[k] = ((ts[k].toNat : Nat) : Int) := by omega
          have hx : ts[k].toNat < (rd.map RNode.node).length := by simp; omega
          rw [hq] at f1
          have hkI : (k : Int) < (ts.length : Int) := by omega
          generalize ts[k].toNat = x at *
          simp only [tops, Option.bind_eq_some_iff] at hy2
          obtain ⟨⟨r1, st1⟩, ht, hy3⟩ := hy2
          have HE := hid (may_env rfl (HR2.out.mono hS3) hm Hl.out : Env S3 b off cc (rd.map RNode.node))
          have Ht := hid (P_top p b off cc (rd.map RNode.node) _ (P_form p b off cc _ rd.length) st _ S3 _ x r1 st1 hbad HX3.out HE.out hx ht)
          clear ht hd hc hmem hq h0 h1 hX3 hS3 hyr ho hx hbad
          go_wp2_with fail
          refine (Ht.out).mono ?_
          rintro e w4 ⟨rfl, S4, k4, hX4⟩
          obtain ⟨B, e4, _, hB⟩ := hX4.bad
          have X4 := PX.xs p (.slice (some ⟨b, off, none⟩) (rd.map RNode.node).length cc) st1
          have HX4 := hid hX4
          have HK4 := hid (HS3.out.trans k4)
          clear hX4 k4 f1
          rcases hB with ⟨hb, rfl⟩ | ⟨b', o', a', rfl, hc, hb⟩
          · have hy4 := hy3
            rw [if_pos hb] at hy4
            obtain ⟨y3, hy5, hy6⟩ := Option.bind_eq_some_iff.1 hy4
            simp only [Option.some.injEq] at hy6
            subst hy6
            have Hy5 := hid hy5
            have Hb1 := hid hb
            clear hy3 hy4 hy5 hb
            have HA5 := hid (Xs.alloc0 (PX.xs _ _ _) HX4.out (.cells #[nat r1] 3))
            have HN5 := hid (cells_new w4 _ rfl [nat r1] 3)
            go_wp2_with (at_builtin; refine wpList_appendX tyInts (PX.xs _ _ _) rfl (.tmp 45) (.tmp 47) rfl rfl HA5.out ⟨w4.heap.size, 0, none⟩ 1 1 [nat r1] rfl rfl HN5.out ?c1_5 ?c2_5 ?c3_5 ?c4_5)
            case c1_5 => simp [Value.oneCell']
            case c2_5 => (have := Ho.out; omega)
            case c3_5 => unfold maxLen; (have := Ho.out; omega)
            clear HA5 HN5
            intro v5 u5 hY5
            have HX5 := hid hY5
            clear hY5
            go_wp2_with fail
            go_roundw
            case rel => exact ⟨k + 1, o ++ [r1], st1, S4, y3, by simp at hk ⊢; omega, by go_num, HK4.out, by rw [List.map_append, List.length_append]; exact HX5.out, Hb1.out, Hy5.out, by rw [List.append_assoc]; exact Hyr2.out, by rw [List.length_append, Ho.out]; rfl⟩
            case measure => simp [intOf]; omega
          · have hy4 := hy3
            rw [if_neg (by rw [hb]; exact Option.some_ne_none _)] at hy4
            simp only [Option.some.injEq] at hy4
            subst hy4
            have e5 := X4.cell HX4.out hc
            have hres := Hyr2.out
            unfold resOf at hres
            rw [hb] at hres
            have Hres := hid hres
            clear hy3 hres hc hb
            go_wp2_with fail
            refine wp_plan 9 (.take 0 (.take 1 (.take 2 (.take 3 (.take 4 (.take 5 (.take 6 (.take 7 (.take 8 .fin))))))))) (fun w_ => w_ = _) (by kernel_rfl) (by kernel_rfl) (fun _ _ d_ _ _ h_ => by cases d_ <;> exact h_) rfl ?_
            refine Pl.takeW rfl rfl ?v1 ?hy1 ?rest1
            case hy1 => intro w_ _; first | (go_simp; done) | (go_simp; with_reducible rfl)
            simp only [Act.put, List.setIfInBounds_toArray, List.set_cons_zero, List.set_cons_succ]
            refine Pl.takeW rfl rfl ?v2 ?hy2 ?rest2
            case hy2 => intro w_ _; first | (go_simp; done) | (go_simp; with_reducible rfl)
            simp only [Act.put, List.setIfInBounds_toArray, List.set_cons_zero, List.set_cons_succ]
            refine Pl.takeW rfl rfl ?v3 ?hy3 ?rest3
            case hy3 => intro w_ _; first | (go_simp; done) | (go_simp; with_reducible rfl)
            simp only [Act.put, List.setIfInBounds_toArray, List.set_cons_zero, List.set_cons_succ]
            refine Pl.takeW rfl rfl ?v4 ?hy4 ?rest4
            case hy4 => intro w_ hS_; subst hS_; first | (go_simp; done) | (go_simp; with_reducible rfl)
            simp only [Act.put, List.setIfInBounds_toArray, List.set_cons_zero, List.set_cons_succ]
            refine Pl.takeW rfl rfl ?v5 ?hy5 ?rest5
            case hy5 => intro w_ _; first | (go_simp; done) | (go_simp; with_reducible rfl)
            simp only [Act.put, List.setIfInBounds_toArray, List.set_cons_zero, List.set_cons_succ]
            refine Pl.takeW rfl rfl ?v6 ?hy6 ?rest6
            case hy6 => intro w_ _; first | (go_simp; done) | (go_simp; with_reducible rfl)
            simp only [Act.put, List.setIfInBounds_toArray, List.set_cons_zero, List.set_cons_succ]
            refine Pl.takeW rfl rfl ?v7 ?hy7 ?rest7
            case hy7 => intro w_ hS_; subst hS_; first | (go_simp; done) | (go_simp; with_reducible rfl)
            simp only [Act.put, List.setIfInBounds_toArray, List.set_cons_zero, List.set_cons_succ]
            refine Pl.takeW rfl rfl ?v8 ?hy8 ?rest8
            case hy8 => intro w_ _; first | (go_simp; done) | (go_simp; with_reducible rfl)
            simp only [Act.put, List.setIfInBounds_toArray, List.set_cons_zero, List.set_cons_succ]
            refine Pl.takeW rfl rfl ?v9 ?hy9 ?rest9
            case hy9 => intro w_ _; first | (go_simp; done) | (go_simp; with_reducible rfl)
            simp only [Act.put, List.setIfInBounds_toArray, List.set_cons_zero, List.set_cons_succ]
            show wpList _ _ _ _ _ _
            simp only [List.drop_succ_cons, List.drop_zero]
            go_wp2_with fail
            (try simp only [Exit.inBlock, Exit.then]); refine bodyPost_ret (results_tmp4 rfl _ _ _) rfl ?_
            obtain ⟨S', F, k6, hX6, _, _⟩ := PX.done (X4.dropAtom (X4.drew HX4.out))
            rw [← Hres.out]
            exact ⟨_, _, S', (HK2.out.trans HK4.out).trans k6, hX6, rfl, FormsR.nil _, NatsR.nil _⟩
        · have hk' : k = (ts.map Int.toNat).length := by simp at hk ⊢; omega
          rw [hk', List.drop_length] at hy2
          cases hy2
          obtain ⟨S4, k4, hX4, hs4⟩ := X3.sealRow HX3.out
          obtain ⟨S5, F, k5, hX5, e5, hF⟩ := PX.done hX4
          have hres := Hyr2.out
          unfold resOf at hres
          rw [hbad, List.append_nil] at hres
          have Hres := hid hres
          have HX5 := hid hX5
          have HF := hid hF
          have Hs := hid (Sl.mono k5 hs4)
          have HK := hid (((HK2.out.trans HS3.out).trans k4).trans k5)
          clear hres hX5 hF hs4 hX4 k4 k5 hX3 hS3 hyr ho hk'
          go_wp2_with fail
          (try simp only [Exit.inBlock, Exit.then]); refine bodyPost_ret (results_tmp4 rfl _ _ _) rfl ?_
          rw [← Hres.out]
          exact ⟨_, _, S5, HK.out, HX5.out, rfl, HF.out, Hs.out⟩
end Go.Proofs.Ytjjbidajkmodfaa
