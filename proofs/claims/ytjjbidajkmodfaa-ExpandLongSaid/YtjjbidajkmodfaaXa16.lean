/- Texts D5 of the proof. What each theorem says stands in its own statement. No condition beyond those that it names. -/
import Derived.Test.YtjjbidajkmodfaaXa14
import Derived.Test.YtjjbidajkmodfaaXa15
set_option linter.unusedVariables false
set_option linter.unusedSimpArgs false
namespace Go.Proofs.Ytjjbidajkmodfaa
open Go Go.RowKit
theorem D_token (p : Nat) (r : RS) (L : List Atom) (S : Seal) (w : World) (t : Tok) (hk : 1 ≤ t.kind ∧ t.kind ≤ 6) (hF : Few r) (hX : RdX p r L S w) (hf : r.row.length + r.op.length + 2 ≤ 1000000) :
    Calls Try.prog 29 #[ptr p, tokV t] w (TokRet S (fun r => RdX p r L) (rtokE r t) r (rtok r t)) := by
  obtain ⟨kd, at_, n, s⟩ := t
  dsimp only at hk
  rcases (by omega : kd = 1 ∨ kd = 2 ∨ kd = 3 ∨ kd = 4 ∨ kd = 5 ∨ kd = 6) with rfl | rfl | rfl | rfl | rfl | rfl
  · exact D_tok1 p r L S w at_ n s hF hX hf
  · exact D_tok2 p r L S w at_ n s hF hX hf
  · exact D_tok3 p r L S w at_ n s hF hX hf
  · exact D_tok4 p r L S w at_ n s hF hX hf
  · exact D_tok5 p r L S w at_ n s hF hX hf
  · exact D_tok6 p r L S w at_ n s hF hX hf
theorem tokCells_at : ∀ (l : List Tok) (k j : Nat) (t : Tok), l[k]? = some t → j < 4 → (l.flatMap tokCells)[k * 4 + j]? = (tokCells t)[j]?
  | [], k, j, t, h, _ => by simp at h
  | a :: l, k, j, t, h, hj => by
    rw [List.flatMap_cons]
    have hl : (tokCells a).length = 4 := rfl
    cases k with
    | zero =>
      simp only [List.getElem?_cons_zero, Option.some.injEq] at h
      subst h
      rw [List.getElem?_append_left (by rw [hl]; omega)]; simp
    | succ k =>
      rw [List.getElem?_append_right (by rw [hl]; omega), hl, show (k + 1) * 4 + j - 4 = k * 4 + j by omega]
      exact tokCells_at l k j t (by simpa using h) hj
structure TokAt (S : Seal) (b o : Nat) (t : Tok) : Prop where
  c0 : Sc S b o (.int .u8 t.kind)
  c1 : Sc S b (o + 1) (nat t.at_)
  c2 : Sc S b (o + 2) (int t.n)
  c3 : Sc S b (o + 3) (str t.s)
theorem ToksR.at_ {S : Seal} {v : Value} {l : List Tok} (h : ToksR S v l) (h0 : l ≠ []) : ∃ b off c, v = .slice (some ⟨b, off, none⟩) l.length c ∧ l.length ≤ c ∧ c ≤ maxLen ∧ ∀ k t, l[k]? = some t → TokAt S b (off + k * 4) t := by
  obtain ⟨b, off, c, hv, h1, h2, h3⟩ := Sl.at_ h (by cases l with | nil => exact absurd rfl h0 | cons => simp)
  refine ⟨b, off, c, hv, h1, h2, fun k t hk => ⟨h3 _ _ (tokCells_at l k 0 t hk (by omega)), h3 _ _ (tokCells_at l k 1 t hk (by omega)), h3 _ _ (tokCells_at l k 2 t hk (by omega)), h3 _ _ (tokCells_at l k 3 t hk (by omega))⟩⟩
theorem BX.newRd {L : List Atom} {S : Seal} {w : World} (h : BX L S w) : RdX w.heap.size ⟨[], [], []⟩ L S (w.alloc (.cells #[.slice none 0 0, .slice none 0 0, .slice none 0 0] 71)) :=
  ⟨h.1, .slice none 0 0, .slice none 0 0, .slice none 0 0, [], [], ((((h.2.allocOwn _ _).rowNil 76 3).rowNil 3 1).rowNil 60 5).perm (List.Perm.cons _ (List.perm_middle (l₁ := [_, _]) (a := _))), NodesC.nil S, rfl⟩
theorem RdX.done {p : Nat} {r : RS} {L : List Atom} {S : Seal} {w : World} (h : RdX p r L S w) : ∃ S' Rv Tv, S.le S' ∧ BX L S' w ∧ w.cell? ⟨p, 0, none⟩ = some Rv ∧ w.cell? ⟨p, 1, none⟩ = some Tv ∧ NodesR S' Rv r.row ∧ NatsR S' Tv r.tops := by
  obtain ⟨g, Rv, Tv, Ov, cells, zs, hw, hc, hop⟩ := h
  obtain ⟨S1, k1, h1, s1⟩ := Wd.sealRow hw
  have h2 := Wd.tail h1
  obtain ⟨S2, k2, h3, s2⟩ := Wd.sealRow h2
  have drop : ∀ (A : List Atom) (S : Seal), Wd S (A ++ L) w → Wd S L w := by
    intro A
    induction A with
    | nil => intro S h; exact h
    | cons a A ih => intro S h; exact ih S (Wd.tail h)
  exact ⟨S2, Rv, Tv, k1.trans k2, ⟨g.mono (k1.trans k2), drop (_ :: zs.map partAtom) S2 h3⟩, hw.blkM (b := p) (c := #[Rv, Tv, Ov]) (t := 71) (by simp [rdAtoms]) 0, hw.blkM (b := p) (c := #[Rv, Tv, Ov]) (t := 71) (by simp [rdAtoms]) 1,
    ⟨cells, s1.mono k2, (hc.mono k1).mono k2⟩, s2⟩
def ReadRet (S : Seal) (X : Seal → World → Prop) (R : RdRes) (e : Ending) (w' : World) : Prop :=
  ∃ nv tv S', S.le S' ∧ X S' w' ∧ e = .returned (.tuple #[nv, tv, int R.at_, int R.e]) ∧ NodesR S' nv R.row ∧ NatsR S' tv R.tops
def ReadRel (p n : Nat) (l : List Tok) (R : RdRes) (L : List Atom) (S : Seal) (i : Value) (wr : World) : Prop :=
  ∃ k st S1, k ≤ l.length ∧ i = nat k ∧ S.le S1 ∧ RdX p st L S1 wr ∧ rgo l st (l.drop k) = R ∧ RSok n (2 * k) st
theorem NodesR.nil (S : Seal) : NodesR S (.slice none 0 0) [] := ⟨[], Sl.nil S 5, NodesC.nil S⟩
set_option maxRecDepth 100000 in
set_option maxHeartbeats 40000000 in
theorem D_Read (L : List Atom) (S : Seal) (s : ByteArray) (w : World) (hX : BX L S w) (hs : s.size ≤ 9223372036854775807) : Calls Try.prog 17 #[.string s] w (ReadRet S (BX L) (readS s.data.toList)) := by
  have Hlex := hid (L_Lex BX.xs L S s w hX hs)
  obtain ⟨R, hR⟩ : ∃ R, readS s.data.toList = R := ⟨_, rfl⟩
  rw [hR]
  have HR := hid hR
  clear hX hR
  go_enter Try.func17, Try.ntmps17
  go_wp2_with fail
  refine Hlex.out.mono ?_
  rintro e w1 ⟨S1, k1, hX1, h1 | h1⟩
  case inr =>
    obtain ⟨a, er, hl, he, rfl⟩ := h1
    have hres : readS s.data.toList = ⟨[], [], a, er⟩ := by unfold readS; rw [hl]
    have heb : (er != 0) = true := by simpa using he
    have HX1 := hid hX1
    have Hres := hid hres
    have HK1 := hid k1
    clear hl he hres hX1 k1
    go_wp2_with fail
    (try simp only [Exit.inBlock, Exit.then]); refine bodyPost_ret (results_tmp4 rfl _ _ _) rfl ?_
    rw [← HR.out, Hres.out]
    exact ⟨_, _, S1, HK1.out, HX1.out, rfl, NodesR.nil _, NatsR.nil _⟩
  obtain ⟨v, l, hl, rfl, hv⟩ := h1
  have hres : readS s.data.toList = rgo l ⟨[], [], []⟩ l := by unfold readS; rw [hl]
  have hlok := (lexF_ok (n := s.size) s.data.toList.length 0 s.data.toList (by simp)).1 l (by
    unfold lexS at hl
    split at hl
    · cases hl
    · exact hl)
  have hll : l.length ≤ 4000 := by
    unfold lexS at hl
    split at hl
    · cases hl
    · have := hlok.1; omega
  have HT := hid hlok.2
  obtain ⟨A1, c1, rfl, _, _⟩ := Sl.shape hv
  have hP := hX1.newRd
  generalize hp : w1.heap.size = p at hP
  have HP := hid hP
  have Hv := hid hv
  have HK1 := hid k1
  have Hres := hid (hres.symm.trans HR.out)
  clear hl hlok hP hv hX1 k1 hres
  go_wp2_with fail
  go_loopw [10] (fun i wr => ReadRel p s.size l R L S1 i wr) (fun i _ => l.length - (intOf i).toNat)
  case atStart => exact ⟨0, ⟨[], [], []⟩, S1, Nat.zero_le _, rfl, Seal.le.refl _, HP.out, Hres.out, ⟨⟨[], rfl, List.nodup_nil, (fun p hp => by cases hp), (fun p hp => by cases hp)⟩, Nat.le_refl _, (fun x hx => by cases hx), (fun p hp => by cases hp), Nat.le_refl _⟩⟩
  case round =>
    obtain ⟨k, st, S2, hk, rfl, hS2, hX2, hr2, hok⟩ := hrel
    by_cases hlt : k < l.length
    · obtain ⟨b, off, c2, hv2, _, _, hat⟩ := Hv.out.at_ (by intro h; rw [h] at hlt; simp at hlt)
      simp only [Value.slice.injEq, true_and] at hv2
      obtain ⟨rfl, rfl⟩ := hv2
      have hA := hat k _ (List.getElem?_eq_some_iff.2 ⟨hlt, rfl⟩)
      have hd : l.drop k = l[k] :: l.drop (k + 1) := List.drop_eq_getElem_cons hlt
      rw [hd, rgo] at hr2
      have hkI : (k : Int) < (l.length : Int) := by omega
      have htk := HT.out l[k] (List.getElem_mem hlt)
      generalize l[k] = t at *
      have X2 := RdX.xs p st
      have e0 := X2.cell hX2 (hA.c0.mono hS2)
      have e1 := X2.cell hX2 (hA.c1.mono hS2)
      have e2 := X2.cell hX2 (hA.c2.mono hS2)
      have e3 := X2.cell hX2 (hA.c3.mono hS2)
      have hfew := hok.few
      have Htok := hid (D_token p st L S2 wr t htk.kind ⟨by omega, fun q hq => (hok.parts q hq).2.2, hok.tops⟩ hX2 (by omega))
      have HS2 := hid hS2
      have HA1 := hid hA.c1
      have Hok := hid hok
      by_cases hE : rtokE st t = 0
      case neg =>
        rw [if_pos hE] at hr2
        have heb : (rtokE st t != 0) = true := by simpa using hE
        have Hr2 := hid hr2
        have HE := hid hE
        clear hd hat hA hX2 hS2 hr2 hE htk hok
        generalize rtokE st t = er at *
        go_wp2_with fail
        refine Htok.out.mono ?_
        rintro e w3 ⟨rfl, S3, k3, hX3⟩
        rw [if_neg HE.out] at hX3
        have e1 := X2.cell hX3 ((HA1.out.mono HS2.out).mono k3)
        obtain ⟨S4, Rv, Tv, k4, hX4, _, _, _, _⟩ := RdX.done (X2.drew hX3)
        have HX4 := hid hX4
        have HK4 := hid (((HK1.out.trans HS2.out).trans k3).trans k4)
        clear hX3 hX4 k3 k4 e0 e2 e3
        go_wp2_with fail
        refine wp_plan 9 (.take 0 (.take 1 (.take 2 (.take 3 (.take 4 (.take 5 (.take 6 (.take 7 (.take 8 .fin))))))))) (fun w_ => w_ = _) (by kernel_rfl) (by kernel_rfl) (fun _ _ d_ _ _ h_ => by cases d_ <;> exact h_) rfl ?_
        refine Pl.takeW rfl rfl ?v1 ?hy1 ?rest1
        case hy1 => intro w_ _; first | (go_simp; done) | (go_simp; with_reducible rfl)
        simp only [Act.put, List.setIfInBounds_toArray, List.set_cons_zero, List.set_cons_succ]
        refine Pl.takeW rfl rfl ?v2 ?hy2 ?rest2
        case hy2 => intro w_ _; first | (go_simp; done) | (go_simp; with_reducible rfl)
        simp only [Act.put, List.setIfInBounds_toArray, List.set_cons_zero, List.set_cons_succ]
        refine Pl.takeW rfl rfl ?v3 ?hy3 ?rest3
        case hy3 => intro w_ _; first | (go_simp; done) | (go_simp; with_reducible rfl)
        simp only [Act.put, List.setIfInBounds_toArray, List.set_cons_zero, List.set_cons_succ]
        refine Pl.takeW rfl rfl ?v4 ?hy4 ?rest4
        case hy4 => intro w_ _; first | (go_simp; done) | (go_simp; with_reducible rfl)
        simp only [Act.put, List.setIfInBounds_toArray, List.set_cons_zero, List.set_cons_succ]
        refine Pl.takeW rfl rfl ?v5 ?hy5 ?rest5
        case hy5 => intro w_ hS_; subst hS_; first | (go_simp; done) | (go_simp; with_reducible rfl)
        simp only [Act.put, List.setIfInBounds_toArray, List.set_cons_zero, List.set_cons_succ]
        refine Pl.takeW rfl rfl ?v6 ?hy6 ?rest6
        case hy6 => intro w_ _; first | (go_simp; done) | (go_simp; with_reducible rfl)
        simp only [Act.put, List.setIfInBounds_toArray, List.set_cons_zero, List.set_cons_succ]
        refine Pl.takeW rfl rfl ?v7 ?hy7 ?rest7
        case hy7 => intro w_ _; first | (go_simp; done) | (go_simp; with_reducible rfl)
        simp only [Act.put, List.setIfInBounds_toArray, List.set_cons_zero, List.set_cons_succ]
        refine Pl.takeW rfl rfl ?v8 ?hy8 ?rest8
        case hy8 => intro w_ _; first | (go_simp; done) | (go_simp; with_reducible rfl)
        simp only [Act.put, List.setIfInBounds_toArray, List.set_cons_zero, List.set_cons_succ]
        refine Pl.takeW rfl rfl ?v9 ?hy9 ?rest9
        case hy9 => intro w_ _; first | (go_simp; done) | (go_simp; with_reducible rfl)
        simp only [Act.put, List.setIfInBounds_toArray, List.set_cons_zero, List.set_cons_succ]
        show wpList _ _ _ _ _ _
        simp only [List.drop_succ_cons, List.drop_zero]
        go_wp2_with fail
        (try simp only [Exit.inBlock, Exit.then]); refine bodyPost_ret (results_tmp4 rfl _ _ _) rfl ?_
        rw [← Hr2.out]
        exact ⟨_, _, S4, HK4.out, HX4.out, rfl, NodesR.nil _, NatsR.nil _⟩
      rw [if_neg (fun h => h hE)] at hr2
      have hok' := rtok_ok hok htk hE
      rw [hE] at Htok
      have Hr2 := hid hr2
      have Hok' := hid hok'
      clear hd hat hA hX2 hS2 hr2 hE htk hok hok'
      go_wp2_with fail
      refine Htok.out.mono ?_
      rintro e w3 ⟨rfl, S3, k3, hX3⟩
      rw [if_pos rfl] at hX3
      have HX3 := hid hX3
      have HK3 := hid (HS2.out.trans k3)
      clear hX3 k3 e0 e1 e2 e3
      go_wp2_with fail
      go_roundw
      case rel => exact ⟨k + 1, rtok st t, S3, by omega, by go_num, HK3.out, HX3.out, Hr2.out, Hok'.out⟩
      case measure => simp [intOf]; omega
    · have hk' : k = l.length := by omega
      subst hk'
      rw [List.drop_length, rgo] at hr2
      have X2 := RdX.xs p st
      rcases hX2.open_ with ⟨ho, A5, c5, e2⟩ | ⟨q, ps, O, cO, ho, hcO, e2, e3, e4⟩
      · rw [ho] at hr2
        obtain ⟨S4, Rv, Tv, k4, hX4, f0, f1, hN, hT⟩ := RdX.done hX2
        have HX4 := hid (BX.xs.drew hX4)
        have HK4 := hid ((HK1.out.trans hS2).trans k4)
        have HN := hid hN
        have HTt := hid hT
        have Hr2 := hid hr2
        clear hX2 hS2 hX4 k4 hN hT hr2 ho hok
        go_wp2_with fail
        refine wp_plan 9 (.take 0 (.take 1 (.take 2 (.take 3 (.take 4 (.take 5 (.take 6 (.take 7 (.take 8 .fin))))))))) (fun w_ => w_ = _) (by kernel_rfl) (by kernel_rfl) (fun _ _ d_ _ _ h_ => by cases d_ <;> exact h_) rfl ?_
        refine Pl.takeW rfl rfl ?v10 ?hy10 ?rest10
        case hy10 => intro w_ _; first | (go_simp; done) | (go_simp; with_reducible rfl)
        simp only [Act.put, List.setIfInBounds_toArray, List.set_cons_zero, List.set_cons_succ]
        refine Pl.takeW rfl rfl ?v11 ?hy11 ?rest11
        case hy11 => intro w_ _; first | (go_simp; done) | (go_simp; with_reducible rfl)
        simp only [Act.put, List.setIfInBounds_toArray, List.set_cons_zero, List.set_cons_succ]
        refine Pl.takeW rfl rfl ?v12 ?hy12 ?rest12
        case hy12 => intro w_ _; first | (go_simp; done) | (go_simp; with_reducible rfl)
        simp only [Act.put, List.setIfInBounds_toArray, List.set_cons_zero, List.set_cons_succ]
        refine Pl.takeW rfl rfl ?v13 ?hy13 ?rest13
        case hy13 => intro w_ hS_; subst hS_; first | (go_simp; done) | (go_simp; with_reducible rfl)
        simp only [Act.put, List.setIfInBounds_toArray, List.set_cons_zero, List.set_cons_succ]
        refine Pl.takeW rfl rfl ?v14 ?hy14 ?rest14
        case hy14 => intro w_ _; first | (go_simp; done) | (go_simp; with_reducible rfl)
        simp only [Act.put, List.setIfInBounds_toArray, List.set_cons_zero, List.set_cons_succ]
        refine Pl.takeW rfl rfl ?v15 ?hy15 ?rest15
        case hy15 => intro w_ _; first | (go_simp; done) | (go_simp; with_reducible rfl)
        simp only [Act.put, List.setIfInBounds_toArray, List.set_cons_zero, List.set_cons_succ]
        refine Pl.takeW rfl rfl ?v16 ?hy16 ?rest16
        case hy16 => intro w_ _; first | (go_simp; done) | (go_simp; with_reducible rfl)
        simp only [Act.put, List.setIfInBounds_toArray, List.set_cons_zero, List.set_cons_succ]
        refine Pl.takeW rfl rfl ?v17 ?hy17 ?rest17
        case hy17 => intro w_ hS_; subst hS_; first | (go_simp; done) | (go_simp; with_reducible rfl)
        simp only [Act.put, List.setIfInBounds_toArray, List.set_cons_zero, List.set_cons_succ]
        refine Pl.takeW rfl rfl ?v18 ?hy18 ?rest18
        case hy18 => intro w_ _; first | (go_simp; done) | (go_simp; with_reducible rfl)
        simp only [Act.put, List.setIfInBounds_toArray, List.set_cons_zero, List.set_cons_succ]
        show wpList _ _ _ _ _ _
        simp only [List.drop_succ_cons, List.drop_zero]
        go_wp2_with fail
        (try simp only [Exit.inBlock, Exit.then]); refine bodyPost_ret (results_tmp4 rfl _ _ _) rfl ?_
        rw [← Hr2.out]
        exact ⟨_, _, S4, HK4.out, HX4.out, rfl, HN.out, HTt.out⟩
      · rw [ho] at hr2
        dsimp only at hr2
        have hfew := hok.few
        rw [ho, List.length_cons] at hfew
        have hpl : ps.length + 1 ≤ 1000000 := by omega
        have hl1 : 0 < l.length := by omega
        obtain ⟨m, hm⟩ : ∃ m, l.length = m + 1 := ⟨l.length - 1, by omega⟩
        obtain ⟨b, off, c2, hv2, _, _, hat⟩ := Hv.out.at_ (by intro h; rw [h] at hl1; simp at hl1)
        simp only [Value.slice.injEq, true_and] at hv2
        obtain ⟨rfl, rfl⟩ := hv2
        obtain ⟨t, ht⟩ : ∃ t, l[m]? = some t := ⟨_, List.getElem?_eq_some_iff.2 ⟨by omega, rfl⟩⟩
        have hlast : l.getLast? = some t := by rw [List.getLast?_eq_getElem?, hm]; exact ht
        have hA := hat m t ht
        have g0 := X2.cell hX2 (hA.c0.mono hS2)
        have g1 := X2.cell hX2 (hA.c1.mono hS2)
        rw [hlast] at hr2
        dsimp only [Option.getD_some] at hr2
        obtain ⟨S4, Rv, Tv, k4, hX4, _, _, _, _⟩ := RdX.done (X2.drew hX2)
        have hzI : (ps.length : Int) < (ps.length : Int) + 1 := by omega
        have hwr : IntKind.i64.wrap (ps.length : Int) = (ps.length : Int) := by rw [IntKind.wrap_i64]; omega
        have hop0 : (0 : Int) < (ps.length : Int) + 1 := by omega
        have hmI : (m : Int) < (m : Int) + 1 := by omega
        have hmw : IntKind.i64.wrap (m : Int) = (m : Int) := by rw [IntKind.wrap_i64]; omega
        have HX4 := hid hX4
        have HK4 := hid ((HK1.out.trans hS2).trans k4)
        have Hr2 := hid hr2
        have HA0 := hid hA
        by_cases h3 : t.kind = 3
        · have h3b : (t.kind == 3) = true := by simpa using h3
          have hr3 := Hr2.out
          rw [if_pos h3] at hr3
          have Hr3 := hid hr3
          clear hX2 hS2 hX4 k4 hr2 ho hok hat hA hlast ht h3 hr3
          rw [hm] at *
          go_wp2_with fail
          refine wp_plan 9 (.take 0 (.take 1 (.take 2 (.take 3 (.take 4 (.take 5 (.take 6 (.take 7 (.take 8 .fin))))))))) (fun w_ => w_ = _) (by kernel_rfl) (by kernel_rfl) (fun _ _ d_ _ _ h_ => by cases d_ <;> exact h_) rfl ?_
          refine Pl.takeW rfl rfl ?v19 ?hy19 ?rest19
          case hy19 => intro w_ _; first | (go_simp; done) | (go_simp; with_reducible rfl)
          simp only [Act.put, List.setIfInBounds_toArray, List.set_cons_zero, List.set_cons_succ]
          refine Pl.takeW rfl rfl ?v20 ?hy20 ?rest20
          case hy20 => intro w_ _; first | (go_simp; done) | (go_simp; with_reducible rfl)
          simp only [Act.put, List.setIfInBounds_toArray, List.set_cons_zero, List.set_cons_succ]
          refine Pl.takeW rfl rfl ?v21 ?hy21 ?rest21
          case hy21 => intro w_ _; first | (go_simp; done) | (go_simp; with_reducible rfl)
          simp only [Act.put, List.setIfInBounds_toArray, List.set_cons_zero, List.set_cons_succ]
          refine Pl.takeW rfl rfl ?v22 ?hy22 ?rest22
          case hy22 => intro w_ _; first | (go_simp; done) | (go_simp; with_reducible rfl)
          simp only [Act.put, List.setIfInBounds_toArray, List.set_cons_zero, List.set_cons_succ]
          refine Pl.takeW rfl rfl ?v23 ?hy23 ?rest23
          case hy23 => intro w_ _; first | (go_simp; done) | (go_simp; with_reducible rfl)
          simp only [Act.put, List.setIfInBounds_toArray, List.set_cons_zero, List.set_cons_succ]
          refine Pl.takeW rfl rfl ?v24 ?hy24 ?rest24
          case hy24 => intro w_ _; first | (go_simp; done) | (go_simp; with_reducible rfl)
          simp only [Act.put, List.setIfInBounds_toArray, List.set_cons_zero, List.set_cons_succ]
          refine Pl.takeW rfl rfl ?v25 ?hy25 ?rest25
          case hy25 => intro w_ hS_; subst hS_; first | (go_simp; done) | (go_simp; with_reducible rfl)
          simp only [Act.put, List.setIfInBounds_toArray, List.set_cons_zero, List.set_cons_succ]
          refine Pl.takeW rfl rfl ?v26 ?hy26 ?rest26
          case hy26 => intro w_ _; first | (go_simp; done) | (go_simp; with_reducible rfl)
          simp only [Act.put, List.setIfInBounds_toArray, List.set_cons_zero, List.set_cons_succ]
          refine Pl.takeW rfl rfl ?v27 ?hy27 ?rest27
          case hy27 => intro w_ _; first | (go_simp; done) | (go_simp; with_reducible rfl)
          simp only [Act.put, List.setIfInBounds_toArray, List.set_cons_zero, List.set_cons_succ]
          show wpList _ _ _ _ _ _
          simp only [List.drop_succ_cons, List.drop_zero]
          go_wp2_with fail
          (try simp only [Exit.inBlock, Exit.then]); refine bodyPost_ret (results_tmp4 rfl _ _ _) rfl ?_
          rw [← Hr3.out]
          exact ⟨_, _, S4, HK4.out, HX4.out, rfl, NodesR.nil _, NatsR.nil _⟩
        · have h3b : (t.kind == 3) = false := by simpa using h3
          have hr3 := Hr2.out
          rw [if_neg h3] at hr3
          have Hr3 := hid hr3
          clear hX2 hS2 hX4 k4 hr2 ho hok hat hA hlast ht h3 hr3
          rw [hm] at *
          go_wp2_with fail
          refine wp_plan 15 (.take 0 (.take 1 (.take 2 (.take 3 (.take 4 (.take 5 (.take 6 (.take 7 (.take 8 (.take 9 (.take 10 (.take 11 (.take 12 (.take 13 (.take 14 .fin))))))))))))))) (fun w_ => w_ = _) (by kernel_rfl) (by kernel_rfl) (fun _ _ d_ _ _ h_ => by cases d_ <;> exact h_) rfl ?_
          refine Pl.takeW rfl rfl ?v28 ?hy28 ?rest28
          case hy28 => intro w_ _; first | (go_simp; done) | (go_simp; with_reducible rfl)
          simp only [Act.put, List.setIfInBounds_toArray, List.set_cons_zero, List.set_cons_succ]
          refine Pl.takeW rfl rfl ?v29 ?hy29 ?rest29
          case hy29 => intro w_ _; first | (go_simp; done) | (go_simp; with_reducible rfl)
          simp only [Act.put, List.setIfInBounds_toArray, List.set_cons_zero, List.set_cons_succ]
          refine Pl.takeW rfl rfl ?v30 ?hy30 ?rest30
          case hy30 => intro w_ _; first | (go_simp; done) | (go_simp; with_reducible rfl)
          simp only [Act.put, List.setIfInBounds_toArray, List.set_cons_zero, List.set_cons_succ]
          refine Pl.takeW rfl rfl ?v31 ?hy31 ?rest31
          case hy31 => intro w_ hS_; subst hS_; first | (go_simp; done) | (go_simp; with_reducible rfl)
          simp only [Act.put, List.setIfInBounds_toArray, List.set_cons_zero, List.set_cons_succ]
          refine Pl.takeW rfl rfl ?v32 ?hy32 ?rest32
          case hy32 => intro w_ _; first | (go_simp; done) | (go_simp; with_reducible rfl)
          simp only [Act.put, List.setIfInBounds_toArray, List.set_cons_zero, List.set_cons_succ]
          refine Pl.takeW rfl rfl ?v33 ?hy33 ?rest33
          case hy33 => intro w_ _; first | (go_simp; done) | (go_simp; with_reducible rfl)
          simp only [Act.put, List.setIfInBounds_toArray, List.set_cons_zero, List.set_cons_succ]
          refine Pl.takeW rfl rfl ?v34 ?hy34 ?rest34
          case hy34 => intro w_ _; first | (go_simp; done) | (go_simp; with_reducible rfl)
          simp only [Act.put, List.setIfInBounds_toArray, List.set_cons_zero, List.set_cons_succ]
          refine Pl.takeW rfl rfl ?v35 ?hy35 ?rest35
          case hy35 => intro w_ hS_; subst hS_; first | (go_simp; done) | (go_simp; with_reducible rfl)
          simp only [Act.put, List.setIfInBounds_toArray, List.set_cons_zero, List.set_cons_succ]
          refine Pl.takeW rfl rfl ?v36 ?hy36 ?rest36
          case hy36 => intro w_ _; first | (go_simp; done) | (go_simp; with_reducible rfl)
          simp only [Act.put, List.setIfInBounds_toArray, List.set_cons_zero, List.set_cons_succ]
          refine Pl.takeW rfl rfl ?v37 ?hy37 ?rest37
          case hy37 => intro w_ _; first | (go_simp; done) | (go_simp; with_reducible rfl)
          simp only [Act.put, List.setIfInBounds_toArray, List.set_cons_zero, List.set_cons_succ]
          refine Pl.takeW rfl rfl ?v38 ?hy38 ?rest38
          case hy38 => intro w_ _; first | (go_simp; done) | (go_simp; with_reducible rfl)
          simp only [Act.put, List.setIfInBounds_toArray, List.set_cons_zero, List.set_cons_succ]
          refine Pl.takeW rfl rfl ?v39 ?hy39 ?rest39
          case hy39 => intro w_ _; first | (go_simp; done) | (go_simp; with_reducible rfl)
          simp only [Act.put, List.setIfInBounds_toArray, List.set_cons_zero, List.set_cons_succ]
          refine Pl.takeW rfl rfl ?v40 ?hy40 ?rest40
          case hy40 => intro w_ hS_; subst hS_; first | (go_simp; done) | (go_simp; with_reducible rfl)
          simp only [Act.put, List.setIfInBounds_toArray, List.set_cons_zero, List.set_cons_succ]
          refine Pl.takeW rfl rfl ?v41 ?hy41 ?rest41
          case hy41 => intro w_ _; first | (go_simp; done) | (go_simp; with_reducible rfl)
          simp only [Act.put, List.setIfInBounds_toArray, List.set_cons_zero, List.set_cons_succ]
          refine Pl.takeW rfl rfl ?v42 ?hy42 ?rest42
          case hy42 => intro w_ _; first | (go_simp; done) | (go_simp; with_reducible rfl)
          simp only [Act.put, List.setIfInBounds_toArray, List.set_cons_zero, List.set_cons_succ]
          show wpList _ _ _ _ _ _
          simp only [List.drop_succ_cons, List.drop_zero]
          go_wp2_with fail
          (try simp only [Exit.inBlock, Exit.then]); refine bodyPost_ret (results_tmp4 rfl _ _ _) rfl ?_
          rw [← Hr3.out]
          exact ⟨_, _, S4, HK4.out, HX4.out, rfl, NodesR.nil _, NatsR.nil _⟩
end Go.Proofs.Ytjjbidajkmodfaa
