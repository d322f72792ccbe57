/- Texts D3 of the proof. What each theorem says stands in its own statement. No condition beyond those that it names. -/
import Derived.Test.YtjjbidajkmodfaaXa11
set_option linter.unusedVariables false
set_option linter.unusedSimpArgs false
namespace Go.Proofs.Ytjjbidajkmodfaa
open Go Go.RowKit
def TokRet (S : Seal) (X : RS → Seal → World → Prop) (er : Int) (r r' : RS) (e : Ending) (w' : World) : Prop := e = .returned (int er) ∧ ∃ S', S.le S' ∧ X (if er = 0 then r' else r) S' w'
theorem RdX.open_ {p : Nat} {r : RS} {L : List Atom} {S : Seal} {w : World} (h : RdX p r L S w) : (r.op = [] ∧ ∃ A c, w.cell? ⟨p, 2, none⟩ = some (.slice A 0 c)) ∨
    ∃ q ps O c, r.op = q :: ps ∧ ps.length < c ∧ w.cell? ⟨p, 2, none⟩ = some (.slice (some ⟨O, 0, none⟩) (ps.length + 1) c) ∧ w.cell? ⟨O, ps.length * 3, none⟩ = some (int q.at_) ∧ w.cell? ⟨O, ps.length * 3 + 1, none⟩ = some (.bool q.quote) := by
  obtain ⟨g, Rv, Tv, Ov, cells, zs, hw, hc, hop⟩ := h
  rcases (show zs = [] ∨ ∃ a b, zs = a ++ [b] by rcases List.eq_nil_or_concat zs with h | ⟨a, b, h⟩; exact .inl h; exact .inr ⟨a, b, by rw [h, List.concat_eq_append]⟩) with rfl | ⟨zs', z, rfl⟩
  · left
    obtain ⟨A5, c5, rfl, _, _⟩ := hw.rowLenM (e := 76) (size := 3) (v := Ov) (n := 0) (xs := []) (by simp [rdAtoms])
    exact ⟨hop, A5, c5, hw.blkM (b := p) (c := #[Rv, Tv, .slice A5 0 c5]) (t := 71) (by simp [rdAtoms]) 2⟩
  · right
    obtain ⟨q, v⟩ := z
    have hlO : (zs' ++ [(q, v)]).length = zs'.length + 1 := by simp
    obtain ⟨O, cO, rfl, hO1, hO2⟩ := hw.rowM (e := 76) (size := 3) (v := Ov) (n := (zs' ++ [(q, v)]).length) (xs := (zs' ++ [(q, v)]).flatMap partCells) (by simp [rdAtoms]) (by simp)
    have hpl : ((zs'.map Prod.fst).reverse).length = zs'.length := by simp
    rw [hlO] at hw hO1
    refine ⟨q, (zs'.map Prod.fst).reverse, O, cO, by rw [hop]; simp, by rw [hpl]; omega, ?_, ?_, ?_⟩
    · rw [hpl]; exact hw.blkM (b := p) (c := #[Rv, Tv, .slice (some ⟨O, 0, none⟩) (zs'.length + 1) cO]) (t := 71) (by simp [rdAtoms]) 2
    · rw [hpl]
      have := hw.rowCellM (e := 76) (size := 3) (n := zs'.length + 1) (g := O) (c := cO) (xs := (zs' ++ [(q, v)]).flatMap partCells) (by simp [rdAtoms]) (flatMap_at zs' (q, v) 0 _ rfl (by omega))
      exact this
    · rw [hpl]; exact hw.rowCellM (e := 76) (size := 3) (n := zs'.length + 1) (g := O) (c := cO) (xs := (zs' ++ [(q, v)]).flatMap partCells) (by simp [rdAtoms]) (flatMap_at zs' (q, v) 1 _ rfl (by omega))
section
variable (p : Nat) (r : RS) (L : List Atom) (S : Seal) (w : World)
set_option maxRecDepth 100000 in
set_option maxHeartbeats 8000000 in
theorem D_tok4 (at_ : Nat) (n : Int) (s : Str) (hF : Few r) (hX : RdX p r L S w) (hf : r.row.length + r.op.length + 2 ≤ 1000000) :
    Calls Try.prog 29 #[ptr p, tokV ⟨4, at_, n, s⟩] w (TokRet S (fun r => RdX p r L) 0 r (r.put ⟨1, at_, n, [], []⟩)) := by
  have X := RdX.xs p r
  have hA := X.alloc0 hX (.cells #[.int .u8 4, nat at_, int n, str s] 74)
  have hAd := X.drew hA
  have hol : r.op.length ≤ 1000000 := by have := hF.n; omega
  have HF := hid hF
  have HA := hid hA
  have HAd := hid hAd
  have Hf := hid hf
  have ho := hA.open_
  clear hX hF hAd hf hA
  have Hput := hid ((D_both p r.op.length).2 r L S _ ⟨1, at_, n, [], []⟩ _ (Nat.le_refl _) HF.out HAd.out (NatsR.nil _) (by simp) (by have := Hf.out; omega))
  rcases ho with ⟨ho, A5, c5, e2⟩ | ⟨q, ps, O, cO, ho, hcO, e2, e3, e4⟩
  · have Ho := hid ho
    clear ho
    go_enter Try.func29, Try.ntmps29
    go_wp2_with fail
    refine wp_plan 17 (.take 0 (.take 1 (.take 2 (.take 3 (.take 4 (.take 5 (.take 6 (.take 7 (.take 8 (.take 9 (.take 10 (.take 11 (.take 12 (.take 13 (.take 14 (.take 15 (.take 16 .fin))))))))))))))))) (fun w_ => w_ = _) (by kernel_rfl) (by kernel_rfl) (fun _ _ d_ _ _ h_ => by cases d_ <;> exact h_) rfl ?_
    refine Pl.takeW rfl rfl ?v1 ?hy1 ?rest1
    case hy1 => intro w_ _; first | (go_simp; done) | (go_simp; with_reducible rfl)
    simp only [Act.put, List.setIfInBounds_toArray, List.set_cons_zero, List.set_cons_succ]
    refine Pl.takeW rfl rfl ?v2 ?hy2 ?rest2
    case hy2 => intro w_ _; first | (go_simp; done) | (go_simp; with_reducible rfl)
    simp only [Act.put, List.setIfInBounds_toArray, List.set_cons_zero, List.set_cons_succ]
    refine Pl.takeW rfl rfl ?v3 ?hy3 ?rest3
    case hy3 => intro w_ _; first | (go_simp; done) | (go_simp; with_reducible rfl)
    simp only [Act.put, List.setIfInBounds_toArray, List.set_cons_zero, List.set_cons_succ]
    refine Pl.takeW rfl rfl ?v4 ?hy4 ?rest4
    case hy4 => intro w_ hS_; subst hS_; first | (go_simp; done) | (go_simp; with_reducible rfl)
    simp only [Act.put, List.setIfInBounds_toArray, List.set_cons_zero, List.set_cons_succ]
    refine Pl.takeW rfl rfl ?v5 ?hy5 ?rest5
    case hy5 => intro w_ _; first | (go_simp; done) | (go_simp; with_reducible rfl)
    simp only [Act.put, List.setIfInBounds_toArray, List.set_cons_zero, List.set_cons_succ]
    refine Pl.takeW rfl rfl ?v6 ?hy6 ?rest6
    case hy6 => intro w_ _; first | (go_simp; done) | (go_simp; with_reducible rfl)
    simp only [Act.put, List.setIfInBounds_toArray, List.set_cons_zero, List.set_cons_succ]
    refine Pl.takeW rfl rfl ?v7 ?hy7 ?rest7
    case hy7 => intro w_ _; first | (go_simp; done) | (go_simp; with_reducible rfl)
    simp only [Act.put, List.setIfInBounds_toArray, List.set_cons_zero, List.set_cons_succ]
    first
      | (refine Pl.takeW rfl rfl ?v8 ?hy8 ?rest8
         case hy8 => intro w_ _; first | (go_simp; done) | (go_simp; with_reducible rfl))
      | refine Pl.takeU rfl rfl ?rest8
    simp only [Act.put, List.setIfInBounds_toArray, List.set_cons_zero, List.set_cons_succ]
    first
      | (refine Pl.takeW rfl rfl ?v9 ?hy9 ?rest9
         case hy9 => intro w_ _; first | (go_simp; done) | (go_simp; with_reducible rfl))
      | refine Pl.takeU rfl rfl ?rest9
    simp only [Act.put, List.setIfInBounds_toArray, List.set_cons_zero, List.set_cons_succ]
    first
      | (refine Pl.takeW rfl rfl ?v10 ?hy10 ?rest10
         case hy10 => intro w_ _; first | (go_simp; done) | (go_simp; with_reducible rfl))
      | refine Pl.takeU rfl rfl ?rest10
    simp only [Act.put, List.setIfInBounds_toArray, List.set_cons_zero, List.set_cons_succ]
    first
      | (refine Pl.takeW rfl rfl ?v11 ?hy11 ?rest11
         case hy11 => intro w_ hS_; subst hS_; first | (go_simp; done) | (go_simp; with_reducible rfl))
      | refine Pl.takeU rfl rfl ?rest11
    simp only [Act.put, List.setIfInBounds_toArray, List.set_cons_zero, List.set_cons_succ]
    first
      | (refine Pl.takeW rfl rfl ?v12 ?hy12 ?rest12
         case hy12 => intro w_ _; first | (go_simp; done) | (go_simp; with_reducible rfl))
      | refine Pl.takeU rfl rfl ?rest12
    simp only [Act.put, List.setIfInBounds_toArray, List.set_cons_zero, List.set_cons_succ]
    first
      | (refine Pl.takeW rfl rfl ?v13 ?hy13 ?rest13
         case hy13 => intro w_ _; first | (go_simp; done) | (go_simp; with_reducible rfl))
      | refine Pl.takeU rfl rfl ?rest13
    simp only [Act.put, List.setIfInBounds_toArray, List.set_cons_zero, List.set_cons_succ]
    first
      | (refine Pl.takeW rfl rfl ?v14 ?hy14 ?rest14
         case hy14 => intro w_ _; first | (go_simp; done) | (go_simp; with_reducible rfl))
      | refine Pl.takeU rfl rfl ?rest14
    simp only [Act.put, List.setIfInBounds_toArray, List.set_cons_zero, List.set_cons_succ]
    first
      | (refine Pl.takeW rfl rfl ?v15 ?hy15 ?rest15
         case hy15 => intro w_ hS_; subst hS_; first | (go_simp; done) | (go_simp; with_reducible rfl))
      | refine Pl.takeU rfl rfl ?rest15
    simp only [Act.put, List.setIfInBounds_toArray, List.set_cons_zero, List.set_cons_succ]
    first
      | (refine Pl.takeW rfl rfl ?v16 ?hy16 ?rest16
         case hy16 => intro w_ _; first | (go_simp; done) | (go_simp; with_reducible rfl))
      | refine Pl.takeU rfl rfl ?rest16
    simp only [Act.put, List.setIfInBounds_toArray, List.set_cons_zero, List.set_cons_succ]
    first
      | (refine Pl.takeW rfl rfl ?v17 ?hy17 ?rest17
         case hy17 => intro w_ _; first | (go_simp; done) | (go_simp; with_reducible rfl))
      | refine Pl.takeU rfl rfl ?rest17
    simp only [Act.put, List.setIfInBounds_toArray, List.set_cons_zero, List.set_cons_succ]
    show wpList _ _ _ _ _ _
    simp only [List.drop_succ_cons, List.drop_zero]
    go_wp2_with fail
    refine (Hput.out).mono ?_
    rintro e w2 ⟨rfl, S2, k2, hX2⟩
    go_wp2_with fail
    go_ret
    exact ⟨rfl, S2, k2, hX2⟩
  · have hpl : ps.length + 1 ≤ 1000000 := by rw [ho] at hol; simpa using hol
    have hzI : (ps.length : Int) < (ps.length : Int) + 1 := by omega
    have hwr : IntKind.i64.wrap (ps.length : Int) = (ps.length : Int) := by rw [IntKind.wrap_i64]; omega
    have Ho := hid ho
    have hop0 : (0 : Int) < (ps.length : Int) + 1 := by omega
    clear ho hol
    cases hq : q.quote with
    | true =>
      rw [hq] at e4
      go_enter Try.func29, Try.ntmps29
      go_wp2_with fail
      refine wp_plan 17 (.take 0 (.take 1 (.take 2 (.take 3 (.take 4 (.take 5 (.take 6 (.take 7 (.take 8 (.take 9 (.take 10 (.take 11 (.take 12 (.take 13 (.take 14 (.take 15 (.take 16 .fin))))))))))))))))) (fun w_ => w_ = _) (by kernel_rfl) (by kernel_rfl) (fun _ _ d_ _ _ h_ => by cases d_ <;> exact h_) rfl ?_
      refine Pl.takeW rfl rfl ?v18 ?hy18 ?rest18
      case hy18 => intro w_ _; first | (go_simp; done) | (go_simp; with_reducible rfl)
      simp only [Act.put, List.setIfInBounds_toArray, List.set_cons_zero, List.set_cons_succ]
      refine Pl.takeW rfl rfl ?v19 ?hy19 ?rest19
      case hy19 => intro w_ _; first | (go_simp; done) | (go_simp; with_reducible rfl)
      simp only [Act.put, List.setIfInBounds_toArray, List.set_cons_zero, List.set_cons_succ]
      refine Pl.takeW rfl rfl ?v20 ?hy20 ?rest20
      case hy20 => intro w_ _; first | (go_simp; done) | (go_simp; with_reducible rfl)
      simp only [Act.put, List.setIfInBounds_toArray, List.set_cons_zero, List.set_cons_succ]
      refine Pl.takeW rfl rfl ?v21 ?hy21 ?rest21
      case hy21 => intro w_ hS_; subst hS_; first | (go_simp; done) | (go_simp; with_reducible rfl)
      simp only [Act.put, List.setIfInBounds_toArray, List.set_cons_zero, List.set_cons_succ]
      refine Pl.takeW rfl rfl ?v22 ?hy22 ?rest22
      case hy22 => intro w_ _; first | (go_simp; done) | (go_simp; with_reducible rfl)
      simp only [Act.put, List.setIfInBounds_toArray, List.set_cons_zero, List.set_cons_succ]
      refine Pl.takeW rfl rfl ?v23 ?hy23 ?rest23
      case hy23 => intro w_ _; first | (go_simp; done) | (go_simp; with_reducible rfl)
      simp only [Act.put, List.setIfInBounds_toArray, List.set_cons_zero, List.set_cons_succ]
      refine Pl.takeW rfl rfl ?v24 ?hy24 ?rest24
      case hy24 => intro w_ _; first | (go_simp; done) | (go_simp; with_reducible rfl)
      simp only [Act.put, List.setIfInBounds_toArray, List.set_cons_zero, List.set_cons_succ]
      first
        | (refine Pl.takeW rfl rfl ?v25 ?hy25 ?rest25
           case hy25 => intro w_ _; first | (go_simp; done) | (go_simp; with_reducible rfl))
        | refine Pl.takeU rfl rfl ?rest25
      simp only [Act.put, List.setIfInBounds_toArray, List.set_cons_zero, List.set_cons_succ]
      first
        | (refine Pl.takeW rfl rfl ?v26 ?hy26 ?rest26
           case hy26 => intro w_ _; first | (go_simp; done) | (go_simp; with_reducible rfl))
        | refine Pl.takeU rfl rfl ?rest26
      simp only [Act.put, List.setIfInBounds_toArray, List.set_cons_zero, List.set_cons_succ]
      first
        | (refine Pl.takeW rfl rfl ?v27 ?hy27 ?rest27
           case hy27 => intro w_ _; first | (go_simp; done) | (go_simp; with_reducible rfl))
        | refine Pl.takeU rfl rfl ?rest27
      simp only [Act.put, List.setIfInBounds_toArray, List.set_cons_zero, List.set_cons_succ]
      first
        | (refine Pl.takeW rfl rfl ?v28 ?hy28 ?rest28
           case hy28 => intro w_ hS_; subst hS_; first | (go_simp; done) | (go_simp; with_reducible rfl))
        | refine Pl.takeU rfl rfl ?rest28
      simp only [Act.put, List.setIfInBounds_toArray, List.set_cons_zero, List.set_cons_succ]
      first
        | (refine Pl.takeW rfl rfl ?v29 ?hy29 ?rest29
           case hy29 => intro w_ _; first | (go_simp; done) | (go_simp; with_reducible rfl))
        | refine Pl.takeU rfl rfl ?rest29
      simp only [Act.put, List.setIfInBounds_toArray, List.set_cons_zero, List.set_cons_succ]
      first
        | (refine Pl.takeW rfl rfl ?v30 ?hy30 ?rest30
           case hy30 => intro w_ _; first | (go_simp; done) | (go_simp; with_reducible rfl))
        | refine Pl.takeU rfl rfl ?rest30
      simp only [Act.put, List.setIfInBounds_toArray, List.set_cons_zero, List.set_cons_succ]
      first
        | (refine Pl.takeW rfl rfl ?v31 ?hy31 ?rest31
           case hy31 => intro w_ _; first | (go_simp; done) | (go_simp; with_reducible rfl))
        | refine Pl.takeU rfl rfl ?rest31
      simp only [Act.put, List.setIfInBounds_toArray, List.set_cons_zero, List.set_cons_succ]
      first
        | (refine Pl.takeW rfl rfl ?v32 ?hy32 ?rest32
           case hy32 => intro w_ hS_; subst hS_; first | (go_simp; done) | (go_simp; with_reducible rfl))
        | refine Pl.takeU rfl rfl ?rest32
      simp only [Act.put, List.setIfInBounds_toArray, List.set_cons_zero, List.set_cons_succ]
      first
        | (refine Pl.takeW rfl rfl ?v33 ?hy33 ?rest33
           case hy33 => intro w_ _; first | (go_simp; done) | (go_simp; with_reducible rfl))
        | refine Pl.takeU rfl rfl ?rest33
      simp only [Act.put, List.setIfInBounds_toArray, List.set_cons_zero, List.set_cons_succ]
      first
        | (refine Pl.takeW rfl rfl ?v34 ?hy34 ?rest34
           case hy34 => intro w_ _; first | (go_simp; done) | (go_simp; with_reducible rfl))
        | refine Pl.takeU rfl rfl ?rest34
      simp only [Act.put, List.setIfInBounds_toArray, List.set_cons_zero, List.set_cons_succ]
      show wpList _ _ _ _ _ _
      simp only [List.drop_succ_cons, List.drop_zero]
      go_wp2_with fail
      refine (Hput.out).mono ?_
      rintro e w2 ⟨rfl, S2, k2, hX2⟩
      go_wp2_with fail
      go_ret
      exact ⟨rfl, S2, k2, hX2⟩
    | false =>
      rw [hq] at e4
      go_enter Try.func29, Try.ntmps29
      go_wp2_with fail
      refine wp_plan 17 (.take 0 (.take 1 (.take 2 (.take 3 (.take 4 (.take 5 (.take 6 (.take 7 (.take 8 (.take 9 (.take 10 (.take 11 (.take 12 (.take 13 (.take 14 (.take 15 (.take 16 .fin))))))))))))))))) (fun w_ => w_ = _) (by kernel_rfl) (by kernel_rfl) (fun _ _ d_ _ _ h_ => by cases d_ <;> exact h_) rfl ?_
      refine Pl.takeW rfl rfl ?v35 ?hy35 ?rest35
      case hy35 => intro w_ _; first | (go_simp; done) | (go_simp; with_reducible rfl)
      simp only [Act.put, List.setIfInBounds_toArray, List.set_cons_zero, List.set_cons_succ]
      refine Pl.takeW rfl rfl ?v36 ?hy36 ?rest36
      case hy36 => intro w_ _; first | (go_simp; done) | (go_simp; with_reducible rfl)
      simp only [Act.put, List.setIfInBounds_toArray, List.set_cons_zero, List.set_cons_succ]
      refine Pl.takeW rfl rfl ?v37 ?hy37 ?rest37
      case hy37 => intro w_ _; first | (go_simp; done) | (go_simp; with_reducible rfl)
      simp only [Act.put, List.setIfInBounds_toArray, List.set_cons_zero, List.set_cons_succ]
      refine Pl.takeW rfl rfl ?v38 ?hy38 ?rest38
      case hy38 => intro w_ hS_; subst hS_; first | (go_simp; done) | (go_simp; with_reducible rfl)
      simp only [Act.put, List.setIfInBounds_toArray, List.set_cons_zero, List.set_cons_succ]
      refine Pl.takeW rfl rfl ?v39 ?hy39 ?rest39
      case hy39 => intro w_ _; first | (go_simp; done) | (go_simp; with_reducible rfl)
      simp only [Act.put, List.setIfInBounds_toArray, List.set_cons_zero, List.set_cons_succ]
      refine Pl.takeW rfl rfl ?v40 ?hy40 ?rest40
      case hy40 => intro w_ _; first | (go_simp; done) | (go_simp; with_reducible rfl)
      simp only [Act.put, List.setIfInBounds_toArray, List.set_cons_zero, List.set_cons_succ]
      refine Pl.takeW rfl rfl ?v41 ?hy41 ?rest41
      case hy41 => intro w_ _; first | (go_simp; done) | (go_simp; with_reducible rfl)
      simp only [Act.put, List.setIfInBounds_toArray, List.set_cons_zero, List.set_cons_succ]
      first
        | (refine Pl.takeW rfl rfl ?v42 ?hy42 ?rest42
           case hy42 => intro w_ _; first | (go_simp; done) | (go_simp; with_reducible rfl))
        | refine Pl.takeU rfl rfl ?rest42
      simp only [Act.put, List.setIfInBounds_toArray, List.set_cons_zero, List.set_cons_succ]
      first
        | (refine Pl.takeW rfl rfl ?v43 ?hy43 ?rest43
           case hy43 => intro w_ _; first | (go_simp; done) | (go_simp; with_reducible rfl))
        | refine Pl.takeU rfl rfl ?rest43
      simp only [Act.put, List.setIfInBounds_toArray, List.set_cons_zero, List.set_cons_succ]
      first
        | (refine Pl.takeW rfl rfl ?v44 ?hy44 ?rest44
           case hy44 => intro w_ _; first | (go_simp; done) | (go_simp; with_reducible rfl))
        | refine Pl.takeU rfl rfl ?rest44
      simp only [Act.put, List.setIfInBounds_toArray, List.set_cons_zero, List.set_cons_succ]
      first
        | (refine Pl.takeW rfl rfl ?v45 ?hy45 ?rest45
           case hy45 => intro w_ hS_; subst hS_; first | (go_simp; done) | (go_simp; with_reducible rfl))
        | refine Pl.takeU rfl rfl ?rest45
      simp only [Act.put, List.setIfInBounds_toArray, List.set_cons_zero, List.set_cons_succ]
      first
        | (refine Pl.takeW rfl rfl ?v46 ?hy46 ?rest46
           case hy46 => intro w_ _; first | (go_simp; done) | (go_simp; with_reducible rfl))
        | refine Pl.takeU rfl rfl ?rest46
      simp only [Act.put, List.setIfInBounds_toArray, List.set_cons_zero, List.set_cons_succ]
      first
        | (refine Pl.takeW rfl rfl ?v47 ?hy47 ?rest47
           case hy47 => intro w_ _; first | (go_simp; done) | (go_simp; with_reducible rfl))
        | refine Pl.takeU rfl rfl ?rest47
      simp only [Act.put, List.setIfInBounds_toArray, List.set_cons_zero, List.set_cons_succ]
      first
        | (refine Pl.takeW rfl rfl ?v48 ?hy48 ?rest48
           case hy48 => intro w_ _; first | (go_simp; done) | (go_simp; with_reducible rfl))
        | refine Pl.takeU rfl rfl ?rest48
      simp only [Act.put, List.setIfInBounds_toArray, List.set_cons_zero, List.set_cons_succ]
      first
        | (refine Pl.takeW rfl rfl ?v49 ?hy49 ?rest49
           case hy49 => intro w_ hS_; subst hS_; first | (go_simp; done) | (go_simp; with_reducible rfl))
        | refine Pl.takeU rfl rfl ?rest49
      simp only [Act.put, List.setIfInBounds_toArray, List.set_cons_zero, List.set_cons_succ]
      first
        | (refine Pl.takeW rfl rfl ?v50 ?hy50 ?rest50
           case hy50 => intro w_ _; first | (go_simp; done) | (go_simp; with_reducible rfl))
        | refine Pl.takeU rfl rfl ?rest50
      simp only [Act.put, List.setIfInBounds_toArray, List.set_cons_zero, List.set_cons_succ]
      first
        | (refine Pl.takeW rfl rfl ?v51 ?hy51 ?rest51
           case hy51 => intro w_ _; first | (go_simp; done) | (go_simp; with_reducible rfl))
        | refine Pl.takeU rfl rfl ?rest51
      simp only [Act.put, List.setIfInBounds_toArray, List.set_cons_zero, List.set_cons_succ]
      show wpList _ _ _ _ _ _
      simp only [List.drop_succ_cons, List.drop_zero]
      go_wp2_with fail
      refine (Hput.out).mono ?_
      rintro e w2 ⟨rfl, S2, k2, hX2⟩
      go_wp2_with fail
      go_ret
      exact ⟨rfl, S2, k2, hX2⟩
set_option maxRecDepth 100000 in
set_option maxHeartbeats 8000000 in
theorem D_tok5 (at_ : Nat) (n : Int) (s : Str) (hF : Few r) (hX : RdX p r L S w) (hf : r.row.length + r.op.length + 2 ≤ 1000000) :
    Calls Try.prog 29 #[ptr p, tokV ⟨5, at_, n, s⟩] w (TokRet S (fun r => RdX p r L) 0 r (r.put ⟨2, at_, n, [], []⟩)) := by
  have X := RdX.xs p r
  have hA := X.alloc0 hX (.cells #[.int .u8 5, nat at_, int n, str s] 74)
  have hAd := X.drew hA
  have hol : r.op.length ≤ 1000000 := by have := hF.n; omega
  have HF := hid hF
  have HA := hid hA
  have HAd := hid hAd
  have Hf := hid hf
  have ho := hA.open_
  clear hX hF hAd hf hA
  have Hput := hid ((D_both p r.op.length).2 r L S _ ⟨2, at_, n, [], []⟩ _ (Nat.le_refl _) HF.out HAd.out (NatsR.nil _) (by simp) (by have := Hf.out; omega))
  rcases ho with ⟨ho, A5, c5, e2⟩ | ⟨q, ps, O, cO, ho, hcO, e2, e3, e4⟩
  · have Ho := hid ho
    clear ho
    go_enter Try.func29, Try.ntmps29
    go_wp2_with fail
    refine wp_plan 17 (.take 0 (.take 1 (.take 2 (.take 3 (.take 4 (.take 5 (.take 6 (.take 7 (.take 8 (.take 9 (.take 10 (.take 11 (.take 12 (.take 13 (.take 14 (.take 15 (.take 16 .fin))))))))))))))))) (fun w_ => w_ = _) (by kernel_rfl) (by kernel_rfl) (fun _ _ d_ _ _ h_ => by cases d_ <;> exact h_) rfl ?_
    refine Pl.takeW rfl rfl ?v52 ?hy52 ?rest52
    case hy52 => intro w_ _; first | (go_simp; done) | (go_simp; with_reducible rfl)
    simp only [Act.put, List.setIfInBounds_toArray, List.set_cons_zero, List.set_cons_succ]
    refine Pl.takeW rfl rfl ?v53 ?hy53 ?rest53
    case hy53 => intro w_ _; first | (go_simp; done) | (go_simp; with_reducible rfl)
    simp only [Act.put, List.setIfInBounds_toArray, List.set_cons_zero, List.set_cons_succ]
    refine Pl.takeW rfl rfl ?v54 ?hy54 ?rest54
    case hy54 => intro w_ _; first | (go_simp; done) | (go_simp; with_reducible rfl)
    simp only [Act.put, List.setIfInBounds_toArray, List.set_cons_zero, List.set_cons_succ]
    refine Pl.takeW rfl rfl ?v55 ?hy55 ?rest55
    case hy55 => intro w_ hS_; subst hS_; first | (go_simp; done) | (go_simp; with_reducible rfl)
    simp only [Act.put, List.setIfInBounds_toArray, List.set_cons_zero, List.set_cons_succ]
    refine Pl.takeW rfl rfl ?v56 ?hy56 ?rest56
    case hy56 => intro w_ _; first | (go_simp; done) | (go_simp; with_reducible rfl)
    simp only [Act.put, List.setIfInBounds_toArray, List.set_cons_zero, List.set_cons_succ]
    refine Pl.takeW rfl rfl ?v57 ?hy57 ?rest57
    case hy57 => intro w_ _; first | (go_simp; done) | (go_simp; with_reducible rfl)
    simp only [Act.put, List.setIfInBounds_toArray, List.set_cons_zero, List.set_cons_succ]
    refine Pl.takeW rfl rfl ?v58 ?hy58 ?rest58
    case hy58 => intro w_ _; first | (go_simp; done) | (go_simp; with_reducible rfl)
    simp only [Act.put, List.setIfInBounds_toArray, List.set_cons_zero, List.set_cons_succ]
    first
      | (refine Pl.takeW rfl rfl ?v59 ?hy59 ?rest59
         case hy59 => intro w_ _; first | (go_simp; done) | (go_simp; with_reducible rfl))
      | refine Pl.takeU rfl rfl ?rest59
    simp only [Act.put, List.setIfInBounds_toArray, List.set_cons_zero, List.set_cons_succ]
    first
      | (refine Pl.takeW rfl rfl ?v60 ?hy60 ?rest60
         case hy60 => intro w_ _; first | (go_simp; done) | (go_simp; with_reducible rfl))
      | refine Pl.takeU rfl rfl ?rest60
    simp only [Act.put, List.setIfInBounds_toArray, List.set_cons_zero, List.set_cons_succ]
    first
      | (refine Pl.takeW rfl rfl ?v61 ?hy61 ?rest61
         case hy61 => intro w_ _; first | (go_simp; done) | (go_simp; with_reducible rfl))
      | refine Pl.takeU rfl rfl ?rest61
    simp only [Act.put, List.setIfInBounds_toArray, List.set_cons_zero, List.set_cons_succ]
    first
      | (refine Pl.takeW rfl rfl ?v62 ?hy62 ?rest62
         case hy62 => intro w_ hS_; subst hS_; first | (go_simp; done) | (go_simp; with_reducible rfl))
      | refine Pl.takeU rfl rfl ?rest62
    simp only [Act.put, List.setIfInBounds_toArray, List.set_cons_zero, List.set_cons_succ]
    first
      | (refine Pl.takeW rfl rfl ?v63 ?hy63 ?rest63
         case hy63 => intro w_ _; first | (go_simp; done) | (go_simp; with_reducible rfl))
      | refine Pl.takeU rfl rfl ?rest63
    simp only [Act.put, List.setIfInBounds_toArray, List.set_cons_zero, List.set_cons_succ]
    first
      | (refine Pl.takeW rfl rfl ?v64 ?hy64 ?rest64
         case hy64 => intro w_ _; first | (go_simp; done) | (go_simp; with_reducible rfl))
      | refine Pl.takeU rfl rfl ?rest64
    simp only [Act.put, List.setIfInBounds_toArray, List.set_cons_zero, List.set_cons_succ]
    first
      | (refine Pl.takeW rfl rfl ?v65 ?hy65 ?rest65
         case hy65 => intro w_ _; first | (go_simp; done) | (go_simp; with_reducible rfl))
      | refine Pl.takeU rfl rfl ?rest65
    simp only [Act.put, List.setIfInBounds_toArray, List.set_cons_zero, List.set_cons_succ]
    first
      | (refine Pl.takeW rfl rfl ?v66 ?hy66 ?rest66
         case hy66 => intro w_ hS_; subst hS_; first | (go_simp; done) | (go_simp; with_reducible rfl))
      | refine Pl.takeU rfl rfl ?rest66
    simp only [Act.put, List.setIfInBounds_toArray, List.set_cons_zero, List.set_cons_succ]
    first
      | (refine Pl.takeW rfl rfl ?v67 ?hy67 ?rest67
         case hy67 => intro w_ _; first | (go_simp; done) | (go_simp; with_reducible rfl))
      | refine Pl.takeU rfl rfl ?rest67
    simp only [Act.put, List.setIfInBounds_toArray, List.set_cons_zero, List.set_cons_succ]
    first
      | (refine Pl.takeW rfl rfl ?v68 ?hy68 ?rest68
         case hy68 => intro w_ _; first | (go_simp; done) | (go_simp; with_reducible rfl))
      | refine Pl.takeU rfl rfl ?rest68
    simp only [Act.put, List.setIfInBounds_toArray, List.set_cons_zero, List.set_cons_succ]
    show wpList _ _ _ _ _ _
    simp only [List.drop_succ_cons, List.drop_zero]
    go_wp2_with fail
    refine (Hput.out).mono ?_
    rintro e w2 ⟨rfl, S2, k2, hX2⟩
    go_wp2_with fail
    go_ret
    exact ⟨rfl, S2, k2, hX2⟩
  · have hpl : ps.length + 1 ≤ 1000000 := by rw [ho] at hol; simpa using hol
    have hzI : (ps.length : Int) < (ps.length : Int) + 1 := by omega
    have hwr : IntKind.i64.wrap (ps.length : Int) = (ps.length : Int) := by rw [IntKind.wrap_i64]; omega
    have Ho := hid ho
    have hop0 : (0 : Int) < (ps.length : Int) + 1 := by omega
    clear ho hol
    cases hq : q.quote with
    | true =>
      rw [hq] at e4
      go_enter Try.func29, Try.ntmps29
      go_wp2_with fail
      refine wp_plan 17 (.take 0 (.take 1 (.take 2 (.take 3 (.take 4 (.take 5 (.take 6 (.take 7 (.take 8 (.take 9 (.take 10 (.take 11 (.take 12 (.take 13 (.take 14 (.take 15 (.take 16 .fin))))))))))))))))) (fun w_ => w_ = _) (by kernel_rfl) (by kernel_rfl) (fun _ _ d_ _ _ h_ => by cases d_ <;> exact h_) rfl ?_
      refine Pl.takeW rfl rfl ?v69 ?hy69 ?rest69
      case hy69 => intro w_ _; first | (go_simp; done) | (go_simp; with_reducible rfl)
      simp only [Act.put, List.setIfInBounds_toArray, List.set_cons_zero, List.set_cons_succ]
      refine Pl.takeW rfl rfl ?v70 ?hy70 ?rest70
      case hy70 => intro w_ _; first | (go_simp; done) | (go_simp; with_reducible rfl)
      simp only [Act.put, List.setIfInBounds_toArray, List.set_cons_zero, List.set_cons_succ]
      refine Pl.takeW rfl rfl ?v71 ?hy71 ?rest71
      case hy71 => intro w_ _; first | (go_simp; done) | (go_simp; with_reducible rfl)
      simp only [Act.put, List.setIfInBounds_toArray, List.set_cons_zero, List.set_cons_succ]
      refine Pl.takeW rfl rfl ?v72 ?hy72 ?rest72
      case hy72 => intro w_ hS_; subst hS_; first | (go_simp; done) | (go_simp; with_reducible rfl)
      simp only [Act.put, List.setIfInBounds_toArray, List.set_cons_zero, List.set_cons_succ]
      refine Pl.takeW rfl rfl ?v73 ?hy73 ?rest73
      case hy73 => intro w_ _; first | (go_simp; done) | (go_simp; with_reducible rfl)
      simp only [Act.put, List.setIfInBounds_toArray, List.set_cons_zero, List.set_cons_succ]
      refine Pl.takeW rfl rfl ?v74 ?hy74 ?rest74
      case hy74 => intro w_ _; first | (go_simp; done) | (go_simp; with_reducible rfl)
      simp only [Act.put, List.setIfInBounds_toArray, List.set_cons_zero, List.set_cons_succ]
      refine Pl.takeW rfl rfl ?v75 ?hy75 ?rest75
      case hy75 => intro w_ _; first | (go_simp; done) | (go_simp; with_reducible rfl)
      simp only [Act.put, List.setIfInBounds_toArray, List.set_cons_zero, List.set_cons_succ]
      first
        | (refine Pl.takeW rfl rfl ?v76 ?hy76 ?rest76
           case hy76 => intro w_ _; first | (go_simp; done) | (go_simp; with_reducible rfl))
        | refine Pl.takeU rfl rfl ?rest76
      simp only [Act.put, List.setIfInBounds_toArray, List.set_cons_zero, List.set_cons_succ]
      first
        | (refine Pl.takeW rfl rfl ?v77 ?hy77 ?rest77
           case hy77 => intro w_ _; first | (go_simp; done) | (go_simp; with_reducible rfl))
        | refine Pl.takeU rfl rfl ?rest77
      simp only [Act.put, List.setIfInBounds_toArray, List.set_cons_zero, List.set_cons_succ]
      first
        | (refine Pl.takeW rfl rfl ?v78 ?hy78 ?rest78
           case hy78 => intro w_ _; first | (go_simp; done) | (go_simp; with_reducible rfl))
        | refine Pl.takeU rfl rfl ?rest78
      simp only [Act.put, List.setIfInBounds_toArray, List.set_cons_zero, List.set_cons_succ]
      first
        | (refine Pl.takeW rfl rfl ?v79 ?hy79 ?rest79
           case hy79 => intro w_ hS_; subst hS_; first | (go_simp; done) | (go_simp; with_reducible rfl))
        | refine Pl.takeU rfl rfl ?rest79
      simp only [Act.put, List.setIfInBounds_toArray, List.set_cons_zero, List.set_cons_succ]
      first
        | (refine Pl.takeW rfl rfl ?v80 ?hy80 ?rest80
           case hy80 => intro w_ _; first | (go_simp; done) | (go_simp; with_reducible rfl))
        | refine Pl.takeU rfl rfl ?rest80
      simp only [Act.put, List.setIfInBounds_toArray, List.set_cons_zero, List.set_cons_succ]
      first
        | (refine Pl.takeW rfl rfl ?v81 ?hy81 ?rest81
           case hy81 => intro w_ _; first | (go_simp; done) | (go_simp; with_reducible rfl))
        | refine Pl.takeU rfl rfl ?rest81
      simp only [Act.put, List.setIfInBounds_toArray, List.set_cons_zero, List.set_cons_succ]
      first
        | (refine Pl.takeW rfl rfl ?v82 ?hy82 ?rest82
           case hy82 => intro w_ _; first | (go_simp; done) | (go_simp; with_reducible rfl))
        | refine Pl.takeU rfl rfl ?rest82
      simp only [Act.put, List.setIfInBounds_toArray, List.set_cons_zero, List.set_cons_succ]
      first
        | (refine Pl.takeW rfl rfl ?v83 ?hy83 ?rest83
           case hy83 => intro w_ hS_; subst hS_; first | (go_simp; done) | (go_simp; with_reducible rfl))
        | refine Pl.takeU rfl rfl ?rest83
      simp only [Act.put, List.setIfInBounds_toArray, List.set_cons_zero, List.set_cons_succ]
      first
        | (refine Pl.takeW rfl rfl ?v84 ?hy84 ?rest84
           case hy84 => intro w_ _; first | (go_simp; done) | (go_simp; with_reducible rfl))
        | refine Pl.takeU rfl rfl ?rest84
      simp only [Act.put, List.setIfInBounds_toArray, List.set_cons_zero, List.set_cons_succ]
      first
        | (refine Pl.takeW rfl rfl ?v85 ?hy85 ?rest85
           case hy85 => intro w_ _; first | (go_simp; done) | (go_simp; with_reducible rfl))
        | refine Pl.takeU rfl rfl ?rest85
      simp only [Act.put, List.setIfInBounds_toArray, List.set_cons_zero, List.set_cons_succ]
      show wpList _ _ _ _ _ _
      simp only [List.drop_succ_cons, List.drop_zero]
      go_wp2_with fail
      refine (Hput.out).mono ?_
      rintro e w2 ⟨rfl, S2, k2, hX2⟩
      go_wp2_with fail
      go_ret
      exact ⟨rfl, S2, k2, hX2⟩
    | false =>
      rw [hq] at e4
      go_enter Try.func29, Try.ntmps29
      go_wp2_with fail
      refine wp_plan 17 (.take 0 (.take 1 (.take 2 (.take 3 (.take 4 (.take 5 (.take 6 (.take 7 (.take 8 (.take 9 (.take 10 (.take 11 (.take 12 (.take 13 (.take 14 (.take 15 (.take 16 .fin))))))))))))))))) (fun w_ => w_ = _) (by kernel_rfl) (by kernel_rfl) (fun _ _ d_ _ _ h_ => by cases d_ <;> exact h_) rfl ?_
      refine Pl.takeW rfl rfl ?v86 ?hy86 ?rest86
      case hy86 => intro w_ _; first | (go_simp; done) | (go_simp; with_reducible rfl)
      simp only [Act.put, List.setIfInBounds_toArray, List.set_cons_zero, List.set_cons_succ]
      refine Pl.takeW rfl rfl ?v87 ?hy87 ?rest87
      case hy87 => intro w_ _; first | (go_simp; done) | (go_simp; with_reducible rfl)
      simp only [Act.put, List.setIfInBounds_toArray, List.set_cons_zero, List.set_cons_succ]
      refine Pl.takeW rfl rfl ?v88 ?hy88 ?rest88
      case hy88 => intro w_ _; first | (go_simp; done) | (go_simp; with_reducible rfl)
      simp only [Act.put, List.setIfInBounds_toArray, List.set_cons_zero, List.set_cons_succ]
      refine Pl.takeW rfl rfl ?v89 ?hy89 ?rest89
      case hy89 => intro w_ hS_; subst hS_; first | (go_simp; done) | (go_simp; with_reducible rfl)
      simp only [Act.put, List.setIfInBounds_toArray, List.set_cons_zero, List.set_cons_succ]
      refine Pl.takeW rfl rfl ?v90 ?hy90 ?rest90
      case hy90 => intro w_ _; first | (go_simp; done) | (go_simp; with_reducible rfl)
      simp only [Act.put, List.setIfInBounds_toArray, List.set_cons_zero, List.set_cons_succ]
      refine Pl.takeW rfl rfl ?v91 ?hy91 ?rest91
      case hy91 => intro w_ _; first | (go_simp; done) | (go_simp; with_reducible rfl)
      simp only [Act.put, List.setIfInBounds_toArray, List.set_cons_zero, List.set_cons_succ]
      refine Pl.takeW rfl rfl ?v92 ?hy92 ?rest92
      case hy92 => intro w_ _; first | (go_simp; done) | (go_simp; with_reducible rfl)
      simp only [Act.put, List.setIfInBounds_toArray, List.set_cons_zero, List.set_cons_succ]
      first
        | (refine Pl.takeW rfl rfl ?v93 ?hy93 ?rest93
           case hy93 => intro w_ _; first | (go_simp; done) | (go_simp; with_reducible rfl))
        | refine Pl.takeU rfl rfl ?rest93
      simp only [Act.put, List.setIfInBounds_toArray, List.set_cons_zero, List.set_cons_succ]
      first
        | (refine Pl.takeW rfl rfl ?v94 ?hy94 ?rest94
           case hy94 => intro w_ _; first | (go_simp; done) | (go_simp; with_reducible rfl))
        | refine Pl.takeU rfl rfl ?rest94
      simp only [Act.put, List.setIfInBounds_toArray, List.set_cons_zero, List.set_cons_succ]
      first
        | (refine Pl.takeW rfl rfl ?v95 ?hy95 ?rest95
           case hy95 => intro w_ _; first | (go_simp; done) | (go_simp; with_reducible rfl))
        | refine Pl.takeU rfl rfl ?rest95
      simp only [Act.put, List.setIfInBounds_toArray, List.set_cons_zero, List.set_cons_succ]
      first
        | (refine Pl.takeW rfl rfl ?v96 ?hy96 ?rest96
           case hy96 => intro w_ hS_; subst hS_; first | (go_simp; done) | (go_simp; with_reducible rfl))
        | refine Pl.takeU rfl rfl ?rest96
      simp only [Act.put, List.setIfInBounds_toArray, List.set_cons_zero, List.set_cons_succ]
      first
        | (refine Pl.takeW rfl rfl ?v97 ?hy97 ?rest97
           case hy97 => intro w_ _; first | (go_simp; done) | (go_simp; with_reducible rfl))
        | refine Pl.takeU rfl rfl ?rest97
      simp only [Act.put, List.setIfInBounds_toArray, List.set_cons_zero, List.set_cons_succ]
      first
        | (refine Pl.takeW rfl rfl ?v98 ?hy98 ?rest98
           case hy98 => intro w_ _; first | (go_simp; done) | (go_simp; with_reducible rfl))
        | refine Pl.takeU rfl rfl ?rest98
      simp only [Act.put, List.setIfInBounds_toArray, List.set_cons_zero, List.set_cons_succ]
      first
        | (refine Pl.takeW rfl rfl ?v99 ?hy99 ?rest99
           case hy99 => intro w_ _; first | (go_simp; done) | (go_simp; with_reducible rfl))
        | refine Pl.takeU rfl rfl ?rest99
      simp only [Act.put, List.setIfInBounds_toArray, List.set_cons_zero, List.set_cons_succ]
      first
        | (refine Pl.takeW rfl rfl ?v100 ?hy100 ?rest100
           case hy100 => intro w_ hS_; subst hS_; first | (go_simp; done) | (go_simp; with_reducible rfl))
        | refine Pl.takeU rfl rfl ?rest100
      simp only [Act.put, List.setIfInBounds_toArray, List.set_cons_zero, List.set_cons_succ]
      first
        | (refine Pl.takeW rfl rfl ?v101 ?hy101 ?rest101
           case hy101 => intro w_ _; first | (go_simp; done) | (go_simp; with_reducible rfl))
        | refine Pl.takeU rfl rfl ?rest101
      simp only [Act.put, List.setIfInBounds_toArray, List.set_cons_zero, List.set_cons_succ]
      first
        | (refine Pl.takeW rfl rfl ?v102 ?hy102 ?rest102
           case hy102 => intro w_ _; first | (go_simp; done) | (go_simp; with_reducible rfl))
        | refine Pl.takeU rfl rfl ?rest102
      simp only [Act.put, List.setIfInBounds_toArray, List.set_cons_zero, List.set_cons_succ]
      show wpList _ _ _ _ _ _
      simp only [List.drop_succ_cons, List.drop_zero]
      go_wp2_with fail
      refine (Hput.out).mono ?_
      rintro e w2 ⟨rfl, S2, k2, hX2⟩
      go_wp2_with fail
      go_ret
      exact ⟨rfl, S2, k2, hX2⟩
set_option maxRecDepth 100000 in
set_option maxHeartbeats 8000000 in
theorem D_tok6 (at_ : Nat) (n : Int) (s : Str) (hF : Few r) (hX : RdX p r L S w) (hf : r.row.length + r.op.length + 2 ≤ 1000000) :
    Calls Try.prog 29 #[ptr p, tokV ⟨6, at_, n, s⟩] w (TokRet S (fun r => RdX p r L) 0 r (r.put ⟨3, at_, 0, s, []⟩)) := by
  have X := RdX.xs p r
  have hA := X.alloc0 hX (.cells #[.int .u8 6, nat at_, int n, str s] 74)
  have hAd := X.drew hA
  have hol : r.op.length ≤ 1000000 := by have := hF.n; omega
  have HF := hid hF
  have HA := hid hA
  have HAd := hid hAd
  have Hf := hid hf
  have ho := hA.open_
  clear hX hF hAd hf hA
  have Hput := hid ((D_both p r.op.length).2 r L S _ ⟨3, at_, 0, s, []⟩ _ (Nat.le_refl _) HF.out HAd.out (NatsR.nil _) (by simp) (by have := Hf.out; omega))
  rcases ho with ⟨ho, A5, c5, e2⟩ | ⟨q, ps, O, cO, ho, hcO, e2, e3, e4⟩
  · have Ho := hid ho
    clear ho
    go_enter Try.func29, Try.ntmps29
    go_wp2_with fail
    refine wp_plan 17 (.take 0 (.take 1 (.take 2 (.take 3 (.take 4 (.take 5 (.take 6 (.take 7 (.take 8 (.take 9 (.take 10 (.take 11 (.take 12 (.take 13 (.take 14 (.take 15 (.take 16 .fin))))))))))))))))) (fun w_ => w_ = _) (by kernel_rfl) (by kernel_rfl) (fun _ _ d_ _ _ h_ => by cases d_ <;> exact h_) rfl ?_
    refine Pl.takeW rfl rfl ?v103 ?hy103 ?rest103
    case hy103 => intro w_ _; first | (go_simp; done) | (go_simp; with_reducible rfl)
    simp only [Act.put, List.setIfInBounds_toArray, List.set_cons_zero, List.set_cons_succ]
    refine Pl.takeW rfl rfl ?v104 ?hy104 ?rest104
    case hy104 => intro w_ _; first | (go_simp; done) | (go_simp; with_reducible rfl)
    simp only [Act.put, List.setIfInBounds_toArray, List.set_cons_zero, List.set_cons_succ]
    refine Pl.takeW rfl rfl ?v105 ?hy105 ?rest105
    case hy105 => intro w_ _; first | (go_simp; done) | (go_simp; with_reducible rfl)
    simp only [Act.put, List.setIfInBounds_toArray, List.set_cons_zero, List.set_cons_succ]
    refine Pl.takeW rfl rfl ?v106 ?hy106 ?rest106
    case hy106 => intro w_ hS_; subst hS_; first | (go_simp; done) | (go_simp; with_reducible rfl)
    simp only [Act.put, List.setIfInBounds_toArray, List.set_cons_zero, List.set_cons_succ]
    refine Pl.takeW rfl rfl ?v107 ?hy107 ?rest107
    case hy107 => intro w_ _; first | (go_simp; done) | (go_simp; with_reducible rfl)
    simp only [Act.put, List.setIfInBounds_toArray, List.set_cons_zero, List.set_cons_succ]
    refine Pl.takeW rfl rfl ?v108 ?hy108 ?rest108
    case hy108 => intro w_ _; first | (go_simp; done) | (go_simp; with_reducible rfl)
    simp only [Act.put, List.setIfInBounds_toArray, List.set_cons_zero, List.set_cons_succ]
    refine Pl.takeW rfl rfl ?v109 ?hy109 ?rest109
    case hy109 => intro w_ _; first | (go_simp; done) | (go_simp; with_reducible rfl)
    simp only [Act.put, List.setIfInBounds_toArray, List.set_cons_zero, List.set_cons_succ]
    first
      | (refine Pl.takeW rfl rfl ?v110 ?hy110 ?rest110
         case hy110 => intro w_ _; first | (go_simp; done) | (go_simp; with_reducible rfl))
      | refine Pl.takeU rfl rfl ?rest110
    simp only [Act.put, List.setIfInBounds_toArray, List.set_cons_zero, List.set_cons_succ]
    first
      | (refine Pl.takeW rfl rfl ?v111 ?hy111 ?rest111
         case hy111 => intro w_ _; first | (go_simp; done) | (go_simp; with_reducible rfl))
      | refine Pl.takeU rfl rfl ?rest111
    simp only [Act.put, List.setIfInBounds_toArray, List.set_cons_zero, List.set_cons_succ]
    first
      | (refine Pl.takeW rfl rfl ?v112 ?hy112 ?rest112
         case hy112 => intro w_ _; first | (go_simp; done) | (go_simp; with_reducible rfl))
      | refine Pl.takeU rfl rfl ?rest112
    simp only [Act.put, List.setIfInBounds_toArray, List.set_cons_zero, List.set_cons_succ]
    first
      | (refine Pl.takeW rfl rfl ?v113 ?hy113 ?rest113
         case hy113 => intro w_ hS_; subst hS_; first | (go_simp; done) | (go_simp; with_reducible rfl))
      | refine Pl.takeU rfl rfl ?rest113
    simp only [Act.put, List.setIfInBounds_toArray, List.set_cons_zero, List.set_cons_succ]
    first
      | (refine Pl.takeW rfl rfl ?v114 ?hy114 ?rest114
         case hy114 => intro w_ _; first | (go_simp; done) | (go_simp; with_reducible rfl))
      | refine Pl.takeU rfl rfl ?rest114
    simp only [Act.put, List.setIfInBounds_toArray, List.set_cons_zero, List.set_cons_succ]
    first
      | (refine Pl.takeW rfl rfl ?v115 ?hy115 ?rest115
         case hy115 => intro w_ _; first | (go_simp; done) | (go_simp; with_reducible rfl))
      | refine Pl.takeU rfl rfl ?rest115
    simp only [Act.put, List.setIfInBounds_toArray, List.set_cons_zero, List.set_cons_succ]
    first
      | (refine Pl.takeW rfl rfl ?v116 ?hy116 ?rest116
         case hy116 => intro w_ _; first | (go_simp; done) | (go_simp; with_reducible rfl))
      | refine Pl.takeU rfl rfl ?rest116
    simp only [Act.put, List.setIfInBounds_toArray, List.set_cons_zero, List.set_cons_succ]
    first
      | (refine Pl.takeW rfl rfl ?v117 ?hy117 ?rest117
         case hy117 => intro w_ hS_; subst hS_; first | (go_simp; done) | (go_simp; with_reducible rfl))
      | refine Pl.takeU rfl rfl ?rest117
    simp only [Act.put, List.setIfInBounds_toArray, List.set_cons_zero, List.set_cons_succ]
    first
      | (refine Pl.takeW rfl rfl ?v118 ?hy118 ?rest118
         case hy118 => intro w_ _; first | (go_simp; done) | (go_simp; with_reducible rfl))
      | refine Pl.takeU rfl rfl ?rest118
    simp only [Act.put, List.setIfInBounds_toArray, List.set_cons_zero, List.set_cons_succ]
    first
      | (refine Pl.takeW rfl rfl ?v119 ?hy119 ?rest119
         case hy119 => intro w_ _; first | (go_simp; done) | (go_simp; with_reducible rfl))
      | refine Pl.takeU rfl rfl ?rest119
    simp only [Act.put, List.setIfInBounds_toArray, List.set_cons_zero, List.set_cons_succ]
    show wpList _ _ _ _ _ _
    simp only [List.drop_succ_cons, List.drop_zero]
    go_wp2_with fail
    refine (Hput.out).mono ?_
    rintro e w2 ⟨rfl, S2, k2, hX2⟩
    go_wp2_with fail
    go_ret
    exact ⟨rfl, S2, k2, hX2⟩
  · have hpl : ps.length + 1 ≤ 1000000 := by rw [ho] at hol; simpa using hol
    have hzI : (ps.length : Int) < (ps.length : Int) + 1 := by omega
    have hwr : IntKind.i64.wrap (ps.length : Int) = (ps.length : Int) := by rw [IntKind.wrap_i64]; omega
    have Ho := hid ho
    have hop0 : (0 : Int) < (ps.length : Int) + 1 := by omega
    clear ho hol
    cases hq : q.quote with
    | true =>
      rw [hq] at e4
      go_enter Try.func29, Try.ntmps29
      go_wp2_with fail
      refine wp_plan 17 (.take 0 (.take 1 (.take 2 (.take 3 (.take 4 (.take 5 (.take 6 (.take 7 (.take 8 (.take 9 (.take 10 (.take 11 (.take 12 (.take 13 (.take 14 (.take 15 (.take 16 .fin))))))))))))))))) (fun w_ => w_ = _) (by kernel_rfl) (by kernel_rfl) (fun _ _ d_ _ _ h_ => by cases d_ <;> exact h_) rfl ?_
      refine Pl.takeW rfl rfl ?v120 ?hy120 ?rest120
      case hy120 => intro w_ _; first | (go_simp; done) | (go_simp; with_reducible rfl)
      simp only [Act.put, List.setIfInBounds_toArray, List.set_cons_zero, List.set_cons_succ]
      refine Pl.takeW rfl rfl ?v121 ?hy121 ?rest121
      case hy121 => intro w_ _; first | (go_simp; done) | (go_simp; with_reducible rfl)
      simp only [Act.put, List.setIfInBounds_toArray, List.set_cons_zero, List.set_cons_succ]
      refine Pl.takeW rfl rfl ?v122 ?hy122 ?rest122
      case hy122 => intro w_ _; first | (go_simp; done) | (go_simp; with_reducible rfl)
      simp only [Act.put, List.setIfInBounds_toArray, List.set_cons_zero, List.set_cons_succ]
      refine Pl.takeW rfl rfl ?v123 ?hy123 ?rest123
      case hy123 => intro w_ hS_; subst hS_; first | (go_simp; done) | (go_simp; with_reducible rfl)
      simp only [Act.put, List.setIfInBounds_toArray, List.set_cons_zero, List.set_cons_succ]
      refine Pl.takeW rfl rfl ?v124 ?hy124 ?rest124
      case hy124 => intro w_ _; first | (go_simp; done) | (go_simp; with_reducible rfl)
      simp only [Act.put, List.setIfInBounds_toArray, List.set_cons_zero, List.set_cons_succ]
      refine Pl.takeW rfl rfl ?v125 ?hy125 ?rest125
      case hy125 => intro w_ _; first | (go_simp; done) | (go_simp; with_reducible rfl)
      simp only [Act.put, List.setIfInBounds_toArray, List.set_cons_zero, List.set_cons_succ]
      refine Pl.takeW rfl rfl ?v126 ?hy126 ?rest126
      case hy126 => intro w_ _; first | (go_simp; done) | (go_simp; with_reducible rfl)
      simp only [Act.put, List.setIfInBounds_toArray, List.set_cons_zero, List.set_cons_succ]
      first
        | (refine Pl.takeW rfl rfl ?v127 ?hy127 ?rest127
           case hy127 => intro w_ _; first | (go_simp; done) | (go_simp; with_reducible rfl))
        | refine Pl.takeU rfl rfl ?rest127
      simp only [Act.put, List.setIfInBounds_toArray, List.set_cons_zero, List.set_cons_succ]
      first
        | (refine Pl.takeW rfl rfl ?v128 ?hy128 ?rest128
           case hy128 => intro w_ _; first | (go_simp; done) | (go_simp; with_reducible rfl))
        | refine Pl.takeU rfl rfl ?rest128
      simp only [Act.put, List.setIfInBounds_toArray, List.set_cons_zero, List.set_cons_succ]
      first
        | (refine Pl.takeW rfl rfl ?v129 ?hy129 ?rest129
           case hy129 => intro w_ _; first | (go_simp; done) | (go_simp; with_reducible rfl))
        | refine Pl.takeU rfl rfl ?rest129
      simp only [Act.put, List.setIfInBounds_toArray, List.set_cons_zero, List.set_cons_succ]
      first
        | (refine Pl.takeW rfl rfl ?v130 ?hy130 ?rest130
           case hy130 => intro w_ hS_; subst hS_; first | (go_simp; done) | (go_simp; with_reducible rfl))
        | refine Pl.takeU rfl rfl ?rest130
      simp only [Act.put, List.setIfInBounds_toArray, List.set_cons_zero, List.set_cons_succ]
      first
        | (refine Pl.takeW rfl rfl ?v131 ?hy131 ?rest131
           case hy131 => intro w_ _; first | (go_simp; done) | (go_simp; with_reducible rfl))
        | refine Pl.takeU rfl rfl ?rest131
      simp only [Act.put, List.setIfInBounds_toArray, List.set_cons_zero, List.set_cons_succ]
      first
        | (refine Pl.takeW rfl rfl ?v132 ?hy132 ?rest132
           case hy132 => intro w_ _; first | (go_simp; done) | (go_simp; with_reducible rfl))
        | refine Pl.takeU rfl rfl ?rest132
      simp only [Act.put, List.setIfInBounds_toArray, List.set_cons_zero, List.set_cons_succ]
      first
        | (refine Pl.takeW rfl rfl ?v133 ?hy133 ?rest133
           case hy133 => intro w_ _; first | (go_simp; done) | (go_simp; with_reducible rfl))
        | refine Pl.takeU rfl rfl ?rest133
      simp only [Act.put, List.setIfInBounds_toArray, List.set_cons_zero, List.set_cons_succ]
      first
        | (refine Pl.takeW rfl rfl ?v134 ?hy134 ?rest134
           case hy134 => intro w_ hS_; subst hS_; first | (go_simp; done) | (go_simp; with_reducible rfl))
        | refine Pl.takeU rfl rfl ?rest134
      simp only [Act.put, List.setIfInBounds_toArray, List.set_cons_zero, List.set_cons_succ]
      first
        | (refine Pl.takeW rfl rfl ?v135 ?hy135 ?rest135
           case hy135 => intro w_ _; first | (go_simp; done) | (go_simp; with_reducible rfl))
        | refine Pl.takeU rfl rfl ?rest135
      simp only [Act.put, List.setIfInBounds_toArray, List.set_cons_zero, List.set_cons_succ]
      first
        | (refine Pl.takeW rfl rfl ?v136 ?hy136 ?rest136
           case hy136 => intro w_ _; first | (go_simp; done) | (go_simp; with_reducible rfl))
        | refine Pl.takeU rfl rfl ?rest136
      simp only [Act.put, List.setIfInBounds_toArray, List.set_cons_zero, List.set_cons_succ]
      show wpList _ _ _ _ _ _
      simp only [List.drop_succ_cons, List.drop_zero]
      go_wp2_with fail
      refine (Hput.out).mono ?_
      rintro e w2 ⟨rfl, S2, k2, hX2⟩
      go_wp2_with fail
      go_ret
      exact ⟨rfl, S2, k2, hX2⟩
    | false =>
      rw [hq] at e4
      go_enter Try.func29, Try.ntmps29
      go_wp2_with fail
      refine wp_plan 17 (.take 0 (.take 1 (.take 2 (.take 3 (.take 4 (.take 5 (.take 6 (.take 7 (.take 8 (.take 9 (.take 10 (.take 11 (.take 12 (.take 13 (.take 14 (.take 15 (.take 16 .fin))))))))))))))))) (fun w_ => w_ = _) (by kernel_rfl) (by kernel_rfl) (fun _ _ d_ _ _ h_ => by cases d_ <;> exact h_) rfl ?_
      refine Pl.takeW rfl rfl ?v137 ?hy137 ?rest137
      case hy137 => intro w_ _; first | (go_simp; done) | (go_simp; with_reducible rfl)
      simp only [Act.put, List.setIfInBounds_toArray, List.set_cons_zero, List.set_cons_succ]
      refine Pl.takeW rfl rfl ?v138 ?hy138 ?rest138
      case hy138 => intro w_ _; first | (go_simp; done) | (go_simp; with_reducible rfl)
      simp only [Act.put, List.setIfInBounds_toArray, List.set_cons_zero, List.set_cons_succ]
      refine Pl.takeW rfl rfl ?v139 ?hy139 ?rest139
      case hy139 => intro w_ _; first | (go_simp; done) | (go_simp; with_reducible rfl)
      simp only [Act.put, List.setIfInBounds_toArray, List.set_cons_zero, List.set_cons_succ]
      refine Pl.takeW rfl rfl ?v140 ?hy140 ?rest140
      case hy140 => intro w_ hS_; subst hS_; first | (go_simp; done) | (go_simp; with_reducible rfl)
      simp only [Act.put, List.setIfInBounds_toArray, List.set_cons_zero, List.set_cons_succ]
      refine Pl.takeW rfl rfl ?v141 ?hy141 ?rest141
      case hy141 => intro w_ _; first | (go_simp; done) | (go_simp; with_reducible rfl)
      simp only [Act.put, List.setIfInBounds_toArray, List.set_cons_zero, List.set_cons_succ]
      refine Pl.takeW rfl rfl ?v142 ?hy142 ?rest142
      case hy142 => intro w_ _; first | (go_simp; done) | (go_simp; with_reducible rfl)
      simp only [Act.put, List.setIfInBounds_toArray, List.set_cons_zero, List.set_cons_succ]
      refine Pl.takeW rfl rfl ?v143 ?hy143 ?rest143
      case hy143 => intro w_ _; first | (go_simp; done) | (go_simp; with_reducible rfl)
      simp only [Act.put, List.setIfInBounds_toArray, List.set_cons_zero, List.set_cons_succ]
      first
        | (refine Pl.takeW rfl rfl ?v144 ?hy144 ?rest144
           case hy144 => intro w_ _; first | (go_simp; done) | (go_simp; with_reducible rfl))
        | refine Pl.takeU rfl rfl ?rest144
      simp only [Act.put, List.setIfInBounds_toArray, List.set_cons_zero, List.set_cons_succ]
      first
        | (refine Pl.takeW rfl rfl ?v145 ?hy145 ?rest145
           case hy145 => intro w_ _; first | (go_simp; done) | (go_simp; with_reducible rfl))
        | refine Pl.takeU rfl rfl ?rest145
      simp only [Act.put, List.setIfInBounds_toArray, List.set_cons_zero, List.set_cons_succ]
      first
        | (refine Pl.takeW rfl rfl ?v146 ?hy146 ?rest146
           case hy146 => intro w_ _; first | (go_simp; done) | (go_simp; with_reducible rfl))
        | refine Pl.takeU rfl rfl ?rest146
      simp only [Act.put, List.setIfInBounds_toArray, List.set_cons_zero, List.set_cons_succ]
      first
        | (refine Pl.takeW rfl rfl ?v147 ?hy147 ?rest147
           case hy147 => intro w_ hS_; subst hS_; first | (go_simp; done) | (go_simp; with_reducible rfl))
        | refine Pl.takeU rfl rfl ?rest147
      simp only [Act.put, List.setIfInBounds_toArray, List.set_cons_zero, List.set_cons_succ]
      first
        | (refine Pl.takeW rfl rfl ?v148 ?hy148 ?rest148
           case hy148 => intro w_ _; first | (go_simp; done) | (go_simp; with_reducible rfl))
        | refine Pl.takeU rfl rfl ?rest148
      simp only [Act.put, List.setIfInBounds_toArray, List.set_cons_zero, List.set_cons_succ]
      first
        | (refine Pl.takeW rfl rfl ?v149 ?hy149 ?rest149
           case hy149 => intro w_ _; first | (go_simp; done) | (go_simp; with_reducible rfl))
        | refine Pl.takeU rfl rfl ?rest149
      simp only [Act.put, List.setIfInBounds_toArray, List.set_cons_zero, List.set_cons_succ]
      first
        | (refine Pl.takeW rfl rfl ?v150 ?hy150 ?rest150
           case hy150 => intro w_ _; first | (go_simp; done) | (go_simp; with_reducible rfl))
        | refine Pl.takeU rfl rfl ?rest150
      simp only [Act.put, List.setIfInBounds_toArray, List.set_cons_zero, List.set_cons_succ]
      first
        | (refine Pl.takeW rfl rfl ?v151 ?hy151 ?rest151
           case hy151 => intro w_ hS_; subst hS_; first | (go_simp; done) | (go_simp; with_reducible rfl))
        | refine Pl.takeU rfl rfl ?rest151
      simp only [Act.put, List.setIfInBounds_toArray, List.set_cons_zero, List.set_cons_succ]
      first
        | (refine Pl.takeW rfl rfl ?v152 ?hy152 ?rest152
           case hy152 => intro w_ _; first | (go_simp; done) | (go_simp; with_reducible rfl))
        | refine Pl.takeU rfl rfl ?rest152
      simp only [Act.put, List.setIfInBounds_toArray, List.set_cons_zero, List.set_cons_succ]
      first
        | (refine Pl.takeW rfl rfl ?v153 ?hy153 ?rest153
           case hy153 => intro w_ _; first | (go_simp; done) | (go_simp; with_reducible rfl))
        | refine Pl.takeU rfl rfl ?rest153
      simp only [Act.put, List.setIfInBounds_toArray, List.set_cons_zero, List.set_cons_succ]
      show wpList _ _ _ _ _ _
      simp only [List.drop_succ_cons, List.drop_zero]
      go_wp2_with fail
      refine (Hput.out).mono ?_
      rintro e w2 ⟨rfl, S2, k2, hX2⟩
      go_wp2_with fail
      go_ret
      exact ⟨rfl, S2, k2, hX2⟩
set_option maxRecDepth 100000 in
set_option maxHeartbeats 8000000 in
theorem D_tok2 (at_ : Nat) (n : Int) (s : Str) (hF : Few r) (hX : RdX p r L S w) (hf : r.row.length + r.op.length + 2 ≤ 1000000) :
    Calls Try.prog 29 #[ptr p, tokV ⟨2, at_, n, s⟩] w (TokRet S (fun r => RdX p r L) (rtokE r ⟨2, at_, n, s⟩) r r.close) := by
  have X := RdX.xs p r
  have hA := X.alloc0 hX (.cells #[.int .u8 2, nat at_, int n, str s] 74)
  have hAd := X.drew hA
  have hol : r.op.length ≤ 1000000 := by have := hF.n; omega
  have HF := hid hF
  have HA := hid hA
  have HAd := hid hAd
  have Hf := hid hf
  have ho := hA.open_
  clear hX hF hAd hf hA
  have hE : rtokE r ⟨2, at_, n, s⟩ = if r.quoted = true then 63 else if r.op = [] then 61 else 0 := by unfold rtokE; simp
  rcases ho with ⟨ho, A5, c5, e2⟩ | ⟨q, ps, O, cO, ho, hcO, e2, e3, e4⟩
  · have hE2 : rtokE r ⟨2, at_, n, s⟩ = 61 := by rw [hE, if_neg (by unfold RS.quoted; rw [ho]; simp), if_pos ho]
    rw [hE2]
    clear ho hE hE2
    go_enter Try.func29, Try.ntmps29
    go_wp2_with fail
    refine wp_plan 17 (.take 0 (.take 1 (.take 2 (.take 3 (.take 4 (.take 5 (.take 6 (.take 7 (.take 8 (.take 9 (.take 10 (.take 11 (.take 12 (.take 13 (.take 14 (.take 15 (.take 16 .fin))))))))))))))))) (fun w_ => w_ = _) (by kernel_rfl) (by kernel_rfl) (fun _ _ d_ _ _ h_ => by cases d_ <;> exact h_) rfl ?_
    refine Pl.takeW rfl rfl ?v154 ?hy154 ?rest154
    case hy154 => intro w_ _; first | (go_simp; done) | (go_simp; with_reducible rfl)
    simp only [Act.put, List.setIfInBounds_toArray, List.set_cons_zero, List.set_cons_succ]
    refine Pl.takeW rfl rfl ?v155 ?hy155 ?rest155
    case hy155 => intro w_ _; first | (go_simp; done) | (go_simp; with_reducible rfl)
    simp only [Act.put, List.setIfInBounds_toArray, List.set_cons_zero, List.set_cons_succ]
    refine Pl.takeW rfl rfl ?v156 ?hy156 ?rest156
    case hy156 => intro w_ _; first | (go_simp; done) | (go_simp; with_reducible rfl)
    simp only [Act.put, List.setIfInBounds_toArray, List.set_cons_zero, List.set_cons_succ]
    refine Pl.takeW rfl rfl ?v157 ?hy157 ?rest157
    case hy157 => intro w_ hS_; subst hS_; first | (go_simp; done) | (go_simp; with_reducible rfl)
    simp only [Act.put, List.setIfInBounds_toArray, List.set_cons_zero, List.set_cons_succ]
    refine Pl.takeW rfl rfl ?v158 ?hy158 ?rest158
    case hy158 => intro w_ _; first | (go_simp; done) | (go_simp; with_reducible rfl)
    simp only [Act.put, List.setIfInBounds_toArray, List.set_cons_zero, List.set_cons_succ]
    refine Pl.takeW rfl rfl ?v159 ?hy159 ?rest159
    case hy159 => intro w_ _; first | (go_simp; done) | (go_simp; with_reducible rfl)
    simp only [Act.put, List.setIfInBounds_toArray, List.set_cons_zero, List.set_cons_succ]
    refine Pl.takeW rfl rfl ?v160 ?hy160 ?rest160
    case hy160 => intro w_ _; first | (go_simp; done) | (go_simp; with_reducible rfl)
    simp only [Act.put, List.setIfInBounds_toArray, List.set_cons_zero, List.set_cons_succ]
    first
      | (refine Pl.takeW rfl rfl ?v161 ?hy161 ?rest161
         case hy161 => intro w_ _; first | (go_simp; done) | (go_simp; with_reducible rfl))
      | refine Pl.takeU rfl rfl ?rest161
    simp only [Act.put, List.setIfInBounds_toArray, List.set_cons_zero, List.set_cons_succ]
    first
      | (refine Pl.takeW rfl rfl ?v162 ?hy162 ?rest162
         case hy162 => intro w_ _; first | (go_simp; done) | (go_simp; with_reducible rfl))
      | refine Pl.takeU rfl rfl ?rest162
    simp only [Act.put, List.setIfInBounds_toArray, List.set_cons_zero, List.set_cons_succ]
    first
      | (refine Pl.takeW rfl rfl ?v163 ?hy163 ?rest163
         case hy163 => intro w_ _; first | (go_simp; done) | (go_simp; with_reducible rfl))
      | refine Pl.takeU rfl rfl ?rest163
    simp only [Act.put, List.setIfInBounds_toArray, List.set_cons_zero, List.set_cons_succ]
    first
      | (refine Pl.takeW rfl rfl ?v164 ?hy164 ?rest164
         case hy164 => intro w_ hS_; subst hS_; first | (go_simp; done) | (go_simp; with_reducible rfl))
      | refine Pl.takeU rfl rfl ?rest164
    simp only [Act.put, List.setIfInBounds_toArray, List.set_cons_zero, List.set_cons_succ]
    first
      | (refine Pl.takeW rfl rfl ?v165 ?hy165 ?rest165
         case hy165 => intro w_ _; first | (go_simp; done) | (go_simp; with_reducible rfl))
      | refine Pl.takeU rfl rfl ?rest165
    simp only [Act.put, List.setIfInBounds_toArray, List.set_cons_zero, List.set_cons_succ]
    first
      | (refine Pl.takeW rfl rfl ?v166 ?hy166 ?rest166
         case hy166 => intro w_ _; first | (go_simp; done) | (go_simp; with_reducible rfl))
      | refine Pl.takeU rfl rfl ?rest166
    simp only [Act.put, List.setIfInBounds_toArray, List.set_cons_zero, List.set_cons_succ]
    first
      | (refine Pl.takeW rfl rfl ?v167 ?hy167 ?rest167
         case hy167 => intro w_ _; first | (go_simp; done) | (go_simp; with_reducible rfl))
      | refine Pl.takeU rfl rfl ?rest167
    simp only [Act.put, List.setIfInBounds_toArray, List.set_cons_zero, List.set_cons_succ]
    first
      | (refine Pl.takeW rfl rfl ?v168 ?hy168 ?rest168
         case hy168 => intro w_ hS_; subst hS_; first | (go_simp; done) | (go_simp; with_reducible rfl))
      | refine Pl.takeU rfl rfl ?rest168
    simp only [Act.put, List.setIfInBounds_toArray, List.set_cons_zero, List.set_cons_succ]
    first
      | (refine Pl.takeW rfl rfl ?v169 ?hy169 ?rest169
         case hy169 => intro w_ _; first | (go_simp; done) | (go_simp; with_reducible rfl))
      | refine Pl.takeU rfl rfl ?rest169
    simp only [Act.put, List.setIfInBounds_toArray, List.set_cons_zero, List.set_cons_succ]
    first
      | (refine Pl.takeW rfl rfl ?v170 ?hy170 ?rest170
         case hy170 => intro w_ _; first | (go_simp; done) | (go_simp; with_reducible rfl))
      | refine Pl.takeU rfl rfl ?rest170
    simp only [Act.put, List.setIfInBounds_toArray, List.set_cons_zero, List.set_cons_succ]
    show wpList _ _ _ _ _ _
    simp only [List.drop_succ_cons, List.drop_zero]
    go_wp2_with fail
    go_ret
    exact ⟨rfl, S, Seal.le.refl S, HAd.out⟩
  · have hpl : ps.length + 1 ≤ 1000000 := by rw [ho] at hol; simpa using hol
    have hzI : (ps.length : Int) < (ps.length : Int) + 1 := by omega
    have hwr : IntKind.i64.wrap (ps.length : Int) = (ps.length : Int) := by rw [IntKind.wrap_i64]; omega
    have hop0 : (0 : Int) < (ps.length : Int) + 1 := by omega
    have hq0 : ((ps.length : Int) + 1 == 0) = false := by rw [beq_eq_false_iff_ne]; omega
    have hqq : r.quoted = q.quote := by unfold RS.quoted; rw [ho]
    rw [hqq] at hE
    clear hol
    cases hq : q.quote with
    | true =>
      rw [hq] at e4 hE
      rw [if_pos rfl] at hE
      rw [hE]
      clear ho hqq hq hE
      go_enter Try.func29, Try.ntmps29
      go_wp2_with fail
      refine wp_plan 17 (.take 0 (.take 1 (.take 2 (.take 3 (.take 4 (.take 5 (.take 6 (.take 7 (.take 8 (.take 9 (.take 10 (.take 11 (.take 12 (.take 13 (.take 14 (.take 15 (.take 16 .fin))))))))))))))))) (fun w_ => w_ = _) (by kernel_rfl) (by kernel_rfl) (fun _ _ d_ _ _ h_ => by cases d_ <;> exact h_) rfl ?_
      refine Pl.takeW rfl rfl ?v171 ?hy171 ?rest171
      case hy171 => intro w_ _; first | (go_simp; done) | (go_simp; with_reducible rfl)
      simp only [Act.put, List.setIfInBounds_toArray, List.set_cons_zero, List.set_cons_succ]
      refine Pl.takeW rfl rfl ?v172 ?hy172 ?rest172
      case hy172 => intro w_ _; first | (go_simp; done) | (go_simp; with_reducible rfl)
      simp only [Act.put, List.setIfInBounds_toArray, List.set_cons_zero, List.set_cons_succ]
      refine Pl.takeW rfl rfl ?v173 ?hy173 ?rest173
      case hy173 => intro w_ _; first | (go_simp; done) | (go_simp; with_reducible rfl)
      simp only [Act.put, List.setIfInBounds_toArray, List.set_cons_zero, List.set_cons_succ]
      refine Pl.takeW rfl rfl ?v174 ?hy174 ?rest174
      case hy174 => intro w_ hS_; subst hS_; first | (go_simp; done) | (go_simp; with_reducible rfl)
      simp only [Act.put, List.setIfInBounds_toArray, List.set_cons_zero, List.set_cons_succ]
      refine Pl.takeW rfl rfl ?v175 ?hy175 ?rest175
      case hy175 => intro w_ _; first | (go_simp; done) | (go_simp; with_reducible rfl)
      simp only [Act.put, List.setIfInBounds_toArray, List.set_cons_zero, List.set_cons_succ]
      refine Pl.takeW rfl rfl ?v176 ?hy176 ?rest176
      case hy176 => intro w_ _; first | (go_simp; done) | (go_simp; with_reducible rfl)
      simp only [Act.put, List.setIfInBounds_toArray, List.set_cons_zero, List.set_cons_succ]
      refine Pl.takeW rfl rfl ?v177 ?hy177 ?rest177
      case hy177 => intro w_ _; first | (go_simp; done) | (go_simp; with_reducible rfl)
      simp only [Act.put, List.setIfInBounds_toArray, List.set_cons_zero, List.set_cons_succ]
      first
        | (refine Pl.takeW rfl rfl ?v178 ?hy178 ?rest178
           case hy178 => intro w_ _; first | (go_simp; done) | (go_simp; with_reducible rfl))
        | refine Pl.takeU rfl rfl ?rest178
      simp only [Act.put, List.setIfInBounds_toArray, List.set_cons_zero, List.set_cons_succ]
      first
        | (refine Pl.takeW rfl rfl ?v179 ?hy179 ?rest179
           case hy179 => intro w_ _; first | (go_simp; done) | (go_simp; with_reducible rfl))
        | refine Pl.takeU rfl rfl ?rest179
      simp only [Act.put, List.setIfInBounds_toArray, List.set_cons_zero, List.set_cons_succ]
      first
        | (refine Pl.takeW rfl rfl ?v180 ?hy180 ?rest180
           case hy180 => intro w_ _; first | (go_simp; done) | (go_simp; with_reducible rfl))
        | refine Pl.takeU rfl rfl ?rest180
      simp only [Act.put, List.setIfInBounds_toArray, List.set_cons_zero, List.set_cons_succ]
      first
        | (refine Pl.takeW rfl rfl ?v181 ?hy181 ?rest181
           case hy181 => intro w_ hS_; subst hS_; first | (go_simp; done) | (go_simp; with_reducible rfl))
        | refine Pl.takeU rfl rfl ?rest181
      simp only [Act.put, List.setIfInBounds_toArray, List.set_cons_zero, List.set_cons_succ]
      first
        | (refine Pl.takeW rfl rfl ?v182 ?hy182 ?rest182
           case hy182 => intro w_ _; first | (go_simp; done) | (go_simp; with_reducible rfl))
        | refine Pl.takeU rfl rfl ?rest182
      simp only [Act.put, List.setIfInBounds_toArray, List.set_cons_zero, List.set_cons_succ]
      first
        | (refine Pl.takeW rfl rfl ?v183 ?hy183 ?rest183
           case hy183 => intro w_ _; first | (go_simp; done) | (go_simp; with_reducible rfl))
        | refine Pl.takeU rfl rfl ?rest183
      simp only [Act.put, List.setIfInBounds_toArray, List.set_cons_zero, List.set_cons_succ]
      first
        | (refine Pl.takeW rfl rfl ?v184 ?hy184 ?rest184
           case hy184 => intro w_ _; first | (go_simp; done) | (go_simp; with_reducible rfl))
        | refine Pl.takeU rfl rfl ?rest184
      simp only [Act.put, List.setIfInBounds_toArray, List.set_cons_zero, List.set_cons_succ]
      first
        | (refine Pl.takeW rfl rfl ?v185 ?hy185 ?rest185
           case hy185 => intro w_ hS_; subst hS_; first | (go_simp; done) | (go_simp; with_reducible rfl))
        | refine Pl.takeU rfl rfl ?rest185
      simp only [Act.put, List.setIfInBounds_toArray, List.set_cons_zero, List.set_cons_succ]
      first
        | (refine Pl.takeW rfl rfl ?v186 ?hy186 ?rest186
           case hy186 => intro w_ _; first | (go_simp; done) | (go_simp; with_reducible rfl))
        | refine Pl.takeU rfl rfl ?rest186
      simp only [Act.put, List.setIfInBounds_toArray, List.set_cons_zero, List.set_cons_succ]
      first
        | (refine Pl.takeW rfl rfl ?v187 ?hy187 ?rest187
           case hy187 => intro w_ _; first | (go_simp; done) | (go_simp; with_reducible rfl))
        | refine Pl.takeU rfl rfl ?rest187
      simp only [Act.put, List.setIfInBounds_toArray, List.set_cons_zero, List.set_cons_succ]
      show wpList _ _ _ _ _ _
      simp only [List.drop_succ_cons, List.drop_zero]
      go_wp2_with fail
      go_ret
      exact ⟨rfl, S, Seal.le.refl S, HAd.out⟩
    | false =>
      rw [hq] at e4 hE
      rw [if_neg (by simp), if_neg (by rw [ho]; simp)] at hE
      rw [hE]
      have Hput := hid ((D_both p r.op.length).1 r L S _ q ps ho (Nat.le_refl _) HF.out HAd.out)
      clear ho hqq hq hE
      go_enter Try.func29, Try.ntmps29
      go_wp2_with fail
      refine wp_plan 17 (.take 0 (.take 1 (.take 2 (.take 3 (.take 4 (.take 5 (.take 6 (.take 7 (.take 8 (.take 9 (.take 10 (.take 11 (.take 12 (.take 13 (.take 14 (.take 15 (.take 16 .fin))))))))))))))))) (fun w_ => w_ = _) (by kernel_rfl) (by kernel_rfl) (fun _ _ d_ _ _ h_ => by cases d_ <;> exact h_) rfl ?_
      refine Pl.takeW rfl rfl ?v188 ?hy188 ?rest188
      case hy188 => intro w_ _; first | (go_simp; done) | (go_simp; with_reducible rfl)
      simp only [Act.put, List.setIfInBounds_toArray, List.set_cons_zero, List.set_cons_succ]
      refine Pl.takeW rfl rfl ?v189 ?hy189 ?rest189
      case hy189 => intro w_ _; first | (go_simp; done) | (go_simp; with_reducible rfl)
      simp only [Act.put, List.setIfInBounds_toArray, List.set_cons_zero, List.set_cons_succ]
      refine Pl.takeW rfl rfl ?v190 ?hy190 ?rest190
      case hy190 => intro w_ _; first | (go_simp; done) | (go_simp; with_reducible rfl)
      simp only [Act.put, List.setIfInBounds_toArray, List.set_cons_zero, List.set_cons_succ]
      refine Pl.takeW rfl rfl ?v191 ?hy191 ?rest191
      case hy191 => intro w_ hS_; subst hS_; first | (go_simp; done) | (go_simp; with_reducible rfl)
      simp only [Act.put, List.setIfInBounds_toArray, List.set_cons_zero, List.set_cons_succ]
      refine Pl.takeW rfl rfl ?v192 ?hy192 ?rest192
      case hy192 => intro w_ _; first | (go_simp; done) | (go_simp; with_reducible rfl)
      simp only [Act.put, List.setIfInBounds_toArray, List.set_cons_zero, List.set_cons_succ]
      refine Pl.takeW rfl rfl ?v193 ?hy193 ?rest193
      case hy193 => intro w_ _; first | (go_simp; done) | (go_simp; with_reducible rfl)
      simp only [Act.put, List.setIfInBounds_toArray, List.set_cons_zero, List.set_cons_succ]
      refine Pl.takeW rfl rfl ?v194 ?hy194 ?rest194
      case hy194 => intro w_ _; first | (go_simp; done) | (go_simp; with_reducible rfl)
      simp only [Act.put, List.setIfInBounds_toArray, List.set_cons_zero, List.set_cons_succ]
      first
        | (refine Pl.takeW rfl rfl ?v195 ?hy195 ?rest195
           case hy195 => intro w_ _; first | (go_simp; done) | (go_simp; with_reducible rfl))
        | refine Pl.takeU rfl rfl ?rest195
      simp only [Act.put, List.setIfInBounds_toArray, List.set_cons_zero, List.set_cons_succ]
      first
        | (refine Pl.takeW rfl rfl ?v196 ?hy196 ?rest196
           case hy196 => intro w_ _; first | (go_simp; done) | (go_simp; with_reducible rfl))
        | refine Pl.takeU rfl rfl ?rest196
      simp only [Act.put, List.setIfInBounds_toArray, List.set_cons_zero, List.set_cons_succ]
      first
        | (refine Pl.takeW rfl rfl ?v197 ?hy197 ?rest197
           case hy197 => intro w_ _; first | (go_simp; done) | (go_simp; with_reducible rfl))
        | refine Pl.takeU rfl rfl ?rest197
      simp only [Act.put, List.setIfInBounds_toArray, List.set_cons_zero, List.set_cons_succ]
      first
        | (refine Pl.takeW rfl rfl ?v198 ?hy198 ?rest198
           case hy198 => intro w_ hS_; subst hS_; first | (go_simp; done) | (go_simp; with_reducible rfl))
        | refine Pl.takeU rfl rfl ?rest198
      simp only [Act.put, List.setIfInBounds_toArray, List.set_cons_zero, List.set_cons_succ]
      first
        | (refine Pl.takeW rfl rfl ?v199 ?hy199 ?rest199
           case hy199 => intro w_ _; first | (go_simp; done) | (go_simp; with_reducible rfl))
        | refine Pl.takeU rfl rfl ?rest199
      simp only [Act.put, List.setIfInBounds_toArray, List.set_cons_zero, List.set_cons_succ]
      first
        | (refine Pl.takeW rfl rfl ?v200 ?hy200 ?rest200
           case hy200 => intro w_ _; first | (go_simp; done) | (go_simp; with_reducible rfl))
        | refine Pl.takeU rfl rfl ?rest200
      simp only [Act.put, List.setIfInBounds_toArray, List.set_cons_zero, List.set_cons_succ]
      first
        | (refine Pl.takeW rfl rfl ?v201 ?hy201 ?rest201
           case hy201 => intro w_ _; first | (go_simp; done) | (go_simp; with_reducible rfl))
        | refine Pl.takeU rfl rfl ?rest201
      simp only [Act.put, List.setIfInBounds_toArray, List.set_cons_zero, List.set_cons_succ]
      first
        | (refine Pl.takeW rfl rfl ?v202 ?hy202 ?rest202
           case hy202 => intro w_ hS_; subst hS_; first | (go_simp; done) | (go_simp; with_reducible rfl))
        | refine Pl.takeU rfl rfl ?rest202
      simp only [Act.put, List.setIfInBounds_toArray, List.set_cons_zero, List.set_cons_succ]
      first
        | (refine Pl.takeW rfl rfl ?v203 ?hy203 ?rest203
           case hy203 => intro w_ _; first | (go_simp; done) | (go_simp; with_reducible rfl))
        | refine Pl.takeU rfl rfl ?rest203
      simp only [Act.put, List.setIfInBounds_toArray, List.set_cons_zero, List.set_cons_succ]
      first
        | (refine Pl.takeW rfl rfl ?v204 ?hy204 ?rest204
           case hy204 => intro w_ _; first | (go_simp; done) | (go_simp; with_reducible rfl))
        | refine Pl.takeU rfl rfl ?rest204
      simp only [Act.put, List.setIfInBounds_toArray, List.set_cons_zero, List.set_cons_succ]
      show wpList _ _ _ _ _ _
      simp only [List.drop_succ_cons, List.drop_zero]
      go_wp2_with fail
      refine (Hput.out).mono ?_
      rintro e w2 ⟨rfl, S2, k2, hX2⟩
      go_wp2_with fail
      go_ret
      exact ⟨rfl, S2, k2, hX2⟩
end
end Go.Proofs.Ytjjbidajkmodfaa
