/- Texts P16, P17, P18 of the proof. What each theorem says stands in its own statement. No condition beyond those that it names. -/
import Derived.Test.YtjjbidajkmodfaaXa1
import Derived.Test.YtjjbidajkmodfaaXa6
import Derived.Carry
set_option linter.unusedVariables false
set_option linter.unusedSimpArgs false
namespace Go.Proofs.Ytjjbidajkmodfaa
open Go Go.RowKit
theorem res_cases {s : Str} (h : res s = true) : s = sQuote ∨ s = sIf ∨ s = sLambda ∨ s = sSet ∨ s = sBegin ∨ s = sDefine ∨ s = sLet ∨ s = sLets ∨ s = sCond ∨ s = sElse ∨ s = sAnd ∨ s = sOr ∨ s = sWhen ∨ s = sUnless := by
  unfold res at h
  rw [List.contains_iff_mem] at h
  simpa [reservedL] using h
section
variable (d : List Node) (F : Fm) (i : Nat) (st : St)
theorem special_Quote : special d F sQuote i st = quoteS d i st := by unfold special; rw [if_pos rfl]
theorem special_If : special d F sIf i st = ifS d F i st := by unfold special; rw [if_neg (by decide), if_pos rfl]
theorem special_When : special d F sWhen i st = whenS d F i st := by unfold special; rw [if_neg (by decide), if_neg (by decide), if_pos rfl]
theorem special_Unless : special d F sUnless i st = unlessS d F i st := by unfold special; rw [if_neg (by decide), if_neg (by decide), if_neg (by decide), if_pos rfl]
theorem special_Set : special d F sSet i st = setS d F i st := by unfold special; rw [if_neg (by decide), if_neg (by decide), if_neg (by decide), if_neg (by decide), if_pos rfl]
theorem special_Begin : special d F sBegin i st = beginS d F i st := by unfold special; rw [if_neg (by decide), if_neg (by decide), if_neg (by decide), if_neg (by decide), if_neg (by decide), if_pos rfl]
theorem special_Cond : special d F sCond i st = condsS d F i st := by unfold special; rw [if_neg (by decide), if_neg (by decide), if_neg (by decide), if_neg (by decide), if_neg (by decide), if_neg (by decide), if_pos rfl]
theorem special_Lambda : special d F sLambda i st = lambdaS d F i st := by unfold special; rw [if_neg (by decide), if_neg (by decide), if_neg (by decide), if_neg (by decide), if_neg (by decide), if_neg (by decide), if_neg (by decide), if_pos rfl]
theorem special_Let : special d F sLet i st = letS d F i st := by unfold special; rw [if_neg (by decide), if_neg (by decide), if_neg (by decide), if_neg (by decide), if_neg (by decide), if_neg (by decide), if_neg (by decide), if_neg (by decide), if_pos rfl]
theorem special_Lets : special d F sLets i st = letsS d F i st := by unfold special; rw [if_neg (by decide), if_neg (by decide), if_neg (by decide), if_neg (by decide), if_neg (by decide), if_neg (by decide), if_neg (by decide), if_neg (by decide), if_neg (by decide), if_pos rfl]
theorem special_And : special d F sAnd i st = andS F (nd d i).at_ st ((nd d i).l.drop 1) := by unfold special; rw [if_neg (by decide), if_neg (by decide), if_neg (by decide), if_neg (by decide), if_neg (by decide), if_neg (by decide), if_neg (by decide), if_neg (by decide), if_neg (by decide), if_neg (by decide), if_pos rfl]
theorem special_Or : special d F sOr i st = orS F (nd d i).at_ st ((nd d i).l.drop 1) := by unfold special; rw [if_neg (by decide), if_neg (by decide), if_neg (by decide), if_neg (by decide), if_neg (by decide), if_neg (by decide), if_neg (by decide), if_neg (by decide), if_neg (by decide), if_neg (by decide), if_neg (by decide), if_pos rfl]
theorem special_Define : special d F sDefine i st = some (wrong d st i) := by unfold special; rw [if_neg (by decide), if_neg (by decide), if_neg (by decide), if_neg (by decide), if_neg (by decide), if_neg (by decide), if_neg (by decide), if_neg (by decide), if_neg (by decide), if_neg (by decide), if_neg (by decide), if_neg (by decide)]
theorem special_Else : special d F sElse i st = some (wrong d st i) := by unfold special; rw [if_neg (by decide), if_neg (by decide), if_neg (by decide), if_neg (by decide), if_neg (by decide), if_neg (by decide), if_neg (by decide), if_neg (by decide), if_neg (by decide), if_neg (by decide), if_neg (by decide), if_neg (by decide)]
end
section
variable (p b off c : Nat) (d : List Node) (st : St) (L : List Atom) (S : Seal) (w : World)
set_option maxRecDepth 100000 in
set_option maxHeartbeats 40000000 in
theorem P_special (F : Fm) (HF : OkP p b off c d F) (i r : Nat) (st' : St) (hX : PX p (dval b off c d) st L S w) (hE : Env S b off c d) (hi : i < d.length) (hh : heads d i = true) (hr : special d F (headName d i) i st = some (r, st')) :
    Calls Try.prog 55 #[ptr p, elem b off i] w (Ret S (PX p (dval b off c d) st' L) (nat r)) := by
  have X := PX.xs p (dval b off c d) st
  have X' := PX.xs p (dval b off c d) st'
  have HF := hid HF
  have hh2 : (nd d i).l ≠ [] ∧ res (headName d i) = true := by
    unfold heads at hh
    simp only [Bool.and_eq_true, decide_eq_true_eq] at hh
    exact ⟨hh.1.2.1, hh.2⟩
  obtain ⟨hne, hres⟩ := hh2
  obtain ⟨S2, k2, hX2, sx, sd, sl⟩ := X.box3 hX #[ptr p] #[elem b off i] #[.int .i64 (((nd d i).l.length : Int) - 1)] 54 55 3
  have hx := sx 0 _ rfl
  have hd := sd 0 _ rfl
  have hl := sl 0 _ rfl
  clear sx sd sl
  have e1 : ((w.alloc (.cells #[ptr p] 54)).alloc (.cells #[elem b off i] 55)).cell? ⟨w.heap.size + 1, 0, none⟩ = some (elem b off i) := by
    obtain ⟨S1, k1, h1, s1, s2⟩ := X.box2 hX #[ptr p] #[elem b off i] 54 55
    exact X.cell h1 (s2 0 _ rfl)
  have e2 : ∀ v, Sc S (b) (off + i * 5 + 4) v → ((w.alloc (.cells #[ptr p] 54)).alloc (.cells #[elem b off i] 55)).cell? ⟨b, off + i * 5 + 4, none⟩ = some v := by
    intro v hv
    obtain ⟨S1, k1, h1, s1, s2⟩ := X.box2 hX #[ptr p] #[elem b off i] 54 55
    exact X.cell h1 (hv.mono k1)
  obtain ⟨lv, hN⟩ := hE.at_ i hi
  obtain ⟨b1, o1, c1, hlv, h1, h2, hcc⟩ := hN.l.at_ hne
  subst hlv
  obtain ⟨x0, hx0⟩ : ∃ x0, (nd d i).l[0]? = some x0 := ⟨_, List.getElem?_eq_some_iff.2 ⟨List.length_pos_iff.2 hne, rfl⟩⟩
  have hg : (nd d i).l.getD 0 0 = x0 := by rw [List.getD_eq_getElem?_getD, hx0]; rfl
  have hi0 : x0 < d.length := by have := hE.dat.par i hi x0 (List.mem_of_getElem? hx0); omega
  have hs : headName d i = (nd d x0).s := by unfold headName; rw [hg]
  rw [hs] at hr hres
  have hlen1 : 1 ≤ (nd d i).l.length := List.length_pos_iff.2 hne
  have hll := hE.dat.ll i hi
  have hlenI : 0 < (nd d i).l.length := by omega
  obtain ⟨lv0, hN0⟩ := hE.at_ x0 hi0
  have hlen := Dat.len hE
  have hiI : (x0 : Int) < (d.length : Int) := by omega
  have hX6 := X.allocMap hX2 #[] 0
  have hsz : (((w.alloc (.cells #[ptr p] 54)).alloc (.cells #[elem b off i] 55)).alloc (.cells #[.int .i64 (((nd d i).l.length : Int) - 1)] 3)).heap.size = w.heap.size + 3 := by simp
  rw [hsz] at hX6
  have HC := hid (⟨hl, hx, hd⟩ : Cap p b off d S2 i (w.heap.size + 2) w.heap.size (w.heap.size + 1))
  have e3 := e2 _ hN.c4
  clear e2
  have HK := hid k2
  have hmm : ∀ u : World, (Instr.makeMap 112 none).run Try.prog u = .ok (.map (some u.heap.size)) (u.alloc (.map #[] 0)) := fun u => by rw [run_makeMap]
  have hM0 : PX p (dval b off c d) st (.map (w.heap.size + 1 + 1 + 1) #[] 0 :: L) S2 _ := hX6
  have Hr := hid hr
  have HN4 := hid (hN.c4.mono k2)
  have HN0 := hid (hN0.c3.mono k2)
  have Hx0 := hid ((hcc 0 x0 hx0).mono k2)
  rw [Nat.add_zero] at Hx0
  have Hres := hid hres
  have HE := hid hE
  clear hX hX2 hX6 hr hres hE hx hd hl hN hN0 hcc hx0 hs hg k2 hsz hh hne
  obtain ⟨W1, m1, hM1⟩ := run_insX X Try.underlying112 Try.underlying9 hM0 (Value.string ⟨#[113, 117, 111, 116, 101]⟩) (.func (.func 71) #[] #[ptr (w.heap.size + 1 + 1), ptr w.heap.size, ptr (w.heap.size + 1)]) trivial (by kernel_rfl)
  clear hM0
  obtain ⟨W2, m2, hM2⟩ := run_insX X Try.underlying112 Try.underlying9 hM1 (Value.string ⟨#[105, 102]⟩) (.func (.func 72) #[] #[ptr w.heap.size, ptr (w.heap.size + 1), ptr (w.heap.size + 1 + 1)]) trivial (by kernel_rfl)
  clear hM1
  obtain ⟨W3, m3, hM3⟩ := run_insX X Try.underlying112 Try.underlying9 hM2 (Value.string ⟨#[119, 104, 101, 110]⟩) (.func (.func 75) #[] #[ptr w.heap.size, ptr (w.heap.size + 1)]) trivial (by kernel_rfl)
  clear hM2
  obtain ⟨W4, m4, hM4⟩ := run_insX X Try.underlying112 Try.underlying9 hM3 (Value.string ⟨#[117, 110, 108, 101, 115, 115]⟩) (.func (.func 77) #[] #[ptr w.heap.size, ptr (w.heap.size + 1)]) trivial (by kernel_rfl)
  clear hM3
  obtain ⟨W5, m5, hM5⟩ := run_insX X Try.underlying112 Try.underlying9 hM4 (Value.string ⟨#[115, 101, 116, 33]⟩) (.func (.func 79) #[] #[ptr (w.heap.size + 1 + 1), ptr w.heap.size, ptr (w.heap.size + 1)]) trivial (by kernel_rfl)
  clear hM4
  obtain ⟨W6, m6, hM6⟩ := run_insX X Try.underlying112 Try.underlying9 hM5 (Value.string ⟨#[98, 101, 103, 105, 110]⟩) (.func (.func 80) #[] #[ptr (w.heap.size + 1 + 1), ptr w.heap.size, ptr (w.heap.size + 1)]) trivial (by kernel_rfl)
  clear hM5
  obtain ⟨W7, m7, hM7⟩ := run_insX X Try.underlying112 Try.underlying9 hM6 (Value.string ⟨#[99, 111, 110, 100]⟩) (.func (.func 81) #[] #[ptr (w.heap.size + 1 + 1), ptr w.heap.size, ptr (w.heap.size + 1)]) trivial (by kernel_rfl)
  clear hM6
  obtain ⟨W8, m8, hM8⟩ := run_insX X Try.underlying112 Try.underlying9 hM7 (Value.string ⟨#[108, 97, 109, 98, 100, 97]⟩) (.func (.func 83) #[] #[ptr w.heap.size, ptr (w.heap.size + 1)]) trivial (by kernel_rfl)
  clear hM7
  obtain ⟨W9, m9, hM9⟩ := run_insX X Try.underlying112 Try.underlying9 hM8 (Value.string ⟨#[108, 101, 116]⟩) (.func (.func 85) #[] #[ptr w.heap.size, ptr (w.heap.size + 1)]) trivial (by kernel_rfl)
  clear hM8
  obtain ⟨W10, m10, hM10⟩ := run_insX X Try.underlying112 Try.underlying9 hM9 (Value.string ⟨#[108, 101, 116, 42]⟩) (.func (.func 87) #[] #[ptr w.heap.size, ptr (w.heap.size + 1)]) trivial (by kernel_rfl)
  clear hM9
  obtain ⟨W11, m11, hM11⟩ := run_insX X Try.underlying112 Try.underlying9 hM10 (Value.string ⟨#[97, 110, 100]⟩) (.func (.func 89) #[] #[ptr w.heap.size, ptr (w.heap.size + 1)]) trivial (by kernel_rfl)
  clear hM10
  obtain ⟨W12, m12, hM12⟩ := run_insX X Try.underlying112 Try.underlying9 hM11 (Value.string ⟨#[111, 114]⟩) (.func (.func 91) #[] #[ptr w.heap.size, ptr (w.heap.size + 1)]) trivial (by kernel_rfl)
  clear hM11
  have HM := hid hM12
  clear hM12
  go_enter Try.func55, Try.ntmps55
  go_wp2_with fail
  clear e1 e3 hmm m1 m2 m3 m4 m5 m6 m7 m8 m9 m10 m11 m12
  have f1 := X.cell HM.out HC.out.hx
  have f2 := X.cell HM.out HC.out.hd
  have f3 := X.cell HM.out HN4.out
  have f4 := X.cell HM.out Hx0.out
  have f5 := X.cell HM.out HN0.out
  have f0 := HM.out.d0
  rcases res_cases Hres.out with h | h | h | h | h | h | h | h | h | h | h | h | h | h
  · have hr := Hr.out
    rw [h, special_Quote] at hr
    rw [h] at f5
    replace f5 : _ = some (Value.string ⟨#[113, 117, 111, 116, 101]⟩) := f5
    have Hr' := hid hr
    have HL := run_lookup_ok (v := .func (.func 71) #[] #[ptr (w.heap.size + 1 + 1), ptr w.heap.size, ptr (w.heap.size + 1)]) (i := 0) (key := Value.string ⟨#[113, 117, 111, 116, 101]⟩) Try.underlying112 Try.underlying9 (X.mapHeap (X.drew HM.out)) trivial (by kernel_rfl)
    clear h hr
    refine wp_plan 19 (.take 0 (.take 1 (.take 2 (.take 3 (.take 4 (.take 5 (.take 6 (.take 7 (.take 8 (.take 9 (.take 10 (.take 11 (.take 12 (.take 13 (.take 14 (.take 15 (.take 16 (.take 17 (.take 18 .fin))))))))))))))))))) (fun w_ => w_ = _) (by kernel_rfl) (by kernel_rfl) (fun _ _ d_ _ _ h_ => by cases d_ <;> exact h_) rfl ?_
    refine Pl.takeW rfl rfl ?v1 ?hy1 ?rest1
    case hy1 => intro w_ _; first | (go_simp; done) | (go_simp; with_reducible rfl)
    simp only [Act.put, List.setIfInBounds_toArray, List.set_cons_zero, List.set_cons_succ]
    refine Pl.takeW rfl rfl ?v2 ?hy2 ?rest2
    case hy2 => intro w_ hS_; subst hS_; first | (go_simp; done) | (go_simp; with_reducible rfl)
    simp only [Act.put, List.setIfInBounds_toArray, List.set_cons_zero, List.set_cons_succ]
    refine Pl.takeW rfl rfl ?v3 ?hy3 ?rest3
    case hy3 => intro w_ _; first | (go_simp; done) | (go_simp; with_reducible rfl)
    simp only [Act.put, List.setIfInBounds_toArray, List.set_cons_zero, List.set_cons_succ]
    refine Pl.takeW rfl rfl ?v4 ?hy4 ?rest4
    case hy4 => intro w_ _; first | (go_simp; done) | (go_simp; with_reducible rfl)
    simp only [Act.put, List.setIfInBounds_toArray, List.set_cons_zero, List.set_cons_succ]
    refine Pl.takeW rfl rfl ?v5 ?hy5 ?rest5
    case hy5 => intro w_ hS_; subst hS_; first | (go_simp; done) | (go_simp; with_reducible rfl)
    simp only [Act.put, List.setIfInBounds_toArray, List.set_cons_zero, List.set_cons_succ]
    refine Pl.takeW rfl rfl ?v6 ?hy6 ?rest6
    case hy6 => intro w_ hS_; subst hS_; first | (go_simp; done) | (go_simp; with_reducible rfl)
    simp only [Act.put, List.setIfInBounds_toArray, List.set_cons_zero, List.set_cons_succ]
    refine Pl.takeW rfl rfl ?v7 ?hy7 ?rest7
    case hy7 => intro w_ _; first | (go_simp; done) | (go_simp; with_reducible rfl)
    simp only [Act.put, List.setIfInBounds_toArray, List.set_cons_zero, List.set_cons_succ]
    refine Pl.takeW rfl rfl ?v8 ?hy8 ?rest8
    case hy8 => intro w_ _; first | (go_simp; done) | (go_simp; with_reducible rfl)
    simp only [Act.put, List.setIfInBounds_toArray, List.set_cons_zero, List.set_cons_succ]
    refine Pl.takeW rfl rfl ?v9 ?hy9 ?rest9
    case hy9 => intro w_ hS_; subst hS_; first | (go_simp; done) | (go_simp; with_reducible rfl)
    simp only [Act.put, List.setIfInBounds_toArray, List.set_cons_zero, List.set_cons_succ]
    refine Pl.takeW rfl rfl ?v10 ?hy10 ?rest10
    case hy10 => intro w_ _; first | (go_simp; done) | (go_simp; with_reducible rfl)
    simp only [Act.put, List.setIfInBounds_toArray, List.set_cons_zero, List.set_cons_succ]
    refine Pl.takeW rfl rfl ?v11 ?hy11 ?rest11
    case hy11 => intro w_ hS_; subst hS_; first | (go_simp; done) | (go_simp; with_reducible rfl)
    simp only [Act.put, List.setIfInBounds_toArray, List.set_cons_zero, List.set_cons_succ]
    refine Pl.takeW rfl rfl ?v12 ?hy12 ?rest12
    case hy12 => intro w_ _; first | (go_simp; done) | (go_simp; with_reducible rfl)
    simp only [Act.put, List.setIfInBounds_toArray, List.set_cons_zero, List.set_cons_succ]
    refine Pl.takeW rfl rfl ?v13 ?hy13 ?rest13
    case hy13 => intro w_ _; first | (go_simp; done) | (go_simp; with_reducible rfl)
    simp only [Act.put, List.setIfInBounds_toArray, List.set_cons_zero, List.set_cons_succ]
    refine Pl.takeW rfl rfl ?v14 ?hy14 ?rest14
    case hy14 => intro w_ hS_; subst hS_; first | (go_simp; done) | (go_simp; with_reducible rfl)
    simp only [Act.put, List.setIfInBounds_toArray, List.set_cons_zero, List.set_cons_succ]
    refine Pl.takeW rfl rfl ?v15 ?hy15 ?rest15
    case hy15 => intro w_ hS_; subst hS_; first | (go_simp; done) | (go_simp; with_reducible rfl)
    simp only [Act.put, List.setIfInBounds_toArray, List.set_cons_zero, List.set_cons_succ]
    refine Pl.takeW rfl rfl ?v16 ?hy16 ?rest16
    case hy16 => intro w_ _; first | (go_simp; done) | (go_simp; with_reducible rfl)
    simp only [Act.put, List.setIfInBounds_toArray, List.set_cons_zero, List.set_cons_succ]
    refine Pl.takeW rfl rfl ?v17 ?hy17 ?rest17
    case hy17 => intro w_ _; first | (go_simp; done) | (go_simp; with_reducible rfl)
    simp only [Act.put, List.setIfInBounds_toArray, List.set_cons_zero, List.set_cons_succ]
    refine Pl.takeW rfl rfl ?v18 ?hy18 ?rest18
    case hy18 => intro w_ _; first | (go_simp; done) | (go_simp; with_reducible rfl)
    simp only [Act.put, List.setIfInBounds_toArray, List.set_cons_zero, List.set_cons_succ]
    refine Pl.takeW rfl rfl ?v19 ?hy19 ?rest19
    case hy19 => intro w_ _; first | (go_simp; done) | (go_simp; with_reducible rfl)
    simp only [Act.put, List.setIfInBounds_toArray, List.set_cons_zero, List.set_cons_succ]
    show wpList _ _ _ _ _ _
    simp only [List.drop_succ_cons, List.drop_zero]
    go_wp2_with fail
    refine (P_quoteC p b off c d st _ S2 _ F HF.out i _ _ _ r st' (X.drew HM.out) (HE.out.mono HK.out) HC.out hi hlen1 Hr'.out).mono ?_
    rintro e w1 ⟨rfl, S1, k1, hX1⟩
    go_wp2_with fail
    go_ret
    exact Ret.intro rfl (HK.out.trans k1) (X'.dropAtom hX1)
  · have hr := Hr.out
    rw [h, special_If] at hr
    rw [h] at f5
    replace f5 : _ = some (Value.string ⟨#[105, 102]⟩) := f5
    have Hr' := hid hr
    have HL := run_lookup_ok (v := .func (.func 72) #[] #[ptr w.heap.size, ptr (w.heap.size + 1), ptr (w.heap.size + 1 + 1)]) (i := 1) (key := Value.string ⟨#[105, 102]⟩) Try.underlying112 Try.underlying9 (X.mapHeap (X.drew HM.out)) trivial (by kernel_rfl)
    clear h hr
    refine wp_plan 19 (.take 0 (.take 1 (.take 2 (.take 3 (.take 4 (.take 5 (.take 6 (.take 7 (.take 8 (.take 9 (.take 10 (.take 11 (.take 12 (.take 13 (.take 14 (.take 15 (.take 16 (.take 17 (.take 18 .fin))))))))))))))))))) (fun w_ => w_ = _) (by kernel_rfl) (by kernel_rfl) (fun _ _ d_ _ _ h_ => by cases d_ <;> exact h_) rfl ?_
    refine Pl.takeW rfl rfl ?v20 ?hy20 ?rest20
    case hy20 => intro w_ _; first | (go_simp; done) | (go_simp; with_reducible rfl)
    simp only [Act.put, List.setIfInBounds_toArray, List.set_cons_zero, List.set_cons_succ]
    refine Pl.takeW rfl rfl ?v21 ?hy21 ?rest21
    case hy21 => intro w_ hS_; subst hS_; first | (go_simp; done) | (go_simp; with_reducible rfl)
    simp only [Act.put, List.setIfInBounds_toArray, List.set_cons_zero, List.set_cons_succ]
    refine Pl.takeW rfl rfl ?v22 ?hy22 ?rest22
    case hy22 => intro w_ _; first | (go_simp; done) | (go_simp; with_reducible rfl)
    simp only [Act.put, List.setIfInBounds_toArray, List.set_cons_zero, List.set_cons_succ]
    refine Pl.takeW rfl rfl ?v23 ?hy23 ?rest23
    case hy23 => intro w_ _; first | (go_simp; done) | (go_simp; with_reducible rfl)
    simp only [Act.put, List.setIfInBounds_toArray, List.set_cons_zero, List.set_cons_succ]
    refine Pl.takeW rfl rfl ?v24 ?hy24 ?rest24
    case hy24 => intro w_ hS_; subst hS_; first | (go_simp; done) | (go_simp; with_reducible rfl)
    simp only [Act.put, List.setIfInBounds_toArray, List.set_cons_zero, List.set_cons_succ]
    refine Pl.takeW rfl rfl ?v25 ?hy25 ?rest25
    case hy25 => intro w_ hS_; subst hS_; first | (go_simp; done) | (go_simp; with_reducible rfl)
    simp only [Act.put, List.setIfInBounds_toArray, List.set_cons_zero, List.set_cons_succ]
    refine Pl.takeW rfl rfl ?v26 ?hy26 ?rest26
    case hy26 => intro w_ _; first | (go_simp; done) | (go_simp; with_reducible rfl)
    simp only [Act.put, List.setIfInBounds_toArray, List.set_cons_zero, List.set_cons_succ]
    refine Pl.takeW rfl rfl ?v27 ?hy27 ?rest27
    case hy27 => intro w_ _; first | (go_simp; done) | (go_simp; with_reducible rfl)
    simp only [Act.put, List.setIfInBounds_toArray, List.set_cons_zero, List.set_cons_succ]
    refine Pl.takeW rfl rfl ?v28 ?hy28 ?rest28
    case hy28 => intro w_ hS_; subst hS_; first | (go_simp; done) | (go_simp; with_reducible rfl)
    simp only [Act.put, List.setIfInBounds_toArray, List.set_cons_zero, List.set_cons_succ]
    refine Pl.takeW rfl rfl ?v29 ?hy29 ?rest29
    case hy29 => intro w_ _; first | (go_simp; done) | (go_simp; with_reducible rfl)
    simp only [Act.put, List.setIfInBounds_toArray, List.set_cons_zero, List.set_cons_succ]
    refine Pl.takeW rfl rfl ?v30 ?hy30 ?rest30
    case hy30 => intro w_ hS_; subst hS_; first | (go_simp; done) | (go_simp; with_reducible rfl)
    simp only [Act.put, List.setIfInBounds_toArray, List.set_cons_zero, List.set_cons_succ]
    refine Pl.takeW rfl rfl ?v31 ?hy31 ?rest31
    case hy31 => intro w_ _; first | (go_simp; done) | (go_simp; with_reducible rfl)
    simp only [Act.put, List.setIfInBounds_toArray, List.set_cons_zero, List.set_cons_succ]
    refine Pl.takeW rfl rfl ?v32 ?hy32 ?rest32
    case hy32 => intro w_ _; first | (go_simp; done) | (go_simp; with_reducible rfl)
    simp only [Act.put, List.setIfInBounds_toArray, List.set_cons_zero, List.set_cons_succ]
    refine Pl.takeW rfl rfl ?v33 ?hy33 ?rest33
    case hy33 => intro w_ hS_; subst hS_; first | (go_simp; done) | (go_simp; with_reducible rfl)
    simp only [Act.put, List.setIfInBounds_toArray, List.set_cons_zero, List.set_cons_succ]
    refine Pl.takeW rfl rfl ?v34 ?hy34 ?rest34
    case hy34 => intro w_ hS_; subst hS_; first | (go_simp; done) | (go_simp; with_reducible rfl)
    simp only [Act.put, List.setIfInBounds_toArray, List.set_cons_zero, List.set_cons_succ]
    refine Pl.takeW rfl rfl ?v35 ?hy35 ?rest35
    case hy35 => intro w_ _; first | (go_simp; done) | (go_simp; with_reducible rfl)
    simp only [Act.put, List.setIfInBounds_toArray, List.set_cons_zero, List.set_cons_succ]
    refine Pl.takeW rfl rfl ?v36 ?hy36 ?rest36
    case hy36 => intro w_ _; first | (go_simp; done) | (go_simp; with_reducible rfl)
    simp only [Act.put, List.setIfInBounds_toArray, List.set_cons_zero, List.set_cons_succ]
    refine Pl.takeW rfl rfl ?v37 ?hy37 ?rest37
    case hy37 => intro w_ _; first | (go_simp; done) | (go_simp; with_reducible rfl)
    simp only [Act.put, List.setIfInBounds_toArray, List.set_cons_zero, List.set_cons_succ]
    refine Pl.takeW rfl rfl ?v38 ?hy38 ?rest38
    case hy38 => intro w_ _; first | (go_simp; done) | (go_simp; with_reducible rfl)
    simp only [Act.put, List.setIfInBounds_toArray, List.set_cons_zero, List.set_cons_succ]
    show wpList _ _ _ _ _ _
    simp only [List.drop_succ_cons, List.drop_zero]
    go_wp2_with fail
    refine (P_ifC p b off c d st _ S2 _ F HF.out i _ _ _ r st' (X.drew HM.out) (HE.out.mono HK.out) HC.out hi Hr'.out).mono ?_
    rintro e w1 ⟨rfl, S1, k1, hX1⟩
    go_wp2_with fail
    go_ret
    exact Ret.intro rfl (HK.out.trans k1) (X'.dropAtom hX1)
  · have hr := Hr.out
    rw [h, special_Lambda] at hr
    rw [h] at f5
    replace f5 : _ = some (Value.string ⟨#[108, 97, 109, 98, 100, 97]⟩) := f5
    have Hr' := hid hr
    have HL := run_lookup_ok (v := .func (.func 83) #[] #[ptr w.heap.size, ptr (w.heap.size + 1)]) (i := 7) (key := Value.string ⟨#[108, 97, 109, 98, 100, 97]⟩) Try.underlying112 Try.underlying9 (X.mapHeap (X.drew HM.out)) trivial (by kernel_rfl)
    clear h hr
    refine wp_plan 19 (.take 0 (.take 1 (.take 2 (.take 3 (.take 4 (.take 5 (.take 6 (.take 7 (.take 8 (.take 9 (.take 10 (.take 11 (.take 12 (.take 13 (.take 14 (.take 15 (.take 16 (.take 17 (.take 18 .fin))))))))))))))))))) (fun w_ => w_ = _) (by kernel_rfl) (by kernel_rfl) (fun _ _ d_ _ _ h_ => by cases d_ <;> exact h_) rfl ?_
    refine Pl.takeW rfl rfl ?v39 ?hy39 ?rest39
    case hy39 => intro w_ _; first | (go_simp; done) | (go_simp; with_reducible rfl)
    simp only [Act.put, List.setIfInBounds_toArray, List.set_cons_zero, List.set_cons_succ]
    refine Pl.takeW rfl rfl ?v40 ?hy40 ?rest40
    case hy40 => intro w_ hS_; subst hS_; first | (go_simp; done) | (go_simp; with_reducible rfl)
    simp only [Act.put, List.setIfInBounds_toArray, List.set_cons_zero, List.set_cons_succ]
    refine Pl.takeW rfl rfl ?v41 ?hy41 ?rest41
    case hy41 => intro w_ _; first | (go_simp; done) | (go_simp; with_reducible rfl)
    simp only [Act.put, List.setIfInBounds_toArray, List.set_cons_zero, List.set_cons_succ]
    refine Pl.takeW rfl rfl ?v42 ?hy42 ?rest42
    case hy42 => intro w_ _; first | (go_simp; done) | (go_simp; with_reducible rfl)
    simp only [Act.put, List.setIfInBounds_toArray, List.set_cons_zero, List.set_cons_succ]
    refine Pl.takeW rfl rfl ?v43 ?hy43 ?rest43
    case hy43 => intro w_ hS_; subst hS_; first | (go_simp; done) | (go_simp; with_reducible rfl)
    simp only [Act.put, List.setIfInBounds_toArray, List.set_cons_zero, List.set_cons_succ]
    refine Pl.takeW rfl rfl ?v44 ?hy44 ?rest44
    case hy44 => intro w_ hS_; subst hS_; first | (go_simp; done) | (go_simp; with_reducible rfl)
    simp only [Act.put, List.setIfInBounds_toArray, List.set_cons_zero, List.set_cons_succ]
    refine Pl.takeW rfl rfl ?v45 ?hy45 ?rest45
    case hy45 => intro w_ _; first | (go_simp; done) | (go_simp; with_reducible rfl)
    simp only [Act.put, List.setIfInBounds_toArray, List.set_cons_zero, List.set_cons_succ]
    refine Pl.takeW rfl rfl ?v46 ?hy46 ?rest46
    case hy46 => intro w_ _; first | (go_simp; done) | (go_simp; with_reducible rfl)
    simp only [Act.put, List.setIfInBounds_toArray, List.set_cons_zero, List.set_cons_succ]
    refine Pl.takeW rfl rfl ?v47 ?hy47 ?rest47
    case hy47 => intro w_ hS_; subst hS_; first | (go_simp; done) | (go_simp; with_reducible rfl)
    simp only [Act.put, List.setIfInBounds_toArray, List.set_cons_zero, List.set_cons_succ]
    refine Pl.takeW rfl rfl ?v48 ?hy48 ?rest48
    case hy48 => intro w_ _; first | (go_simp; done) | (go_simp; with_reducible rfl)
    simp only [Act.put, List.setIfInBounds_toArray, List.set_cons_zero, List.set_cons_succ]
    refine Pl.takeW rfl rfl ?v49 ?hy49 ?rest49
    case hy49 => intro w_ hS_; subst hS_; first | (go_simp; done) | (go_simp; with_reducible rfl)
    simp only [Act.put, List.setIfInBounds_toArray, List.set_cons_zero, List.set_cons_succ]
    refine Pl.takeW rfl rfl ?v50 ?hy50 ?rest50
    case hy50 => intro w_ _; first | (go_simp; done) | (go_simp; with_reducible rfl)
    simp only [Act.put, List.setIfInBounds_toArray, List.set_cons_zero, List.set_cons_succ]
    refine Pl.takeW rfl rfl ?v51 ?hy51 ?rest51
    case hy51 => intro w_ _; first | (go_simp; done) | (go_simp; with_reducible rfl)
    simp only [Act.put, List.setIfInBounds_toArray, List.set_cons_zero, List.set_cons_succ]
    refine Pl.takeW rfl rfl ?v52 ?hy52 ?rest52
    case hy52 => intro w_ hS_; subst hS_; first | (go_simp; done) | (go_simp; with_reducible rfl)
    simp only [Act.put, List.setIfInBounds_toArray, List.set_cons_zero, List.set_cons_succ]
    refine Pl.takeW rfl rfl ?v53 ?hy53 ?rest53
    case hy53 => intro w_ hS_; subst hS_; first | (go_simp; done) | (go_simp; with_reducible rfl)
    simp only [Act.put, List.setIfInBounds_toArray, List.set_cons_zero, List.set_cons_succ]
    refine Pl.takeW rfl rfl ?v54 ?hy54 ?rest54
    case hy54 => intro w_ _; first | (go_simp; done) | (go_simp; with_reducible rfl)
    simp only [Act.put, List.setIfInBounds_toArray, List.set_cons_zero, List.set_cons_succ]
    refine Pl.takeW rfl rfl ?v55 ?hy55 ?rest55
    case hy55 => intro w_ _; first | (go_simp; done) | (go_simp; with_reducible rfl)
    simp only [Act.put, List.setIfInBounds_toArray, List.set_cons_zero, List.set_cons_succ]
    refine Pl.takeW rfl rfl ?v56 ?hy56 ?rest56
    case hy56 => intro w_ _; first | (go_simp; done) | (go_simp; with_reducible rfl)
    simp only [Act.put, List.setIfInBounds_toArray, List.set_cons_zero, List.set_cons_succ]
    refine Pl.takeW rfl rfl ?v57 ?hy57 ?rest57
    case hy57 => intro w_ _; first | (go_simp; done) | (go_simp; with_reducible rfl)
    simp only [Act.put, List.setIfInBounds_toArray, List.set_cons_zero, List.set_cons_succ]
    show wpList _ _ _ _ _ _
    simp only [List.drop_succ_cons, List.drop_zero]
    go_wp2_with fail
    refine (P_lambdaC p b off c d st _ S2 _ F HF.out i _ _ _ r st' (X.drew HM.out) (HE.out.mono HK.out) HC.out hi Hr'.out).mono ?_
    rintro e w1 ⟨rfl, S1, k1, hX1⟩
    go_wp2_with fail
    go_ret
    exact Ret.intro rfl (HK.out.trans k1) (X'.dropAtom hX1)
  · have hr := Hr.out
    rw [h, special_Set] at hr
    rw [h] at f5
    replace f5 : _ = some (Value.string ⟨#[115, 101, 116, 33]⟩) := f5
    have Hr' := hid hr
    have HL := run_lookup_ok (v := .func (.func 79) #[] #[ptr (w.heap.size + 1 + 1), ptr w.heap.size, ptr (w.heap.size + 1)]) (i := 4) (key := Value.string ⟨#[115, 101, 116, 33]⟩) Try.underlying112 Try.underlying9 (X.mapHeap (X.drew HM.out)) trivial (by kernel_rfl)
    clear h hr
    refine wp_plan 19 (.take 0 (.take 1 (.take 2 (.take 3 (.take 4 (.take 5 (.take 6 (.take 7 (.take 8 (.take 9 (.take 10 (.take 11 (.take 12 (.take 13 (.take 14 (.take 15 (.take 16 (.take 17 (.take 18 .fin))))))))))))))))))) (fun w_ => w_ = _) (by kernel_rfl) (by kernel_rfl) (fun _ _ d_ _ _ h_ => by cases d_ <;> exact h_) rfl ?_
    refine Pl.takeW rfl rfl ?v58 ?hy58 ?rest58
    case hy58 => intro w_ _; first | (go_simp; done) | (go_simp; with_reducible rfl)
    simp only [Act.put, List.setIfInBounds_toArray, List.set_cons_zero, List.set_cons_succ]
    refine Pl.takeW rfl rfl ?v59 ?hy59 ?rest59
    case hy59 => intro w_ hS_; subst hS_; first | (go_simp; done) | (go_simp; with_reducible rfl)
    simp only [Act.put, List.setIfInBounds_toArray, List.set_cons_zero, List.set_cons_succ]
    refine Pl.takeW rfl rfl ?v60 ?hy60 ?rest60
    case hy60 => intro w_ _; first | (go_simp; done) | (go_simp; with_reducible rfl)
    simp only [Act.put, List.setIfInBounds_toArray, List.set_cons_zero, List.set_cons_succ]
    refine Pl.takeW rfl rfl ?v61 ?hy61 ?rest61
    case hy61 => intro w_ _; first | (go_simp; done) | (go_simp; with_reducible rfl)
    simp only [Act.put, List.setIfInBounds_toArray, List.set_cons_zero, List.set_cons_succ]
    refine Pl.takeW rfl rfl ?v62 ?hy62 ?rest62
    case hy62 => intro w_ hS_; subst hS_; first | (go_simp; done) | (go_simp; with_reducible rfl)
    simp only [Act.put, List.setIfInBounds_toArray, List.set_cons_zero, List.set_cons_succ]
    refine Pl.takeW rfl rfl ?v63 ?hy63 ?rest63
    case hy63 => intro w_ hS_; subst hS_; first | (go_simp; done) | (go_simp; with_reducible rfl)
    simp only [Act.put, List.setIfInBounds_toArray, List.set_cons_zero, List.set_cons_succ]
    refine Pl.takeW rfl rfl ?v64 ?hy64 ?rest64
    case hy64 => intro w_ _; first | (go_simp; done) | (go_simp; with_reducible rfl)
    simp only [Act.put, List.setIfInBounds_toArray, List.set_cons_zero, List.set_cons_succ]
    refine Pl.takeW rfl rfl ?v65 ?hy65 ?rest65
    case hy65 => intro w_ _; first | (go_simp; done) | (go_simp; with_reducible rfl)
    simp only [Act.put, List.setIfInBounds_toArray, List.set_cons_zero, List.set_cons_succ]
    refine Pl.takeW rfl rfl ?v66 ?hy66 ?rest66
    case hy66 => intro w_ hS_; subst hS_; first | (go_simp; done) | (go_simp; with_reducible rfl)
    simp only [Act.put, List.setIfInBounds_toArray, List.set_cons_zero, List.set_cons_succ]
    refine Pl.takeW rfl rfl ?v67 ?hy67 ?rest67
    case hy67 => intro w_ _; first | (go_simp; done) | (go_simp; with_reducible rfl)
    simp only [Act.put, List.setIfInBounds_toArray, List.set_cons_zero, List.set_cons_succ]
    refine Pl.takeW rfl rfl ?v68 ?hy68 ?rest68
    case hy68 => intro w_ hS_; subst hS_; first | (go_simp; done) | (go_simp; with_reducible rfl)
    simp only [Act.put, List.setIfInBounds_toArray, List.set_cons_zero, List.set_cons_succ]
    refine Pl.takeW rfl rfl ?v69 ?hy69 ?rest69
    case hy69 => intro w_ _; first | (go_simp; done) | (go_simp; with_reducible rfl)
    simp only [Act.put, List.setIfInBounds_toArray, List.set_cons_zero, List.set_cons_succ]
    refine Pl.takeW rfl rfl ?v70 ?hy70 ?rest70
    case hy70 => intro w_ _; first | (go_simp; done) | (go_simp; with_reducible rfl)
    simp only [Act.put, List.setIfInBounds_toArray, List.set_cons_zero, List.set_cons_succ]
    refine Pl.takeW rfl rfl ?v71 ?hy71 ?rest71
    case hy71 => intro w_ hS_; subst hS_; first | (go_simp; done) | (go_simp; with_reducible rfl)
    simp only [Act.put, List.setIfInBounds_toArray, List.set_cons_zero, List.set_cons_succ]
    refine Pl.takeW rfl rfl ?v72 ?hy72 ?rest72
    case hy72 => intro w_ hS_; subst hS_; first | (go_simp; done) | (go_simp; with_reducible rfl)
    simp only [Act.put, List.setIfInBounds_toArray, List.set_cons_zero, List.set_cons_succ]
    refine Pl.takeW rfl rfl ?v73 ?hy73 ?rest73
    case hy73 => intro w_ _; first | (go_simp; done) | (go_simp; with_reducible rfl)
    simp only [Act.put, List.setIfInBounds_toArray, List.set_cons_zero, List.set_cons_succ]
    refine Pl.takeW rfl rfl ?v74 ?hy74 ?rest74
    case hy74 => intro w_ _; first | (go_simp; done) | (go_simp; with_reducible rfl)
    simp only [Act.put, List.setIfInBounds_toArray, List.set_cons_zero, List.set_cons_succ]
    refine Pl.takeW rfl rfl ?v75 ?hy75 ?rest75
    case hy75 => intro w_ _; first | (go_simp; done) | (go_simp; with_reducible rfl)
    simp only [Act.put, List.setIfInBounds_toArray, List.set_cons_zero, List.set_cons_succ]
    refine Pl.takeW rfl rfl ?v76 ?hy76 ?rest76
    case hy76 => intro w_ _; first | (go_simp; done) | (go_simp; with_reducible rfl)
    simp only [Act.put, List.setIfInBounds_toArray, List.set_cons_zero, List.set_cons_succ]
    show wpList _ _ _ _ _ _
    simp only [List.drop_succ_cons, List.drop_zero]
    go_wp2_with fail
    refine (P_setC p b off c d st _ S2 _ F HF.out i _ _ _ r st' (X.drew HM.out) (HE.out.mono HK.out) HC.out hi hlen1 Hr'.out).mono ?_
    rintro e w1 ⟨rfl, S1, k1, hX1⟩
    go_wp2_with fail
    go_ret
    exact Ret.intro rfl (HK.out.trans k1) (X'.dropAtom hX1)
  · have hr := Hr.out
    rw [h, special_Begin] at hr
    rw [h] at f5
    replace f5 : _ = some (Value.string ⟨#[98, 101, 103, 105, 110]⟩) := f5
    have Hr' := hid hr
    have HL := run_lookup_ok (v := .func (.func 80) #[] #[ptr (w.heap.size + 1 + 1), ptr w.heap.size, ptr (w.heap.size + 1)]) (i := 5) (key := Value.string ⟨#[98, 101, 103, 105, 110]⟩) Try.underlying112 Try.underlying9 (X.mapHeap (X.drew HM.out)) trivial (by kernel_rfl)
    clear h hr
    refine wp_plan 19 (.take 0 (.take 1 (.take 2 (.take 3 (.take 4 (.take 5 (.take 6 (.take 7 (.take 8 (.take 9 (.take 10 (.take 11 (.take 12 (.take 13 (.take 14 (.take 15 (.take 16 (.take 17 (.take 18 .fin))))))))))))))))))) (fun w_ => w_ = _) (by kernel_rfl) (by kernel_rfl) (fun _ _ d_ _ _ h_ => by cases d_ <;> exact h_) rfl ?_
    refine Pl.takeW rfl rfl ?v77 ?hy77 ?rest77
    case hy77 => intro w_ _; first | (go_simp; done) | (go_simp; with_reducible rfl)
    simp only [Act.put, List.setIfInBounds_toArray, List.set_cons_zero, List.set_cons_succ]
    refine Pl.takeW rfl rfl ?v78 ?hy78 ?rest78
    case hy78 => intro w_ hS_; subst hS_; first | (go_simp; done) | (go_simp; with_reducible rfl)
    simp only [Act.put, List.setIfInBounds_toArray, List.set_cons_zero, List.set_cons_succ]
    refine Pl.takeW rfl rfl ?v79 ?hy79 ?rest79
    case hy79 => intro w_ _; first | (go_simp; done) | (go_simp; with_reducible rfl)
    simp only [Act.put, List.setIfInBounds_toArray, List.set_cons_zero, List.set_cons_succ]
    refine Pl.takeW rfl rfl ?v80 ?hy80 ?rest80
    case hy80 => intro w_ _; first | (go_simp; done) | (go_simp; with_reducible rfl)
    simp only [Act.put, List.setIfInBounds_toArray, List.set_cons_zero, List.set_cons_succ]
    refine Pl.takeW rfl rfl ?v81 ?hy81 ?rest81
    case hy81 => intro w_ hS_; subst hS_; first | (go_simp; done) | (go_simp; with_reducible rfl)
    simp only [Act.put, List.setIfInBounds_toArray, List.set_cons_zero, List.set_cons_succ]
    refine Pl.takeW rfl rfl ?v82 ?hy82 ?rest82
    case hy82 => intro w_ hS_; subst hS_; first | (go_simp; done) | (go_simp; with_reducible rfl)
    simp only [Act.put, List.setIfInBounds_toArray, List.set_cons_zero, List.set_cons_succ]
    refine Pl.takeW rfl rfl ?v83 ?hy83 ?rest83
    case hy83 => intro w_ _; first | (go_simp; done) | (go_simp; with_reducible rfl)
    simp only [Act.put, List.setIfInBounds_toArray, List.set_cons_zero, List.set_cons_succ]
    refine Pl.takeW rfl rfl ?v84 ?hy84 ?rest84
    case hy84 => intro w_ _; first | (go_simp; done) | (go_simp; with_reducible rfl)
    simp only [Act.put, List.setIfInBounds_toArray, List.set_cons_zero, List.set_cons_succ]
    refine Pl.takeW rfl rfl ?v85 ?hy85 ?rest85
    case hy85 => intro w_ hS_; subst hS_; first | (go_simp; done) | (go_simp; with_reducible rfl)
    simp only [Act.put, List.setIfInBounds_toArray, List.set_cons_zero, List.set_cons_succ]
    refine Pl.takeW rfl rfl ?v86 ?hy86 ?rest86
    case hy86 => intro w_ _; first | (go_simp; done) | (go_simp; with_reducible rfl)
    simp only [Act.put, List.setIfInBounds_toArray, List.set_cons_zero, List.set_cons_succ]
    refine Pl.takeW rfl rfl ?v87 ?hy87 ?rest87
    case hy87 => intro w_ hS_; subst hS_; first | (go_simp; done) | (go_simp; with_reducible rfl)
    simp only [Act.put, List.setIfInBounds_toArray, List.set_cons_zero, List.set_cons_succ]
    refine Pl.takeW rfl rfl ?v88 ?hy88 ?rest88
    case hy88 => intro w_ _; first | (go_simp; done) | (go_simp; with_reducible rfl)
    simp only [Act.put, List.setIfInBounds_toArray, List.set_cons_zero, List.set_cons_succ]
    refine Pl.takeW rfl rfl ?v89 ?hy89 ?rest89
    case hy89 => intro w_ _; first | (go_simp; done) | (go_simp; with_reducible rfl)
    simp only [Act.put, List.setIfInBounds_toArray, List.set_cons_zero, List.set_cons_succ]
    refine Pl.takeW rfl rfl ?v90 ?hy90 ?rest90
    case hy90 => intro w_ hS_; subst hS_; first | (go_simp; done) | (go_simp; with_reducible rfl)
    simp only [Act.put, List.setIfInBounds_toArray, List.set_cons_zero, List.set_cons_succ]
    refine Pl.takeW rfl rfl ?v91 ?hy91 ?rest91
    case hy91 => intro w_ hS_; subst hS_; first | (go_simp; done) | (go_simp; with_reducible rfl)
    simp only [Act.put, List.setIfInBounds_toArray, List.set_cons_zero, List.set_cons_succ]
    refine Pl.takeW rfl rfl ?v92 ?hy92 ?rest92
    case hy92 => intro w_ _; first | (go_simp; done) | (go_simp; with_reducible rfl)
    simp only [Act.put, List.setIfInBounds_toArray, List.set_cons_zero, List.set_cons_succ]
    refine Pl.takeW rfl rfl ?v93 ?hy93 ?rest93
    case hy93 => intro w_ _; first | (go_simp; done) | (go_simp; with_reducible rfl)
    simp only [Act.put, List.setIfInBounds_toArray, List.set_cons_zero, List.set_cons_succ]
    refine Pl.takeW rfl rfl ?v94 ?hy94 ?rest94
    case hy94 => intro w_ _; first | (go_simp; done) | (go_simp; with_reducible rfl)
    simp only [Act.put, List.setIfInBounds_toArray, List.set_cons_zero, List.set_cons_succ]
    refine Pl.takeW rfl rfl ?v95 ?hy95 ?rest95
    case hy95 => intro w_ _; first | (go_simp; done) | (go_simp; with_reducible rfl)
    simp only [Act.put, List.setIfInBounds_toArray, List.set_cons_zero, List.set_cons_succ]
    show wpList _ _ _ _ _ _
    simp only [List.drop_succ_cons, List.drop_zero]
    go_wp2_with fail
    refine (P_beginC p b off c d st _ S2 _ F HF.out i _ _ _ r st' (X.drew HM.out) (HE.out.mono HK.out) HC.out hi hlen1 Hr'.out).mono ?_
    rintro e w1 ⟨rfl, S1, k1, hX1⟩
    go_wp2_with fail
    go_ret
    exact Ret.intro rfl (HK.out.trans k1) (X'.dropAtom hX1)
  · have hr := Hr.out
    rw [h, special_Define] at hr
    rw [h] at f5
    replace f5 : _ = some (Value.string ⟨#[100, 101, 102, 105, 110, 101]⟩) := f5
    have Hr' := hid hr
    have HL := run_lookup_none (z := .nilFunc) (key := Value.string ⟨#[100, 101, 102, 105, 110, 101]⟩) Try.underlying112 Try.underlying9 (X.mapHeap (X.drew HM.out)) trivial (by kernel_rfl) (by kernel_rfl)
    clear h hr
    refine wp_plan 19 (.take 0 (.take 1 (.take 2 (.take 3 (.take 4 (.take 5 (.take 6 (.take 7 (.take 8 (.take 9 (.take 10 (.take 11 (.take 12 (.take 13 (.take 14 (.take 15 (.take 16 (.take 17 (.take 18 .fin))))))))))))))))))) (fun w_ => w_ = _) (by kernel_rfl) (by kernel_rfl) (fun _ _ d_ _ _ h_ => by cases d_ <;> exact h_) rfl ?_
    refine Pl.takeW rfl rfl ?v96 ?hy96 ?rest96
    case hy96 => intro w_ _; first | (go_simp; done) | (go_simp; with_reducible rfl)
    simp only [Act.put, List.setIfInBounds_toArray, List.set_cons_zero, List.set_cons_succ]
    refine Pl.takeW rfl rfl ?v97 ?hy97 ?rest97
    case hy97 => intro w_ hS_; subst hS_; first | (go_simp; done) | (go_simp; with_reducible rfl)
    simp only [Act.put, List.setIfInBounds_toArray, List.set_cons_zero, List.set_cons_succ]
    refine Pl.takeW rfl rfl ?v98 ?hy98 ?rest98
    case hy98 => intro w_ _; first | (go_simp; done) | (go_simp; with_reducible rfl)
    simp only [Act.put, List.setIfInBounds_toArray, List.set_cons_zero, List.set_cons_succ]
    refine Pl.takeW rfl rfl ?v99 ?hy99 ?rest99
    case hy99 => intro w_ _; first | (go_simp; done) | (go_simp; with_reducible rfl)
    simp only [Act.put, List.setIfInBounds_toArray, List.set_cons_zero, List.set_cons_succ]
    refine Pl.takeW rfl rfl ?v100 ?hy100 ?rest100
    case hy100 => intro w_ hS_; subst hS_; first | (go_simp; done) | (go_simp; with_reducible rfl)
    simp only [Act.put, List.setIfInBounds_toArray, List.set_cons_zero, List.set_cons_succ]
    refine Pl.takeW rfl rfl ?v101 ?hy101 ?rest101
    case hy101 => intro w_ hS_; subst hS_; first | (go_simp; done) | (go_simp; with_reducible rfl)
    simp only [Act.put, List.setIfInBounds_toArray, List.set_cons_zero, List.set_cons_succ]
    refine Pl.takeW rfl rfl ?v102 ?hy102 ?rest102
    case hy102 => intro w_ _; first | (go_simp; done) | (go_simp; with_reducible rfl)
    simp only [Act.put, List.setIfInBounds_toArray, List.set_cons_zero, List.set_cons_succ]
    refine Pl.takeW rfl rfl ?v103 ?hy103 ?rest103
    case hy103 => intro w_ _; first | (go_simp; done) | (go_simp; with_reducible rfl)
    simp only [Act.put, List.setIfInBounds_toArray, List.set_cons_zero, List.set_cons_succ]
    refine Pl.takeW rfl rfl ?v104 ?hy104 ?rest104
    case hy104 => intro w_ hS_; subst hS_; first | (go_simp; done) | (go_simp; with_reducible rfl)
    simp only [Act.put, List.setIfInBounds_toArray, List.set_cons_zero, List.set_cons_succ]
    refine Pl.takeW rfl rfl ?v105 ?hy105 ?rest105
    case hy105 => intro w_ _; first | (go_simp; done) | (go_simp; with_reducible rfl)
    simp only [Act.put, List.setIfInBounds_toArray, List.set_cons_zero, List.set_cons_succ]
    refine Pl.takeW rfl rfl ?v106 ?hy106 ?rest106
    case hy106 => intro w_ hS_; subst hS_; first | (go_simp; done) | (go_simp; with_reducible rfl)
    simp only [Act.put, List.setIfInBounds_toArray, List.set_cons_zero, List.set_cons_succ]
    refine Pl.takeW rfl rfl ?v107 ?hy107 ?rest107
    case hy107 => intro w_ _; first | (go_simp; done) | (go_simp; with_reducible rfl)
    simp only [Act.put, List.setIfInBounds_toArray, List.set_cons_zero, List.set_cons_succ]
    refine Pl.takeW rfl rfl ?v108 ?hy108 ?rest108
    case hy108 => intro w_ _; first | (go_simp; done) | (go_simp; with_reducible rfl)
    simp only [Act.put, List.setIfInBounds_toArray, List.set_cons_zero, List.set_cons_succ]
    refine Pl.takeW rfl rfl ?v109 ?hy109 ?rest109
    case hy109 => intro w_ hS_; subst hS_; first | (go_simp; done) | (go_simp; with_reducible rfl)
    simp only [Act.put, List.setIfInBounds_toArray, List.set_cons_zero, List.set_cons_succ]
    refine Pl.takeW rfl rfl ?v110 ?hy110 ?rest110
    case hy110 => intro w_ hS_; subst hS_; first | (go_simp; done) | (go_simp; with_reducible rfl)
    simp only [Act.put, List.setIfInBounds_toArray, List.set_cons_zero, List.set_cons_succ]
    refine Pl.takeW rfl rfl ?v111 ?hy111 ?rest111
    case hy111 => intro w_ _; first | (go_simp; done) | (go_simp; with_reducible rfl)
    simp only [Act.put, List.setIfInBounds_toArray, List.set_cons_zero, List.set_cons_succ]
    refine Pl.takeW rfl rfl ?v112 ?hy112 ?rest112
    case hy112 => intro w_ _; first | (go_simp; done) | (go_simp; with_reducible rfl)
    simp only [Act.put, List.setIfInBounds_toArray, List.set_cons_zero, List.set_cons_succ]
    refine Pl.takeW rfl rfl ?v113 ?hy113 ?rest113
    case hy113 => intro w_ _; first | (go_simp; done) | (go_simp; with_reducible rfl)
    simp only [Act.put, List.setIfInBounds_toArray, List.set_cons_zero, List.set_cons_succ]
    refine Pl.takeW rfl rfl ?v114 ?hy114 ?rest114
    case hy114 => intro w_ _; first | (go_simp; done) | (go_simp; with_reducible rfl)
    simp only [Act.put, List.setIfInBounds_toArray, List.set_cons_zero, List.set_cons_succ]
    show wpList _ _ _ _ _ _
    simp only [List.drop_succ_cons, List.drop_zero]
    go_wp2_with fail
    refine (P_wrongR p b off c d st _ S2 _ i r st' (X.drew HM.out) (HE.out.mono HK.out) hi Hr'.out).mono ?_
    rintro e w1 ⟨rfl, S1, k1, hX1⟩
    go_wp2_with fail
    go_ret
    exact Ret.intro rfl (HK.out.trans k1) (X'.dropAtom hX1)
  · have hr := Hr.out
    rw [h, special_Let] at hr
    rw [h] at f5
    replace f5 : _ = some (Value.string ⟨#[108, 101, 116]⟩) := f5
    have Hr' := hid hr
    have HL := run_lookup_ok (v := .func (.func 85) #[] #[ptr w.heap.size, ptr (w.heap.size + 1)]) (i := 8) (key := Value.string ⟨#[108, 101, 116]⟩) Try.underlying112 Try.underlying9 (X.mapHeap (X.drew HM.out)) trivial (by kernel_rfl)
    clear h hr
    refine wp_plan 19 (.take 0 (.take 1 (.take 2 (.take 3 (.take 4 (.take 5 (.take 6 (.take 7 (.take 8 (.take 9 (.take 10 (.take 11 (.take 12 (.take 13 (.take 14 (.take 15 (.take 16 (.take 17 (.take 18 .fin))))))))))))))))))) (fun w_ => w_ = _) (by kernel_rfl) (by kernel_rfl) (fun _ _ d_ _ _ h_ => by cases d_ <;> exact h_) rfl ?_
    refine Pl.takeW rfl rfl ?v115 ?hy115 ?rest115
    case hy115 => intro w_ _; first | (go_simp; done) | (go_simp; with_reducible rfl)
    simp only [Act.put, List.setIfInBounds_toArray, List.set_cons_zero, List.set_cons_succ]
    refine Pl.takeW rfl rfl ?v116 ?hy116 ?rest116
    case hy116 => intro w_ hS_; subst hS_; first | (go_simp; done) | (go_simp; with_reducible rfl)
    simp only [Act.put, List.setIfInBounds_toArray, List.set_cons_zero, List.set_cons_succ]
    refine Pl.takeW rfl rfl ?v117 ?hy117 ?rest117
    case hy117 => intro w_ _; first | (go_simp; done) | (go_simp; with_reducible rfl)
    simp only [Act.put, List.setIfInBounds_toArray, List.set_cons_zero, List.set_cons_succ]
    refine Pl.takeW rfl rfl ?v118 ?hy118 ?rest118
    case hy118 => intro w_ _; first | (go_simp; done) | (go_simp; with_reducible rfl)
    simp only [Act.put, List.setIfInBounds_toArray, List.set_cons_zero, List.set_cons_succ]
    refine Pl.takeW rfl rfl ?v119 ?hy119 ?rest119
    case hy119 => intro w_ hS_; subst hS_; first | (go_simp; done) | (go_simp; with_reducible rfl)
    simp only [Act.put, List.setIfInBounds_toArray, List.set_cons_zero, List.set_cons_succ]
    refine Pl.takeW rfl rfl ?v120 ?hy120 ?rest120
    case hy120 => intro w_ hS_; subst hS_; first | (go_simp; done) | (go_simp; with_reducible rfl)
    simp only [Act.put, List.setIfInBounds_toArray, List.set_cons_zero, List.set_cons_succ]
    refine Pl.takeW rfl rfl ?v121 ?hy121 ?rest121
    case hy121 => intro w_ _; first | (go_simp; done) | (go_simp; with_reducible rfl)
    simp only [Act.put, List.setIfInBounds_toArray, List.set_cons_zero, List.set_cons_succ]
    refine Pl.takeW rfl rfl ?v122 ?hy122 ?rest122
    case hy122 => intro w_ _; first | (go_simp; done) | (go_simp; with_reducible rfl)
    simp only [Act.put, List.setIfInBounds_toArray, List.set_cons_zero, List.set_cons_succ]
    refine Pl.takeW rfl rfl ?v123 ?hy123 ?rest123
    case hy123 => intro w_ hS_; subst hS_; first | (go_simp; done) | (go_simp; with_reducible rfl)
    simp only [Act.put, List.setIfInBounds_toArray, List.set_cons_zero, List.set_cons_succ]
    refine Pl.takeW rfl rfl ?v124 ?hy124 ?rest124
    case hy124 => intro w_ _; first | (go_simp; done) | (go_simp; with_reducible rfl)
    simp only [Act.put, List.setIfInBounds_toArray, List.set_cons_zero, List.set_cons_succ]
    refine Pl.takeW rfl rfl ?v125 ?hy125 ?rest125
    case hy125 => intro w_ hS_; subst hS_; first | (go_simp; done) | (go_simp; with_reducible rfl)
    simp only [Act.put, List.setIfInBounds_toArray, List.set_cons_zero, List.set_cons_succ]
    refine Pl.takeW rfl rfl ?v126 ?hy126 ?rest126
    case hy126 => intro w_ _; first | (go_simp; done) | (go_simp; with_reducible rfl)
    simp only [Act.put, List.setIfInBounds_toArray, List.set_cons_zero, List.set_cons_succ]
    refine Pl.takeW rfl rfl ?v127 ?hy127 ?rest127
    case hy127 => intro w_ _; first | (go_simp; done) | (go_simp; with_reducible rfl)
    simp only [Act.put, List.setIfInBounds_toArray, List.set_cons_zero, List.set_cons_succ]
    refine Pl.takeW rfl rfl ?v128 ?hy128 ?rest128
    case hy128 => intro w_ hS_; subst hS_; first | (go_simp; done) | (go_simp; with_reducible rfl)
    simp only [Act.put, List.setIfInBounds_toArray, List.set_cons_zero, List.set_cons_succ]
    refine Pl.takeW rfl rfl ?v129 ?hy129 ?rest129
    case hy129 => intro w_ hS_; subst hS_; first | (go_simp; done) | (go_simp; with_reducible rfl)
    simp only [Act.put, List.setIfInBounds_toArray, List.set_cons_zero, List.set_cons_succ]
    refine Pl.takeW rfl rfl ?v130 ?hy130 ?rest130
    case hy130 => intro w_ _; first | (go_simp; done) | (go_simp; with_reducible rfl)
    simp only [Act.put, List.setIfInBounds_toArray, List.set_cons_zero, List.set_cons_succ]
    refine Pl.takeW rfl rfl ?v131 ?hy131 ?rest131
    case hy131 => intro w_ _; first | (go_simp; done) | (go_simp; with_reducible rfl)
    simp only [Act.put, List.setIfInBounds_toArray, List.set_cons_zero, List.set_cons_succ]
    refine Pl.takeW rfl rfl ?v132 ?hy132 ?rest132
    case hy132 => intro w_ _; first | (go_simp; done) | (go_simp; with_reducible rfl)
    simp only [Act.put, List.setIfInBounds_toArray, List.set_cons_zero, List.set_cons_succ]
    refine Pl.takeW rfl rfl ?v133 ?hy133 ?rest133
    case hy133 => intro w_ _; first | (go_simp; done) | (go_simp; with_reducible rfl)
    simp only [Act.put, List.setIfInBounds_toArray, List.set_cons_zero, List.set_cons_succ]
    show wpList _ _ _ _ _ _
    simp only [List.drop_succ_cons, List.drop_zero]
    go_wp2_with fail
    refine (P_letC p b off c d st _ S2 _ F HF.out i _ _ _ r st' (X.drew HM.out) (HE.out.mono HK.out) HC.out hi Hr'.out).mono ?_
    rintro e w1 ⟨rfl, S1, k1, hX1⟩
    go_wp2_with fail
    go_ret
    exact Ret.intro rfl (HK.out.trans k1) (X'.dropAtom hX1)
  · have hr := Hr.out
    rw [h, special_Lets] at hr
    rw [h] at f5
    replace f5 : _ = some (Value.string ⟨#[108, 101, 116, 42]⟩) := f5
    have Hr' := hid hr
    have HL := run_lookup_ok (v := .func (.func 87) #[] #[ptr w.heap.size, ptr (w.heap.size + 1)]) (i := 9) (key := Value.string ⟨#[108, 101, 116, 42]⟩) Try.underlying112 Try.underlying9 (X.mapHeap (X.drew HM.out)) trivial (by kernel_rfl)
    clear h hr
    refine wp_plan 19 (.take 0 (.take 1 (.take 2 (.take 3 (.take 4 (.take 5 (.take 6 (.take 7 (.take 8 (.take 9 (.take 10 (.take 11 (.take 12 (.take 13 (.take 14 (.take 15 (.take 16 (.take 17 (.take 18 .fin))))))))))))))))))) (fun w_ => w_ = _) (by kernel_rfl) (by kernel_rfl) (fun _ _ d_ _ _ h_ => by cases d_ <;> exact h_) rfl ?_
    refine Pl.takeW rfl rfl ?v134 ?hy134 ?rest134
    case hy134 => intro w_ _; first | (go_simp; done) | (go_simp; with_reducible rfl)
    simp only [Act.put, List.setIfInBounds_toArray, List.set_cons_zero, List.set_cons_succ]
    refine Pl.takeW rfl rfl ?v135 ?hy135 ?rest135
    case hy135 => intro w_ hS_; subst hS_; first | (go_simp; done) | (go_simp; with_reducible rfl)
    simp only [Act.put, List.setIfInBounds_toArray, List.set_cons_zero, List.set_cons_succ]
    refine Pl.takeW rfl rfl ?v136 ?hy136 ?rest136
    case hy136 => intro w_ _; first | (go_simp; done) | (go_simp; with_reducible rfl)
    simp only [Act.put, List.setIfInBounds_toArray, List.set_cons_zero, List.set_cons_succ]
    refine Pl.takeW rfl rfl ?v137 ?hy137 ?rest137
    case hy137 => intro w_ _; first | (go_simp; done) | (go_simp; with_reducible rfl)
    simp only [Act.put, List.setIfInBounds_toArray, List.set_cons_zero, List.set_cons_succ]
    refine Pl.takeW rfl rfl ?v138 ?hy138 ?rest138
    case hy138 => intro w_ hS_; subst hS_; first | (go_simp; done) | (go_simp; with_reducible rfl)
    simp only [Act.put, List.setIfInBounds_toArray, List.set_cons_zero, List.set_cons_succ]
    refine Pl.takeW rfl rfl ?v139 ?hy139 ?rest139
    case hy139 => intro w_ hS_; subst hS_; first | (go_simp; done) | (go_simp; with_reducible rfl)
    simp only [Act.put, List.setIfInBounds_toArray, List.set_cons_zero, List.set_cons_succ]
    refine Pl.takeW rfl rfl ?v140 ?hy140 ?rest140
    case hy140 => intro w_ _; first | (go_simp; done) | (go_simp; with_reducible rfl)
    simp only [Act.put, List.setIfInBounds_toArray, List.set_cons_zero, List.set_cons_succ]
    refine Pl.takeW rfl rfl ?v141 ?hy141 ?rest141
    case hy141 => intro w_ _; first | (go_simp; done) | (go_simp; with_reducible rfl)
    simp only [Act.put, List.setIfInBounds_toArray, List.set_cons_zero, List.set_cons_succ]
    refine Pl.takeW rfl rfl ?v142 ?hy142 ?rest142
    case hy142 => intro w_ hS_; subst hS_; first | (go_simp; done) | (go_simp; with_reducible rfl)
    simp only [Act.put, List.setIfInBounds_toArray, List.set_cons_zero, List.set_cons_succ]
    refine Pl.takeW rfl rfl ?v143 ?hy143 ?rest143
    case hy143 => intro w_ _; first | (go_simp; done) | (go_simp; with_reducible rfl)
    simp only [Act.put, List.setIfInBounds_toArray, List.set_cons_zero, List.set_cons_succ]
    refine Pl.takeW rfl rfl ?v144 ?hy144 ?rest144
    case hy144 => intro w_ hS_; subst hS_; first | (go_simp; done) | (go_simp; with_reducible rfl)
    simp only [Act.put, List.setIfInBounds_toArray, List.set_cons_zero, List.set_cons_succ]
    refine Pl.takeW rfl rfl ?v145 ?hy145 ?rest145
    case hy145 => intro w_ _; first | (go_simp; done) | (go_simp; with_reducible rfl)
    simp only [Act.put, List.setIfInBounds_toArray, List.set_cons_zero, List.set_cons_succ]
    refine Pl.takeW rfl rfl ?v146 ?hy146 ?rest146
    case hy146 => intro w_ _; first | (go_simp; done) | (go_simp; with_reducible rfl)
    simp only [Act.put, List.setIfInBounds_toArray, List.set_cons_zero, List.set_cons_succ]
    refine Pl.takeW rfl rfl ?v147 ?hy147 ?rest147
    case hy147 => intro w_ hS_; subst hS_; first | (go_simp; done) | (go_simp; with_reducible rfl)
    simp only [Act.put, List.setIfInBounds_toArray, List.set_cons_zero, List.set_cons_succ]
    refine Pl.takeW rfl rfl ?v148 ?hy148 ?rest148
    case hy148 => intro w_ hS_; subst hS_; first | (go_simp; done) | (go_simp; with_reducible rfl)
    simp only [Act.put, List.setIfInBounds_toArray, List.set_cons_zero, List.set_cons_succ]
    refine Pl.takeW rfl rfl ?v149 ?hy149 ?rest149
    case hy149 => intro w_ _; first | (go_simp; done) | (go_simp; with_reducible rfl)
    simp only [Act.put, List.setIfInBounds_toArray, List.set_cons_zero, List.set_cons_succ]
    refine Pl.takeW rfl rfl ?v150 ?hy150 ?rest150
    case hy150 => intro w_ _; first | (go_simp; done) | (go_simp; with_reducible rfl)
    simp only [Act.put, List.setIfInBounds_toArray, List.set_cons_zero, List.set_cons_succ]
    refine Pl.takeW rfl rfl ?v151 ?hy151 ?rest151
    case hy151 => intro w_ _; first | (go_simp; done) | (go_simp; with_reducible rfl)
    simp only [Act.put, List.setIfInBounds_toArray, List.set_cons_zero, List.set_cons_succ]
    refine Pl.takeW rfl rfl ?v152 ?hy152 ?rest152
    case hy152 => intro w_ _; first | (go_simp; done) | (go_simp; with_reducible rfl)
    simp only [Act.put, List.setIfInBounds_toArray, List.set_cons_zero, List.set_cons_succ]
    show wpList _ _ _ _ _ _
    simp only [List.drop_succ_cons, List.drop_zero]
    go_wp2_with fail
    refine (P_letsC p b off c d st _ S2 _ F HF.out i _ _ _ r st' (X.drew HM.out) (HE.out.mono HK.out) HC.out hi Hr'.out).mono ?_
    rintro e w1 ⟨rfl, S1, k1, hX1⟩
    go_wp2_with fail
    go_ret
    exact Ret.intro rfl (HK.out.trans k1) (X'.dropAtom hX1)
  · have hr := Hr.out
    rw [h, special_Cond] at hr
    rw [h] at f5
    replace f5 : _ = some (Value.string ⟨#[99, 111, 110, 100]⟩) := f5
    have Hr' := hid hr
    have HL := run_lookup_ok (v := .func (.func 81) #[] #[ptr (w.heap.size + 1 + 1), ptr w.heap.size, ptr (w.heap.size + 1)]) (i := 6) (key := Value.string ⟨#[99, 111, 110, 100]⟩) Try.underlying112 Try.underlying9 (X.mapHeap (X.drew HM.out)) trivial (by kernel_rfl)
    clear h hr
    refine wp_plan 19 (.take 0 (.take 1 (.take 2 (.take 3 (.take 4 (.take 5 (.take 6 (.take 7 (.take 8 (.take 9 (.take 10 (.take 11 (.take 12 (.take 13 (.take 14 (.take 15 (.take 16 (.take 17 (.take 18 .fin))))))))))))))))))) (fun w_ => w_ = _) (by kernel_rfl) (by kernel_rfl) (fun _ _ d_ _ _ h_ => by cases d_ <;> exact h_) rfl ?_
    refine Pl.takeW rfl rfl ?v153 ?hy153 ?rest153
    case hy153 => intro w_ _; first | (go_simp; done) | (go_simp; with_reducible rfl)
    simp only [Act.put, List.setIfInBounds_toArray, List.set_cons_zero, List.set_cons_succ]
    refine Pl.takeW rfl rfl ?v154 ?hy154 ?rest154
    case hy154 => intro w_ hS_; subst hS_; first | (go_simp; done) | (go_simp; with_reducible rfl)
    simp only [Act.put, List.setIfInBounds_toArray, List.set_cons_zero, List.set_cons_succ]
    refine Pl.takeW rfl rfl ?v155 ?hy155 ?rest155
    case hy155 => intro w_ _; first | (go_simp; done) | (go_simp; with_reducible rfl)
    simp only [Act.put, List.setIfInBounds_toArray, List.set_cons_zero, List.set_cons_succ]
    refine Pl.takeW rfl rfl ?v156 ?hy156 ?rest156
    case hy156 => intro w_ _; first | (go_simp; done) | (go_simp; with_reducible rfl)
    simp only [Act.put, List.setIfInBounds_toArray, List.set_cons_zero, List.set_cons_succ]
    refine Pl.takeW rfl rfl ?v157 ?hy157 ?rest157
    case hy157 => intro w_ hS_; subst hS_; first | (go_simp; done) | (go_simp; with_reducible rfl)
    simp only [Act.put, List.setIfInBounds_toArray, List.set_cons_zero, List.set_cons_succ]
    refine Pl.takeW rfl rfl ?v158 ?hy158 ?rest158
    case hy158 => intro w_ hS_; subst hS_; first | (go_simp; done) | (go_simp; with_reducible rfl)
    simp only [Act.put, List.setIfInBounds_toArray, List.set_cons_zero, List.set_cons_succ]
    refine Pl.takeW rfl rfl ?v159 ?hy159 ?rest159
    case hy159 => intro w_ _; first | (go_simp; done) | (go_simp; with_reducible rfl)
    simp only [Act.put, List.setIfInBounds_toArray, List.set_cons_zero, List.set_cons_succ]
    refine Pl.takeW rfl rfl ?v160 ?hy160 ?rest160
    case hy160 => intro w_ _; first | (go_simp; done) | (go_simp; with_reducible rfl)
    simp only [Act.put, List.setIfInBounds_toArray, List.set_cons_zero, List.set_cons_succ]
    refine Pl.takeW rfl rfl ?v161 ?hy161 ?rest161
    case hy161 => intro w_ hS_; subst hS_; first | (go_simp; done) | (go_simp; with_reducible rfl)
    simp only [Act.put, List.setIfInBounds_toArray, List.set_cons_zero, List.set_cons_succ]
    refine Pl.takeW rfl rfl ?v162 ?hy162 ?rest162
    case hy162 => intro w_ _; first | (go_simp; done) | (go_simp; with_reducible rfl)
    simp only [Act.put, List.setIfInBounds_toArray, List.set_cons_zero, List.set_cons_succ]
    refine Pl.takeW rfl rfl ?v163 ?hy163 ?rest163
    case hy163 => intro w_ hS_; subst hS_; first | (go_simp; done) | (go_simp; with_reducible rfl)
    simp only [Act.put, List.setIfInBounds_toArray, List.set_cons_zero, List.set_cons_succ]
    refine Pl.takeW rfl rfl ?v164 ?hy164 ?rest164
    case hy164 => intro w_ _; first | (go_simp; done) | (go_simp; with_reducible rfl)
    simp only [Act.put, List.setIfInBounds_toArray, List.set_cons_zero, List.set_cons_succ]
    refine Pl.takeW rfl rfl ?v165 ?hy165 ?rest165
    case hy165 => intro w_ _; first | (go_simp; done) | (go_simp; with_reducible rfl)
    simp only [Act.put, List.setIfInBounds_toArray, List.set_cons_zero, List.set_cons_succ]
    refine Pl.takeW rfl rfl ?v166 ?hy166 ?rest166
    case hy166 => intro w_ hS_; subst hS_; first | (go_simp; done) | (go_simp; with_reducible rfl)
    simp only [Act.put, List.setIfInBounds_toArray, List.set_cons_zero, List.set_cons_succ]
    refine Pl.takeW rfl rfl ?v167 ?hy167 ?rest167
    case hy167 => intro w_ hS_; subst hS_; first | (go_simp; done) | (go_simp; with_reducible rfl)
    simp only [Act.put, List.setIfInBounds_toArray, List.set_cons_zero, List.set_cons_succ]
    refine Pl.takeW rfl rfl ?v168 ?hy168 ?rest168
    case hy168 => intro w_ _; first | (go_simp; done) | (go_simp; with_reducible rfl)
    simp only [Act.put, List.setIfInBounds_toArray, List.set_cons_zero, List.set_cons_succ]
    refine Pl.takeW rfl rfl ?v169 ?hy169 ?rest169
    case hy169 => intro w_ _; first | (go_simp; done) | (go_simp; with_reducible rfl)
    simp only [Act.put, List.setIfInBounds_toArray, List.set_cons_zero, List.set_cons_succ]
    refine Pl.takeW rfl rfl ?v170 ?hy170 ?rest170
    case hy170 => intro w_ _; first | (go_simp; done) | (go_simp; with_reducible rfl)
    simp only [Act.put, List.setIfInBounds_toArray, List.set_cons_zero, List.set_cons_succ]
    refine Pl.takeW rfl rfl ?v171 ?hy171 ?rest171
    case hy171 => intro w_ _; first | (go_simp; done) | (go_simp; with_reducible rfl)
    simp only [Act.put, List.setIfInBounds_toArray, List.set_cons_zero, List.set_cons_succ]
    show wpList _ _ _ _ _ _
    simp only [List.drop_succ_cons, List.drop_zero]
    go_wp2_with fail
    refine (P_condsC p b off c d st _ S2 _ F HF.out i _ _ _ r st' (X.drew HM.out) (HE.out.mono HK.out) HC.out hi hlen1 Hr'.out).mono ?_
    rintro e w1 ⟨rfl, S1, k1, hX1⟩
    go_wp2_with fail
    go_ret
    exact Ret.intro rfl (HK.out.trans k1) (X'.dropAtom hX1)
  · have hr := Hr.out
    rw [h, special_Else] at hr
    rw [h] at f5
    replace f5 : _ = some (Value.string ⟨#[101, 108, 115, 101]⟩) := f5
    have Hr' := hid hr
    have HL := run_lookup_none (z := .nilFunc) (key := Value.string ⟨#[101, 108, 115, 101]⟩) Try.underlying112 Try.underlying9 (X.mapHeap (X.drew HM.out)) trivial (by kernel_rfl) (by kernel_rfl)
    clear h hr
    refine wp_plan 19 (.take 0 (.take 1 (.take 2 (.take 3 (.take 4 (.take 5 (.take 6 (.take 7 (.take 8 (.take 9 (.take 10 (.take 11 (.take 12 (.take 13 (.take 14 (.take 15 (.take 16 (.take 17 (.take 18 .fin))))))))))))))))))) (fun w_ => w_ = _) (by kernel_rfl) (by kernel_rfl) (fun _ _ d_ _ _ h_ => by cases d_ <;> exact h_) rfl ?_
    refine Pl.takeW rfl rfl ?v172 ?hy172 ?rest172
    case hy172 => intro w_ _; first | (go_simp; done) | (go_simp; with_reducible rfl)
    simp only [Act.put, List.setIfInBounds_toArray, List.set_cons_zero, List.set_cons_succ]
    refine Pl.takeW rfl rfl ?v173 ?hy173 ?rest173
    case hy173 => intro w_ hS_; subst hS_; first | (go_simp; done) | (go_simp; with_reducible rfl)
    simp only [Act.put, List.setIfInBounds_toArray, List.set_cons_zero, List.set_cons_succ]
    refine Pl.takeW rfl rfl ?v174 ?hy174 ?rest174
    case hy174 => intro w_ _; first | (go_simp; done) | (go_simp; with_reducible rfl)
    simp only [Act.put, List.setIfInBounds_toArray, List.set_cons_zero, List.set_cons_succ]
    refine Pl.takeW rfl rfl ?v175 ?hy175 ?rest175
    case hy175 => intro w_ _; first | (go_simp; done) | (go_simp; with_reducible rfl)
    simp only [Act.put, List.setIfInBounds_toArray, List.set_cons_zero, List.set_cons_succ]
    refine Pl.takeW rfl rfl ?v176 ?hy176 ?rest176
    case hy176 => intro w_ hS_; subst hS_; first | (go_simp; done) | (go_simp; with_reducible rfl)
    simp only [Act.put, List.setIfInBounds_toArray, List.set_cons_zero, List.set_cons_succ]
    refine Pl.takeW rfl rfl ?v177 ?hy177 ?rest177
    case hy177 => intro w_ hS_; subst hS_; first | (go_simp; done) | (go_simp; with_reducible rfl)
    simp only [Act.put, List.setIfInBounds_toArray, List.set_cons_zero, List.set_cons_succ]
    refine Pl.takeW rfl rfl ?v178 ?hy178 ?rest178
    case hy178 => intro w_ _; first | (go_simp; done) | (go_simp; with_reducible rfl)
    simp only [Act.put, List.setIfInBounds_toArray, List.set_cons_zero, List.set_cons_succ]
    refine Pl.takeW rfl rfl ?v179 ?hy179 ?rest179
    case hy179 => intro w_ _; first | (go_simp; done) | (go_simp; with_reducible rfl)
    simp only [Act.put, List.setIfInBounds_toArray, List.set_cons_zero, List.set_cons_succ]
    refine Pl.takeW rfl rfl ?v180 ?hy180 ?rest180
    case hy180 => intro w_ hS_; subst hS_; first | (go_simp; done) | (go_simp; with_reducible rfl)
    simp only [Act.put, List.setIfInBounds_toArray, List.set_cons_zero, List.set_cons_succ]
    refine Pl.takeW rfl rfl ?v181 ?hy181 ?rest181
    case hy181 => intro w_ _; first | (go_simp; done) | (go_simp; with_reducible rfl)
    simp only [Act.put, List.setIfInBounds_toArray, List.set_cons_zero, List.set_cons_succ]
    refine Pl.takeW rfl rfl ?v182 ?hy182 ?rest182
    case hy182 => intro w_ hS_; subst hS_; first | (go_simp; done) | (go_simp; with_reducible rfl)
    simp only [Act.put, List.setIfInBounds_toArray, List.set_cons_zero, List.set_cons_succ]
    refine Pl.takeW rfl rfl ?v183 ?hy183 ?rest183
    case hy183 => intro w_ _; first | (go_simp; done) | (go_simp; with_reducible rfl)
    simp only [Act.put, List.setIfInBounds_toArray, List.set_cons_zero, List.set_cons_succ]
    refine Pl.takeW rfl rfl ?v184 ?hy184 ?rest184
    case hy184 => intro w_ _; first | (go_simp; done) | (go_simp; with_reducible rfl)
    simp only [Act.put, List.setIfInBounds_toArray, List.set_cons_zero, List.set_cons_succ]
    refine Pl.takeW rfl rfl ?v185 ?hy185 ?rest185
    case hy185 => intro w_ hS_; subst hS_; first | (go_simp; done) | (go_simp; with_reducible rfl)
    simp only [Act.put, List.setIfInBounds_toArray, List.set_cons_zero, List.set_cons_succ]
    refine Pl.takeW rfl rfl ?v186 ?hy186 ?rest186
    case hy186 => intro w_ hS_; subst hS_; first | (go_simp; done) | (go_simp; with_reducible rfl)
    simp only [Act.put, List.setIfInBounds_toArray, List.set_cons_zero, List.set_cons_succ]
    refine Pl.takeW rfl rfl ?v187 ?hy187 ?rest187
    case hy187 => intro w_ _; first | (go_simp; done) | (go_simp; with_reducible rfl)
    simp only [Act.put, List.setIfInBounds_toArray, List.set_cons_zero, List.set_cons_succ]
    refine Pl.takeW rfl rfl ?v188 ?hy188 ?rest188
    case hy188 => intro w_ _; first | (go_simp; done) | (go_simp; with_reducible rfl)
    simp only [Act.put, List.setIfInBounds_toArray, List.set_cons_zero, List.set_cons_succ]
    refine Pl.takeW rfl rfl ?v189 ?hy189 ?rest189
    case hy189 => intro w_ _; first | (go_simp; done) | (go_simp; with_reducible rfl)
    simp only [Act.put, List.setIfInBounds_toArray, List.set_cons_zero, List.set_cons_succ]
    refine Pl.takeW rfl rfl ?v190 ?hy190 ?rest190
    case hy190 => intro w_ _; first | (go_simp; done) | (go_simp; with_reducible rfl)
    simp only [Act.put, List.setIfInBounds_toArray, List.set_cons_zero, List.set_cons_succ]
    show wpList _ _ _ _ _ _
    simp only [List.drop_succ_cons, List.drop_zero]
    go_wp2_with fail
    refine (P_wrongR p b off c d st _ S2 _ i r st' (X.drew HM.out) (HE.out.mono HK.out) hi Hr'.out).mono ?_
    rintro e w1 ⟨rfl, S1, k1, hX1⟩
    go_wp2_with fail
    go_ret
    exact Ret.intro rfl (HK.out.trans k1) (X'.dropAtom hX1)
  · have hr := Hr.out
    rw [h, special_And] at hr
    rw [h] at f5
    replace f5 : _ = some (Value.string ⟨#[97, 110, 100]⟩) := f5
    have Hr' := hid hr
    have HL := run_lookup_ok (v := .func (.func 89) #[] #[ptr w.heap.size, ptr (w.heap.size + 1)]) (i := 10) (key := Value.string ⟨#[97, 110, 100]⟩) Try.underlying112 Try.underlying9 (X.mapHeap (X.drew HM.out)) trivial (by kernel_rfl)
    clear h hr
    refine wp_plan 19 (.take 0 (.take 1 (.take 2 (.take 3 (.take 4 (.take 5 (.take 6 (.take 7 (.take 8 (.take 9 (.take 10 (.take 11 (.take 12 (.take 13 (.take 14 (.take 15 (.take 16 (.take 17 (.take 18 .fin))))))))))))))))))) (fun w_ => w_ = _) (by kernel_rfl) (by kernel_rfl) (fun _ _ d_ _ _ h_ => by cases d_ <;> exact h_) rfl ?_
    refine Pl.takeW rfl rfl ?v191 ?hy191 ?rest191
    case hy191 => intro w_ _; first | (go_simp; done) | (go_simp; with_reducible rfl)
    simp only [Act.put, List.setIfInBounds_toArray, List.set_cons_zero, List.set_cons_succ]
    refine Pl.takeW rfl rfl ?v192 ?hy192 ?rest192
    case hy192 => intro w_ hS_; subst hS_; first | (go_simp; done) | (go_simp; with_reducible rfl)
    simp only [Act.put, List.setIfInBounds_toArray, List.set_cons_zero, List.set_cons_succ]
    refine Pl.takeW rfl rfl ?v193 ?hy193 ?rest193
    case hy193 => intro w_ _; first | (go_simp; done) | (go_simp; with_reducible rfl)
    simp only [Act.put, List.setIfInBounds_toArray, List.set_cons_zero, List.set_cons_succ]
    refine Pl.takeW rfl rfl ?v194 ?hy194 ?rest194
    case hy194 => intro w_ _; first | (go_simp; done) | (go_simp; with_reducible rfl)
    simp only [Act.put, List.setIfInBounds_toArray, List.set_cons_zero, List.set_cons_succ]
    refine Pl.takeW rfl rfl ?v195 ?hy195 ?rest195
    case hy195 => intro w_ hS_; subst hS_; first | (go_simp; done) | (go_simp; with_reducible rfl)
    simp only [Act.put, List.setIfInBounds_toArray, List.set_cons_zero, List.set_cons_succ]
    refine Pl.takeW rfl rfl ?v196 ?hy196 ?rest196
    case hy196 => intro w_ hS_; subst hS_; first | (go_simp; done) | (go_simp; with_reducible rfl)
    simp only [Act.put, List.setIfInBounds_toArray, List.set_cons_zero, List.set_cons_succ]
    refine Pl.takeW rfl rfl ?v197 ?hy197 ?rest197
    case hy197 => intro w_ _; first | (go_simp; done) | (go_simp; with_reducible rfl)
    simp only [Act.put, List.setIfInBounds_toArray, List.set_cons_zero, List.set_cons_succ]
    refine Pl.takeW rfl rfl ?v198 ?hy198 ?rest198
    case hy198 => intro w_ _; first | (go_simp; done) | (go_simp; with_reducible rfl)
    simp only [Act.put, List.setIfInBounds_toArray, List.set_cons_zero, List.set_cons_succ]
    refine Pl.takeW rfl rfl ?v199 ?hy199 ?rest199
    case hy199 => intro w_ hS_; subst hS_; first | (go_simp; done) | (go_simp; with_reducible rfl)
    simp only [Act.put, List.setIfInBounds_toArray, List.set_cons_zero, List.set_cons_succ]
    refine Pl.takeW rfl rfl ?v200 ?hy200 ?rest200
    case hy200 => intro w_ _; first | (go_simp; done) | (go_simp; with_reducible rfl)
    simp only [Act.put, List.setIfInBounds_toArray, List.set_cons_zero, List.set_cons_succ]
    refine Pl.takeW rfl rfl ?v201 ?hy201 ?rest201
    case hy201 => intro w_ hS_; subst hS_; first | (go_simp; done) | (go_simp; with_reducible rfl)
    simp only [Act.put, List.setIfInBounds_toArray, List.set_cons_zero, List.set_cons_succ]
    refine Pl.takeW rfl rfl ?v202 ?hy202 ?rest202
    case hy202 => intro w_ _; first | (go_simp; done) | (go_simp; with_reducible rfl)
    simp only [Act.put, List.setIfInBounds_toArray, List.set_cons_zero, List.set_cons_succ]
    refine Pl.takeW rfl rfl ?v203 ?hy203 ?rest203
    case hy203 => intro w_ _; first | (go_simp; done) | (go_simp; with_reducible rfl)
    simp only [Act.put, List.setIfInBounds_toArray, List.set_cons_zero, List.set_cons_succ]
    refine Pl.takeW rfl rfl ?v204 ?hy204 ?rest204
    case hy204 => intro w_ hS_; subst hS_; first | (go_simp; done) | (go_simp; with_reducible rfl)
    simp only [Act.put, List.setIfInBounds_toArray, List.set_cons_zero, List.set_cons_succ]
    refine Pl.takeW rfl rfl ?v205 ?hy205 ?rest205
    case hy205 => intro w_ hS_; subst hS_; first | (go_simp; done) | (go_simp; with_reducible rfl)
    simp only [Act.put, List.setIfInBounds_toArray, List.set_cons_zero, List.set_cons_succ]
    refine Pl.takeW rfl rfl ?v206 ?hy206 ?rest206
    case hy206 => intro w_ _; first | (go_simp; done) | (go_simp; with_reducible rfl)
    simp only [Act.put, List.setIfInBounds_toArray, List.set_cons_zero, List.set_cons_succ]
    refine Pl.takeW rfl rfl ?v207 ?hy207 ?rest207
    case hy207 => intro w_ _; first | (go_simp; done) | (go_simp; with_reducible rfl)
    simp only [Act.put, List.setIfInBounds_toArray, List.set_cons_zero, List.set_cons_succ]
    refine Pl.takeW rfl rfl ?v208 ?hy208 ?rest208
    case hy208 => intro w_ _; first | (go_simp; done) | (go_simp; with_reducible rfl)
    simp only [Act.put, List.setIfInBounds_toArray, List.set_cons_zero, List.set_cons_succ]
    refine Pl.takeW rfl rfl ?v209 ?hy209 ?rest209
    case hy209 => intro w_ _; first | (go_simp; done) | (go_simp; with_reducible rfl)
    simp only [Act.put, List.setIfInBounds_toArray, List.set_cons_zero, List.set_cons_succ]
    show wpList _ _ _ _ _ _
    simp only [List.drop_succ_cons, List.drop_zero]
    go_wp2_with fail
    refine (P_andC p b off c d st _ S2 _ F HF.out i _ _ _ r st' (X.drew HM.out) (HE.out.mono HK.out) HC.out hi hlen1 Hr'.out).mono ?_
    rintro e w1 ⟨rfl, S1, k1, hX1⟩
    go_wp2_with fail
    go_ret
    exact Ret.intro rfl (HK.out.trans k1) (X'.dropAtom hX1)
  · have hr := Hr.out
    rw [h, special_Or] at hr
    rw [h] at f5
    replace f5 : _ = some (Value.string ⟨#[111, 114]⟩) := f5
    have Hr' := hid hr
    have HL := run_lookup_ok (v := .func (.func 91) #[] #[ptr w.heap.size, ptr (w.heap.size + 1)]) (i := 11) (key := Value.string ⟨#[111, 114]⟩) Try.underlying112 Try.underlying9 (X.mapHeap (X.drew HM.out)) trivial (by kernel_rfl)
    clear h hr
    refine wp_plan 19 (.take 0 (.take 1 (.take 2 (.take 3 (.take 4 (.take 5 (.take 6 (.take 7 (.take 8 (.take 9 (.take 10 (.take 11 (.take 12 (.take 13 (.take 14 (.take 15 (.take 16 (.take 17 (.take 18 .fin))))))))))))))))))) (fun w_ => w_ = _) (by kernel_rfl) (by kernel_rfl) (fun _ _ d_ _ _ h_ => by cases d_ <;> exact h_) rfl ?_
    refine Pl.takeW rfl rfl ?v210 ?hy210 ?rest210
    case hy210 => intro w_ _; first | (go_simp; done) | (go_simp; with_reducible rfl)
    simp only [Act.put, List.setIfInBounds_toArray, List.set_cons_zero, List.set_cons_succ]
    refine Pl.takeW rfl rfl ?v211 ?hy211 ?rest211
    case hy211 => intro w_ hS_; subst hS_; first | (go_simp; done) | (go_simp; with_reducible rfl)
    simp only [Act.put, List.setIfInBounds_toArray, List.set_cons_zero, List.set_cons_succ]
    refine Pl.takeW rfl rfl ?v212 ?hy212 ?rest212
    case hy212 => intro w_ _; first | (go_simp; done) | (go_simp; with_reducible rfl)
    simp only [Act.put, List.setIfInBounds_toArray, List.set_cons_zero, List.set_cons_succ]
    refine Pl.takeW rfl rfl ?v213 ?hy213 ?rest213
    case hy213 => intro w_ _; first | (go_simp; done) | (go_simp; with_reducible rfl)
    simp only [Act.put, List.setIfInBounds_toArray, List.set_cons_zero, List.set_cons_succ]
    refine Pl.takeW rfl rfl ?v214 ?hy214 ?rest214
    case hy214 => intro w_ hS_; subst hS_; first | (go_simp; done) | (go_simp; with_reducible rfl)
    simp only [Act.put, List.setIfInBounds_toArray, List.set_cons_zero, List.set_cons_succ]
    refine Pl.takeW rfl rfl ?v215 ?hy215 ?rest215
    case hy215 => intro w_ hS_; subst hS_; first | (go_simp; done) | (go_simp; with_reducible rfl)
    simp only [Act.put, List.setIfInBounds_toArray, List.set_cons_zero, List.set_cons_succ]
    refine Pl.takeW rfl rfl ?v216 ?hy216 ?rest216
    case hy216 => intro w_ _; first | (go_simp; done) | (go_simp; with_reducible rfl)
    simp only [Act.put, List.setIfInBounds_toArray, List.set_cons_zero, List.set_cons_succ]
    refine Pl.takeW rfl rfl ?v217 ?hy217 ?rest217
    case hy217 => intro w_ _; first | (go_simp; done) | (go_simp; with_reducible rfl)
    simp only [Act.put, List.setIfInBounds_toArray, List.set_cons_zero, List.set_cons_succ]
    refine Pl.takeW rfl rfl ?v218 ?hy218 ?rest218
    case hy218 => intro w_ hS_; subst hS_; first | (go_simp; done) | (go_simp; with_reducible rfl)
    simp only [Act.put, List.setIfInBounds_toArray, List.set_cons_zero, List.set_cons_succ]
    refine Pl.takeW rfl rfl ?v219 ?hy219 ?rest219
    case hy219 => intro w_ _; first | (go_simp; done) | (go_simp; with_reducible rfl)
    simp only [Act.put, List.setIfInBounds_toArray, List.set_cons_zero, List.set_cons_succ]
    refine Pl.takeW rfl rfl ?v220 ?hy220 ?rest220
    case hy220 => intro w_ hS_; subst hS_; first | (go_simp; done) | (go_simp; with_reducible rfl)
    simp only [Act.put, List.setIfInBounds_toArray, List.set_cons_zero, List.set_cons_succ]
    refine Pl.takeW rfl rfl ?v221 ?hy221 ?rest221
    case hy221 => intro w_ _; first | (go_simp; done) | (go_simp; with_reducible rfl)
    simp only [Act.put, List.setIfInBounds_toArray, List.set_cons_zero, List.set_cons_succ]
    refine Pl.takeW rfl rfl ?v222 ?hy222 ?rest222
    case hy222 => intro w_ _; first | (go_simp; done) | (go_simp; with_reducible rfl)
    simp only [Act.put, List.setIfInBounds_toArray, List.set_cons_zero, List.set_cons_succ]
    refine Pl.takeW rfl rfl ?v223 ?hy223 ?rest223
    case hy223 => intro w_ hS_; subst hS_; first | (go_simp; done) | (go_simp; with_reducible rfl)
    simp only [Act.put, List.setIfInBounds_toArray, List.set_cons_zero, List.set_cons_succ]
    refine Pl.takeW rfl rfl ?v224 ?hy224 ?rest224
    case hy224 => intro w_ hS_; subst hS_; first | (go_simp; done) | (go_simp; with_reducible rfl)
    simp only [Act.put, List.setIfInBounds_toArray, List.set_cons_zero, List.set_cons_succ]
    refine Pl.takeW rfl rfl ?v225 ?hy225 ?rest225
    case hy225 => intro w_ _; first | (go_simp; done) | (go_simp; with_reducible rfl)
    simp only [Act.put, List.setIfInBounds_toArray, List.set_cons_zero, List.set_cons_succ]
    refine Pl.takeW rfl rfl ?v226 ?hy226 ?rest226
    case hy226 => intro w_ _; first | (go_simp; done) | (go_simp; with_reducible rfl)
    simp only [Act.put, List.setIfInBounds_toArray, List.set_cons_zero, List.set_cons_succ]
    refine Pl.takeW rfl rfl ?v227 ?hy227 ?rest227
    case hy227 => intro w_ _; first | (go_simp; done) | (go_simp; with_reducible rfl)
    simp only [Act.put, List.setIfInBounds_toArray, List.set_cons_zero, List.set_cons_succ]
    refine Pl.takeW rfl rfl ?v228 ?hy228 ?rest228
    case hy228 => intro w_ _; first | (go_simp; done) | (go_simp; with_reducible rfl)
    simp only [Act.put, List.setIfInBounds_toArray, List.set_cons_zero, List.set_cons_succ]
    show wpList _ _ _ _ _ _
    simp only [List.drop_succ_cons, List.drop_zero]
    go_wp2_with fail
    refine (P_orC p b off c d st _ S2 _ F HF.out i _ _ _ r st' (X.drew HM.out) (HE.out.mono HK.out) HC.out hi hlen1 Hr'.out).mono ?_
    rintro e w1 ⟨rfl, S1, k1, hX1⟩
    go_wp2_with fail
    go_ret
    exact Ret.intro rfl (HK.out.trans k1) (X'.dropAtom hX1)
  · have hr := Hr.out
    rw [h, special_When] at hr
    rw [h] at f5
    replace f5 : _ = some (Value.string ⟨#[119, 104, 101, 110]⟩) := f5
    have Hr' := hid hr
    have HL := run_lookup_ok (v := .func (.func 75) #[] #[ptr w.heap.size, ptr (w.heap.size + 1)]) (i := 2) (key := Value.string ⟨#[119, 104, 101, 110]⟩) Try.underlying112 Try.underlying9 (X.mapHeap (X.drew HM.out)) trivial (by kernel_rfl)
    clear h hr
    refine wp_plan 19 (.take 0 (.take 1 (.take 2 (.take 3 (.take 4 (.take 5 (.take 6 (.take 7 (.take 8 (.take 9 (.take 10 (.take 11 (.take 12 (.take 13 (.take 14 (.take 15 (.take 16 (.take 17 (.take 18 .fin))))))))))))))))))) (fun w_ => w_ = _) (by kernel_rfl) (by kernel_rfl) (fun _ _ d_ _ _ h_ => by cases d_ <;> exact h_) rfl ?_
    refine Pl.takeW rfl rfl ?v229 ?hy229 ?rest229
    case hy229 => intro w_ _; first | (go_simp; done) | (go_simp; with_reducible rfl)
    simp only [Act.put, List.setIfInBounds_toArray, List.set_cons_zero, List.set_cons_succ]
    refine Pl.takeW rfl rfl ?v230 ?hy230 ?rest230
    case hy230 => intro w_ hS_; subst hS_; first | (go_simp; done) | (go_simp; with_reducible rfl)
    simp only [Act.put, List.setIfInBounds_toArray, List.set_cons_zero, List.set_cons_succ]
    refine Pl.takeW rfl rfl ?v231 ?hy231 ?rest231
    case hy231 => intro w_ _; first | (go_simp; done) | (go_simp; with_reducible rfl)
    simp only [Act.put, List.setIfInBounds_toArray, List.set_cons_zero, List.set_cons_succ]
    refine Pl.takeW rfl rfl ?v232 ?hy232 ?rest232
    case hy232 => intro w_ _; first | (go_simp; done) | (go_simp; with_reducible rfl)
    simp only [Act.put, List.setIfInBounds_toArray, List.set_cons_zero, List.set_cons_succ]
    refine Pl.takeW rfl rfl ?v233 ?hy233 ?rest233
    case hy233 => intro w_ hS_; subst hS_; first | (go_simp; done) | (go_simp; with_reducible rfl)
    simp only [Act.put, List.setIfInBounds_toArray, List.set_cons_zero, List.set_cons_succ]
    refine Pl.takeW rfl rfl ?v234 ?hy234 ?rest234
    case hy234 => intro w_ hS_; subst hS_; first | (go_simp; done) | (go_simp; with_reducible rfl)
    simp only [Act.put, List.setIfInBounds_toArray, List.set_cons_zero, List.set_cons_succ]
    refine Pl.takeW rfl rfl ?v235 ?hy235 ?rest235
    case hy235 => intro w_ _; first | (go_simp; done) | (go_simp; with_reducible rfl)
    simp only [Act.put, List.setIfInBounds_toArray, List.set_cons_zero, List.set_cons_succ]
    refine Pl.takeW rfl rfl ?v236 ?hy236 ?rest236
    case hy236 => intro w_ _; first | (go_simp; done) | (go_simp; with_reducible rfl)
    simp only [Act.put, List.setIfInBounds_toArray, List.set_cons_zero, List.set_cons_succ]
    refine Pl.takeW rfl rfl ?v237 ?hy237 ?rest237
    case hy237 => intro w_ hS_; subst hS_; first | (go_simp; done) | (go_simp; with_reducible rfl)
    simp only [Act.put, List.setIfInBounds_toArray, List.set_cons_zero, List.set_cons_succ]
    refine Pl.takeW rfl rfl ?v238 ?hy238 ?rest238
    case hy238 => intro w_ _; first | (go_simp; done) | (go_simp; with_reducible rfl)
    simp only [Act.put, List.setIfInBounds_toArray, List.set_cons_zero, List.set_cons_succ]
    refine Pl.takeW rfl rfl ?v239 ?hy239 ?rest239
    case hy239 => intro w_ hS_; subst hS_; first | (go_simp; done) | (go_simp; with_reducible rfl)
    simp only [Act.put, List.setIfInBounds_toArray, List.set_cons_zero, List.set_cons_succ]
    refine Pl.takeW rfl rfl ?v240 ?hy240 ?rest240
    case hy240 => intro w_ _; first | (go_simp; done) | (go_simp; with_reducible rfl)
    simp only [Act.put, List.setIfInBounds_toArray, List.set_cons_zero, List.set_cons_succ]
    refine Pl.takeW rfl rfl ?v241 ?hy241 ?rest241
    case hy241 => intro w_ _; first | (go_simp; done) | (go_simp; with_reducible rfl)
    simp only [Act.put, List.setIfInBounds_toArray, List.set_cons_zero, List.set_cons_succ]
    refine Pl.takeW rfl rfl ?v242 ?hy242 ?rest242
    case hy242 => intro w_ hS_; subst hS_; first | (go_simp; done) | (go_simp; with_reducible rfl)
    simp only [Act.put, List.setIfInBounds_toArray, List.set_cons_zero, List.set_cons_succ]
    refine Pl.takeW rfl rfl ?v243 ?hy243 ?rest243
    case hy243 => intro w_ hS_; subst hS_; first | (go_simp; done) | (go_simp; with_reducible rfl)
    simp only [Act.put, List.setIfInBounds_toArray, List.set_cons_zero, List.set_cons_succ]
    refine Pl.takeW rfl rfl ?v244 ?hy244 ?rest244
    case hy244 => intro w_ _; first | (go_simp; done) | (go_simp; with_reducible rfl)
    simp only [Act.put, List.setIfInBounds_toArray, List.set_cons_zero, List.set_cons_succ]
    refine Pl.takeW rfl rfl ?v245 ?hy245 ?rest245
    case hy245 => intro w_ _; first | (go_simp; done) | (go_simp; with_reducible rfl)
    simp only [Act.put, List.setIfInBounds_toArray, List.set_cons_zero, List.set_cons_succ]
    refine Pl.takeW rfl rfl ?v246 ?hy246 ?rest246
    case hy246 => intro w_ _; first | (go_simp; done) | (go_simp; with_reducible rfl)
    simp only [Act.put, List.setIfInBounds_toArray, List.set_cons_zero, List.set_cons_succ]
    refine Pl.takeW rfl rfl ?v247 ?hy247 ?rest247
    case hy247 => intro w_ _; first | (go_simp; done) | (go_simp; with_reducible rfl)
    simp only [Act.put, List.setIfInBounds_toArray, List.set_cons_zero, List.set_cons_succ]
    show wpList _ _ _ _ _ _
    simp only [List.drop_succ_cons, List.drop_zero]
    go_wp2_with fail
    refine (P_whenC p b off c d st _ S2 _ F HF.out i _ _ _ r st' (X.drew HM.out) (HE.out.mono HK.out) HC.out hi Hr'.out).mono ?_
    rintro e w1 ⟨rfl, S1, k1, hX1⟩
    go_wp2_with fail
    go_ret
    exact Ret.intro rfl (HK.out.trans k1) (X'.dropAtom hX1)
  · have hr := Hr.out
    rw [h, special_Unless] at hr
    rw [h] at f5
    replace f5 : _ = some (Value.string ⟨#[117, 110, 108, 101, 115, 115]⟩) := f5
    have Hr' := hid hr
    have HL := run_lookup_ok (v := .func (.func 77) #[] #[ptr w.heap.size, ptr (w.heap.size + 1)]) (i := 3) (key := Value.string ⟨#[117, 110, 108, 101, 115, 115]⟩) Try.underlying112 Try.underlying9 (X.mapHeap (X.drew HM.out)) trivial (by kernel_rfl)
    clear h hr
    refine wp_plan 19 (.take 0 (.take 1 (.take 2 (.take 3 (.take 4 (.take 5 (.take 6 (.take 7 (.take 8 (.take 9 (.take 10 (.take 11 (.take 12 (.take 13 (.take 14 (.take 15 (.take 16 (.take 17 (.take 18 .fin))))))))))))))))))) (fun w_ => w_ = _) (by kernel_rfl) (by kernel_rfl) (fun _ _ d_ _ _ h_ => by cases d_ <;> exact h_) rfl ?_
    refine Pl.takeW rfl rfl ?v248 ?hy248 ?rest248
    case hy248 => intro w_ _; first | (go_simp; done) | (go_simp; with_reducible rfl)
    simp only [Act.put, List.setIfInBounds_toArray, List.set_cons_zero, List.set_cons_succ]
    refine Pl.takeW rfl rfl ?v249 ?hy249 ?rest249
    case hy249 => intro w_ hS_; subst hS_; first | (go_simp; done) | (go_simp; with_reducible rfl)
    simp only [Act.put, List.setIfInBounds_toArray, List.set_cons_zero, List.set_cons_succ]
    refine Pl.takeW rfl rfl ?v250 ?hy250 ?rest250
    case hy250 => intro w_ _; first | (go_simp; done) | (go_simp; with_reducible rfl)
    simp only [Act.put, List.setIfInBounds_toArray, List.set_cons_zero, List.set_cons_succ]
    refine Pl.takeW rfl rfl ?v251 ?hy251 ?rest251
    case hy251 => intro w_ _; first | (go_simp; done) | (go_simp; with_reducible rfl)
    simp only [Act.put, List.setIfInBounds_toArray, List.set_cons_zero, List.set_cons_succ]
    refine Pl.takeW rfl rfl ?v252 ?hy252 ?rest252
    case hy252 => intro w_ hS_; subst hS_; first | (go_simp; done) | (go_simp; with_reducible rfl)
    simp only [Act.put, List.setIfInBounds_toArray, List.set_cons_zero, List.set_cons_succ]
    refine Pl.takeW rfl rfl ?v253 ?hy253 ?rest253
    case hy253 => intro w_ hS_; subst hS_; first | (go_simp; done) | (go_simp; with_reducible rfl)
    simp only [Act.put, List.setIfInBounds_toArray, List.set_cons_zero, List.set_cons_succ]
    refine Pl.takeW rfl rfl ?v254 ?hy254 ?rest254
    case hy254 => intro w_ _; first | (go_simp; done) | (go_simp; with_reducible rfl)
    simp only [Act.put, List.setIfInBounds_toArray, List.set_cons_zero, List.set_cons_succ]
    refine Pl.takeW rfl rfl ?v255 ?hy255 ?rest255
    case hy255 => intro w_ _; first | (go_simp; done) | (go_simp; with_reducible rfl)
    simp only [Act.put, List.setIfInBounds_toArray, List.set_cons_zero, List.set_cons_succ]
    refine Pl.takeW rfl rfl ?v256 ?hy256 ?rest256
    case hy256 => intro w_ hS_; subst hS_; first | (go_simp; done) | (go_simp; with_reducible rfl)
    simp only [Act.put, List.setIfInBounds_toArray, List.set_cons_zero, List.set_cons_succ]
    refine Pl.takeW rfl rfl ?v257 ?hy257 ?rest257
    case hy257 => intro w_ _; first | (go_simp; done) | (go_simp; with_reducible rfl)
    simp only [Act.put, List.setIfInBounds_toArray, List.set_cons_zero, List.set_cons_succ]
    refine Pl.takeW rfl rfl ?v258 ?hy258 ?rest258
    case hy258 => intro w_ hS_; subst hS_; first | (go_simp; done) | (go_simp; with_reducible rfl)
    simp only [Act.put, List.setIfInBounds_toArray, List.set_cons_zero, List.set_cons_succ]
    refine Pl.takeW rfl rfl ?v259 ?hy259 ?rest259
    case hy259 => intro w_ _; first | (go_simp; done) | (go_simp; with_reducible rfl)
    simp only [Act.put, List.setIfInBounds_toArray, List.set_cons_zero, List.set_cons_succ]
    refine Pl.takeW rfl rfl ?v260 ?hy260 ?rest260
    case hy260 => intro w_ _; first | (go_simp; done) | (go_simp; with_reducible rfl)
    simp only [Act.put, List.setIfInBounds_toArray, List.set_cons_zero, List.set_cons_succ]
    refine Pl.takeW rfl rfl ?v261 ?hy261 ?rest261
    case hy261 => intro w_ hS_; subst hS_; first | (go_simp; done) | (go_simp; with_reducible rfl)
    simp only [Act.put, List.setIfInBounds_toArray, List.set_cons_zero, List.set_cons_succ]
    refine Pl.takeW rfl rfl ?v262 ?hy262 ?rest262
    case hy262 => intro w_ hS_; subst hS_; first | (go_simp; done) | (go_simp; with_reducible rfl)
    simp only [Act.put, List.setIfInBounds_toArray, List.set_cons_zero, List.set_cons_succ]
    refine Pl.takeW rfl rfl ?v263 ?hy263 ?rest263
    case hy263 => intro w_ _; first | (go_simp; done) | (go_simp; with_reducible rfl)
    simp only [Act.put, List.setIfInBounds_toArray, List.set_cons_zero, List.set_cons_succ]
    refine Pl.takeW rfl rfl ?v264 ?hy264 ?rest264
    case hy264 => intro w_ _; first | (go_simp; done) | (go_simp; with_reducible rfl)
    simp only [Act.put, List.setIfInBounds_toArray, List.set_cons_zero, List.set_cons_succ]
    refine Pl.takeW rfl rfl ?v265 ?hy265 ?rest265
    case hy265 => intro w_ _; first | (go_simp; done) | (go_simp; with_reducible rfl)
    simp only [Act.put, List.setIfInBounds_toArray, List.set_cons_zero, List.set_cons_succ]
    refine Pl.takeW rfl rfl ?v266 ?hy266 ?rest266
    case hy266 => intro w_ _; first | (go_simp; done) | (go_simp; with_reducible rfl)
    simp only [Act.put, List.setIfInBounds_toArray, List.set_cons_zero, List.set_cons_succ]
    show wpList _ _ _ _ _ _
    simp only [List.drop_succ_cons, List.drop_zero]
    go_wp2_with fail
    refine (P_unlessC p b off c d st _ S2 _ F HF.out i _ _ _ r st' (X.drew HM.out) (HE.out.mono HK.out) HC.out hi Hr'.out).mono ?_
    rintro e w1 ⟨rfl, S1, k1, hX1⟩
    go_wp2_with fail
    go_ret
    exact Ret.intro rfl (HK.out.trans k1) (X'.dropAtom hX1)
end
end Go.Proofs.Ytjjbidajkmodfaa
namespace Go.Proofs.Ytjjbidajkmodfaa
open Go Go.RowKit
theorem NatsR.tailD {S : Seal} {b o c : Nat} {l : List Nat} (h : NatsR S (.slice (some ⟨b, o, none⟩) l.length c) l) (h0 : 0 < l.length) : NatsR S (.slice (if c = 1 then some ⟨b, o, none⟩ else some ⟨b, o + 1, none⟩) (l.length - 1) (c - 1)) (l.drop 1) := by
  match l, h0 with
  | y :: t, _ => simpa using NatsR.tailIf h
section
variable (p b off c : Nat) (d : List Node)
set_option maxRecDepth 100000 in
set_option maxHeartbeats 40000000 in
theorem P_step (F : Fm) (HF : OkP p b off c d F) : OkP p b off c d (step d F) := by
  intro st L S w i r st' hX hE hi hr
  have X := PX.xs p (dval b off c d) st
  have hlen := Dat.len hE
  have hiI : (i : Int) < (d.length : Int) := by omega
  have hkind := hE.dat.kind i hi
  have hss := hE.dat.str i hi
  have hll := hE.dat.ll i hi
  have hlst := hE.dat.lst i hi
  have hpar := hE.dat.par i hi
  have x0 := hX.d0
  have Hh := hid (P_heads p b off c d st L S w i hX hE hi)
  have HE := hid hE
  have HF := hid HF
  have Hr := hid hr
  have Hss := hid hss
  have Hll := hid hll
  have Hlst := hid hlst
  have Hpar := hid hpar
  have Hkind := hid hkind
  clear hX hE hr hss hll hlst hpar hkind
  go_enter Try.func33, Try.ntmps33
  go_wp2_with fail
  refine (Hh.out).mono ?_
  rintro e w1 ⟨rfl, S1, k1, hX1⟩
  have HE1 := hid (HE.out.mono k1)
  obtain ⟨lv, hN⟩ := HE1.out.at_ i hi
  obtain ⟨A1, c1, hlv, hc1, hc2⟩ := Sl.shape hN.l
  subst hlv
  obtain ⟨B, e1, e2, hB⟩ := hX1.bad
  obtain ⟨m, hm⟩ := hX1.glob
  have f0 := X.cell hX1 hN.c0
  have f1 := X.cell hX1 hN.c1
  have f2 := X.cell hX1 hN.c2
  have f3 := X.cell hX1 hN.c3
  have f4 := X.cell hX1 hN.c4
  have HX1 := hid hX1
  have HK1 := hid k1
  have HN := hid hN
  have Hm := hid hm
  clear k1 hX1 hN hm x0 e2
  rcases hB with ⟨hb, rfl⟩ | ⟨b', o', a', rfl, hc, hb⟩
  case inr =>
    have hr := Hr.out
    unfold step at hr
    rw [if_pos (by rw [hb]; exact Option.some_ne_none _)] at hr
    simp only [Option.some.injEq, Prod.mk.injEq] at hr
    obtain ⟨rfl, rfl⟩ := hr
    clear hb hc
    go_wp2_with fail
    go_ret
    exact Ret.intro rfl HK1.out HX1.out
  have hr := Hr.out
  unfold step at hr
  rw [if_neg (by rw [hb]; simp)] at hr
  clear hb
  rcases (by have := Hkind.out; omega : (nd d i).kind = 1 ∨ (nd d i).kind = 2 ∨ (nd d i).kind = 3 ∨ (nd d i).kind = 4) with hk | hk | hk | hk
  · rw [if_pos hk] at hr
    rw [hk] at f0
    have Hr' := hid hr
    clear hr hk
    go_wp2_with fail
    refine wp_plan 10 (.take 0 (.take 1 (.take 2 (.take 3 (.take 4 (.take 5 (.take 6 (.take 7 (.take 8 (.take 9 .fin)))))))))) (fun w_ => w_ = _) (by kernel_rfl) (by kernel_rfl) (fun _ _ d_ _ _ h_ => by cases d_ <;> exact h_) rfl ?_
    refine Pl.takeW rfl rfl ?v1 ?hy1 ?rest1
    case hy1 => intro w_ _; first | (go_simp; done) | (go_simp; with_reducible rfl)
    simp only [Act.put, List.setIfInBounds_toArray, List.set_cons_zero, List.set_cons_succ]
    refine Pl.takeW rfl rfl ?v2 ?hy2 ?rest2
    case hy2 => intro w_ _; first | (go_simp; done) | (go_simp; with_reducible rfl)
    simp only [Act.put, List.setIfInBounds_toArray, List.set_cons_zero, List.set_cons_succ]
    refine Pl.takeW rfl rfl ?v3 ?hy3 ?rest3
    case hy3 => intro w_ _; first | (go_simp; done) | (go_simp; with_reducible rfl)
    simp only [Act.put, List.setIfInBounds_toArray, List.set_cons_zero, List.set_cons_succ]
    refine Pl.takeW rfl rfl ?v4 ?hy4 ?rest4
    case hy4 => intro w_ _; first | (go_simp; done) | (go_simp; with_reducible rfl)
    simp only [Act.put, List.setIfInBounds_toArray, List.set_cons_zero, List.set_cons_succ]
    refine Pl.takeW rfl rfl ?v5 ?hy5 ?rest5
    case hy5 => intro w_ hS_; subst hS_; first | (go_simp; done) | (go_simp; with_reducible rfl)
    simp only [Act.put, List.setIfInBounds_toArray, List.set_cons_zero, List.set_cons_succ]
    refine Pl.takeW rfl rfl ?v6 ?hy6 ?rest6
    case hy6 => intro w_ _; first | (go_simp; done) | (go_simp; with_reducible rfl)
    simp only [Act.put, List.setIfInBounds_toArray, List.set_cons_zero, List.set_cons_succ]
    refine Pl.takeW rfl rfl ?v7 ?hy7 ?rest7
    case hy7 => intro w_ _; first | (go_simp; done) | (go_simp; with_reducible rfl)
    simp only [Act.put, List.setIfInBounds_toArray, List.set_cons_zero, List.set_cons_succ]
    refine Pl.takeW rfl rfl ?v8 ?hy8 ?rest8
    case hy8 => intro w_ _; first | (go_simp; done) | (go_simp; with_reducible rfl)
    simp only [Act.put, List.setIfInBounds_toArray, List.set_cons_zero, List.set_cons_succ]
    refine Pl.takeW rfl rfl ?v9 ?hy9 ?rest9
    case hy9 => intro w_ hS_; subst hS_; first | (go_simp; done) | (go_simp; with_reducible rfl)
    simp only [Act.put, List.setIfInBounds_toArray, List.set_cons_zero, List.set_cons_succ]
    refine Pl.takeW rfl rfl ?v10 ?hy10 ?rest10
    case hy10 => intro w_ _; first | (go_simp; done) | (go_simp; with_reducible rfl)
    simp only [Act.put, List.setIfInBounds_toArray, List.set_cons_zero, List.set_cons_succ]
    show wpList _ _ _ _ _ _
    simp only [List.drop_succ_cons, List.drop_zero]
    go_wp2_with fail
    refine (P_put p (dval b off c d) st L S1 _ 1 (nd d i).at_ (nd d i).n 0 [] [] 0 [] (.slice none 0 0) (.slice none 0 0) r st' (X.drew HX1.out) (StrsR.nil _) (NatsR.nil _) Hr'.out).mono ?_
    rintro e w2 ⟨rfl, S2, k2, hX2⟩
    go_wp2_with fail
    go_ret
    exact Ret.intro rfl (HK1.out.trans k2) hX2
  · rw [if_neg (by omega), if_pos hk] at hr
    rw [hk] at f0
    have Hr' := hid hr
    clear hr hk
    go_wp2_with fail
    refine wp_plan 9 (.take 0 (.take 1 (.take 2 (.take 3 (.take 4 (.take 5 (.take 6 (.take 7 (.take 8 .fin))))))))) (fun w_ => w_ = _) (by kernel_rfl) (by kernel_rfl) (fun _ _ d_ _ _ h_ => by cases d_ <;> exact h_) rfl ?_
    refine Pl.takeW rfl rfl ?v11 ?hy11 ?rest11
    case hy11 => intro w_ _; first | (go_simp; done) | (go_simp; with_reducible rfl)
    simp only [Act.put, List.setIfInBounds_toArray, List.set_cons_zero, List.set_cons_succ]
    refine Pl.takeW rfl rfl ?v12 ?hy12 ?rest12
    case hy12 => intro w_ _; first | (go_simp; done) | (go_simp; with_reducible rfl)
    simp only [Act.put, List.setIfInBounds_toArray, List.set_cons_zero, List.set_cons_succ]
    refine Pl.takeW rfl rfl ?v13 ?hy13 ?rest13
    case hy13 => intro w_ _; first | (go_simp; done) | (go_simp; with_reducible rfl)
    simp only [Act.put, List.setIfInBounds_toArray, List.set_cons_zero, List.set_cons_succ]
    refine Pl.takeW rfl rfl ?v14 ?hy14 ?rest14
    case hy14 => intro w_ _; first | (go_simp; done) | (go_simp; with_reducible rfl)
    simp only [Act.put, List.setIfInBounds_toArray, List.set_cons_zero, List.set_cons_succ]
    refine Pl.takeW rfl rfl ?v15 ?hy15 ?rest15
    case hy15 => intro w_ hS_; subst hS_; first | (go_simp; done) | (go_simp; with_reducible rfl)
    simp only [Act.put, List.setIfInBounds_toArray, List.set_cons_zero, List.set_cons_succ]
    refine Pl.takeW rfl rfl ?v16 ?hy16 ?rest16
    case hy16 => intro w_ _; first | (go_simp; done) | (go_simp; with_reducible rfl)
    simp only [Act.put, List.setIfInBounds_toArray, List.set_cons_zero, List.set_cons_succ]
    refine Pl.takeW rfl rfl ?v17 ?hy17 ?rest17
    case hy17 => intro w_ _; first | (go_simp; done) | (go_simp; with_reducible rfl)
    simp only [Act.put, List.setIfInBounds_toArray, List.set_cons_zero, List.set_cons_succ]
    refine Pl.takeW rfl rfl ?v18 ?hy18 ?rest18
    case hy18 => intro w_ _; first | (go_simp; done) | (go_simp; with_reducible rfl)
    simp only [Act.put, List.setIfInBounds_toArray, List.set_cons_zero, List.set_cons_succ]
    refine Pl.takeW rfl rfl ?v19 ?hy19 ?rest19
    case hy19 => intro w_ hS_; subst hS_; first | (go_simp; done) | (go_simp; with_reducible rfl)
    simp only [Act.put, List.setIfInBounds_toArray, List.set_cons_zero, List.set_cons_succ]
    show wpList _ _ _ _ _ _
    simp only [List.drop_succ_cons, List.drop_zero]
    go_wp2_with fail
    refine (P_truth p st L S1 _ (dval b off c d) (nd d i).at_ (nd d i).n r st' (X.drew HX1.out) Hr'.out).mono ?_
    rintro e w2 ⟨rfl, S2, k2, hX2⟩
    go_wp2_with fail
    go_ret
    exact Ret.intro rfl (HK1.out.trans k2) hX2
  · rw [if_neg (by omega), if_neg (by omega), if_pos hk] at hr
    rw [hk] at f0
    clear hk
    go_wp2_with fail
    refine (P_reserved (nd d i).s _ m Hm.out (by have := Hss.out; omega)).mono ?_
    rintro e w' ⟨rfl, rfl⟩
    by_cases hs : res (nd d i).s = true
    · rw [if_pos hs] at hr
      have Hr' := hid hr
      clear hr
      go_wp2_with fail
      refine (P_wrongR p b off c d st L S1 _ i r st' HX1.out HE1.out hi Hr'.out).mono ?_
      rintro e w2 ⟨rfl, S2, k2, hX2⟩
      go_wp2_with fail
      go_ret
      exact Ret.intro rfl (HK1.out.trans k2) hX2
    · rw [if_neg hs] at hr
      replace hs : res (nd d i).s = false := by simpa using hs
      have Hr' := hid hr
      clear hr
      go_wp2_with fail
      refine wp_plan 10 (.take 0 (.take 1 (.take 2 (.take 3 (.take 4 (.take 5 (.take 6 (.take 7 (.take 8 (.take 9 .fin)))))))))) (fun w_ => w_ = _) (by kernel_rfl) (by kernel_rfl) (fun _ _ d_ _ _ h_ => by cases d_ <;> exact h_) rfl ?_
      refine Pl.takeW rfl rfl ?v20 ?hy20 ?rest20
      case hy20 => intro w_ _; first | (go_simp; done) | (go_simp; with_reducible rfl)
      simp only [Act.put, List.setIfInBounds_toArray, List.set_cons_zero, List.set_cons_succ]
      refine Pl.takeW rfl rfl ?v21 ?hy21 ?rest21
      case hy21 => intro w_ _; first | (go_simp; done) | (go_simp; with_reducible rfl)
      simp only [Act.put, List.setIfInBounds_toArray, List.set_cons_zero, List.set_cons_succ]
      refine Pl.takeW rfl rfl ?v22 ?hy22 ?rest22
      case hy22 => intro w_ _; first | (go_simp; done) | (go_simp; with_reducible rfl)
      simp only [Act.put, List.setIfInBounds_toArray, List.set_cons_zero, List.set_cons_succ]
      refine Pl.takeW rfl rfl ?v23 ?hy23 ?rest23
      case hy23 => intro w_ _; first | (go_simp; done) | (go_simp; with_reducible rfl)
      simp only [Act.put, List.setIfInBounds_toArray, List.set_cons_zero, List.set_cons_succ]
      refine Pl.takeW rfl rfl ?v24 ?hy24 ?rest24
      case hy24 => intro w_ hS_; subst hS_; first | (go_simp; done) | (go_simp; with_reducible rfl)
      simp only [Act.put, List.setIfInBounds_toArray, List.set_cons_zero, List.set_cons_succ]
      refine Pl.takeW rfl rfl ?v25 ?hy25 ?rest25
      case hy25 => intro w_ _; first | (go_simp; done) | (go_simp; with_reducible rfl)
      simp only [Act.put, List.setIfInBounds_toArray, List.set_cons_zero, List.set_cons_succ]
      refine Pl.takeW rfl rfl ?v26 ?hy26 ?rest26
      case hy26 => intro w_ _; first | (go_simp; done) | (go_simp; with_reducible rfl)
      simp only [Act.put, List.setIfInBounds_toArray, List.set_cons_zero, List.set_cons_succ]
      refine Pl.takeW rfl rfl ?v27 ?hy27 ?rest27
      case hy27 => intro w_ _; first | (go_simp; done) | (go_simp; with_reducible rfl)
      simp only [Act.put, List.setIfInBounds_toArray, List.set_cons_zero, List.set_cons_succ]
      refine Pl.takeW rfl rfl ?v28 ?hy28 ?rest28
      case hy28 => intro w_ hS_; subst hS_; first | (go_simp; done) | (go_simp; with_reducible rfl)
      simp only [Act.put, List.setIfInBounds_toArray, List.set_cons_zero, List.set_cons_succ]
      refine Pl.takeW rfl rfl ?v29 ?hy29 ?rest29
      case hy29 => intro w_ _; first | (go_simp; done) | (go_simp; with_reducible rfl)
      simp only [Act.put, List.setIfInBounds_toArray, List.set_cons_zero, List.set_cons_succ]
      show wpList _ _ _ _ _ _
      simp only [List.drop_succ_cons, List.drop_zero]
      go_wp2_with fail
      refine (P_put p (dval b off c d) st L S1 _ 4 (nd d i).at_ 0 0 (nd d i).s [] 0 [] (.slice none 0 0) (.slice none 0 0) r st' (X.drew HX1.out) (StrsR.nil _) (NatsR.nil _) Hr'.out).mono ?_
      rintro e w2 ⟨rfl, S2, k2, hX2⟩
      go_wp2_with fail
      go_ret
      exact Ret.intro rfl (HK1.out.trans k2) hX2
  · rw [if_neg (by omega), if_neg (by omega), if_neg (by omega)] at hr
    rw [hk] at f0
    clear hk
    by_cases hl : (nd d i).l = []
    · rw [if_pos hl] at hr
      rw [hl] at f4
      have Hr' := hid hr
      clear hr hl
      go_wp2_with fail
      refine (P_wrongR p b off c d st L S1 _ i r st' HX1.out HE1.out hi Hr'.out).mono ?_
      rintro e w2 ⟨rfl, S2, k2, hX2⟩
      go_wp2_with fail
      go_ret
      exact Ret.intro rfl (HK1.out.trans k2) hX2
    · rw [if_neg hl] at hr
      have hl0 : (((nd d i).l.length : Int) == 0) = false := by
        have := List.length_pos_iff.2 hl
        rw [beq_eq_false_iff_ne]; omega
      by_cases hh : heads d i = true
      · rw [if_pos hh] at hr
        have Hr' := hid hr
        have Hh := hid hh
        clear hr hl
        go_wp2_with fail
        refine (P_special p b off c d st L S1 _ F HF.out i r st' HX1.out HE1.out hi Hh.out Hr'.out).mono ?_
        rintro e w2 ⟨rfl, S2, k2, hX2⟩
        go_wp2_with fail
        go_ret
        exact Ret.intro rfl (HK1.out.trans k2) hX2
      · rw [if_neg hh] at hr
        replace hh : heads d i = false := by simpa using hh
        simp only [Option.bind_eq_some_iff] at hr
        obtain ⟨⟨a, st1⟩, hr1, hr2⟩ := hr
        obtain ⟨b1, o1, c2, hlv, h1, h2, hcc⟩ := HN.out.l.at_ hl
        simp only [Value.slice.injEq, true_and] at hlv
        obtain ⟨rfl, rfl⟩ := hlv
        obtain ⟨x0, hx0⟩ : ∃ x0, (nd d i).l[0]? = some x0 := ⟨_, List.getElem?_eq_some_iff.2 ⟨List.length_pos_iff.2 hl, rfl⟩⟩
        have hg : (nd d i).l.getD 0 0 = x0 := by rw [List.getD_eq_getElem?_getD, hx0]; rfl
        have hi0 : x0 < d.length := by have := Hpar.out x0 (List.mem_of_getElem? hx0); omega
        rw [hg] at hr1
        have g4 := X.cell HX1.out (hcc 0 x0 hx0)
        rw [Nat.add_zero] at g4
        have hlp : 0 < (nd d i).l.length := List.length_pos_iff.2 hl
        have hlI : (1 : Int) ≤ ((nd d i).l.length : Int) := by omega
        have Hr1 := hid hr1
        have Hr2 := hid hr2
        have htl := NatsR.tailD HN.out.l hlp
        generalize hA : (if c1 = 1 then (some ⟨b1, o1, none⟩ : Option Addr) else some ⟨b1, o1 + 1, none⟩) = A1 at htl
        have Htl := hid htl
        clear htl
        clear hr1 hr2 hl hcc hx0 hg h1 h2 hc1 hc2
        go_wp2_with fail
        refine (HF.out st L S1 _ x0 a st1 HX1.out HE1.out hi0 Hr1.out).mono ?_
        rintro e w2 ⟨rfl, S2, k2, hX2⟩
        have X1 := PX.xs p (dval b off c d) st1
        have f1 := X1.cell hX2 (HN.out.c1.mono k2)
        have f4 := X1.cell hX2 (HN.out.c4.mono k2)
        have HK2 := hid k2
        have HX2 := hid hX2
        clear k2 hX2 g4
        go_wp2_with fail
        refine wp_plan 11 (.take 0 (.take 1 (.take 2 (.take 3 (.take 4 (.take 5 (.take 6 (.take 7 (.take 8 (.take 9 (.take 10 .fin))))))))))) (fun w_ => w_ = _) (by kernel_rfl) (by kernel_rfl) (fun _ _ d_ _ _ h_ => by cases d_ <;> exact h_) rfl ?_
        refine Pl.takeW rfl rfl ?v30 ?hy30 ?rest30
        case hy30 => intro w_ _; first | (go_simp; done) | (go_simp; with_reducible rfl)
        simp only [Act.put, List.setIfInBounds_toArray, List.set_cons_zero, List.set_cons_succ]
        refine Pl.takeW rfl rfl ?v31 ?hy31 ?rest31
        case hy31 => intro w_ _; first | (go_simp; done) | (go_simp; with_reducible rfl)
        simp only [Act.put, List.setIfInBounds_toArray, List.set_cons_zero, List.set_cons_succ]
        refine Pl.takeW rfl rfl ?v32 ?hy32 ?rest32
        case hy32 => intro w_ _; first | (go_simp; done) | (go_simp; with_reducible rfl)
        simp only [Act.put, List.setIfInBounds_toArray, List.set_cons_zero, List.set_cons_succ]
        refine Pl.takeW rfl rfl ?v33 ?hy33 ?rest33
        case hy33 => intro w_ _; first | (go_simp; done) | (go_simp; with_reducible rfl)
        simp only [Act.put, List.setIfInBounds_toArray, List.set_cons_zero, List.set_cons_succ]
        refine Pl.takeW rfl rfl ?v34 ?hy34 ?rest34
        case hy34 => intro w_ hS_; subst hS_; first | (go_simp; done) | (go_simp; with_reducible rfl)
        simp only [Act.put, List.setIfInBounds_toArray, List.set_cons_zero, List.set_cons_succ]
        refine Pl.takeW rfl rfl ?v35 ?hy35 ?rest35
        case hy35 => intro w_ _; first | (go_simp; done) | (go_simp; with_reducible rfl)
        simp only [Act.put, List.setIfInBounds_toArray, List.set_cons_zero, List.set_cons_succ]
        refine Pl.takeW rfl rfl ?v36 ?hy36 ?rest36
        case hy36 => intro w_ _; first | (go_simp; done) | (go_simp; with_reducible rfl)
        simp only [Act.put, List.setIfInBounds_toArray, List.set_cons_zero, List.set_cons_succ]
        refine Pl.takeW rfl rfl ?v37 ?hy37 ?rest37
        case hy37 => intro w_ _; first | (go_simp; done) | (go_simp; with_reducible rfl)
        simp only [Act.put, List.setIfInBounds_toArray, List.set_cons_zero, List.set_cons_succ]
        refine Pl.takeW rfl rfl ?v38 ?hy38 ?rest38
        case hy38 => intro w_ _; first | (go_simp; done) | (go_simp; with_reducible rfl)
        simp only [Act.put, List.setIfInBounds_toArray, List.set_cons_zero, List.set_cons_succ]
        refine Pl.takeW rfl rfl ?v39 ?hy39 ?rest39
        case hy39 => intro w_ hS_; subst hS_; first | (go_simp; done) | (go_simp; with_reducible rfl)
        simp only [Act.put, List.setIfInBounds_toArray, List.set_cons_zero, List.set_cons_succ]
        refine Pl.takeW rfl rfl ?v40 ?hy40 ?rest40
        case hy40 => intro w_ _; first | (go_simp; done) | (go_simp; with_reducible rfl)
        simp only [Act.put, List.setIfInBounds_toArray, List.set_cons_zero, List.set_cons_succ]
        show wpList _ _ _ _ _ _
        simp only [List.drop_succ_cons, List.drop_zero]
        go_wp2_with fail
        refine (P_call p b off c d st1 L S2 _ F HF.out (nd d i).at_ a _ ((nd d i).l.drop 1) r st' (X1.drew HX2.out) (HE1.out.mono HK2.out) (Htl.out.mono HK2.out) (fun j hj => by have := Hpar.out j (List.mem_of_mem_drop hj); omega) (by have := Hll.out; simp; omega) Hr2.out).mono ?_
        rintro e w3 ⟨rfl, S3, k3, hX3⟩
        go_wp2_with fail
        go_ret
        exact Ret.intro rfl ((HK1.out.trans HK2.out).trans k3) hX3
theorem P_form (k : Nat) : OkP p b off c d (form d k) := by
  induction k with
  | zero => intro st L S w i r st' _ _ _ hr; cases hr
  | succ k ih => exact P_step p b off c d _ ih
end
end Go.Proofs.Ytjjbidajkmodfaa
namespace Go.Proofs.Ytjjbidajkmodfaa
open Go Go.RowKit
theorem headStr_eq {d : List Node} {i : Nat} (h : heads d i = true) : headStr d i = headName d i := by
  unfold heads at h
  simp only [Bool.and_eq_true, decide_eq_true_eq] at h
  unfold headStr
  rw [if_pos ⟨h.1.1, h.1.2.1⟩]
theorem bytes_beq_ne {a b : Str} (h : a ≠ b) : (bs a == bs b) = false := by
  cases e : (bs a == bs b) with
  | false => rfl
  | true => exact absurd (bs_inj ((MapKept.bytes_beq _ _).1 e)) h
section
variable (p b off c : Nat) (d : List Node)
set_option maxRecDepth 100000 in
set_option maxHeartbeats 40000000 in
theorem P_top (F : Fm) (HF : OkP p b off c d F) (st : St) (L : List Atom) (S : Seal) (w : World) (i r : Nat) (st' : St) (hb : st.bad = none) (hX : PX p (dval b off c d) st L S w) (hE : Env S b off c d) (hi : i < d.length) (hr : topS d F st i = some (r, st')) :
    Calls Try.prog 24 #[ptr p, nat i] w (Ret S (PX p (dval b off c d) st' L) (nat r)) := by
  have hlen := Dat.len hE
  have hiI : (i : Int) < (d.length : Int) := by omega
  have x0 := hX.d0
  have Hh := hid (P_heads p b off c d st L S w i hX hE hi)
  have HE := hid hE
  have HF := hid HF
  have Hlen := hid hlen
  unfold topS at hr
  clear hX hE hlen
  by_cases hh : heads d i = true
  · rw [headStr_eq hh, hh] at Hh
    by_cases hd : headName d i = sDefine
    · rw [if_pos ⟨hb, hh, hd⟩] at hr
      rw [hd] at Hh
      have Hr := hid hr
      clear hr hb hh hd
      go_enter Try.func24, Try.ntmps24
      go_wp2_with fail
      refine (Hh.out).mono ?_
      rintro e w1 ⟨rfl, S1, k1, hX1⟩
      have HX1 := hid hX1
      have HK1 := hid k1
      have x1 := hX1.d0
      clear k1 hX1 x0
      go_wp2_with fail
      refine (P_define p b off c d st L S1 _ F HF.out i r st' HX1.out (HE.out.mono HK1.out) hi Hr.out).mono ?_
      rintro e w2 ⟨rfl, S2, k2, hX2⟩
      go_wp2_with fail
      go_ret
      exact Ret.intro rfl (HK1.out.trans k2) hX2
    · rw [if_neg (fun h => hd h.2.2)] at hr
      have hq : (headName d i == [100, 101, 102, 105, 110, 101]) = false := beq_eq_false_iff_ne.2 hd
      have Hr := hid hr
      clear hr hb hh hd
      go_enter Try.func24, Try.ntmps24
      go_wp2_with fail
      refine (Hh.out).mono ?_
      rintro e w1 ⟨rfl, S1, k1, hX1⟩
      have HX1 := hid hX1
      have HK1 := hid k1
      clear k1 hX1 x0
      go_wp2_with fail
      refine (P_step p b off c d F HF.out st L S1 _ i r st' HX1.out (HE.out.mono HK1.out) hi Hr.out).mono ?_
      rintro e w2 ⟨rfl, S2, k2, hX2⟩
      go_wp2_with fail
      go_ret
      exact Ret.intro rfl (HK1.out.trans k2) hX2
  · rw [if_neg (fun h => hh h.2.1)] at hr
    replace hh : heads d i = false := by simpa using hh
    rw [hh] at Hh
    have Hr := hid hr
    clear hr hb hh
    go_enter Try.func24, Try.ntmps24
    go_wp2_with fail
    refine (Hh.out).mono ?_
    rintro e w1 ⟨rfl, S1, k1, hX1⟩
    have HX1 := hid hX1
    have HK1 := hid k1
    clear k1 hX1 x0
    go_wp2_with fail
    refine (P_step p b off c d F HF.out st L S1 _ i r st' HX1.out (HE.out.mono HK1.out) hi Hr.out).mono ?_
    rintro e w2 ⟨rfl, S2, k2, hX2⟩
    go_wp2_with fail
    go_ret
    exact Ret.intro rfl (HK1.out.trans k2) hX2
end
end Go.Proofs.Ytjjbidajkmodfaa
