/- Texts P19, M1 of the proof. What each theorem says stands in its own statement. No condition beyond those that it names. -/
import Derived.Test.YtjjbidajkmodfaaXa1
import Derived.Test.YtjjbidajkmodfaaXa2
import Derived.Carry
set_option linter.unusedVariables false
set_option linter.unusedSimpArgs false
namespace Go.Proofs.Ytjjbidajkmodfaa
open Go Go.RowKit
theorem results_tmp4 {fn : Func} {t u v x : Tmp} (h : fn.results = #[.tmp t, .tmp u, .tmp v, .tmp x]) (tmps : Array Value) (P : Program) (w : World) :
    (results fn tmps).run P w = .ok (.tuple #[tmps.getD t undef, tmps.getD u undef, tmps.getD v undef, tmps.getD x undef]) w := by
  simp [results, h]
def outR (n : Nat) (t : Int) : Bool := decide (t < 0 ∨ (n : Int) ≤ t)
def BX (L : List Atom) (S : Seal) (w : World) : Prop := Glob S ∧ Wd S L w
theorem BX.xs : Xs BX := fun _ _ _ h => ⟨[], h.2, fun _ _ _ k hw => ⟨h.1.mono k, hw⟩⟩
theorem BX.newX {L : List Atom} {S : Seal} {w : World} (h : BX L S w) (dv : Value) : PX w.heap.size dv ⟨[], none⟩ L S (w.alloc (.cells #[dv, .slice none 0 0, .pointer none] 57)) :=
  ⟨h.1, .slice none 0 0, .pointer none, [], (h.2.allocOwn _ _).rowNil _ _, FormsC.nil S, .inl ⟨rfl, rfl⟩⟩
theorem PX.done {p : Nat} {dv : Value} {st : St} {L : List Atom} {S : Seal} {w : World} (h : PX p dv st L S w) : ∃ S' F, S.le S' ∧ BX L S' w ∧ w.cell? ⟨p, 1, none⟩ = some F ∧ FormsR S' F st.fs := by
  obtain ⟨g, F, B, cells, h1, h2, h3⟩ := h
  obtain ⟨S', k1, k2, k3⟩ := h1.sealRow
  exact ⟨S', F, k1, ⟨g.mono k1, k2.tail⟩, h1.blk2 1, cells, k3, h2.mono k1⟩
set_option maxHeartbeats 1000000 in
theorem P_out (A : Option Addr) (n c bx : Nat) (t : Int) (w : World) (h : w.cell? ⟨bx, 0, none⟩ = some (.slice A n c)) :
    Calls Try.prog 23 #[int t, .pointer (some ⟨bx, 0, none⟩)] w fun e w' => e = .returned (.bool (outR n t)) ∧ w' = w := by
  by_cases h1 : t < 0
  · have ho : outR n t = true := by unfold outR; exact decide_eq_true (.inl h1)
    rw [ho]
    clear ho
    go_enter Try.func23, Try.ntmps23
    go_wp2_with fail
    go_ret
    exact ⟨rfl, rfl⟩
  · by_cases h2 : (n : Int) ≤ t
    · have ho : outR n t = true := by unfold outR; exact decide_eq_true (.inr h2)
      rw [ho]
      clear ho
      go_enter Try.func23, Try.ntmps23
      go_wp2_with fail
      go_ret
      exact ⟨rfl, rfl⟩
    · have ho : outR n t = false := by unfold outR; exact decide_eq_false (by omega)
      rw [ho]
      clear ho
      go_enter Try.func23, Try.ntmps23
      go_wp2_with fail
      go_ret
      exact ⟨rfl, rfl⟩
set_option maxHeartbeats 1000000 in
theorem S_indexOut (A0 : Option Addr) (n c bx : Nat) (l : List Int) (v : Value) (S : Seal) (L : List Atom) (w : World) (hX : BX L S w) (hb : w.cell? ⟨bx, 0, none⟩ = some (.slice A0 n c)) (h : IntsR S v l) :
    Calls Try.prog 30 #[v, .func (.func 23) #[] #[.pointer (some ⟨bx, 0, none⟩)]] w fun e w' => ∃ z : Int, e = .returned (int z) ∧ w' = w ∧ decide (0 ≤ z) = l.any (outR n) := by
  have hlen := h.len
  obtain ⟨A, cc, rfl, _, _⟩ := Sl.shape h
  have Hc := hid h
  have HX := hid hX
  have Hb := hid hb
  clear h hX hb
  go_enter Try.func30, Try.ntmps30
  go_wp2_with fail
  go_loop [8] (fun i => ∃ k : Nat, k ≤ l.length ∧ i = nat k ∧ Hid (l.any (outR n) = (l.drop k).any (outR n))) (fun i => l.length - (intOf i).toNat)
  case atStart => exact ⟨0, Nat.zero_le _, rfl, hid rfl⟩
  case round =>
    obtain ⟨k, hk, rfl, Hn⟩ := hrel
    by_cases hlt : k < l.length
    · obtain ⟨b, off, rfl, hcell⟩ : ∃ b off, A = some ⟨b, off, none⟩ ∧ w.cell? ⟨b, off + k, none⟩ = some (int l[k]) := by
        obtain ⟨b1, o1, c1, hv, _, _, hc⟩ := Hc.out.at_ (by intro h; subst h; simp at hlt)
        cases hv
        exact ⟨b1, o1, rfl, BX.xs.cell HX.out (hc k _ (List.getElem?_eq_some_iff.2 ⟨hlt, rfl⟩))⟩
      have hd : l.drop k = l[k] :: l.drop (k + 1) := List.drop_eq_getElem_cons hlt
      have hn := Hn.out
      rw [hd, List.any_cons] at hn
      have hkI : (k : Int) < (l.length : Int) := by omega
      generalize l[k] = x at *
      have Ho := hid (P_out A0 n c bx x w Hb.out)
      cases hx : outR n x with
      | true =>
        rw [hx] at Ho hn
        have Hn2 := hid hn
        clear hn hd hx
        go_wp2_with fail
        refine Ho.out.mono ?_
        rintro e w' ⟨rfl, rfl⟩
        go_wp2_with fail
        go_ret
        exact ⟨(k : Int), rfl, rfl, by rw [Hn2.out]; simp⟩
      | false =>
        rw [hx, Bool.false_or] at hn
        rw [hx] at Ho
        have Hn2 := hid hn
        clear hn hd hx
        go_wp2_with fail
        refine Ho.out.mono ?_
        rintro e w' ⟨rfl, rfl⟩
        go_wp2_with fail
        go_round
        case rel => exact ⟨k + 1, by omega, by go_num, Hn2⟩
        case measure => simp [intOf]; omega
    · have hk' : k = l.length := by omega
      have hn := Hn.out
      rw [hk', List.drop_length] at hn
      have Hn2 := hid hn
      clear hn
      go_wp2_with fail
      go_ret
      exact ⟨-1, rfl, rfl, by rw [Hn2.out]; rfl⟩
set_option maxHeartbeats 1000000 in
theorem S_anyOut (A0 : Option Addr) (n c bx : Nat) (l : List Int) (v : Value) (S : Seal) (L : List Atom) (w : World) (hX : BX L S w) (hb : w.cell? ⟨bx, 0, none⟩ = some (.slice A0 n c)) (h : IntsR S v l) :
    Calls Try.prog 22 #[v, .func (.func 23) #[] #[.pointer (some ⟨bx, 0, none⟩)]] w fun e w' => e = .returned (.bool (l.any (outR n))) ∧ w' = w := by
  have Hc := hid (S_indexOut A0 n c bx l v S L w hX hb h)
  clear hX hb h
  go_enter Try.func22, Try.ntmps22
  go_wp2_with fail
  refine Hc.out.mono ?_
  rintro e w' ⟨z, rfl, rfl, hz⟩
  have Hz := hid hz
  clear hz
  go_wp2_with fail
  go_ret
  exact ⟨ret_v (by rw [← Hz.out]; rfl), rfl⟩
theorem mem_linksGo {i : Nat} : ∀ {l seen : List Int} {o : List Int}, linksGo i seen l = some o → ∀ p ∈ l, 0 ≤ p ∧ p < (i : Int)
  | [], _, _, _ => fun p hp => by cases hp
  | q :: l, seen, o, h => by
    rw [linksGo] at h
    split at h
    · cases h
    · rename_i hq
      intro p hp
      rcases List.mem_cons.1 hp with rfl | hp
      · constructor
        · apply Int.not_lt.1; intro h'; exact hq (.inl h')
        · apply Int.not_le.1; intro h'; exact hq (.inr (.inl h'))
      · exact mem_linksGo h p hp
theorem mayGo_at : ∀ {rd : List RNode} {seen : List Int} {i : Nat}, mayGo seen i rd = true → ∀ k x, rd[k]? = some x → Right x ∧ ∀ p ∈ x.l, 0 ≤ p ∧ p < ((i + k : Nat) : Int)
  | [], _, _, _, k, x, hx => by simp at hx
  | y :: rd, seen, i, h, k, x, hx => by
    rw [mayGo] at h
    split at h
    case isFalse => cases h
    rename_i hy
    cases hl : linksGo i seen y.l with
    | none => rw [hl] at h; cases h
    | some o =>
      rw [hl] at h
      cases k with
      | zero => cases hx; exact ⟨hy, mem_linksGo hl⟩
      | succ k =>
        obtain ⟨h1, h2⟩ := mayGo_at h k x hx
        exact ⟨h1, fun p hp => by have := h2 p hp; rw [show i + (k + 1) = i + 1 + k by omega]; exact this⟩
theorem nd_node (rd : List RNode) {i : Nat} (hi : i < rd.length) : nd (rd.map RNode.node) i = rd[i].node := by
  unfold nd
  rw [List.getD_eq_getElem?_getD, List.getElem?_map, List.getElem?_eq_getElem hi]; rfl
theorem may_dat {rd : List RNode} (h : mayB rd = true) (hs : ∀ x ∈ rd, x.s.length ≤ 140737488355328) (hl : ∀ x ∈ rd, x.l.length ≤ 1099511627776) : Dat (rd.map RNode.node) := by
  have key : ∀ i, i < (rd.map RNode.node).length → ∃ x, x ∈ rd ∧ nd (rd.map RNode.node) i = x.node ∧ Right x ∧ ∀ p ∈ x.l, 0 ≤ p ∧ p < (i : Int) := by
    intro i hi
    have hi' : i < rd.length := by simpa using hi
    obtain ⟨h1, h2⟩ := mayGo_at h i rd[i] (List.getElem?_eq_getElem hi')
    exact ⟨rd[i], List.getElem_mem hi', nd_node rd hi', h1, fun p hp => by have := h2 p hp; omega⟩
  constructor
  · intro i hi
    obtain ⟨x, _, hx, hr, _⟩ := key i hi
    rw [hx]
    show 1 ≤ x.kind ∧ x.kind ≤ 4
    rcases hr.2.2 with h | h | h | h <;> omega
  · intro i hi j hj
    obtain ⟨x, _, hx, _, hp⟩ := key i hi
    rw [hx] at hj
    obtain ⟨q, hq, rfl⟩ := List.mem_map.1 hj
    have := hp q hq
    omega
  · intro i hi hk
    obtain ⟨x, _, hx, hr, _⟩ := key i hi
    rw [hx] at hk ⊢
    rcases hr.2.1 with h | h
    · exact absurd h hk
    · show x.l.map Int.toNat = []; rw [h]; rfl
  · intro i hi
    obtain ⟨x, hm, hx, _, _⟩ := key i hi
    rw [hx]; exact hs x hm
  · intro i hi
    obtain ⟨x, _, hx, hr, _⟩ := key i hi
    rw [hx]; exact hr.1
  · intro i hi
    obtain ⟨x, hm, hx, _, _⟩ := key i hi
    rw [hx]
    show (x.l.map Int.toNat).length ≤ _
    rw [List.length_map]; exact hl x hm
theorem may_env {S : Seal} {b off c n : Nat} {rd : List RNode} (hn : n = rd.length) (h : RNodesR S (.slice (some ⟨b, off, none⟩) n c) rd) (hm : mayB rd = true) (hl : ∀ x ∈ rd, x.l.length ≤ 1099511627776) : Env S b off c (rd.map RNode.node) := by
  obtain ⟨h0, A, c', hv, h1, h2, h4⟩ := id h
  simp only [Value.slice.injEq] at hv
  obtain ⟨rfl, _, rfl⟩ := hv
  refine ⟨fun i hi => ?_, by simpa using h1, h2, may_dat hm (fun x hx => (h0 x hx).s) hl⟩
  have hi' : i < rd.length := by simpa using hi
  subst hn
  obtain ⟨b', off', he, lv, hN⟩ := h.at_ hi'
  cases he
  obtain ⟨_, hp⟩ := mayGo_at hm i rd[i] (List.getElem?_eq_getElem hi')
  rw [nd_node rd hi']
  exact ⟨lv, hN.c0, hN.c1, hN.c2, hN.c3, hN.c4, hN.l.nats fun x hx => (hp x hx).1⟩
end Go.Proofs.Ytjjbidajkmodfaa
namespace Go.Proofs.Ytjjbidajkmodfaa
open Go Go.RowKit
def MayRel (X : List Atom → Seal → World → Prop) (rd : List RNode) (m : Nat) (L : List Atom) (S : Seal) (i : Value) (wr : World) : Prop :=
  ∃ k seen S1, k ≤ rd.length ∧ i = nat k ∧ S.le S1 ∧ X (.map m (ents seen) seen.length :: L) S1 wr ∧ mayGo seen k (rd.drop k) = mayB rd
def LinksRel (X : List Atom → Seal → World → Prop) (k : Nat) (l : List Int) (g : Option (List Int)) (m : Nat) (L : List Atom) (S : Seal) (i : Value) (wr : World) : Prop :=
  ∃ j seen S1, j ≤ l.length ∧ i = nat j ∧ S.le S1 ∧ X (.map m (ents seen) seen.length :: L) S1 wr ∧ linksGo k seen (l.drop j) = g
theorem linksGo_cons (i : Nat) (seen : List Int) (p : Int) (l : List Int) : linksGo i seen (p :: l) = if p < 0 ∨ (i : Int) ≤ p ∨ p ∈ seen then none else linksGo i (seen ++ [p]) l := rfl
set_option maxRecDepth 100000 in
set_option maxHeartbeats 40000000 in
theorem P_May {X : List Atom → Seal → World → Prop} (X1 : Xs X) (L : List Atom) (S : Seal) (w : World) (v : Value) (rd : List RNode) (hX : X L S w) (hR : RNodesR S v rd) :
    Calls Try.prog 21 #[v] w (Ret S (X L) (.bool (mayB rd))) := by
  obtain ⟨A, cc, rfl, hr1, hr2⟩ := hR.shape
  have hlen := hR.len
  have hm0 := X1.allocMap hX #[] 0
  have hmm : ∀ u : World, (Instr.makeMap 77 none).run Try.prog u = .ok (.map (some u.heap.size)) (u.alloc (.map #[] 0)) := fun u => by rw [run_makeMap]
  generalize hm : w.heap.size = m at hm0
  have HM0 := hid hm0
  have HR := hid hR
  clear hX hm0 hR
  go_enter Try.func21, Try.ntmps21
  go_wp2_with fail
  go_loopw [13] (fun i wr => MayRel X rd m L S i wr) (fun i _ => rd.length - (intOf i).toNat)
  case atStart => exact ⟨0, [], S, Nat.zero_le _, rfl, Seal.le.refl S, HM0.out, rfl⟩
  case round =>
    obtain ⟨k, seen, S1, hk, rfl, hS1, hX1, hr⟩ := hrel
    by_cases hlt : k < rd.length
    · obtain ⟨b, off, rfl, lv, hN⟩ := (HR.out.mono hS1).at_ hlt
      have hd : rd.drop k = rd[k] :: rd.drop (k + 1) := List.drop_eq_getElem_cons hlt
      rw [hd, mayGo] at hr
      have hok := HR.out.1 rd[k] (List.getElem_mem hlt)
      clear hd
      generalize rd[k] = x at *
      obtain ⟨kd, at_, n, s, l⟩ := x
      obtain ⟨A5, c5, rfl, hl5, hl6⟩ := Sl.shape hN.l
      have c0 := X1.cell hX1 hN.c0
      have c1 := X1.cell hX1 hN.c1
      have c2 := X1.cell hX1 hN.c2
      have c3 := X1.cell hX1 hN.c3
      have c4 := X1.cell hX1 hN.c4
      have hx3 := X1.alloc hX1 (.cells #[.int .u8 kd, int at_, int n, str s, .slice A5 l.length c5] 60)
      have hk3 := X1.le_alloc hX1 (.cells #[.int .u8 kd, int at_, int n, str s, .slice A5 l.length c5] 60)
      generalize S1.put _ _ = S3 at hx3 hk3
      have HX3 := hid (X1.drew hx3)
      have HK3 := hid (hS1.trans hk3)
      have HN := hid (hN.mono hk3)
      have Hok := hid hok.n
      have Hlt := hid hlt
      have Hk := hid hk
      dsimp only at *
      have hkI : (k : Int) < (rd.length : Int) := by omega
      have hlln := HN.out.l.len
      clear hX1 hN hx3 hk3 hok hS1 hlt hk hl5 hl6
      cases s with
      | nil =>
        by_cases hat : at_ < 0
        ·
          rw [if_neg (fun h => absurd h.1 (by dsimp only; omega))] at hr
          have Hno := hid hr.symm
          clear hr
          go_wp2_with fail
          refine wp_plan 12 (.take 0 (.take 1 (.take 2 (.take 3 (.take 4 (.take 5 (.take 6 (.take 7 (.take 8 (.take 9 (.take 10 (.take 11 .fin)))))))))))) (fun w_ => w_ = _) (by kernel_rfl) (by kernel_rfl) (fun _ _ d_ _ _ h_ => by cases d_ <;> exact h_) rfl ?_
          refine Pl.takeW rfl rfl ?v1 ?hy1 ?rest1
          case hy1 => intro w_ _; first | (go_simp; done) | (go_simp; with_reducible rfl)
          simp only [Act.put, List.setIfInBounds_toArray, List.set_cons_zero, List.set_cons_succ]
          refine Pl.takeW rfl rfl ?v2 ?hy2 ?rest2
          case hy2 => intro w_ hS_; subst hS_; first | (go_simp; done) | (go_simp; with_reducible rfl)
          simp only [Act.put, List.setIfInBounds_toArray, List.set_cons_zero, List.set_cons_succ]
          refine Pl.takeW rfl rfl ?v3 ?hy3 ?rest3
          case hy3 => intro w_ _; first | (go_simp; done) | (go_simp; with_reducible rfl)
          simp only [Act.put, List.setIfInBounds_toArray, List.set_cons_zero, List.set_cons_succ]
          refine Pl.takeW rfl rfl ?v4 ?hy4 ?rest4
          case hy4 => intro w_ _; first | (go_simp; done) | (go_simp; with_reducible rfl)
          simp only [Act.put, List.setIfInBounds_toArray, List.set_cons_zero, List.set_cons_succ]
          refine Pl.takeW rfl rfl ?v5 ?hy5 ?rest5
          case hy5 => intro w_ hS_; subst hS_; first | (go_simp; done) | (go_simp; with_reducible rfl)
          simp only [Act.put, List.setIfInBounds_toArray, List.set_cons_zero, List.set_cons_succ]
          refine Pl.takeW rfl rfl ?v6 ?hy6 ?rest6
          case hy6 => intro w_ _; first | (go_simp; done) | (go_simp; with_reducible rfl)
          simp only [Act.put, List.setIfInBounds_toArray, List.set_cons_zero, List.set_cons_succ]
          refine Pl.takeW rfl rfl ?v7 ?hy7 ?rest7
          case hy7 => intro w_ _; first | (go_simp; done) | (go_simp; with_reducible rfl)
          simp only [Act.put, List.setIfInBounds_toArray, List.set_cons_zero, List.set_cons_succ]
          first
            | (refine Pl.takeW rfl rfl ?v8 ?hy8 ?rest8
               case hy8 => intro w_ _; first | (go_simp; done) | (go_simp; with_reducible rfl))
            | refine Pl.takeU rfl rfl ?rest8
          simp only [Act.put, List.setIfInBounds_toArray, List.set_cons_zero, List.set_cons_succ]
          first
            | (refine Pl.takeW rfl rfl ?v9 ?hy9 ?rest9
               case hy9 => intro w_ hS_; subst hS_; first | (go_simp; done) | (go_simp; with_reducible rfl))
            | refine Pl.takeU rfl rfl ?rest9
          simp only [Act.put, List.setIfInBounds_toArray, List.set_cons_zero, List.set_cons_succ]
          first
            | (refine Pl.takeW rfl rfl ?v10 ?hy10 ?rest10
               case hy10 => intro w_ _; first | (go_simp; done) | (go_simp; with_reducible rfl))
            | refine Pl.takeU rfl rfl ?rest10
          simp only [Act.put, List.setIfInBounds_toArray, List.set_cons_zero, List.set_cons_succ]
          refine Pl.takeW rfl rfl ?v11 ?hy11 ?rest11
          case hy11 => intro w_ _; first | (go_simp; done) | (go_simp; with_reducible rfl)
          simp only [Act.put, List.setIfInBounds_toArray, List.set_cons_zero, List.set_cons_succ]
          refine Pl.takeW rfl rfl ?v12 ?hy12 ?rest12
          case hy12 => intro w_ _; first | (go_simp; done) | (go_simp; with_reducible rfl)
          simp only [Act.put, List.setIfInBounds_toArray, List.set_cons_zero, List.set_cons_succ]
          show wpList _ _ _ _ _ _
          simp only [List.drop_succ_cons, List.drop_zero]
          go_wp2_with fail
          go_ret
          exact Ret.intro (by simp [Act.eval, Hno.out]) HK3.out (X1.dropAtom HX3.out)
        have hat0 : 0 ≤ at_ := by omega
        by_cases h4 : kd = 4
        · subst h4
          by_cases hn : n = 0
          ·
            subst hn
            rw [if_pos (⟨hat0, .inl rfl, .inr (.inr (.inr ⟨rfl, rfl, rfl⟩))⟩)] at hr
            have Hyes := hid hr
            clear hr
            go_wp2_with fail
            refine wp_plan 12 (.take 0 (.take 1 (.take 2 (.take 3 (.take 4 (.take 5 (.take 6 (.take 7 (.take 8 (.take 9 (.take 10 (.take 11 .fin)))))))))))) (fun w_ => w_ = _) (by kernel_rfl) (by kernel_rfl) (fun _ _ d_ _ _ h_ => by cases d_ <;> exact h_) rfl ?_
            refine Pl.takeW rfl rfl ?v13 ?hy13 ?rest13
            case hy13 => intro w_ _; first | (go_simp; done) | (go_simp; with_reducible rfl)
            simp only [Act.put, List.setIfInBounds_toArray, List.set_cons_zero, List.set_cons_succ]
            refine Pl.takeW rfl rfl ?v14 ?hy14 ?rest14
            case hy14 => intro w_ hS_; subst hS_; first | (go_simp; done) | (go_simp; with_reducible rfl)
            simp only [Act.put, List.setIfInBounds_toArray, List.set_cons_zero, List.set_cons_succ]
            refine Pl.takeW rfl rfl ?v15 ?hy15 ?rest15
            case hy15 => intro w_ _; first | (go_simp; done) | (go_simp; with_reducible rfl)
            simp only [Act.put, List.setIfInBounds_toArray, List.set_cons_zero, List.set_cons_succ]
            refine Pl.takeW rfl rfl ?v16 ?hy16 ?rest16
            case hy16 => intro w_ _; first | (go_simp; done) | (go_simp; with_reducible rfl)
            simp only [Act.put, List.setIfInBounds_toArray, List.set_cons_zero, List.set_cons_succ]
            refine Pl.takeW rfl rfl ?v17 ?hy17 ?rest17
            case hy17 => intro w_ hS_; subst hS_; first | (go_simp; done) | (go_simp; with_reducible rfl)
            simp only [Act.put, List.setIfInBounds_toArray, List.set_cons_zero, List.set_cons_succ]
            refine Pl.takeW rfl rfl ?v18 ?hy18 ?rest18
            case hy18 => intro w_ _; first | (go_simp; done) | (go_simp; with_reducible rfl)
            simp only [Act.put, List.setIfInBounds_toArray, List.set_cons_zero, List.set_cons_succ]
            refine Pl.takeW rfl rfl ?v19 ?hy19 ?rest19
            case hy19 => intro w_ _; first | (go_simp; done) | (go_simp; with_reducible rfl)
            simp only [Act.put, List.setIfInBounds_toArray, List.set_cons_zero, List.set_cons_succ]
            first
              | (refine Pl.takeW rfl rfl ?v20 ?hy20 ?rest20
                 case hy20 => intro w_ _; first | (go_simp; done) | (go_simp; with_reducible rfl))
              | refine Pl.takeU rfl rfl ?rest20
            simp only [Act.put, List.setIfInBounds_toArray, List.set_cons_zero, List.set_cons_succ]
            first
              | (refine Pl.takeW rfl rfl ?v21 ?hy21 ?rest21
                 case hy21 => intro w_ hS_; subst hS_; first | (go_simp; done) | (go_simp; with_reducible rfl))
              | refine Pl.takeU rfl rfl ?rest21
            simp only [Act.put, List.setIfInBounds_toArray, List.set_cons_zero, List.set_cons_succ]
            first
              | (refine Pl.takeW rfl rfl ?v22 ?hy22 ?rest22
                 case hy22 => intro w_ _; first | (go_simp; done) | (go_simp; with_reducible rfl))
              | refine Pl.takeU rfl rfl ?rest22
            simp only [Act.put, List.setIfInBounds_toArray, List.set_cons_zero, List.set_cons_succ]
            refine Pl.takeW rfl rfl ?v23 ?hy23 ?rest23
            case hy23 => intro w_ _; first | (go_simp; done) | (go_simp; with_reducible rfl)
            simp only [Act.put, List.setIfInBounds_toArray, List.set_cons_zero, List.set_cons_succ]
            refine Pl.takeW rfl rfl ?v24 ?hy24 ?rest24
            case hy24 => intro w_ _; first | (go_simp; done) | (go_simp; with_reducible rfl)
            simp only [Act.put, List.setIfInBounds_toArray, List.set_cons_zero, List.set_cons_succ]
            show wpList _ _ _ _ _ _
            simp only [List.drop_succ_cons, List.drop_zero]
            go_wp2_with fail
            go_loopw [79] (fun i wr => LinksRel X k l (linksGo k seen l) m L S3 i wr) (fun i _ => l.length - (intOf i).toNat)
            case atStart => exact ⟨0, seen, S3, Nat.zero_le _, rfl, Seal.le.refl _, HX3.out, rfl⟩
            case round =>
              obtain ⟨j, seen2, S4, hj, rfl, hS4, hX4, hr4⟩ := hrel
              have HX4 := hid hX4
              have HS4 := hid (HK3.out.trans hS4)
              by_cases hlt : j < l.length
              · obtain ⟨b5, o5, c6, hv, _, _, hc⟩ := HN.out.l.at_ (by intro h; dsimp only at h; rw [h] at hlt; simp at hlt)
                simp only [Value.slice.injEq, true_and] at hv
                obtain ⟨rfl, rfl⟩ := hv
                have f1 := X1.cell hX4 ((hc j _ (List.getElem?_eq_some_iff.2 ⟨hlt, rfl⟩)).mono hS4)
                have hd : l.drop j = l[j] :: l.drop (j + 1) := List.drop_eq_getElem_cons hlt
                rw [hd, linksGo_cons] at hr4
                have hjI : (j : Int) < (l.length : Int) := by omega
                generalize l[j] = q at *
                clear hd hc hX4
                by_cases hq0 : q < 0
                · rw [if_pos (.inl hq0)] at hr4
                  have Hno := hid (show false = mayB rd by rw [← Hyes.out, ← hr4])
                  clear hr4 hS4
                  go_wp2_with fail
                  go_ret
                  exact Ret.intro (by simp [Act.eval, ← Hno.out]) HS4.out (X1.dropAtom HX4.out)
                by_cases hq1 : (k : Int) ≤ q
                · rw [if_pos (.inr (.inl hq1))] at hr4
                  have Hno := hid (show false = mayB rd by rw [← Hyes.out, ← hr4])
                  clear hr4 hS4
                  go_wp2_with fail
                  go_ret
                  exact Ret.intro (by simp [Act.eval, ← Hno.out]) HS4.out (X1.dropAtom HX4.out)
                by_cases hq2 : q ∈ seen2
                · rw [if_pos (.inr (.inr hq2))] at hr4
                  have Hno := hid (show false = mayB rd by rw [← Hyes.out, ← hr4])
                  obtain ⟨ix, hix⟩ := ents_some hq2
                  have hL := run_lookup1 (key := int q) Try.underlying77 Try.underlying3 (X1.mapHeap HX4.out) rfl hix
                  clear hr4 hS4 hix hq2
                  go_wp2_with fail
                  go_ret
                  exact Ret.intro (by simp [Act.eval, ← Hno.out]) HS4.out (X1.dropAtom HX4.out)
                · rw [if_neg (by rintro (h | h | h) <;> contradiction)] at hr4
                  have hL := run_lookup0 (key := int q) (z := int 0) Try.underlying77 Try.underlying3 (X1.mapHeap HX4.out) rfl (ents_none hq2) (by kernel_rfl)
                  obtain ⟨W5, m5, hX5⟩ := run_insX X1 Try.underlying77 Try.underlying3 HX4.out (int q) (int 1) rfl (ents_none hq2)
                  rw [ents_push] at hX5
                  have HX5 := hid hX5
                  have Hr4 := hid hr4
                  have HS4' := hid hS4
                  clear hX5 hr4 hS4 hq2
                  go_wp2_with fail
                  go_roundw
                  case rel => exact ⟨j + 1, seen2 ++ [q], S4, by omega, by go_num, HS4'.out, by simpa using HX5.out, Hr4.out⟩
                  case measure => simp [intOf]; omega
              · have hj' : j = l.length := by omega
                rw [hj', List.drop_length, linksGo] at hr4
                have hy : mayGo seen2 (k + 1) (rd.drop (k + 1)) = mayB rd := by rw [← Hyes.out, ← hr4]
                have Hy := hid hy
                clear hy hr4 hX4 hS4
                go_wp2_with fail
                go_roundw
                case rel => exact ⟨k + 1, seen2, S4, by omega, by go_num, HS4.out, HX4.out, Hy.out⟩
                case measure => simp [intOf]; omega
          ·
            have hn1 : (n == 0) = false := beq_eq_false_iff_ne.2 hn
            rw [if_neg (by rintro ⟨_, _, h | h | h | h⟩ <;> simp_all)] at hr
            have Hno := hid hr.symm
            clear hr
            go_wp2_with fail
            refine wp_plan 12 (.take 0 (.take 1 (.take 2 (.take 3 (.take 4 (.take 5 (.take 6 (.take 7 (.take 8 (.take 9 (.take 10 (.take 11 .fin)))))))))))) (fun w_ => w_ = _) (by kernel_rfl) (by kernel_rfl) (fun _ _ d_ _ _ h_ => by cases d_ <;> exact h_) rfl ?_
            refine Pl.takeW rfl rfl ?v25 ?hy25 ?rest25
            case hy25 => intro w_ _; first | (go_simp; done) | (go_simp; with_reducible rfl)
            simp only [Act.put, List.setIfInBounds_toArray, List.set_cons_zero, List.set_cons_succ]
            refine Pl.takeW rfl rfl ?v26 ?hy26 ?rest26
            case hy26 => intro w_ hS_; subst hS_; first | (go_simp; done) | (go_simp; with_reducible rfl)
            simp only [Act.put, List.setIfInBounds_toArray, List.set_cons_zero, List.set_cons_succ]
            refine Pl.takeW rfl rfl ?v27 ?hy27 ?rest27
            case hy27 => intro w_ _; first | (go_simp; done) | (go_simp; with_reducible rfl)
            simp only [Act.put, List.setIfInBounds_toArray, List.set_cons_zero, List.set_cons_succ]
            refine Pl.takeW rfl rfl ?v28 ?hy28 ?rest28
            case hy28 => intro w_ _; first | (go_simp; done) | (go_simp; with_reducible rfl)
            simp only [Act.put, List.setIfInBounds_toArray, List.set_cons_zero, List.set_cons_succ]
            refine Pl.takeW rfl rfl ?v29 ?hy29 ?rest29
            case hy29 => intro w_ hS_; subst hS_; first | (go_simp; done) | (go_simp; with_reducible rfl)
            simp only [Act.put, List.setIfInBounds_toArray, List.set_cons_zero, List.set_cons_succ]
            refine Pl.takeW rfl rfl ?v30 ?hy30 ?rest30
            case hy30 => intro w_ _; first | (go_simp; done) | (go_simp; with_reducible rfl)
            simp only [Act.put, List.setIfInBounds_toArray, List.set_cons_zero, List.set_cons_succ]
            refine Pl.takeW rfl rfl ?v31 ?hy31 ?rest31
            case hy31 => intro w_ _; first | (go_simp; done) | (go_simp; with_reducible rfl)
            simp only [Act.put, List.setIfInBounds_toArray, List.set_cons_zero, List.set_cons_succ]
            first
              | (refine Pl.takeW rfl rfl ?v32 ?hy32 ?rest32
                 case hy32 => intro w_ _; first | (go_simp; done) | (go_simp; with_reducible rfl))
              | refine Pl.takeU rfl rfl ?rest32
            simp only [Act.put, List.setIfInBounds_toArray, List.set_cons_zero, List.set_cons_succ]
            first
              | (refine Pl.takeW rfl rfl ?v33 ?hy33 ?rest33
                 case hy33 => intro w_ hS_; subst hS_; first | (go_simp; done) | (go_simp; with_reducible rfl))
              | refine Pl.takeU rfl rfl ?rest33
            simp only [Act.put, List.setIfInBounds_toArray, List.set_cons_zero, List.set_cons_succ]
            first
              | (refine Pl.takeW rfl rfl ?v34 ?hy34 ?rest34
                 case hy34 => intro w_ _; first | (go_simp; done) | (go_simp; with_reducible rfl))
              | refine Pl.takeU rfl rfl ?rest34
            simp only [Act.put, List.setIfInBounds_toArray, List.set_cons_zero, List.set_cons_succ]
            refine Pl.takeW rfl rfl ?v35 ?hy35 ?rest35
            case hy35 => intro w_ _; first | (go_simp; done) | (go_simp; with_reducible rfl)
            simp only [Act.put, List.setIfInBounds_toArray, List.set_cons_zero, List.set_cons_succ]
            refine Pl.takeW rfl rfl ?v36 ?hy36 ?rest36
            case hy36 => intro w_ _; first | (go_simp; done) | (go_simp; with_reducible rfl)
            simp only [Act.put, List.setIfInBounds_toArray, List.set_cons_zero, List.set_cons_succ]
            show wpList _ _ _ _ _ _
            simp only [List.drop_succ_cons, List.drop_zero]
            go_wp2_with fail
            go_ret
            exact Ret.intro (by simp [Act.eval, Hno.out]) HK3.out (X1.dropAtom HX3.out)
        have e4 : (kd == 4) = false := beq_eq_false_iff_ne.2 h4
        cases l with
        | cons y ys =>
          have hyl : (0 : Int) < ((y :: ys).length : Int) := by rw [List.length_cons]; omega
          ·
            rw [if_neg (by rintro ⟨_, h | h, _⟩ <;> simp_all)] at hr
            have Hno := hid hr.symm
            clear hr
            go_wp2_with fail
            refine wp_plan 12 (.take 0 (.take 1 (.take 2 (.take 3 (.take 4 (.take 5 (.take 6 (.take 7 (.take 8 (.take 9 (.take 10 (.take 11 .fin)))))))))))) (fun w_ => w_ = _) (by kernel_rfl) (by kernel_rfl) (fun _ _ d_ _ _ h_ => by cases d_ <;> exact h_) rfl ?_
            refine Pl.takeW rfl rfl ?v37 ?hy37 ?rest37
            case hy37 => intro w_ _; first | (go_simp; done) | (go_simp; with_reducible rfl)
            simp only [Act.put, List.setIfInBounds_toArray, List.set_cons_zero, List.set_cons_succ]
            refine Pl.takeW rfl rfl ?v38 ?hy38 ?rest38
            case hy38 => intro w_ hS_; subst hS_; first | (go_simp; done) | (go_simp; with_reducible rfl)
            simp only [Act.put, List.setIfInBounds_toArray, List.set_cons_zero, List.set_cons_succ]
            refine Pl.takeW rfl rfl ?v39 ?hy39 ?rest39
            case hy39 => intro w_ _; first | (go_simp; done) | (go_simp; with_reducible rfl)
            simp only [Act.put, List.setIfInBounds_toArray, List.set_cons_zero, List.set_cons_succ]
            refine Pl.takeW rfl rfl ?v40 ?hy40 ?rest40
            case hy40 => intro w_ _; first | (go_simp; done) | (go_simp; with_reducible rfl)
            simp only [Act.put, List.setIfInBounds_toArray, List.set_cons_zero, List.set_cons_succ]
            refine Pl.takeW rfl rfl ?v41 ?hy41 ?rest41
            case hy41 => intro w_ hS_; subst hS_; first | (go_simp; done) | (go_simp; with_reducible rfl)
            simp only [Act.put, List.setIfInBounds_toArray, List.set_cons_zero, List.set_cons_succ]
            refine Pl.takeW rfl rfl ?v42 ?hy42 ?rest42
            case hy42 => intro w_ _; first | (go_simp; done) | (go_simp; with_reducible rfl)
            simp only [Act.put, List.setIfInBounds_toArray, List.set_cons_zero, List.set_cons_succ]
            refine Pl.takeW rfl rfl ?v43 ?hy43 ?rest43
            case hy43 => intro w_ _; first | (go_simp; done) | (go_simp; with_reducible rfl)
            simp only [Act.put, List.setIfInBounds_toArray, List.set_cons_zero, List.set_cons_succ]
            first
              | (refine Pl.takeW rfl rfl ?v44 ?hy44 ?rest44
                 case hy44 => intro w_ _; first | (go_simp; done) | (go_simp; with_reducible rfl))
              | refine Pl.takeU rfl rfl ?rest44
            simp only [Act.put, List.setIfInBounds_toArray, List.set_cons_zero, List.set_cons_succ]
            first
              | (refine Pl.takeW rfl rfl ?v45 ?hy45 ?rest45
                 case hy45 => intro w_ hS_; subst hS_; first | (go_simp; done) | (go_simp; with_reducible rfl))
              | refine Pl.takeU rfl rfl ?rest45
            simp only [Act.put, List.setIfInBounds_toArray, List.set_cons_zero, List.set_cons_succ]
            first
              | (refine Pl.takeW rfl rfl ?v46 ?hy46 ?rest46
                 case hy46 => intro w_ _; first | (go_simp; done) | (go_simp; with_reducible rfl))
              | refine Pl.takeU rfl rfl ?rest46
            simp only [Act.put, List.setIfInBounds_toArray, List.set_cons_zero, List.set_cons_succ]
            refine Pl.takeW rfl rfl ?v47 ?hy47 ?rest47
            case hy47 => intro w_ _; first | (go_simp; done) | (go_simp; with_reducible rfl)
            simp only [Act.put, List.setIfInBounds_toArray, List.set_cons_zero, List.set_cons_succ]
            refine Pl.takeW rfl rfl ?v48 ?hy48 ?rest48
            case hy48 => intro w_ _; first | (go_simp; done) | (go_simp; with_reducible rfl)
            simp only [Act.put, List.setIfInBounds_toArray, List.set_cons_zero, List.set_cons_succ]
            show wpList _ _ _ _ _ _
            simp only [List.drop_succ_cons, List.drop_zero]
            go_wp2_with fail
            go_ret
            exact Ret.intro (by simp [Act.eval, Hno.out]) HK3.out (X1.dropAtom HX3.out)
        | nil =>
          by_cases h1 : kd = 1
          ·
            subst h1
            rw [if_pos (⟨hat0, .inr rfl, .inl ⟨rfl, rfl⟩⟩)] at hr
            have Hyes := hid hr
            clear hr
            go_wp2_with fail
            refine wp_plan 12 (.take 0 (.take 1 (.take 2 (.take 3 (.take 4 (.take 5 (.take 6 (.take 7 (.take 8 (.take 9 (.take 10 (.take 11 .fin)))))))))))) (fun w_ => w_ = _) (by kernel_rfl) (by kernel_rfl) (fun _ _ d_ _ _ h_ => by cases d_ <;> exact h_) rfl ?_
            refine Pl.takeW rfl rfl ?v49 ?hy49 ?rest49
            case hy49 => intro w_ _; first | (go_simp; done) | (go_simp; with_reducible rfl)
            simp only [Act.put, List.setIfInBounds_toArray, List.set_cons_zero, List.set_cons_succ]
            refine Pl.takeW rfl rfl ?v50 ?hy50 ?rest50
            case hy50 => intro w_ hS_; subst hS_; first | (go_simp; done) | (go_simp; with_reducible rfl)
            simp only [Act.put, List.setIfInBounds_toArray, List.set_cons_zero, List.set_cons_succ]
            refine Pl.takeW rfl rfl ?v51 ?hy51 ?rest51
            case hy51 => intro w_ _; first | (go_simp; done) | (go_simp; with_reducible rfl)
            simp only [Act.put, List.setIfInBounds_toArray, List.set_cons_zero, List.set_cons_succ]
            refine Pl.takeW rfl rfl ?v52 ?hy52 ?rest52
            case hy52 => intro w_ _; first | (go_simp; done) | (go_simp; with_reducible rfl)
            simp only [Act.put, List.setIfInBounds_toArray, List.set_cons_zero, List.set_cons_succ]
            refine Pl.takeW rfl rfl ?v53 ?hy53 ?rest53
            case hy53 => intro w_ hS_; subst hS_; first | (go_simp; done) | (go_simp; with_reducible rfl)
            simp only [Act.put, List.setIfInBounds_toArray, List.set_cons_zero, List.set_cons_succ]
            refine Pl.takeW rfl rfl ?v54 ?hy54 ?rest54
            case hy54 => intro w_ _; first | (go_simp; done) | (go_simp; with_reducible rfl)
            simp only [Act.put, List.setIfInBounds_toArray, List.set_cons_zero, List.set_cons_succ]
            refine Pl.takeW rfl rfl ?v55 ?hy55 ?rest55
            case hy55 => intro w_ _; first | (go_simp; done) | (go_simp; with_reducible rfl)
            simp only [Act.put, List.setIfInBounds_toArray, List.set_cons_zero, List.set_cons_succ]
            first
              | (refine Pl.takeW rfl rfl ?v56 ?hy56 ?rest56
                 case hy56 => intro w_ _; first | (go_simp; done) | (go_simp; with_reducible rfl))
              | refine Pl.takeU rfl rfl ?rest56
            simp only [Act.put, List.setIfInBounds_toArray, List.set_cons_zero, List.set_cons_succ]
            first
              | (refine Pl.takeW rfl rfl ?v57 ?hy57 ?rest57
                 case hy57 => intro w_ hS_; subst hS_; first | (go_simp; done) | (go_simp; with_reducible rfl))
              | refine Pl.takeU rfl rfl ?rest57
            simp only [Act.put, List.setIfInBounds_toArray, List.set_cons_zero, List.set_cons_succ]
            first
              | (refine Pl.takeW rfl rfl ?v58 ?hy58 ?rest58
                 case hy58 => intro w_ _; first | (go_simp; done) | (go_simp; with_reducible rfl))
              | refine Pl.takeU rfl rfl ?rest58
            simp only [Act.put, List.setIfInBounds_toArray, List.set_cons_zero, List.set_cons_succ]
            refine Pl.takeW rfl rfl ?v59 ?hy59 ?rest59
            case hy59 => intro w_ _; first | (go_simp; done) | (go_simp; with_reducible rfl)
            simp only [Act.put, List.setIfInBounds_toArray, List.set_cons_zero, List.set_cons_succ]
            refine Pl.takeW rfl rfl ?v60 ?hy60 ?rest60
            case hy60 => intro w_ _; first | (go_simp; done) | (go_simp; with_reducible rfl)
            simp only [Act.put, List.setIfInBounds_toArray, List.set_cons_zero, List.set_cons_succ]
            show wpList _ _ _ _ _ _
            simp only [List.drop_succ_cons, List.drop_zero]
            go_wp2_with fail
            go_loopw [79] (fun i wr => LinksRel X k [] (linksGo k seen []) m L S3 i wr) (fun i _ => 0)
            case atStart => exact ⟨0, seen, S3, Nat.zero_le _, rfl, Seal.le.refl _, HX3.out, rfl⟩
            case round =>
              obtain ⟨j, seen2, S4, hj, rfl, hS4, hX4, hr4⟩ := hrel
              have HX4 := hid hX4
              have HS4 := hid (HK3.out.trans hS4)
              have hj' : j = 0 := by simpa using hj
              subst hj'
              rw [List.drop_nil] at hr4
              have hr4 : some seen2 = some seen := hr4
              have hy : mayGo seen2 (k + 1) (rd.drop (k + 1)) = mayB rd := by cases hr4; exact Hyes.out
              have Hy := hid hy
              clear hy hr4 hX4 hS4
              go_wp2_with fail
              go_roundw
              case rel => exact ⟨k + 1, seen2, S4, by omega, by go_num, HS4.out, HX4.out, Hy.out⟩
              case measure => simp [intOf]; omega
          have e1 : (kd == 1) = false := beq_eq_false_iff_ne.2 h1
          by_cases h2 : kd = 2
          · subst h2
            by_cases hn : n = 0
            ·
              subst hn
              rw [if_pos (⟨hat0, .inr rfl, .inr (.inl ⟨rfl, rfl, .inl rfl⟩)⟩)] at hr
              have Hyes := hid hr
              clear hr
              go_wp2_with fail
              refine wp_plan 12 (.take 0 (.take 1 (.take 2 (.take 3 (.take 4 (.take 5 (.take 6 (.take 7 (.take 8 (.take 9 (.take 10 (.take 11 .fin)))))))))))) (fun w_ => w_ = _) (by kernel_rfl) (by kernel_rfl) (fun _ _ d_ _ _ h_ => by cases d_ <;> exact h_) rfl ?_
              refine Pl.takeW rfl rfl ?v61 ?hy61 ?rest61
              case hy61 => intro w_ _; first | (go_simp; done) | (go_simp; with_reducible rfl)
              simp only [Act.put, List.setIfInBounds_toArray, List.set_cons_zero, List.set_cons_succ]
              refine Pl.takeW rfl rfl ?v62 ?hy62 ?rest62
              case hy62 => intro w_ hS_; subst hS_; first | (go_simp; done) | (go_simp; with_reducible rfl)
              simp only [Act.put, List.setIfInBounds_toArray, List.set_cons_zero, List.set_cons_succ]
              refine Pl.takeW rfl rfl ?v63 ?hy63 ?rest63
              case hy63 => intro w_ _; first | (go_simp; done) | (go_simp; with_reducible rfl)
              simp only [Act.put, List.setIfInBounds_toArray, List.set_cons_zero, List.set_cons_succ]
              refine Pl.takeW rfl rfl ?v64 ?hy64 ?rest64
              case hy64 => intro w_ _; first | (go_simp; done) | (go_simp; with_reducible rfl)
              simp only [Act.put, List.setIfInBounds_toArray, List.set_cons_zero, List.set_cons_succ]
              refine Pl.takeW rfl rfl ?v65 ?hy65 ?rest65
              case hy65 => intro w_ hS_; subst hS_; first | (go_simp; done) | (go_simp; with_reducible rfl)
              simp only [Act.put, List.setIfInBounds_toArray, List.set_cons_zero, List.set_cons_succ]
              refine Pl.takeW rfl rfl ?v66 ?hy66 ?rest66
              case hy66 => intro w_ _; first | (go_simp; done) | (go_simp; with_reducible rfl)
              simp only [Act.put, List.setIfInBounds_toArray, List.set_cons_zero, List.set_cons_succ]
              refine Pl.takeW rfl rfl ?v67 ?hy67 ?rest67
              case hy67 => intro w_ _; first | (go_simp; done) | (go_simp; with_reducible rfl)
              simp only [Act.put, List.setIfInBounds_toArray, List.set_cons_zero, List.set_cons_succ]
              first
                | (refine Pl.takeW rfl rfl ?v68 ?hy68 ?rest68
                   case hy68 => intro w_ _; first | (go_simp; done) | (go_simp; with_reducible rfl))
                | refine Pl.takeU rfl rfl ?rest68
              simp only [Act.put, List.setIfInBounds_toArray, List.set_cons_zero, List.set_cons_succ]
              first
                | (refine Pl.takeW rfl rfl ?v69 ?hy69 ?rest69
                   case hy69 => intro w_ hS_; subst hS_; first | (go_simp; done) | (go_simp; with_reducible rfl))
                | refine Pl.takeU rfl rfl ?rest69
              simp only [Act.put, List.setIfInBounds_toArray, List.set_cons_zero, List.set_cons_succ]
              first
                | (refine Pl.takeW rfl rfl ?v70 ?hy70 ?rest70
                   case hy70 => intro w_ _; first | (go_simp; done) | (go_simp; with_reducible rfl))
                | refine Pl.takeU rfl rfl ?rest70
              simp only [Act.put, List.setIfInBounds_toArray, List.set_cons_zero, List.set_cons_succ]
              refine Pl.takeW rfl rfl ?v71 ?hy71 ?rest71
              case hy71 => intro w_ _; first | (go_simp; done) | (go_simp; with_reducible rfl)
              simp only [Act.put, List.setIfInBounds_toArray, List.set_cons_zero, List.set_cons_succ]
              refine Pl.takeW rfl rfl ?v72 ?hy72 ?rest72
              case hy72 => intro w_ _; first | (go_simp; done) | (go_simp; with_reducible rfl)
              simp only [Act.put, List.setIfInBounds_toArray, List.set_cons_zero, List.set_cons_succ]
              show wpList _ _ _ _ _ _
              simp only [List.drop_succ_cons, List.drop_zero]
              go_wp2_with fail
              go_loopw [79] (fun i wr => LinksRel X k [] (linksGo k seen []) m L S3 i wr) (fun i _ => 0)
              case atStart => exact ⟨0, seen, S3, Nat.zero_le _, rfl, Seal.le.refl _, HX3.out, rfl⟩
              case round =>
                obtain ⟨j, seen2, S4, hj, rfl, hS4, hX4, hr4⟩ := hrel
                have HX4 := hid hX4
                have HS4 := hid (HK3.out.trans hS4)
                have hj' : j = 0 := by simpa using hj
                subst hj'
                rw [List.drop_nil] at hr4
                have hr4 : some seen2 = some seen := hr4
                have hy : mayGo seen2 (k + 1) (rd.drop (k + 1)) = mayB rd := by cases hr4; exact Hyes.out
                have Hy := hid hy
                clear hy hr4 hX4 hS4
                go_wp2_with fail
                go_roundw
                case rel => exact ⟨k + 1, seen2, S4, by omega, by go_num, HS4.out, HX4.out, Hy.out⟩
                case measure => simp [intOf]; omega
            by_cases hn1 : n = 1
            ·
              subst hn1
              rw [if_pos (⟨hat0, .inr rfl, .inr (.inl ⟨rfl, rfl, .inr rfl⟩)⟩)] at hr
              have Hyes := hid hr
              clear hr
              go_wp2_with fail
              refine wp_plan 12 (.take 0 (.take 1 (.take 2 (.take 3 (.take 4 (.take 5 (.take 6 (.take 7 (.take 8 (.take 9 (.take 10 (.take 11 .fin)))))))))))) (fun w_ => w_ = _) (by kernel_rfl) (by kernel_rfl) (fun _ _ d_ _ _ h_ => by cases d_ <;> exact h_) rfl ?_
              refine Pl.takeW rfl rfl ?v73 ?hy73 ?rest73
              case hy73 => intro w_ _; first | (go_simp; done) | (go_simp; with_reducible rfl)
              simp only [Act.put, List.setIfInBounds_toArray, List.set_cons_zero, List.set_cons_succ]
              refine Pl.takeW rfl rfl ?v74 ?hy74 ?rest74
              case hy74 => intro w_ hS_; subst hS_; first | (go_simp; done) | (go_simp; with_reducible rfl)
              simp only [Act.put, List.setIfInBounds_toArray, List.set_cons_zero, List.set_cons_succ]
              refine Pl.takeW rfl rfl ?v75 ?hy75 ?rest75
              case hy75 => intro w_ _; first | (go_simp; done) | (go_simp; with_reducible rfl)
              simp only [Act.put, List.setIfInBounds_toArray, List.set_cons_zero, List.set_cons_succ]
              refine Pl.takeW rfl rfl ?v76 ?hy76 ?rest76
              case hy76 => intro w_ _; first | (go_simp; done) | (go_simp; with_reducible rfl)
              simp only [Act.put, List.setIfInBounds_toArray, List.set_cons_zero, List.set_cons_succ]
              refine Pl.takeW rfl rfl ?v77 ?hy77 ?rest77
              case hy77 => intro w_ hS_; subst hS_; first | (go_simp; done) | (go_simp; with_reducible rfl)
              simp only [Act.put, List.setIfInBounds_toArray, List.set_cons_zero, List.set_cons_succ]
              refine Pl.takeW rfl rfl ?v78 ?hy78 ?rest78
              case hy78 => intro w_ _; first | (go_simp; done) | (go_simp; with_reducible rfl)
              simp only [Act.put, List.setIfInBounds_toArray, List.set_cons_zero, List.set_cons_succ]
              refine Pl.takeW rfl rfl ?v79 ?hy79 ?rest79
              case hy79 => intro w_ _; first | (go_simp; done) | (go_simp; with_reducible rfl)
              simp only [Act.put, List.setIfInBounds_toArray, List.set_cons_zero, List.set_cons_succ]
              first
                | (refine Pl.takeW rfl rfl ?v80 ?hy80 ?rest80
                   case hy80 => intro w_ _; first | (go_simp; done) | (go_simp; with_reducible rfl))
                | refine Pl.takeU rfl rfl ?rest80
              simp only [Act.put, List.setIfInBounds_toArray, List.set_cons_zero, List.set_cons_succ]
              first
                | (refine Pl.takeW rfl rfl ?v81 ?hy81 ?rest81
                   case hy81 => intro w_ hS_; subst hS_; first | (go_simp; done) | (go_simp; with_reducible rfl))
                | refine Pl.takeU rfl rfl ?rest81
              simp only [Act.put, List.setIfInBounds_toArray, List.set_cons_zero, List.set_cons_succ]
              first
                | (refine Pl.takeW rfl rfl ?v82 ?hy82 ?rest82
                   case hy82 => intro w_ _; first | (go_simp; done) | (go_simp; with_reducible rfl))
                | refine Pl.takeU rfl rfl ?rest82
              simp only [Act.put, List.setIfInBounds_toArray, List.set_cons_zero, List.set_cons_succ]
              refine Pl.takeW rfl rfl ?v83 ?hy83 ?rest83
              case hy83 => intro w_ _; first | (go_simp; done) | (go_simp; with_reducible rfl)
              simp only [Act.put, List.setIfInBounds_toArray, List.set_cons_zero, List.set_cons_succ]
              refine Pl.takeW rfl rfl ?v84 ?hy84 ?rest84
              case hy84 => intro w_ _; first | (go_simp; done) | (go_simp; with_reducible rfl)
              simp only [Act.put, List.setIfInBounds_toArray, List.set_cons_zero, List.set_cons_succ]
              show wpList _ _ _ _ _ _
              simp only [List.drop_succ_cons, List.drop_zero]
              go_wp2_with fail
              go_loopw [79] (fun i wr => LinksRel X k [] (linksGo k seen []) m L S3 i wr) (fun i _ => 0)
              case atStart => exact ⟨0, seen, S3, Nat.zero_le _, rfl, Seal.le.refl _, HX3.out, rfl⟩
              case round =>
                obtain ⟨j, seen2, S4, hj, rfl, hS4, hX4, hr4⟩ := hrel
                have HX4 := hid hX4
                have HS4 := hid (HK3.out.trans hS4)
                have hj' : j = 0 := by simpa using hj
                subst hj'
                rw [List.drop_nil] at hr4
                have hr4 : some seen2 = some seen := hr4
                have hy : mayGo seen2 (k + 1) (rd.drop (k + 1)) = mayB rd := by cases hr4; exact Hyes.out
                have Hy := hid hy
                clear hy hr4 hX4 hS4
                go_wp2_with fail
                go_roundw
                case rel => exact ⟨k + 1, seen2, S4, by omega, by go_num, HS4.out, HX4.out, Hy.out⟩
                case measure => simp [intOf]; omega
            ·
              have hmod : ¬ IntKind.u64.wrap n ≤ 1 := by have h1 := Hok.out.1; have h2 := Hok.out.2; have : IntKind.u64.wrap n = n % 18446744073709551616 := rfl; omega
              have hn1 : (n == 0) = false := beq_eq_false_iff_ne.2 hn
              rw [if_neg (by rintro ⟨_, _, h | h | h | h⟩ <;> simp_all)] at hr
              have Hno := hid hr.symm
              clear hr
              go_wp2_with fail
              refine wp_plan 12 (.take 0 (.take 1 (.take 2 (.take 3 (.take 4 (.take 5 (.take 6 (.take 7 (.take 8 (.take 9 (.take 10 (.take 11 .fin)))))))))))) (fun w_ => w_ = _) (by kernel_rfl) (by kernel_rfl) (fun _ _ d_ _ _ h_ => by cases d_ <;> exact h_) rfl ?_
              refine Pl.takeW rfl rfl ?v85 ?hy85 ?rest85
              case hy85 => intro w_ _; first | (go_simp; done) | (go_simp; with_reducible rfl)
              simp only [Act.put, List.setIfInBounds_toArray, List.set_cons_zero, List.set_cons_succ]
              refine Pl.takeW rfl rfl ?v86 ?hy86 ?rest86
              case hy86 => intro w_ hS_; subst hS_; first | (go_simp; done) | (go_simp; with_reducible rfl)
              simp only [Act.put, List.setIfInBounds_toArray, List.set_cons_zero, List.set_cons_succ]
              refine Pl.takeW rfl rfl ?v87 ?hy87 ?rest87
              case hy87 => intro w_ _; first | (go_simp; done) | (go_simp; with_reducible rfl)
              simp only [Act.put, List.setIfInBounds_toArray, List.set_cons_zero, List.set_cons_succ]
              refine Pl.takeW rfl rfl ?v88 ?hy88 ?rest88
              case hy88 => intro w_ _; first | (go_simp; done) | (go_simp; with_reducible rfl)
              simp only [Act.put, List.setIfInBounds_toArray, List.set_cons_zero, List.set_cons_succ]
              refine Pl.takeW rfl rfl ?v89 ?hy89 ?rest89
              case hy89 => intro w_ hS_; subst hS_; first | (go_simp; done) | (go_simp; with_reducible rfl)
              simp only [Act.put, List.setIfInBounds_toArray, List.set_cons_zero, List.set_cons_succ]
              refine Pl.takeW rfl rfl ?v90 ?hy90 ?rest90
              case hy90 => intro w_ _; first | (go_simp; done) | (go_simp; with_reducible rfl)
              simp only [Act.put, List.setIfInBounds_toArray, List.set_cons_zero, List.set_cons_succ]
              refine Pl.takeW rfl rfl ?v91 ?hy91 ?rest91
              case hy91 => intro w_ _; first | (go_simp; done) | (go_simp; with_reducible rfl)
              simp only [Act.put, List.setIfInBounds_toArray, List.set_cons_zero, List.set_cons_succ]
              first
                | (refine Pl.takeW rfl rfl ?v92 ?hy92 ?rest92
                   case hy92 => intro w_ _; first | (go_simp; done) | (go_simp; with_reducible rfl))
                | refine Pl.takeU rfl rfl ?rest92
              simp only [Act.put, List.setIfInBounds_toArray, List.set_cons_zero, List.set_cons_succ]
              first
                | (refine Pl.takeW rfl rfl ?v93 ?hy93 ?rest93
                   case hy93 => intro w_ hS_; subst hS_; first | (go_simp; done) | (go_simp; with_reducible rfl))
                | refine Pl.takeU rfl rfl ?rest93
              simp only [Act.put, List.setIfInBounds_toArray, List.set_cons_zero, List.set_cons_succ]
              first
                | (refine Pl.takeW rfl rfl ?v94 ?hy94 ?rest94
                   case hy94 => intro w_ _; first | (go_simp; done) | (go_simp; with_reducible rfl))
                | refine Pl.takeU rfl rfl ?rest94
              simp only [Act.put, List.setIfInBounds_toArray, List.set_cons_zero, List.set_cons_succ]
              refine Pl.takeW rfl rfl ?v95 ?hy95 ?rest95
              case hy95 => intro w_ _; first | (go_simp; done) | (go_simp; with_reducible rfl)
              simp only [Act.put, List.setIfInBounds_toArray, List.set_cons_zero, List.set_cons_succ]
              refine Pl.takeW rfl rfl ?v96 ?hy96 ?rest96
              case hy96 => intro w_ _; first | (go_simp; done) | (go_simp; with_reducible rfl)
              simp only [Act.put, List.setIfInBounds_toArray, List.set_cons_zero, List.set_cons_succ]
              show wpList _ _ _ _ _ _
              simp only [List.drop_succ_cons, List.drop_zero]
              go_wp2_with fail
              go_ret
              exact Ret.intro (by simp [Act.eval, Hno.out]) HK3.out (X1.dropAtom HX3.out)
          have e2 : (kd == 2) = false := beq_eq_false_iff_ne.2 h2
          by_cases h3 : kd = 3
          · subst h3
            by_cases hn : n = 0
            ·
              subst hn
              rw [if_pos (⟨hat0, .inr rfl, .inr (.inr (.inl ⟨rfl, rfl⟩))⟩)] at hr
              have Hyes := hid hr
              clear hr
              go_wp2_with fail
              refine wp_plan 12 (.take 0 (.take 1 (.take 2 (.take 3 (.take 4 (.take 5 (.take 6 (.take 7 (.take 8 (.take 9 (.take 10 (.take 11 .fin)))))))))))) (fun w_ => w_ = _) (by kernel_rfl) (by kernel_rfl) (fun _ _ d_ _ _ h_ => by cases d_ <;> exact h_) rfl ?_
              refine Pl.takeW rfl rfl ?v97 ?hy97 ?rest97
              case hy97 => intro w_ _; first | (go_simp; done) | (go_simp; with_reducible rfl)
              simp only [Act.put, List.setIfInBounds_toArray, List.set_cons_zero, List.set_cons_succ]
              refine Pl.takeW rfl rfl ?v98 ?hy98 ?rest98
              case hy98 => intro w_ hS_; subst hS_; first | (go_simp; done) | (go_simp; with_reducible rfl)
              simp only [Act.put, List.setIfInBounds_toArray, List.set_cons_zero, List.set_cons_succ]
              refine Pl.takeW rfl rfl ?v99 ?hy99 ?rest99
              case hy99 => intro w_ _; first | (go_simp; done) | (go_simp; with_reducible rfl)
              simp only [Act.put, List.setIfInBounds_toArray, List.set_cons_zero, List.set_cons_succ]
              refine Pl.takeW rfl rfl ?v100 ?hy100 ?rest100
              case hy100 => intro w_ _; first | (go_simp; done) | (go_simp; with_reducible rfl)
              simp only [Act.put, List.setIfInBounds_toArray, List.set_cons_zero, List.set_cons_succ]
              refine Pl.takeW rfl rfl ?v101 ?hy101 ?rest101
              case hy101 => intro w_ hS_; subst hS_; first | (go_simp; done) | (go_simp; with_reducible rfl)
              simp only [Act.put, List.setIfInBounds_toArray, List.set_cons_zero, List.set_cons_succ]
              refine Pl.takeW rfl rfl ?v102 ?hy102 ?rest102
              case hy102 => intro w_ _; first | (go_simp; done) | (go_simp; with_reducible rfl)
              simp only [Act.put, List.setIfInBounds_toArray, List.set_cons_zero, List.set_cons_succ]
              refine Pl.takeW rfl rfl ?v103 ?hy103 ?rest103
              case hy103 => intro w_ _; first | (go_simp; done) | (go_simp; with_reducible rfl)
              simp only [Act.put, List.setIfInBounds_toArray, List.set_cons_zero, List.set_cons_succ]
              first
                | (refine Pl.takeW rfl rfl ?v104 ?hy104 ?rest104
                   case hy104 => intro w_ _; first | (go_simp; done) | (go_simp; with_reducible rfl))
                | refine Pl.takeU rfl rfl ?rest104
              simp only [Act.put, List.setIfInBounds_toArray, List.set_cons_zero, List.set_cons_succ]
              first
                | (refine Pl.takeW rfl rfl ?v105 ?hy105 ?rest105
                   case hy105 => intro w_ hS_; subst hS_; first | (go_simp; done) | (go_simp; with_reducible rfl))
                | refine Pl.takeU rfl rfl ?rest105
              simp only [Act.put, List.setIfInBounds_toArray, List.set_cons_zero, List.set_cons_succ]
              first
                | (refine Pl.takeW rfl rfl ?v106 ?hy106 ?rest106
                   case hy106 => intro w_ _; first | (go_simp; done) | (go_simp; with_reducible rfl))
                | refine Pl.takeU rfl rfl ?rest106
              simp only [Act.put, List.setIfInBounds_toArray, List.set_cons_zero, List.set_cons_succ]
              refine Pl.takeW rfl rfl ?v107 ?hy107 ?rest107
              case hy107 => intro w_ _; first | (go_simp; done) | (go_simp; with_reducible rfl)
              simp only [Act.put, List.setIfInBounds_toArray, List.set_cons_zero, List.set_cons_succ]
              refine Pl.takeW rfl rfl ?v108 ?hy108 ?rest108
              case hy108 => intro w_ _; first | (go_simp; done) | (go_simp; with_reducible rfl)
              simp only [Act.put, List.setIfInBounds_toArray, List.set_cons_zero, List.set_cons_succ]
              show wpList _ _ _ _ _ _
              simp only [List.drop_succ_cons, List.drop_zero]
              go_wp2_with fail
              go_loopw [79] (fun i wr => LinksRel X k [] (linksGo k seen []) m L S3 i wr) (fun i _ => 0)
              case atStart => exact ⟨0, seen, S3, Nat.zero_le _, rfl, Seal.le.refl _, HX3.out, rfl⟩
              case round =>
                obtain ⟨j, seen2, S4, hj, rfl, hS4, hX4, hr4⟩ := hrel
                have HX4 := hid hX4
                have HS4 := hid (HK3.out.trans hS4)
                have hj' : j = 0 := by simpa using hj
                subst hj'
                rw [List.drop_nil] at hr4
                have hr4 : some seen2 = some seen := hr4
                have hy : mayGo seen2 (k + 1) (rd.drop (k + 1)) = mayB rd := by cases hr4; exact Hyes.out
                have Hy := hid hy
                clear hy hr4 hX4 hS4
                go_wp2_with fail
                go_roundw
                case rel => exact ⟨k + 1, seen2, S4, by omega, by go_num, HS4.out, HX4.out, Hy.out⟩
                case measure => simp [intOf]; omega
            ·
              have hn1 : (n == 0) = false := beq_eq_false_iff_ne.2 hn
              rw [if_neg (by rintro ⟨_, _, h | h | h | h⟩ <;> simp_all)] at hr
              have Hno := hid hr.symm
              clear hr
              go_wp2_with fail
              refine wp_plan 12 (.take 0 (.take 1 (.take 2 (.take 3 (.take 4 (.take 5 (.take 6 (.take 7 (.take 8 (.take 9 (.take 10 (.take 11 .fin)))))))))))) (fun w_ => w_ = _) (by kernel_rfl) (by kernel_rfl) (fun _ _ d_ _ _ h_ => by cases d_ <;> exact h_) rfl ?_
              refine Pl.takeW rfl rfl ?v109 ?hy109 ?rest109
              case hy109 => intro w_ _; first | (go_simp; done) | (go_simp; with_reducible rfl)
              simp only [Act.put, List.setIfInBounds_toArray, List.set_cons_zero, List.set_cons_succ]
              refine Pl.takeW rfl rfl ?v110 ?hy110 ?rest110
              case hy110 => intro w_ hS_; subst hS_; first | (go_simp; done) | (go_simp; with_reducible rfl)
              simp only [Act.put, List.setIfInBounds_toArray, List.set_cons_zero, List.set_cons_succ]
              refine Pl.takeW rfl rfl ?v111 ?hy111 ?rest111
              case hy111 => intro w_ _; first | (go_simp; done) | (go_simp; with_reducible rfl)
              simp only [Act.put, List.setIfInBounds_toArray, List.set_cons_zero, List.set_cons_succ]
              refine Pl.takeW rfl rfl ?v112 ?hy112 ?rest112
              case hy112 => intro w_ _; first | (go_simp; done) | (go_simp; with_reducible rfl)
              simp only [Act.put, List.setIfInBounds_toArray, List.set_cons_zero, List.set_cons_succ]
              refine Pl.takeW rfl rfl ?v113 ?hy113 ?rest113
              case hy113 => intro w_ hS_; subst hS_; first | (go_simp; done) | (go_simp; with_reducible rfl)
              simp only [Act.put, List.setIfInBounds_toArray, List.set_cons_zero, List.set_cons_succ]
              refine Pl.takeW rfl rfl ?v114 ?hy114 ?rest114
              case hy114 => intro w_ _; first | (go_simp; done) | (go_simp; with_reducible rfl)
              simp only [Act.put, List.setIfInBounds_toArray, List.set_cons_zero, List.set_cons_succ]
              refine Pl.takeW rfl rfl ?v115 ?hy115 ?rest115
              case hy115 => intro w_ _; first | (go_simp; done) | (go_simp; with_reducible rfl)
              simp only [Act.put, List.setIfInBounds_toArray, List.set_cons_zero, List.set_cons_succ]
              first
                | (refine Pl.takeW rfl rfl ?v116 ?hy116 ?rest116
                   case hy116 => intro w_ _; first | (go_simp; done) | (go_simp; with_reducible rfl))
                | refine Pl.takeU rfl rfl ?rest116
              simp only [Act.put, List.setIfInBounds_toArray, List.set_cons_zero, List.set_cons_succ]
              first
                | (refine Pl.takeW rfl rfl ?v117 ?hy117 ?rest117
                   case hy117 => intro w_ hS_; subst hS_; first | (go_simp; done) | (go_simp; with_reducible rfl))
                | refine Pl.takeU rfl rfl ?rest117
              simp only [Act.put, List.setIfInBounds_toArray, List.set_cons_zero, List.set_cons_succ]
              first
                | (refine Pl.takeW rfl rfl ?v118 ?hy118 ?rest118
                   case hy118 => intro w_ _; first | (go_simp; done) | (go_simp; with_reducible rfl))
                | refine Pl.takeU rfl rfl ?rest118
              simp only [Act.put, List.setIfInBounds_toArray, List.set_cons_zero, List.set_cons_succ]
              refine Pl.takeW rfl rfl ?v119 ?hy119 ?rest119
              case hy119 => intro w_ _; first | (go_simp; done) | (go_simp; with_reducible rfl)
              simp only [Act.put, List.setIfInBounds_toArray, List.set_cons_zero, List.set_cons_succ]
              refine Pl.takeW rfl rfl ?v120 ?hy120 ?rest120
              case hy120 => intro w_ _; first | (go_simp; done) | (go_simp; with_reducible rfl)
              simp only [Act.put, List.setIfInBounds_toArray, List.set_cons_zero, List.set_cons_succ]
              show wpList _ _ _ _ _ _
              simp only [List.drop_succ_cons, List.drop_zero]
              go_wp2_with fail
              go_ret
              exact Ret.intro (by simp [Act.eval, Hno.out]) HK3.out (X1.dropAtom HX3.out)
          have e3 : (kd == 3) = false := beq_eq_false_iff_ne.2 h3
          ·
            rw [if_neg (by rintro ⟨_, _, h | h | h | h⟩ <;> simp_all)] at hr
            have Hno := hid hr.symm
            clear hr
            go_wp2_with fail
            refine wp_plan 12 (.take 0 (.take 1 (.take 2 (.take 3 (.take 4 (.take 5 (.take 6 (.take 7 (.take 8 (.take 9 (.take 10 (.take 11 .fin)))))))))))) (fun w_ => w_ = _) (by kernel_rfl) (by kernel_rfl) (fun _ _ d_ _ _ h_ => by cases d_ <;> exact h_) rfl ?_
            refine Pl.takeW rfl rfl ?v121 ?hy121 ?rest121
            case hy121 => intro w_ _; first | (go_simp; done) | (go_simp; with_reducible rfl)
            simp only [Act.put, List.setIfInBounds_toArray, List.set_cons_zero, List.set_cons_succ]
            refine Pl.takeW rfl rfl ?v122 ?hy122 ?rest122
            case hy122 => intro w_ hS_; subst hS_; first | (go_simp; done) | (go_simp; with_reducible rfl)
            simp only [Act.put, List.setIfInBounds_toArray, List.set_cons_zero, List.set_cons_succ]
            refine Pl.takeW rfl rfl ?v123 ?hy123 ?rest123
            case hy123 => intro w_ _; first | (go_simp; done) | (go_simp; with_reducible rfl)
            simp only [Act.put, List.setIfInBounds_toArray, List.set_cons_zero, List.set_cons_succ]
            refine Pl.takeW rfl rfl ?v124 ?hy124 ?rest124
            case hy124 => intro w_ _; first | (go_simp; done) | (go_simp; with_reducible rfl)
            simp only [Act.put, List.setIfInBounds_toArray, List.set_cons_zero, List.set_cons_succ]
            refine Pl.takeW rfl rfl ?v125 ?hy125 ?rest125
            case hy125 => intro w_ hS_; subst hS_; first | (go_simp; done) | (go_simp; with_reducible rfl)
            simp only [Act.put, List.setIfInBounds_toArray, List.set_cons_zero, List.set_cons_succ]
            refine Pl.takeW rfl rfl ?v126 ?hy126 ?rest126
            case hy126 => intro w_ _; first | (go_simp; done) | (go_simp; with_reducible rfl)
            simp only [Act.put, List.setIfInBounds_toArray, List.set_cons_zero, List.set_cons_succ]
            refine Pl.takeW rfl rfl ?v127 ?hy127 ?rest127
            case hy127 => intro w_ _; first | (go_simp; done) | (go_simp; with_reducible rfl)
            simp only [Act.put, List.setIfInBounds_toArray, List.set_cons_zero, List.set_cons_succ]
            first
              | (refine Pl.takeW rfl rfl ?v128 ?hy128 ?rest128
                 case hy128 => intro w_ _; first | (go_simp; done) | (go_simp; with_reducible rfl))
              | refine Pl.takeU rfl rfl ?rest128
            simp only [Act.put, List.setIfInBounds_toArray, List.set_cons_zero, List.set_cons_succ]
            first
              | (refine Pl.takeW rfl rfl ?v129 ?hy129 ?rest129
                 case hy129 => intro w_ hS_; subst hS_; first | (go_simp; done) | (go_simp; with_reducible rfl))
              | refine Pl.takeU rfl rfl ?rest129
            simp only [Act.put, List.setIfInBounds_toArray, List.set_cons_zero, List.set_cons_succ]
            first
              | (refine Pl.takeW rfl rfl ?v130 ?hy130 ?rest130
                 case hy130 => intro w_ _; first | (go_simp; done) | (go_simp; with_reducible rfl))
              | refine Pl.takeU rfl rfl ?rest130
            simp only [Act.put, List.setIfInBounds_toArray, List.set_cons_zero, List.set_cons_succ]
            refine Pl.takeW rfl rfl ?v131 ?hy131 ?rest131
            case hy131 => intro w_ _; first | (go_simp; done) | (go_simp; with_reducible rfl)
            simp only [Act.put, List.setIfInBounds_toArray, List.set_cons_zero, List.set_cons_succ]
            refine Pl.takeW rfl rfl ?v132 ?hy132 ?rest132
            case hy132 => intro w_ _; first | (go_simp; done) | (go_simp; with_reducible rfl)
            simp only [Act.put, List.setIfInBounds_toArray, List.set_cons_zero, List.set_cons_succ]
            show wpList _ _ _ _ _ _
            simp only [List.drop_succ_cons, List.drop_zero]
            go_wp2_with fail
            go_ret
            exact Ret.intro (by simp [Act.eval, Hno.out]) HK3.out (X1.dropAtom HX3.out)
      | cons z t =>
        by_cases hat : at_ < 0
        ·
          rw [if_neg (fun h => absurd h.1 (by dsimp only; omega))] at hr
          have Hno := hid hr.symm
          clear hr
          go_wp2_with fail
          refine wp_plan 12 (.take 0 (.take 1 (.take 2 (.take 3 (.take 4 (.take 5 (.take 6 (.take 7 (.take 8 (.take 9 (.take 10 (.take 11 .fin)))))))))))) (fun w_ => w_ = _) (by kernel_rfl) (by kernel_rfl) (fun _ _ d_ _ _ h_ => by cases d_ <;> exact h_) rfl ?_
          refine Pl.takeW rfl rfl ?v133 ?hy133 ?rest133
          case hy133 => intro w_ _; first | (go_simp; done) | (go_simp; with_reducible rfl)
          simp only [Act.put, List.setIfInBounds_toArray, List.set_cons_zero, List.set_cons_succ]
          refine Pl.takeW rfl rfl ?v134 ?hy134 ?rest134
          case hy134 => intro w_ hS_; subst hS_; first | (go_simp; done) | (go_simp; with_reducible rfl)
          simp only [Act.put, List.setIfInBounds_toArray, List.set_cons_zero, List.set_cons_succ]
          refine Pl.takeW rfl rfl ?v135 ?hy135 ?rest135
          case hy135 => intro w_ _; first | (go_simp; done) | (go_simp; with_reducible rfl)
          simp only [Act.put, List.setIfInBounds_toArray, List.set_cons_zero, List.set_cons_succ]
          refine Pl.takeW rfl rfl ?v136 ?hy136 ?rest136
          case hy136 => intro w_ _; first | (go_simp; done) | (go_simp; with_reducible rfl)
          simp only [Act.put, List.setIfInBounds_toArray, List.set_cons_zero, List.set_cons_succ]
          refine Pl.takeW rfl rfl ?v137 ?hy137 ?rest137
          case hy137 => intro w_ hS_; subst hS_; first | (go_simp; done) | (go_simp; with_reducible rfl)
          simp only [Act.put, List.setIfInBounds_toArray, List.set_cons_zero, List.set_cons_succ]
          refine Pl.takeW rfl rfl ?v138 ?hy138 ?rest138
          case hy138 => intro w_ _; first | (go_simp; done) | (go_simp; with_reducible rfl)
          simp only [Act.put, List.setIfInBounds_toArray, List.set_cons_zero, List.set_cons_succ]
          refine Pl.takeW rfl rfl ?v139 ?hy139 ?rest139
          case hy139 => intro w_ _; first | (go_simp; done) | (go_simp; with_reducible rfl)
          simp only [Act.put, List.setIfInBounds_toArray, List.set_cons_zero, List.set_cons_succ]
          first
            | (refine Pl.takeW rfl rfl ?v140 ?hy140 ?rest140
               case hy140 => intro w_ _; first | (go_simp; done) | (go_simp; with_reducible rfl))
            | refine Pl.takeU rfl rfl ?rest140
          simp only [Act.put, List.setIfInBounds_toArray, List.set_cons_zero, List.set_cons_succ]
          first
            | (refine Pl.takeW rfl rfl ?v141 ?hy141 ?rest141
               case hy141 => intro w_ hS_; subst hS_; first | (go_simp; done) | (go_simp; with_reducible rfl))
            | refine Pl.takeU rfl rfl ?rest141
          simp only [Act.put, List.setIfInBounds_toArray, List.set_cons_zero, List.set_cons_succ]
          first
            | (refine Pl.takeW rfl rfl ?v142 ?hy142 ?rest142
               case hy142 => intro w_ _; first | (go_simp; done) | (go_simp; with_reducible rfl))
            | refine Pl.takeU rfl rfl ?rest142
          simp only [Act.put, List.setIfInBounds_toArray, List.set_cons_zero, List.set_cons_succ]
          refine Pl.takeW rfl rfl ?v143 ?hy143 ?rest143
          case hy143 => intro w_ _; first | (go_simp; done) | (go_simp; with_reducible rfl)
          simp only [Act.put, List.setIfInBounds_toArray, List.set_cons_zero, List.set_cons_succ]
          refine Pl.takeW rfl rfl ?v144 ?hy144 ?rest144
          case hy144 => intro w_ _; first | (go_simp; done) | (go_simp; with_reducible rfl)
          simp only [Act.put, List.setIfInBounds_toArray, List.set_cons_zero, List.set_cons_succ]
          show wpList _ _ _ _ _ _
          simp only [List.drop_succ_cons, List.drop_zero]
          go_wp2_with fail
          go_ret
          exact Ret.intro (by simp [Act.eval, Hno.out]) HK3.out (X1.dropAtom HX3.out)
        have hat0 : 0 ≤ at_ := by omega
        by_cases h4 : kd = 4
        · subst h4
          ·
            rw [if_neg (by rintro ⟨_, _, h | h | h | h⟩ <;> simp_all)] at hr
            have Hno := hid hr.symm
            clear hr
            go_wp2_with fail
            refine wp_plan 12 (.take 0 (.take 1 (.take 2 (.take 3 (.take 4 (.take 5 (.take 6 (.take 7 (.take 8 (.take 9 (.take 10 (.take 11 .fin)))))))))))) (fun w_ => w_ = _) (by kernel_rfl) (by kernel_rfl) (fun _ _ d_ _ _ h_ => by cases d_ <;> exact h_) rfl ?_
            refine Pl.takeW rfl rfl ?v145 ?hy145 ?rest145
            case hy145 => intro w_ _; first | (go_simp; done) | (go_simp; with_reducible rfl)
            simp only [Act.put, List.setIfInBounds_toArray, List.set_cons_zero, List.set_cons_succ]
            refine Pl.takeW rfl rfl ?v146 ?hy146 ?rest146
            case hy146 => intro w_ hS_; subst hS_; first | (go_simp; done) | (go_simp; with_reducible rfl)
            simp only [Act.put, List.setIfInBounds_toArray, List.set_cons_zero, List.set_cons_succ]
            refine Pl.takeW rfl rfl ?v147 ?hy147 ?rest147
            case hy147 => intro w_ _; first | (go_simp; done) | (go_simp; with_reducible rfl)
            simp only [Act.put, List.setIfInBounds_toArray, List.set_cons_zero, List.set_cons_succ]
            refine Pl.takeW rfl rfl ?v148 ?hy148 ?rest148
            case hy148 => intro w_ _; first | (go_simp; done) | (go_simp; with_reducible rfl)
            simp only [Act.put, List.setIfInBounds_toArray, List.set_cons_zero, List.set_cons_succ]
            refine Pl.takeW rfl rfl ?v149 ?hy149 ?rest149
            case hy149 => intro w_ hS_; subst hS_; first | (go_simp; done) | (go_simp; with_reducible rfl)
            simp only [Act.put, List.setIfInBounds_toArray, List.set_cons_zero, List.set_cons_succ]
            refine Pl.takeW rfl rfl ?v150 ?hy150 ?rest150
            case hy150 => intro w_ _; first | (go_simp; done) | (go_simp; with_reducible rfl)
            simp only [Act.put, List.setIfInBounds_toArray, List.set_cons_zero, List.set_cons_succ]
            refine Pl.takeW rfl rfl ?v151 ?hy151 ?rest151
            case hy151 => intro w_ _; first | (go_simp; done) | (go_simp; with_reducible rfl)
            simp only [Act.put, List.setIfInBounds_toArray, List.set_cons_zero, List.set_cons_succ]
            first
              | (refine Pl.takeW rfl rfl ?v152 ?hy152 ?rest152
                 case hy152 => intro w_ _; first | (go_simp; done) | (go_simp; with_reducible rfl))
              | refine Pl.takeU rfl rfl ?rest152
            simp only [Act.put, List.setIfInBounds_toArray, List.set_cons_zero, List.set_cons_succ]
            first
              | (refine Pl.takeW rfl rfl ?v153 ?hy153 ?rest153
                 case hy153 => intro w_ hS_; subst hS_; first | (go_simp; done) | (go_simp; with_reducible rfl))
              | refine Pl.takeU rfl rfl ?rest153
            simp only [Act.put, List.setIfInBounds_toArray, List.set_cons_zero, List.set_cons_succ]
            first
              | (refine Pl.takeW rfl rfl ?v154 ?hy154 ?rest154
                 case hy154 => intro w_ _; first | (go_simp; done) | (go_simp; with_reducible rfl))
              | refine Pl.takeU rfl rfl ?rest154
            simp only [Act.put, List.setIfInBounds_toArray, List.set_cons_zero, List.set_cons_succ]
            refine Pl.takeW rfl rfl ?v155 ?hy155 ?rest155
            case hy155 => intro w_ _; first | (go_simp; done) | (go_simp; with_reducible rfl)
            simp only [Act.put, List.setIfInBounds_toArray, List.set_cons_zero, List.set_cons_succ]
            refine Pl.takeW rfl rfl ?v156 ?hy156 ?rest156
            case hy156 => intro w_ _; first | (go_simp; done) | (go_simp; with_reducible rfl)
            simp only [Act.put, List.setIfInBounds_toArray, List.set_cons_zero, List.set_cons_succ]
            show wpList _ _ _ _ _ _
            simp only [List.drop_succ_cons, List.drop_zero]
            go_wp2_with fail
            go_ret
            exact Ret.intro (by simp [Act.eval, Hno.out]) HK3.out (X1.dropAtom HX3.out)
        have e4 : (kd == 4) = false := beq_eq_false_iff_ne.2 h4
        cases l with
        | cons y ys =>
          have hyl : (0 : Int) < ((y :: ys).length : Int) := by rw [List.length_cons]; omega
          ·
            rw [if_neg (by rintro ⟨_, h | h, _⟩ <;> simp_all)] at hr
            have Hno := hid hr.symm
            clear hr
            go_wp2_with fail
            refine wp_plan 12 (.take 0 (.take 1 (.take 2 (.take 3 (.take 4 (.take 5 (.take 6 (.take 7 (.take 8 (.take 9 (.take 10 (.take 11 .fin)))))))))))) (fun w_ => w_ = _) (by kernel_rfl) (by kernel_rfl) (fun _ _ d_ _ _ h_ => by cases d_ <;> exact h_) rfl ?_
            refine Pl.takeW rfl rfl ?v157 ?hy157 ?rest157
            case hy157 => intro w_ _; first | (go_simp; done) | (go_simp; with_reducible rfl)
            simp only [Act.put, List.setIfInBounds_toArray, List.set_cons_zero, List.set_cons_succ]
            refine Pl.takeW rfl rfl ?v158 ?hy158 ?rest158
            case hy158 => intro w_ hS_; subst hS_; first | (go_simp; done) | (go_simp; with_reducible rfl)
            simp only [Act.put, List.setIfInBounds_toArray, List.set_cons_zero, List.set_cons_succ]
            refine Pl.takeW rfl rfl ?v159 ?hy159 ?rest159
            case hy159 => intro w_ _; first | (go_simp; done) | (go_simp; with_reducible rfl)
            simp only [Act.put, List.setIfInBounds_toArray, List.set_cons_zero, List.set_cons_succ]
            refine Pl.takeW rfl rfl ?v160 ?hy160 ?rest160
            case hy160 => intro w_ _; first | (go_simp; done) | (go_simp; with_reducible rfl)
            simp only [Act.put, List.setIfInBounds_toArray, List.set_cons_zero, List.set_cons_succ]
            refine Pl.takeW rfl rfl ?v161 ?hy161 ?rest161
            case hy161 => intro w_ hS_; subst hS_; first | (go_simp; done) | (go_simp; with_reducible rfl)
            simp only [Act.put, List.setIfInBounds_toArray, List.set_cons_zero, List.set_cons_succ]
            refine Pl.takeW rfl rfl ?v162 ?hy162 ?rest162
            case hy162 => intro w_ _; first | (go_simp; done) | (go_simp; with_reducible rfl)
            simp only [Act.put, List.setIfInBounds_toArray, List.set_cons_zero, List.set_cons_succ]
            refine Pl.takeW rfl rfl ?v163 ?hy163 ?rest163
            case hy163 => intro w_ _; first | (go_simp; done) | (go_simp; with_reducible rfl)
            simp only [Act.put, List.setIfInBounds_toArray, List.set_cons_zero, List.set_cons_succ]
            first
              | (refine Pl.takeW rfl rfl ?v164 ?hy164 ?rest164
                 case hy164 => intro w_ _; first | (go_simp; done) | (go_simp; with_reducible rfl))
              | refine Pl.takeU rfl rfl ?rest164
            simp only [Act.put, List.setIfInBounds_toArray, List.set_cons_zero, List.set_cons_succ]
            first
              | (refine Pl.takeW rfl rfl ?v165 ?hy165 ?rest165
                 case hy165 => intro w_ hS_; subst hS_; first | (go_simp; done) | (go_simp; with_reducible rfl))
              | refine Pl.takeU rfl rfl ?rest165
            simp only [Act.put, List.setIfInBounds_toArray, List.set_cons_zero, List.set_cons_succ]
            first
              | (refine Pl.takeW rfl rfl ?v166 ?hy166 ?rest166
                 case hy166 => intro w_ _; first | (go_simp; done) | (go_simp; with_reducible rfl))
              | refine Pl.takeU rfl rfl ?rest166
            simp only [Act.put, List.setIfInBounds_toArray, List.set_cons_zero, List.set_cons_succ]
            refine Pl.takeW rfl rfl ?v167 ?hy167 ?rest167
            case hy167 => intro w_ _; first | (go_simp; done) | (go_simp; with_reducible rfl)
            simp only [Act.put, List.setIfInBounds_toArray, List.set_cons_zero, List.set_cons_succ]
            refine Pl.takeW rfl rfl ?v168 ?hy168 ?rest168
            case hy168 => intro w_ _; first | (go_simp; done) | (go_simp; with_reducible rfl)
            simp only [Act.put, List.setIfInBounds_toArray, List.set_cons_zero, List.set_cons_succ]
            show wpList _ _ _ _ _ _
            simp only [List.drop_succ_cons, List.drop_zero]
            go_wp2_with fail
            go_ret
            exact Ret.intro (by simp [Act.eval, Hno.out]) HK3.out (X1.dropAtom HX3.out)
        | nil =>
          by_cases h1 : kd = 1
          ·
            subst h1
            rw [if_neg (by rintro ⟨_, _, h | h | h | h⟩ <;> simp_all)] at hr
            have Hno := hid hr.symm
            clear hr
            go_wp2_with fail
            refine wp_plan 12 (.take 0 (.take 1 (.take 2 (.take 3 (.take 4 (.take 5 (.take 6 (.take 7 (.take 8 (.take 9 (.take 10 (.take 11 .fin)))))))))))) (fun w_ => w_ = _) (by kernel_rfl) (by kernel_rfl) (fun _ _ d_ _ _ h_ => by cases d_ <;> exact h_) rfl ?_
            refine Pl.takeW rfl rfl ?v169 ?hy169 ?rest169
            case hy169 => intro w_ _; first | (go_simp; done) | (go_simp; with_reducible rfl)
            simp only [Act.put, List.setIfInBounds_toArray, List.set_cons_zero, List.set_cons_succ]
            refine Pl.takeW rfl rfl ?v170 ?hy170 ?rest170
            case hy170 => intro w_ hS_; subst hS_; first | (go_simp; done) | (go_simp; with_reducible rfl)
            simp only [Act.put, List.setIfInBounds_toArray, List.set_cons_zero, List.set_cons_succ]
            refine Pl.takeW rfl rfl ?v171 ?hy171 ?rest171
            case hy171 => intro w_ _; first | (go_simp; done) | (go_simp; with_reducible rfl)
            simp only [Act.put, List.setIfInBounds_toArray, List.set_cons_zero, List.set_cons_succ]
            refine Pl.takeW rfl rfl ?v172 ?hy172 ?rest172
            case hy172 => intro w_ _; first | (go_simp; done) | (go_simp; with_reducible rfl)
            simp only [Act.put, List.setIfInBounds_toArray, List.set_cons_zero, List.set_cons_succ]
            refine Pl.takeW rfl rfl ?v173 ?hy173 ?rest173
            case hy173 => intro w_ hS_; subst hS_; first | (go_simp; done) | (go_simp; with_reducible rfl)
            simp only [Act.put, List.setIfInBounds_toArray, List.set_cons_zero, List.set_cons_succ]
            refine Pl.takeW rfl rfl ?v174 ?hy174 ?rest174
            case hy174 => intro w_ _; first | (go_simp; done) | (go_simp; with_reducible rfl)
            simp only [Act.put, List.setIfInBounds_toArray, List.set_cons_zero, List.set_cons_succ]
            refine Pl.takeW rfl rfl ?v175 ?hy175 ?rest175
            case hy175 => intro w_ _; first | (go_simp; done) | (go_simp; with_reducible rfl)
            simp only [Act.put, List.setIfInBounds_toArray, List.set_cons_zero, List.set_cons_succ]
            first
              | (refine Pl.takeW rfl rfl ?v176 ?hy176 ?rest176
                 case hy176 => intro w_ _; first | (go_simp; done) | (go_simp; with_reducible rfl))
              | refine Pl.takeU rfl rfl ?rest176
            simp only [Act.put, List.setIfInBounds_toArray, List.set_cons_zero, List.set_cons_succ]
            first
              | (refine Pl.takeW rfl rfl ?v177 ?hy177 ?rest177
                 case hy177 => intro w_ hS_; subst hS_; first | (go_simp; done) | (go_simp; with_reducible rfl))
              | refine Pl.takeU rfl rfl ?rest177
            simp only [Act.put, List.setIfInBounds_toArray, List.set_cons_zero, List.set_cons_succ]
            first
              | (refine Pl.takeW rfl rfl ?v178 ?hy178 ?rest178
                 case hy178 => intro w_ _; first | (go_simp; done) | (go_simp; with_reducible rfl))
              | refine Pl.takeU rfl rfl ?rest178
            simp only [Act.put, List.setIfInBounds_toArray, List.set_cons_zero, List.set_cons_succ]
            refine Pl.takeW rfl rfl ?v179 ?hy179 ?rest179
            case hy179 => intro w_ _; first | (go_simp; done) | (go_simp; with_reducible rfl)
            simp only [Act.put, List.setIfInBounds_toArray, List.set_cons_zero, List.set_cons_succ]
            refine Pl.takeW rfl rfl ?v180 ?hy180 ?rest180
            case hy180 => intro w_ _; first | (go_simp; done) | (go_simp; with_reducible rfl)
            simp only [Act.put, List.setIfInBounds_toArray, List.set_cons_zero, List.set_cons_succ]
            show wpList _ _ _ _ _ _
            simp only [List.drop_succ_cons, List.drop_zero]
            go_wp2_with fail
            go_ret
            exact Ret.intro (by simp [Act.eval, Hno.out]) HK3.out (X1.dropAtom HX3.out)
          have e1 : (kd == 1) = false := beq_eq_false_iff_ne.2 h1
          by_cases h2 : kd = 2
          · subst h2
            ·
              rw [if_neg (by rintro ⟨_, _, h | h | h | h⟩ <;> simp_all)] at hr
              have Hno := hid hr.symm
              clear hr
              go_wp2_with fail
              refine wp_plan 12 (.take 0 (.take 1 (.take 2 (.take 3 (.take 4 (.take 5 (.take 6 (.take 7 (.take 8 (.take 9 (.take 10 (.take 11 .fin)))))))))))) (fun w_ => w_ = _) (by kernel_rfl) (by kernel_rfl) (fun _ _ d_ _ _ h_ => by cases d_ <;> exact h_) rfl ?_
              refine Pl.takeW rfl rfl ?v181 ?hy181 ?rest181
              case hy181 => intro w_ _; first | (go_simp; done) | (go_simp; with_reducible rfl)
              simp only [Act.put, List.setIfInBounds_toArray, List.set_cons_zero, List.set_cons_succ]
              refine Pl.takeW rfl rfl ?v182 ?hy182 ?rest182
              case hy182 => intro w_ hS_; subst hS_; first | (go_simp; done) | (go_simp; with_reducible rfl)
              simp only [Act.put, List.setIfInBounds_toArray, List.set_cons_zero, List.set_cons_succ]
              refine Pl.takeW rfl rfl ?v183 ?hy183 ?rest183
              case hy183 => intro w_ _; first | (go_simp; done) | (go_simp; with_reducible rfl)
              simp only [Act.put, List.setIfInBounds_toArray, List.set_cons_zero, List.set_cons_succ]
              refine Pl.takeW rfl rfl ?v184 ?hy184 ?rest184
              case hy184 => intro w_ _; first | (go_simp; done) | (go_simp; with_reducible rfl)
              simp only [Act.put, List.setIfInBounds_toArray, List.set_cons_zero, List.set_cons_succ]
              refine Pl.takeW rfl rfl ?v185 ?hy185 ?rest185
              case hy185 => intro w_ hS_; subst hS_; first | (go_simp; done) | (go_simp; with_reducible rfl)
              simp only [Act.put, List.setIfInBounds_toArray, List.set_cons_zero, List.set_cons_succ]
              refine Pl.takeW rfl rfl ?v186 ?hy186 ?rest186
              case hy186 => intro w_ _; first | (go_simp; done) | (go_simp; with_reducible rfl)
              simp only [Act.put, List.setIfInBounds_toArray, List.set_cons_zero, List.set_cons_succ]
              refine Pl.takeW rfl rfl ?v187 ?hy187 ?rest187
              case hy187 => intro w_ _; first | (go_simp; done) | (go_simp; with_reducible rfl)
              simp only [Act.put, List.setIfInBounds_toArray, List.set_cons_zero, List.set_cons_succ]
              first
                | (refine Pl.takeW rfl rfl ?v188 ?hy188 ?rest188
                   case hy188 => intro w_ _; first | (go_simp; done) | (go_simp; with_reducible rfl))
                | refine Pl.takeU rfl rfl ?rest188
              simp only [Act.put, List.setIfInBounds_toArray, List.set_cons_zero, List.set_cons_succ]
              first
                | (refine Pl.takeW rfl rfl ?v189 ?hy189 ?rest189
                   case hy189 => intro w_ hS_; subst hS_; first | (go_simp; done) | (go_simp; with_reducible rfl))
                | refine Pl.takeU rfl rfl ?rest189
              simp only [Act.put, List.setIfInBounds_toArray, List.set_cons_zero, List.set_cons_succ]
              first
                | (refine Pl.takeW rfl rfl ?v190 ?hy190 ?rest190
                   case hy190 => intro w_ _; first | (go_simp; done) | (go_simp; with_reducible rfl))
                | refine Pl.takeU rfl rfl ?rest190
              simp only [Act.put, List.setIfInBounds_toArray, List.set_cons_zero, List.set_cons_succ]
              refine Pl.takeW rfl rfl ?v191 ?hy191 ?rest191
              case hy191 => intro w_ _; first | (go_simp; done) | (go_simp; with_reducible rfl)
              simp only [Act.put, List.setIfInBounds_toArray, List.set_cons_zero, List.set_cons_succ]
              refine Pl.takeW rfl rfl ?v192 ?hy192 ?rest192
              case hy192 => intro w_ _; first | (go_simp; done) | (go_simp; with_reducible rfl)
              simp only [Act.put, List.setIfInBounds_toArray, List.set_cons_zero, List.set_cons_succ]
              show wpList _ _ _ _ _ _
              simp only [List.drop_succ_cons, List.drop_zero]
              go_wp2_with fail
              go_ret
              exact Ret.intro (by simp [Act.eval, Hno.out]) HK3.out (X1.dropAtom HX3.out)
          have e2 : (kd == 2) = false := beq_eq_false_iff_ne.2 h2
          by_cases h3 : kd = 3
          · subst h3
            by_cases hn : n = 0
            ·
              subst hn
              rw [if_pos (⟨hat0, .inr rfl, .inr (.inr (.inl ⟨rfl, rfl⟩))⟩)] at hr
              have Hyes := hid hr
              clear hr
              go_wp2_with fail
              refine wp_plan 12 (.take 0 (.take 1 (.take 2 (.take 3 (.take 4 (.take 5 (.take 6 (.take 7 (.take 8 (.take 9 (.take 10 (.take 11 .fin)))))))))))) (fun w_ => w_ = _) (by kernel_rfl) (by kernel_rfl) (fun _ _ d_ _ _ h_ => by cases d_ <;> exact h_) rfl ?_
              refine Pl.takeW rfl rfl ?v193 ?hy193 ?rest193
              case hy193 => intro w_ _; first | (go_simp; done) | (go_simp; with_reducible rfl)
              simp only [Act.put, List.setIfInBounds_toArray, List.set_cons_zero, List.set_cons_succ]
              refine Pl.takeW rfl rfl ?v194 ?hy194 ?rest194
              case hy194 => intro w_ hS_; subst hS_; first | (go_simp; done) | (go_simp; with_reducible rfl)
              simp only [Act.put, List.setIfInBounds_toArray, List.set_cons_zero, List.set_cons_succ]
              refine Pl.takeW rfl rfl ?v195 ?hy195 ?rest195
              case hy195 => intro w_ _; first | (go_simp; done) | (go_simp; with_reducible rfl)
              simp only [Act.put, List.setIfInBounds_toArray, List.set_cons_zero, List.set_cons_succ]
              refine Pl.takeW rfl rfl ?v196 ?hy196 ?rest196
              case hy196 => intro w_ _; first | (go_simp; done) | (go_simp; with_reducible rfl)
              simp only [Act.put, List.setIfInBounds_toArray, List.set_cons_zero, List.set_cons_succ]
              refine Pl.takeW rfl rfl ?v197 ?hy197 ?rest197
              case hy197 => intro w_ hS_; subst hS_; first | (go_simp; done) | (go_simp; with_reducible rfl)
              simp only [Act.put, List.setIfInBounds_toArray, List.set_cons_zero, List.set_cons_succ]
              refine Pl.takeW rfl rfl ?v198 ?hy198 ?rest198
              case hy198 => intro w_ _; first | (go_simp; done) | (go_simp; with_reducible rfl)
              simp only [Act.put, List.setIfInBounds_toArray, List.set_cons_zero, List.set_cons_succ]
              refine Pl.takeW rfl rfl ?v199 ?hy199 ?rest199
              case hy199 => intro w_ _; first | (go_simp; done) | (go_simp; with_reducible rfl)
              simp only [Act.put, List.setIfInBounds_toArray, List.set_cons_zero, List.set_cons_succ]
              first
                | (refine Pl.takeW rfl rfl ?v200 ?hy200 ?rest200
                   case hy200 => intro w_ _; first | (go_simp; done) | (go_simp; with_reducible rfl))
                | refine Pl.takeU rfl rfl ?rest200
              simp only [Act.put, List.setIfInBounds_toArray, List.set_cons_zero, List.set_cons_succ]
              first
                | (refine Pl.takeW rfl rfl ?v201 ?hy201 ?rest201
                   case hy201 => intro w_ hS_; subst hS_; first | (go_simp; done) | (go_simp; with_reducible rfl))
                | refine Pl.takeU rfl rfl ?rest201
              simp only [Act.put, List.setIfInBounds_toArray, List.set_cons_zero, List.set_cons_succ]
              first
                | (refine Pl.takeW rfl rfl ?v202 ?hy202 ?rest202
                   case hy202 => intro w_ _; first | (go_simp; done) | (go_simp; with_reducible rfl))
                | refine Pl.takeU rfl rfl ?rest202
              simp only [Act.put, List.setIfInBounds_toArray, List.set_cons_zero, List.set_cons_succ]
              refine Pl.takeW rfl rfl ?v203 ?hy203 ?rest203
              case hy203 => intro w_ _; first | (go_simp; done) | (go_simp; with_reducible rfl)
              simp only [Act.put, List.setIfInBounds_toArray, List.set_cons_zero, List.set_cons_succ]
              refine Pl.takeW rfl rfl ?v204 ?hy204 ?rest204
              case hy204 => intro w_ _; first | (go_simp; done) | (go_simp; with_reducible rfl)
              simp only [Act.put, List.setIfInBounds_toArray, List.set_cons_zero, List.set_cons_succ]
              show wpList _ _ _ _ _ _
              simp only [List.drop_succ_cons, List.drop_zero]
              go_wp2_with fail
              go_loopw [79] (fun i wr => LinksRel X k [] (linksGo k seen []) m L S3 i wr) (fun i _ => 0)
              case atStart => exact ⟨0, seen, S3, Nat.zero_le _, rfl, Seal.le.refl _, HX3.out, rfl⟩
              case round =>
                obtain ⟨j, seen2, S4, hj, rfl, hS4, hX4, hr4⟩ := hrel
                have HX4 := hid hX4
                have HS4 := hid (HK3.out.trans hS4)
                have hj' : j = 0 := by simpa using hj
                subst hj'
                rw [List.drop_nil] at hr4
                have hr4 : some seen2 = some seen := hr4
                have hy : mayGo seen2 (k + 1) (rd.drop (k + 1)) = mayB rd := by cases hr4; exact Hyes.out
                have Hy := hid hy
                clear hy hr4 hX4 hS4
                go_wp2_with fail
                go_roundw
                case rel => exact ⟨k + 1, seen2, S4, by omega, by go_num, HS4.out, HX4.out, Hy.out⟩
                case measure => simp [intOf]; omega
            ·
              have hn1 : (n == 0) = false := beq_eq_false_iff_ne.2 hn
              rw [if_neg (by rintro ⟨_, _, h | h | h | h⟩ <;> simp_all)] at hr
              have Hno := hid hr.symm
              clear hr
              go_wp2_with fail
              refine wp_plan 12 (.take 0 (.take 1 (.take 2 (.take 3 (.take 4 (.take 5 (.take 6 (.take 7 (.take 8 (.take 9 (.take 10 (.take 11 .fin)))))))))))) (fun w_ => w_ = _) (by kernel_rfl) (by kernel_rfl) (fun _ _ d_ _ _ h_ => by cases d_ <;> exact h_) rfl ?_
              refine Pl.takeW rfl rfl ?v205 ?hy205 ?rest205
              case hy205 => intro w_ _; first | (go_simp; done) | (go_simp; with_reducible rfl)
              simp only [Act.put, List.setIfInBounds_toArray, List.set_cons_zero, List.set_cons_succ]
              refine Pl.takeW rfl rfl ?v206 ?hy206 ?rest206
              case hy206 => intro w_ hS_; subst hS_; first | (go_simp; done) | (go_simp; with_reducible rfl)
              simp only [Act.put, List.setIfInBounds_toArray, List.set_cons_zero, List.set_cons_succ]
              refine Pl.takeW rfl rfl ?v207 ?hy207 ?rest207
              case hy207 => intro w_ _; first | (go_simp; done) | (go_simp; with_reducible rfl)
              simp only [Act.put, List.setIfInBounds_toArray, List.set_cons_zero, List.set_cons_succ]
              refine Pl.takeW rfl rfl ?v208 ?hy208 ?rest208
              case hy208 => intro w_ _; first | (go_simp; done) | (go_simp; with_reducible rfl)
              simp only [Act.put, List.setIfInBounds_toArray, List.set_cons_zero, List.set_cons_succ]
              refine Pl.takeW rfl rfl ?v209 ?hy209 ?rest209
              case hy209 => intro w_ hS_; subst hS_; first | (go_simp; done) | (go_simp; with_reducible rfl)
              simp only [Act.put, List.setIfInBounds_toArray, List.set_cons_zero, List.set_cons_succ]
              refine Pl.takeW rfl rfl ?v210 ?hy210 ?rest210
              case hy210 => intro w_ _; first | (go_simp; done) | (go_simp; with_reducible rfl)
              simp only [Act.put, List.setIfInBounds_toArray, List.set_cons_zero, List.set_cons_succ]
              refine Pl.takeW rfl rfl ?v211 ?hy211 ?rest211
              case hy211 => intro w_ _; first | (go_simp; done) | (go_simp; with_reducible rfl)
              simp only [Act.put, List.setIfInBounds_toArray, List.set_cons_zero, List.set_cons_succ]
              first
                | (refine Pl.takeW rfl rfl ?v212 ?hy212 ?rest212
                   case hy212 => intro w_ _; first | (go_simp; done) | (go_simp; with_reducible rfl))
                | refine Pl.takeU rfl rfl ?rest212
              simp only [Act.put, List.setIfInBounds_toArray, List.set_cons_zero, List.set_cons_succ]
              first
                | (refine Pl.takeW rfl rfl ?v213 ?hy213 ?rest213
                   case hy213 => intro w_ hS_; subst hS_; first | (go_simp; done) | (go_simp; with_reducible rfl))
                | refine Pl.takeU rfl rfl ?rest213
              simp only [Act.put, List.setIfInBounds_toArray, List.set_cons_zero, List.set_cons_succ]
              first
                | (refine Pl.takeW rfl rfl ?v214 ?hy214 ?rest214
                   case hy214 => intro w_ _; first | (go_simp; done) | (go_simp; with_reducible rfl))
                | refine Pl.takeU rfl rfl ?rest214
              simp only [Act.put, List.setIfInBounds_toArray, List.set_cons_zero, List.set_cons_succ]
              refine Pl.takeW rfl rfl ?v215 ?hy215 ?rest215
              case hy215 => intro w_ _; first | (go_simp; done) | (go_simp; with_reducible rfl)
              simp only [Act.put, List.setIfInBounds_toArray, List.set_cons_zero, List.set_cons_succ]
              refine Pl.takeW rfl rfl ?v216 ?hy216 ?rest216
              case hy216 => intro w_ _; first | (go_simp; done) | (go_simp; with_reducible rfl)
              simp only [Act.put, List.setIfInBounds_toArray, List.set_cons_zero, List.set_cons_succ]
              show wpList _ _ _ _ _ _
              simp only [List.drop_succ_cons, List.drop_zero]
              go_wp2_with fail
              go_ret
              exact Ret.intro (by simp [Act.eval, Hno.out]) HK3.out (X1.dropAtom HX3.out)
          have e3 : (kd == 3) = false := beq_eq_false_iff_ne.2 h3
          ·
            rw [if_neg (by rintro ⟨_, _, h | h | h | h⟩ <;> simp_all)] at hr
            have Hno := hid hr.symm
            clear hr
            go_wp2_with fail
            refine wp_plan 12 (.take 0 (.take 1 (.take 2 (.take 3 (.take 4 (.take 5 (.take 6 (.take 7 (.take 8 (.take 9 (.take 10 (.take 11 .fin)))))))))))) (fun w_ => w_ = _) (by kernel_rfl) (by kernel_rfl) (fun _ _ d_ _ _ h_ => by cases d_ <;> exact h_) rfl ?_
            refine Pl.takeW rfl rfl ?v217 ?hy217 ?rest217
            case hy217 => intro w_ _; first | (go_simp; done) | (go_simp; with_reducible rfl)
            simp only [Act.put, List.setIfInBounds_toArray, List.set_cons_zero, List.set_cons_succ]
            refine Pl.takeW rfl rfl ?v218 ?hy218 ?rest218
            case hy218 => intro w_ hS_; subst hS_; first | (go_simp; done) | (go_simp; with_reducible rfl)
            simp only [Act.put, List.setIfInBounds_toArray, List.set_cons_zero, List.set_cons_succ]
            refine Pl.takeW rfl rfl ?v219 ?hy219 ?rest219
            case hy219 => intro w_ _; first | (go_simp; done) | (go_simp; with_reducible rfl)
            simp only [Act.put, List.setIfInBounds_toArray, List.set_cons_zero, List.set_cons_succ]
            refine Pl.takeW rfl rfl ?v220 ?hy220 ?rest220
            case hy220 => intro w_ _; first | (go_simp; done) | (go_simp; with_reducible rfl)
            simp only [Act.put, List.setIfInBounds_toArray, List.set_cons_zero, List.set_cons_succ]
            refine Pl.takeW rfl rfl ?v221 ?hy221 ?rest221
            case hy221 => intro w_ hS_; subst hS_; first | (go_simp; done) | (go_simp; with_reducible rfl)
            simp only [Act.put, List.setIfInBounds_toArray, List.set_cons_zero, List.set_cons_succ]
            refine Pl.takeW rfl rfl ?v222 ?hy222 ?rest222
            case hy222 => intro w_ _; first | (go_simp; done) | (go_simp; with_reducible rfl)
            simp only [Act.put, List.setIfInBounds_toArray, List.set_cons_zero, List.set_cons_succ]
            refine Pl.takeW rfl rfl ?v223 ?hy223 ?rest223
            case hy223 => intro w_ _; first | (go_simp; done) | (go_simp; with_reducible rfl)
            simp only [Act.put, List.setIfInBounds_toArray, List.set_cons_zero, List.set_cons_succ]
            first
              | (refine Pl.takeW rfl rfl ?v224 ?hy224 ?rest224
                 case hy224 => intro w_ _; first | (go_simp; done) | (go_simp; with_reducible rfl))
              | refine Pl.takeU rfl rfl ?rest224
            simp only [Act.put, List.setIfInBounds_toArray, List.set_cons_zero, List.set_cons_succ]
            first
              | (refine Pl.takeW rfl rfl ?v225 ?hy225 ?rest225
                 case hy225 => intro w_ hS_; subst hS_; first | (go_simp; done) | (go_simp; with_reducible rfl))
              | refine Pl.takeU rfl rfl ?rest225
            simp only [Act.put, List.setIfInBounds_toArray, List.set_cons_zero, List.set_cons_succ]
            first
              | (refine Pl.takeW rfl rfl ?v226 ?hy226 ?rest226
                 case hy226 => intro w_ _; first | (go_simp; done) | (go_simp; with_reducible rfl))
              | refine Pl.takeU rfl rfl ?rest226
            simp only [Act.put, List.setIfInBounds_toArray, List.set_cons_zero, List.set_cons_succ]
            refine Pl.takeW rfl rfl ?v227 ?hy227 ?rest227
            case hy227 => intro w_ _; first | (go_simp; done) | (go_simp; with_reducible rfl)
            simp only [Act.put, List.setIfInBounds_toArray, List.set_cons_zero, List.set_cons_succ]
            refine Pl.takeW rfl rfl ?v228 ?hy228 ?rest228
            case hy228 => intro w_ _; first | (go_simp; done) | (go_simp; with_reducible rfl)
            simp only [Act.put, List.setIfInBounds_toArray, List.set_cons_zero, List.set_cons_succ]
            show wpList _ _ _ _ _ _
            simp only [List.drop_succ_cons, List.drop_zero]
            go_wp2_with fail
            go_ret
            exact Ret.intro (by simp [Act.eval, Hno.out]) HK3.out (X1.dropAtom HX3.out)
    · have hk' : k = rd.length := by omega
      rw [hk', List.drop_length, mayGo] at hr
      have Hr := hid hr
      have HX1 := hid hX1
      have HS1 := hid hS1
      clear hr hX1 hS1
      go_wp2_with fail
      go_ret
      exact Ret.intro (by simp [Act.eval, ← Hr.out]) HS1.out (X1.dropAtom HX1.out)
end Go.Proofs.Ytjjbidajkmodfaa
