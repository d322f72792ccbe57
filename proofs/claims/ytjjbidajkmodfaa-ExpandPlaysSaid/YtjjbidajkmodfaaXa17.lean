/- Texts R2, R3, R4, R5, R6, R7, R8, R9, R10 of the proof. What each theorem says stands in its own statement. No condition beyond those that it names. -/
import Derived.Test.YtjjbidajkmodfaaXa2
import Derived.Test.YtjjbidajkmodfaaXa4
import Derived.Test.YtjjbidajkmodfaaXa7
import Derived.Test.YtjjbidajkmodfaaXa12
set_option linter.unusedVariables false
set_option linter.unusedSimpArgs false
namespace Go.Proofs.Ytjjbidajkmodfaa
open Go Go.RowKit
def ResRel (X : List Atom → Seal → World → Prop) (s : Str) (L : List Atom) (S : Seal) (i : Value) (wr : World) : Prop :=
  ∃ k : Nat, k ≤ reservedL.length ∧ i = nat k ∧ X L S wr ∧ (reservedL.drop k).contains s = res s
set_option maxRecDepth 100000 in
set_option maxHeartbeats 2000000 in
theorem R_reserved {X : List Atom → Seal → World → Prop} (X1 : Xs X) (L : List Atom) (S : Seal) (w : World) (s : Str) (hX : X L S w) :
    Calls Try.prog 16 #[str s] w (Ret S (X L) (.bool (res s))) := by
  obtain ⟨S1, k1, hX1, s1⟩ := X1.box hX (reservedL.map str).toArray 9
  have Hs := hid (fun (j : Nat) (u : Str) (h : reservedL[j]? = some u) => s1 j (str u) (by simp [h]))
  have HX1 := hid hX1
  have HK := hid k1
  clear hX hX1 s1 k1
  go_enter Try.func16, Try.ntmps16
  go_wp2_with fail
  go_loopw [4] (fun i wr => ResRel X s L S1 i wr) (fun i _ => 14 - (intOf i).toNat)
  case atStart => exact ⟨0, Nat.zero_le _, rfl, HX1.out, rfl⟩
  case round =>
    obtain ⟨k, hk, rfl, hX2, hr⟩ := hrel
    have hk14 : k ≤ 14 := hk
    by_cases hlt : k < 14
    · have hlt' : k < reservedL.length := hlt
      have f1 := X1.cell hX2 (Hs.out k _ (List.getElem?_eq_some_iff.2 ⟨hlt', rfl⟩))
      have hd : reservedL.drop k = reservedL[k] :: reservedL.drop (k + 1) := List.drop_eq_getElem_cons hlt'
      rw [hd] at hr
      have hkI : (k : Int) < 14 := by omega
      generalize reservedL[k] = x at *
      have HX2 := hid hX2
      clear hX2 hd hk
      by_cases hx : x = s
      · subst hx
        have hb : (x == x) = true := by simp
        have Hr := hid (show true = res x by rw [← hr]; simp)
        clear hr
        go_wp2_with fail
        go_ret
        exact Ret.intro (by simp [Act.eval, ← Hr.out]) HK.out HX2.out
      · have hb : (x == s) = false := by simpa using hx
        have Hr := hid (show (reservedL.drop (k + 1)).contains s = res s by rw [← hr, List.contains_cons]; simp [Ne.symm hx])
        clear hr hx
        go_wp2_with fail
        go_roundw
        case rel => exact ⟨k + 1, hlt', by go_num, HX2.out, Hr.out⟩
        case measure => simp [intOf]; omega
    · have hk' : k = 14 := by omega
      subst hk'
      have Hr := hid (show false = res s by rw [← hr]; rfl)
      have HX2 := hid hX2
      clear hr hX2 hk
      go_wp2_with fail
      go_ret
      exact Ret.intro (by simp [Act.eval, ← Hr.out]) HK.out HX2.out
section
variable (p b off c : Nat) (d : List Node) (st : St) (L : List Atom) (S : Seal) (w : World)
set_option maxRecDepth 100000 in
set_option maxHeartbeats 2000000 in
theorem R_name (i : Nat) (hX : RX p (dval b off c d) st L S w) (hE : Env S b off c d) (hi : i < d.length) :
    Calls Try.prog 59 #[ptr p, nat i] w (Ret S (RX p (dval b off c d) st L) (str (nameOf d i))) := by
  have X := RX.xs p (dval b off c d) st
  obtain ⟨lv, hN⟩ := hE.at_ i hi
  have hlen := Dat.len hE
  obtain ⟨A1, cc, hlv, _, _⟩ := Sl.shape hN.l
  subst hlv
  have hiI : (i : Int) < (d.length : Int) := by omega
  have x0 := hX.d0
  have c0 := X.cell hX hN.c0
  have c1 := X.cell hX hN.c1
  have c2 := X.cell hX hN.c2
  have c3 := X.cell hX hN.c3
  have c4 := X.cell hX hN.c4
  obtain ⟨S1, k1, hX1, s1⟩ := X.box hX #[.int .u8 (nd d i).kind, .int .i64 (nd d i).at_, .int .i64 (nd d i).n, str (nd d i).s, .slice A1 (nd d i).l.length cc] 60
  have Hne := hid (show nameOf d i = if (nd d i).kind = 3 ∧ res (nd d i).s = false then (nd d i).s else [] from rfl)
  have Hd3 := hid (s1 3 _ rfl)
  have HK := hid k1
  have Hr := hid (R_reserved X L S1 _ (nd d i).s hX1)
  have HX1 := hid hX1
  clear hX hE hN hX1 s1 k1
  generalize nd d i = x at *
  obtain ⟨kd, at_, nn, s, l⟩ := x
  dsimp only at *
  by_cases hk : kd = 3
  · subst hk
    cases hs : res s with
    | true =>
      rw [hs] at Hr
      have Hn := hid (show nameOf d i = [] by rw [Hne.out, if_neg (by rintro ⟨_, h⟩; rw [hs] at h; cases h)])
      clear hs
      go_enter Try.func59, Try.ntmps59
      go_wp2_with fail
      refine (Hr.out).mono ?_
      rintro e w2 ⟨rfl, S2, k2, hX2⟩
      go_wp2_with fail
      go_ret
      exact Ret.intro (by simp [Act.eval, Hn.out]) (HK.out.trans k2) hX2
    | false =>
      rw [hs] at Hr
      have Hn := hid (show nameOf d i = s by rw [Hne.out, if_pos ⟨rfl, hs⟩])
      clear hs
      go_enter Try.func59, Try.ntmps59
      go_wp2_with fail
      refine (Hr.out).mono ?_
      rintro e w2 ⟨rfl, S2, k2, hX2⟩
      have g3 := X.cell hX2 (Hd3.out.mono k2)
      go_wp2_with fail
      go_ret
      exact Ret.intro (by simp [Act.eval, Hn.out]) (HK.out.trans k2) hX2
  · have hq : (kd != 3) = true := by simpa using hk
    have Hn := hid (show nameOf d i = [] by rw [Hne.out, if_neg (fun h => hk h.1)])
    clear hk
    go_enter Try.func59, Try.ntmps59
    go_wp2_with fail
    go_ret
    exact Ret.intro (by simp [Act.eval, Hn.out]) HK.out HX1.out
set_option maxRecDepth 100000 in
set_option maxHeartbeats 2000000 in
theorem R_list (i : Nat) (n : Int) (hX : RX p (dval b off c d) st L S w) (hE : Env S b off c d) (hi : i < d.length) :
    Calls Try.prog 93 #[ptr p, nat i, int n] w fun e w' => e = .returned (.bool (decide ((nd d i).kind = 4 ∧ n ≤ ((nd d i).l.length : Int)))) ∧ w' = w := by
  have X := RX.xs p (dval b off c d) st
  obtain ⟨lv, hN⟩ := hE.at_ i hi
  have hlen := Dat.len hE
  obtain ⟨A1, cc, hlv, _, _⟩ := Sl.shape hN.l
  subst hlv
  have hiI : (i : Int) < (d.length : Int) := by omega
  have x0 := hX.d0
  have c0 := X.cell hX hN.c0
  have c4 := X.cell hX hN.c4
  clear hX hE hN
  by_cases hk : (nd d i).kind = 4
  · rw [hk] at c0
    by_cases hn : n ≤ ((nd d i).l.length : Int)
    · rw [decide_eq_true (⟨hk, hn⟩ : (nd d i).kind = 4 ∧ n ≤ ((nd d i).l.length : Int))]
      clear hk
      go_enter Try.func93, Try.ntmps93
      go_wp2_with fail
      go_ret
      exact ⟨rfl, rfl⟩
    · rw [decide_eq_false (fun h => hn h.2 : ¬ ((nd d i).kind = 4 ∧ n ≤ ((nd d i).l.length : Int)))]
      clear hk
      go_enter Try.func93, Try.ntmps93
      go_wp2_with fail
      go_ret
      exact ⟨rfl, rfl⟩
  · rw [decide_eq_false (fun h => hk h.1 : ¬ ((nd d i).kind = 4 ∧ n ≤ ((nd d i).l.length : Int)))]
    have hq : ((nd d i).kind == 4) = false := by simpa using hk
    clear hk
    go_enter Try.func93, Try.ntmps93
    go_wp2_with fail
    go_ret
    exact ⟨rfl, rfl⟩
end
end Go.Proofs.Ytjjbidajkmodfaa
namespace Go.Proofs.Ytjjbidajkmodfaa
open Go Go.RowKit
def RNamesRel (X : List Atom → Seal → World → Prop) (d : List Node) (e : Nat) (l : List Nat) (r : Option (List Str)) (L : List Atom) (S : Seal) (v i : Value) (wr : World) : Prop :=
  ∃ k o S1, k ≤ l.length ∧ i = nat k ∧ S.le S1 ∧ X (.row e 1 v o.length (o.map str) :: L) S1 wr ∧ namesGo d o (l.drop k) = r ∧ o.length = k ∧ k ≤ 100
def HasRel (X : List Atom → Seal → World → Prop) (o : List Str) (s : Str) (L : List Atom) (S : Seal) (i : Value) (wr : World) : Prop :=
  ∃ j, j ≤ o.length ∧ i = nat j ∧ X L S wr ∧ (o.drop j).contains s = o.contains s
section
variable (p b off c : Nat) (d : List Node) (st : St) (L : List Atom) (S : Seal) (w : World)
set_option maxRecDepth 100000 in
set_option maxHeartbeats 4000000 in
theorem R_names (lv : Value) (l : List Nat) (hX : RX p (dval b off c d) st L S w) (hE : Env S b off c d) (hl : NatsR S lv l) (hin : ∀ j ∈ l, j < d.length) :
    Calls Try.prog 94 #[ptr p, lv] w (NamesRet S (RX p (dval b off c d) st L) (names d l)) := by
  have X := RX.xs p (dval b off c d) st
  obtain ⟨A, cc, rfl, _, _⟩ := Sl.shape hl
  have hlen := hl.len
  have HX := hid (Xs.rowNil X hX 9 1)
  have HE := hid hE
  have Hl := hid hl
  have Hin := hid hin
  clear hX hE hl hin
  go_enter Try.func94, Try.ntmps94
  go_wp2_with fail
  go_loopw [6, 7] (fun v i wr => RNamesRel (RX p (dval b off c d) st) d 9 l (names d l) L S v i wr) (fun _ i _ => l.length - (intOf i).toNat)
  case atStart => exact ⟨0, [], S, Nat.zero_le _, rfl, Seal.le.refl S, HX.out, rfl, rfl, by omega⟩
  case round =>
    obtain ⟨k, o, S2, hk, rfl, hS2, hX2, hr2, ho, hk100⟩ := hrel
    obtain ⟨A3, c3, rfl, hw1, hw2⟩ := X.rowLen hX2
    have HS2 := hid hS2
    have HX2 := hid hX2
    have Hr2 := hid hr2
    have Ho := hid ho
    have hoL : o.length ≤ 100 := by omega
    clear hS2 hX2 hr2 ho
    by_cases hlt : k < l.length
    · obtain ⟨b1, o1, rfl, hcell⟩ : ∃ b1 o1, A = some ⟨b1, o1, none⟩ ∧ World.cell? _ ⟨b1, o1 + k, none⟩ = some (nat l[k]) := by
        obtain ⟨b1, o1, c1, hv, _, _, hc⟩ := Hl.out.at_ (by intro h; subst h; simp at hlt)
        cases hv
        exact ⟨b1, o1, rfl, X.cell HX2.out ((hc k _ (List.getElem?_eq_some_iff.2 ⟨hlt, rfl⟩)).mono HS2.out)⟩
      have hd : l.drop k = l[k] :: l.drop (k + 1) := List.drop_eq_getElem_cons hlt
      have hf2 := Hr2.out
      rw [hd, namesGo] at hf2
      have Hf2 := hid hf2
      have Hi := hid (Hin.out l[k] (List.getElem_mem hlt))
      clear hd hf2
      generalize l[k] = x at *
      have hkI : (k : Int) < (l.length : Int) := by omega
      have Hnm := hid (R_name p b off c d st _ S2 _ x HX2.out (HE.out.mono HS2.out) Hi.out)
      by_cases h1 : nameOf d x = []
      · rw [h1] at Hnm
        have H1 := hid h1
        clear h1
        go_wp2_with fail
        refine (Hnm.out).mono ?_
        rintro e w4 ⟨rfl, S4, k4, hX4⟩
        go_wp2_with fail
        go_ret2
        exact ⟨.nilFunc, S4, HS2.out.trans k4, X.dropAtom hX4, .inl ⟨by rw [← Hf2.out, if_pos (.inl H1.out)], rfl⟩⟩
      · have hb1 : (nameOf d x == []) = false := by simpa using h1
        have hb2 : (nameOf d x).isEmpty = false := by simpa using h1
        by_cases h4 : k = 100
        · have H4 := hid h4
          have h4I : (100 : Int) ≤ (k : Int) := by omega
          clear h1 h4
          go_wp2_with fail
          refine (Hnm.out).mono ?_
          rintro e w4 ⟨rfl, S4, k4, hX4⟩
          go_wp2_with fail
          go_ret2
          exact ⟨.nilFunc, S4, HS2.out.trans k4, X.dropAtom hX4, .inl ⟨by rw [← Hf2.out, if_pos (.inr (.inl (by rw [Ho.out, H4.out]; exact Nat.le_refl _)))], rfl⟩⟩
        · have h4I : ¬ (100 : Int) ≤ (k : Int) := by omega
          have H1 := hid h1
          have H4 := hid h4
          clear h1 h4
          go_wp2_with fail
          refine (Hnm.out).mono ?_
          rintro e w4 ⟨rfl, S4, k4, hX4⟩
          have HX4 := hid hX4
          have HK := hid (HS2.out.trans k4)
          clear hX4 k4
          go_wp2_with fail
          go_loopw [9] (fun i wr => HasRel (RX p (dval b off c d) st) o (nameOf d x) (.row 9 1 (.slice A3 o.length c3) o.length (o.map str) :: L) S4 i wr) (fun i _ => o.length - (intOf i).toNat)
          case atStart => exact ⟨0, Nat.zero_le _, rfl, HX4.out, rfl⟩
          case round =>
            obtain ⟨j, hj, rfl, hX5, hc5⟩ := hrel
            by_cases hjl : j < o.length
            · obtain ⟨g, c6, hv, f1⟩ := X.rowCell hX5 (j := j) (u := str o[j]) (by rw [List.getElem?_map, List.getElem?_eq_getElem hjl]; rfl)
              simp only [Value.slice.injEq, true_and] at hv
              obtain ⟨rfl, rfl⟩ := hv
              have hd5 : o.drop j = o[j] :: o.drop (j + 1) := List.drop_eq_getElem_cons hjl
              rw [hd5] at hc5
              have hjI : (j : Int) < (o.length : Int) := by omega
              generalize o[j] = y at *
              have HX5 := hid hX5
              clear hX5 hd5
              by_cases hy : y = nameOf d x
              · have hyb : (y == nameOf d x) = true := by simpa using hy
                have Hc := hid (show o.contains (nameOf d x) = true by rw [← hc5, hy]; simp)
                clear hy hc5
                go_wp2_with fail
                go_ret2
                exact ⟨.nilFunc, S4, HK.out, X.dropAtom HX5.out, .inl ⟨by rw [← Hf2.out, if_pos (.inr (.inr Hc.out))], rfl⟩⟩
              · have hyb : (y == nameOf d x) = false := by simpa using hy
                have Hc := hid (show (o.drop (j + 1)).contains (nameOf d x) = o.contains (nameOf d x) by rw [← hc5, List.contains_cons]; simp [Ne.symm hy])
                clear hy hc5
                go_wp2_with fail
                go_roundw
                case rel => exact ⟨j + 1, by omega, by go_num, HX5.out, Hc.out⟩
                case measure => simp [intOf]; omega
            · have hj' : j = o.length := by omega
              rw [hj', List.drop_length] at hc5
              have Hc := hid (show o.contains (nameOf d x) = false by rw [← hc5]; rfl)
              have HX5 := hid hX5
              clear hc5 hX5 hj'
              have HA6 := hid (Xs.alloc0 (X) HX5.out (.cells #[str (nameOf d x)] 9))
              have HN6 := hid (cells_new wr _ rfl [str (nameOf d x)] 9)
              go_wp2_with (at_builtin; refine wpList_appendX tyStrs (X) rfl (.tmp 40) (.tmp 42) rfl rfl HA6.out ⟨wr.heap.size, 0, none⟩ 1 1 [str (nameOf d x)] rfl rfl HN6.out ?c1_6 ?c2_6 ?c3_6 ?c4_6)
              case c1_6 => simp [Value.oneCell']
              case c2_6 => (have := Ho.out; omega)
              case c3_6 => unfold maxLen; (have := Ho.out; omega)
              clear HA6 HN6
              intro v6 u6 hY6
              have HX6 := hid hY6
              clear hY6
              go_wp2_with fail
              go_roundw
              case rel =>
                refine ⟨k + 1, o ++ [nameOf d x], S4, by omega, by go_num, HK.out, by simpa using HX6.out, ?_, by simp [Ho.out], by have := H4.out; omega⟩
                rw [← Hf2.out, if_neg]
                rintro (h | h | h)
                · exact H1.out h
                · have := H4.out; have := Ho.out; omega
                · rw [Hc.out] at h; cases h
              case measure => simp [intOf]; omega
    · have hk' : k = l.length := by omega
      have hf2 := Hr2.out
      rw [hk', List.drop_length, namesGo] at hf2
      have Hf2 := hid hf2
      obtain ⟨S3, k3, hX3, hs3⟩ := X.sealRow HX2.out
      have HS3 := hid hs3
      have HX3 := hid hX3
      have HK := hid (HS2.out.trans k3)
      clear hf2 hk' hs3 hX3 k3
      go_wp2_with fail
      go_ret2
      exact ⟨_, S3, HK.out, HX3.out, .inr ⟨o, Hf2.out.symm, rfl, HS3.out⟩⟩
end
end Go.Proofs.Ytjjbidajkmodfaa
namespace Go.Proofs.Ytjjbidajkmodfaa
open Go Go.RowKit
def OkR (p b off c : Nat) (d : List Node) (F : Fm) : Prop := ∀ (st : St) (L : List Atom) (S : Seal) (w : World) (i r : Nat) (st' : St), RX p (dval b off c d) st L S w → Env S b off c d → i < d.length → F st i = some (r, st') →
    Calls Try.prog 26 #[ptr p, nat i, .bool false] w (Ret S (RX p (dval b off c d) st' L) (nat r))
section
variable (p b off c : Nat) (d : List Node) (st : St) (L : List Atom) (S : Seal) (w : World)
set_option maxRecDepth 100000 in
set_option maxHeartbeats 2000000 in
theorem R_body (F : Fm) (HF : OkR p b off c d F) (at_ : Int) (lv : Value) (l : List Nat) (r : Nat) (st' : St) (hX : RX p (dval b off c d) st L S w) (hE : Env S b off c d)
    (hl : NatsR S lv l) (hin : ∀ j ∈ l, j < d.length) (hll : l.length ≤ 1099511627776) (hr : body F at_ st l = some (r, st')) :
    Calls Try.prog 60 #[ptr p, .int .i64 at_, lv] w (Ret S (RX p (dval b off c d) st' L) (nat r)) := by
  have X := RX.xs p (dval b off c d) st
  obtain ⟨A, cc, rfl, _, _⟩ := Sl.shape hl
  have hlen := hl.len
  unfold body at hr
  by_cases h1 : l.length = 1
  · rw [if_pos h1] at hr
    obtain ⟨x, rfl⟩ : ∃ x, l = [x] := by
      match l, h1 with
      | [x], _ => exact ⟨x, rfl⟩
    obtain ⟨b1, o1, c1, hv, _, _, hc⟩ := hl.at_ (by simp)
    cases hv
    have f1 := X.cell hX (hc 0 x rfl)
    rw [Nat.add_zero] at f1
    have hx := hin x (by simp)
    have HX := hid hX
    have HE := hid hE
    have HF := hid HF
    have Hr := hid (show F st x = some (r, st') from hr)
    clear hX hE hl hin hr hc h1
    go_enter Try.func60, Try.ntmps60
    go_wp2_with fail
    refine (HF.out st L S _ x r st' HX.out HE.out hx Hr.out).mono ?_
    rintro e w4 ⟨rfl, S4, k4, hX4⟩
    go_wp2_with fail
    go_ret
    exact Ret.intro rfl k4 hX4
  rw [if_neg h1] at hr
  obtain ⟨⟨rs, st1⟩, hr1, hr2⟩ := Option.bind_eq_some_iff.1 hr
  have hrl := forms_len hr1
  have HX := hid (Xs.rowNil X hX 3 1)
  have HE := hid hE
  have HF := hid HF
  have Hl := hid hl
  have Hin := hid hin
  have Hr1 := hid hr1
  have Hr2 := hid hr2
  have Hrl := hid hrl
  have hne : ((l.length : Int) == 1) = false := by rw [beq_eq_false_iff_ne]; omega
  have H1 := hid h1
  clear hX hE hl hin hr1 hr2 hr hrl h1
  go_enter Try.func60, Try.ntmps60
  go_wp2_with fail
  go_loopw [7, 8] (fun v i wr => FormsRel (RX p (dval b off c d)) F 3 l st1 rs [] L S v i wr) (fun _ i _ => l.length - (intOf i).toNat)
  case atStart => exact ⟨0, [], st, S, rs, Nat.zero_le _, rfl, Seal.le.refl S, HX.out, Hr1.out, rfl, rfl⟩
  case round =>
    obtain ⟨k, o, st2, S2, rest, hk, rfl, hS2, hX2, hf2, hrs, hok⟩ := hrel
    rw [List.nil_append] at hX2
    have X2 := RX.xs p (dval b off c d) st2
    have HS2 := hid hS2
    have HX2 := hid hX2
    have Hf2 := hid hf2
    have Hrs := hid hrs
    have Hok := hid hok
    have hoL : o.length ≤ l.length := by omega
    clear hS2 hX2 hf2 hrs hok
    by_cases hlt : k < l.length
    · obtain ⟨b1, o1, rfl, hcell⟩ : ∃ b1 o1, A = some ⟨b1, o1, none⟩ ∧ World.cell? _ ⟨b1, o1 + k, none⟩ = some (nat l[k]) := by
        obtain ⟨b1, o1, c1, hv, _, _, hc⟩ := Hl.out.at_ (by intro h; subst h; simp at hlt)
        cases hv
        exact ⟨b1, o1, rfl, X2.cell HX2.out ((hc k _ (List.getElem?_eq_some_iff.2 ⟨hlt, rfl⟩)).mono HS2.out)⟩
      have hd : l.drop k = l[k] :: l.drop (k + 1) := List.drop_eq_getElem_cons hlt
      have hf2 := Hf2.out
      rw [hd] at hf2
      obtain ⟨r3, st3, rest3, h31, h32, h33⟩ := forms_cons hf2
      have Hi := hid (Hin.out l[k] (List.getElem_mem hlt))
      have hkI : (k : Int) < (l.length : Int) := by omega
      have H31 := hid h31
      have H32 := hid h32
      have H33 := hid h33
      clear hd hf2 h31 h32 h33
      generalize l[k] = x at *
      go_wp2_with fail
      refine (HF.out st2 _ S2 _ x r3 st3 HX2.out (HE.out.mono HS2.out) Hi.out H31.out).mono ?_
      rintro e w4 ⟨rfl, S4, k4, hX4⟩
      have HA5 := hid (Xs.alloc0 (RX.xs _ _ _) hX4 (.cells #[nat r3] 3))
      have HN5 := hid (cells_new w4 _ rfl [nat r3] 3)
      go_wp2_with (at_builtin; refine wpList_appendX tyInts (RX.xs _ _ _) rfl (.tmp 23) (.tmp 30) rfl rfl HA5.out ⟨w4.heap.size, 0, none⟩ 1 1 [nat r3] rfl rfl HN5.out ?c1_5 ?c2_5 ?c3_5 ?c4_5)
      case c1_5 => simp [Value.oneCell']
      case c2_5 => omega
      case c3_5 => unfold maxLen; omega
      clear HA5 HN5
      intro v5 u5 hY5
      have HX5 := hid hY5
      have HK := hid (HS2.out.trans k4)
      clear hY5 hX4 k4
      go_wp2_with fail
      go_roundw
      case rel =>
        refine ⟨k + 1, o ++ [r3], st3, S4, rest3, by omega, by go_num, HK.out, by simpa using HX5.out, H32.out, ?_, by simp [Hok.out]⟩
        rw [Hrs.out]; simp [H33.out]
      case measure => simp [intOf]; omega
    · have hk' : k = l.length := by omega
      have hf2 := Hf2.out
      rw [hk', List.drop_length] at hf2
      have e1 := forms_nil hf2
      simp only [Prod.mk.injEq] at e1
      obtain ⟨e2, e3⟩ := e1
      subst e2 e3
      have e4 : rs = o := by rw [Hrs.out]; simp
      subst e4
      obtain ⟨A5, c5, rfl, _, _⟩ := X2.rowLen HX2.out
      obtain ⟨S3, k3, hX3, hs3⟩ := X2.sealRow HX2.out
      have HS3 := hid hs3
      have HX3 := hid hX3
      have HK := hid (HS2.out.trans k3)
      clear hf2 hk' hs3 hX3 k3
      go_wp2_with fail
      refine (R_put p (dval b off c d) st1 L S3 _ 8 at_ 0 0 [] [] 0 rs (.slice none 0 0) _ r st' HX3.out (StrsR.nil _) HS3.out Hr2.out).mono ?_
      rintro e w6 ⟨rfl, S6, k6, hX6⟩
      go_wp2_with fail
      go_ret
      exact Ret.intro rfl (HK.out.trans k6) hX6
set_option maxRecDepth 100000 in
set_option maxHeartbeats 2000000 in
theorem R_fn (F : Fm) (HF : OkR p b off c d F) (at_ : Int) (nv lv : Value) (ns : List Str) (l : List Nat) (r : Nat) (st' : St) (hX : RX p (dval b off c d) st L S w) (hE : Env S b off c d)
    (hn : StrsR S nv ns) (hl : NatsR S lv l) (hin : ∀ j ∈ l, j < d.length) (hll : l.length ≤ 1099511627776) (hr : fn F at_ ns st l = some (r, st')) :
    Calls Try.prog 95 #[ptr p, .int .i64 at_, nv, lv] w (Ret S (RX p (dval b off c d) st' L) (nat r)) := by
  unfold fn at hr
  obtain ⟨⟨a, st1⟩, hr1, hr2⟩ := Option.bind_eq_some_iff.1 hr
  obtain ⟨A, cc, rfl, _, _⟩ := Sl.shape hl
  obtain ⟨A2, c2, rfl, _, _⟩ := Sl.shape hn
  have Hb := hid (R_body p b off c d st L S w F HF at_ _ l a st1 hX hE hl hin hll hr1)
  have Hn := hid hn
  have Hr2 := hid hr2
  clear hX hE hn hl hin hr hr1 hr2
  go_enter Try.func95, Try.ntmps95
  go_wp2_with fail
  refine (Hb.out).mono ?_
  rintro e w1 ⟨rfl, S1, k1, hX1⟩
  have X1 := RX.xs p (dval b off c d) st1
  obtain ⟨S8, k8, hX8, s8⟩ := X1.box hX1 #[nat a] 3
  have HX8 := hid hX8
  have HK8 := hid (k1.trans k8)
  have HS8 := hid (NatsR.box1 s8)
  clear hX8 k8 s8 hX1 k1
  go_wp2_with fail
  refine (R_put p (dval b off c d) st1 L S8 _ 6 at_ 0 0 [] ns 0 [a] _ (.slice (some ⟨w1.heap.size, 0, none⟩) 1 1) r st' HX8.out (Hn.out.mono HK8.out) HS8.out Hr2.out).mono ?_
  rintro e w5 ⟨rfl, S5, k5, hX5⟩
  go_wp2_with fail
  go_ret
  exact Ret.intro rfl (HK8.out.trans k5) hX5
end
end Go.Proofs.Ytjjbidajkmodfaa
namespace Go.Proofs.Ytjjbidajkmodfaa
open Go Go.RowKit
section
variable (p b off c : Nat) (d : List Node) (st : St) (L : List Atom) (S : Seal) (w : World)
set_option maxRecDepth 100000 in
set_option maxHeartbeats 8000000 in
theorem R_pairs (i : Nat) (hX : RX p (dval b off c d) st L S w) (hE : Env S b off c d) (hi : i < d.length) :
    Calls Try.prog 63 #[ptr p, nat i] w (BoundRet S (RX p (dval b off c d) st L) (pairs d i)) := by
  have X := RX.xs p (dval b off c d) st
  have hlenD := Dat.len hE
  have hiI : (i : Int) < (d.length : Int) := by omega
  have hin : ∀ j ∈ (nd d i).l, j < d.length := fun j hj => by have := hE.dat.par i hi j hj; omega
  have hll := hE.dat.ll i hi
  have hpr : pairs d i = if (nd d i).kind = 4 then pairsGo d (nd d i).l else none := rfl
  have hc := R_list p b off c d st L S w i 0 hX hE hi
  by_cases hk : (nd d i).kind = 4
  case neg =>
    rw [decide_eq_false (fun h => hk h.1)] at hc
    rw [if_neg hk] at hpr
    have Hc := hid hc
    have Hpr := hid hpr
    have HX := hid hX
    clear hX hE hin hk hpr hc
    go_enter Try.func63, Try.ntmps63
    go_wp2_with fail
    refine Hc.out.mono ?_
    rintro e w1 ⟨rfl, rfl⟩
    go_wp2_with fail
    go_ret3
    exact ⟨.nilFunc, .nilFunc, S, Seal.le.refl S, HX.out, .inl ⟨Hpr.out, rfl⟩⟩
  rw [decide_eq_true ⟨hk, by omega⟩] at hc
  rw [if_pos hk] at hpr
  have Hc := hid hc
  have Hpr := hid hpr
  have HX := hid (X.rowNil (X.rowNil hX 3 1) 3 1)
  have HE := hid hE
  have Hin := hid hin
  obtain ⟨lv, hN⟩ := hE.at_ i hi
  obtain ⟨A, cc, hlv, _, _⟩ := Sl.shape hN.l
  subst hlv
  have Hl := hid hN.l
  have HN4 := hid hN.c4
  have hlen := hN.l.len
  clear hX hE hin hk hpr hc hN
  generalize (nd d i).l = l at *
  go_enter Try.func63, Try.ntmps63
  go_wp2_with fail
  refine Hc.out.mono ?_
  rintro e w1 ⟨rfl, rfl⟩
  go_wp2_with fail
  go_loopw [7, 8, 9] (fun v u z wr => BoundRel (RX p (dval b off c d) st) d 3 l (pairs d i) L S v u z wr) (fun _ _ z _ => l.length - (intOf z).toNat)
  case atStart => exact ⟨0, [], [], S, Nat.zero_le _, rfl, Seal.le.refl S, HX.out, by rw [Hpr.out, List.drop_zero]; cases pairsGo d l <;> rfl, rfl, rfl⟩
  case round =>
    obtain ⟨k, o, q, S2, hkl, rfl, hS2, hX2, hr2, hok, hqk⟩ := hrel
    obtain ⟨A8, c8, rfl, _, _⟩ := X.rowLen hX2
    obtain ⟨A9, c9, rfl, _, _⟩ := X.rowLen (X.swap hX2)
    have g0 := hX2.d0
    have g4 := X.cell hX2 (HN4.out.mono hS2)
    have HS2 := hid hS2
    have HX2 := hid hX2
    have Hr2 := hid hr2
    have Hok := hid hok
    have Hqk := hid hqk
    have hoL : o.length ≤ l.length := by omega
    have hqL : q.length ≤ l.length := by omega
    clear hS2 hX2 hr2 hok hqk
    by_cases hlt : k < l.length
    case neg =>
      have hk' : k = l.length := by omega
      have hf2 := Hr2.out
      rw [hk', List.drop_length] at hf2
      have Hf2 := hid hf2
      obtain ⟨S3, k3, hX3, hs3⟩ := X.sealRow HX2.out
      obtain ⟨S4, k4, hX4, hs4⟩ := X.sealRow hX3
      have HS3 := hid (hs3.mono k4)
      have HS4 := hid hs4
      have HX4 := hid hX4
      have HK := hid ((HS2.out.trans k3).trans k4)
      clear hf2 hk' hs3 hX3 k3 hs4 hX4 k4
      go_wp2_with fail
      go_ret3
      exact ⟨_, _, S4, HK.out, HX4.out, .inr ⟨o, q, by rw [← Hf2.out]; simp [pairsGo], rfl, HS3.out, HS4.out⟩⟩
    obtain ⟨b1, o1, rfl, hcell⟩ : ∃ b1 o1, A = some ⟨b1, o1, none⟩ ∧ World.cell? _ ⟨b1, o1 + k, none⟩ = some (nat l[k]) := by
      obtain ⟨b1, o1, c1, hv, _, _, hc⟩ := Hl.out.at_ (by intro h; subst h; simp at hlt)
      cases hv
      exact ⟨b1, o1, rfl, X.cell HX2.out ((hc k _ (List.getElem?_eq_some_iff.2 ⟨hlt, rfl⟩)).mono HS2.out)⟩
    have hd : l.drop k = l[k] :: l.drop (k + 1) := List.drop_eq_getElem_cons hlt
    have hf2 := Hr2.out
    rw [hd, pairsGo_cons] at hf2
    have hi2 := Hin.out l[k] (List.getElem_mem hlt)
    have hkI : (k : Int) < (l.length : Int) := by omega
    clear hd
    generalize l[k] = x at *
    have hxI : (x : Int) < (d.length : Int) := by omega
    have hc2 := R_list p b off c d st _ S2 _ x 2 HX2.out (HE.out.mono HS2.out) hi2
    have hin2 : ∀ j ∈ (nd d x).l, j < d.length := fun j hj => by have := HE.out.dat.par x hi2 j hj; omega
    obtain ⟨lv2, hN2⟩ := (HE.out.mono HS2.out).at_ x hi2
    obtain ⟨A2, cc2, hlv2, _, _⟩ := Sl.shape hN2.l
    subst hlv2
    have g5 := X.cell HX2.out hN2.c4
    by_cases h1 : (nd d x).kind = 4 ∧ 2 ≤ (nd d x).l.length
    case neg =>
      rw [decide_eq_false (fun h => h1 ⟨h.1, by omega⟩)] at hc2
      rw [if_neg (fun h => h1 ⟨h.1, by omega⟩)] at hf2
      have Hc2 := hid hc2
      have Hf2 := hid hf2
      clear hc2 hf2 hin2 hN2 h1
      go_wp2_with fail
      refine Hc2.out.mono ?_
      rintro e w5 ⟨rfl, rfl⟩
      go_wp2_with fail
      go_ret3
      exact ⟨.nilFunc, .nilFunc, S2, HS2.out, X.dropAtom (X.dropAtom HX2.out), .inl ⟨Hf2.out.symm, rfl⟩⟩
    rw [decide_eq_true ⟨h1.1, by omega⟩] at hc2
    have Hc2 := hid hc2
    clear hc2
    by_cases h2 : (nd d x).l.length = 2
    case neg =>
      rw [if_neg (fun h => h2 h.2.1)] at hf2
      have Hf2 := hid hf2
      have h2' : (((nd d x).l.length : Int) != 2) = true := by simp only [bne_iff_ne]; omega
      clear hf2 hin2 hN2 h1 h2
      go_wp2_with fail
      refine Hc2.out.mono ?_
      rintro e w5 ⟨rfl, rfl⟩
      go_wp2_with fail
      go_ret3
      exact ⟨.nilFunc, .nilFunc, S2, HS2.out, X.dropAtom (X.dropAtom HX2.out), .inl ⟨Hf2.out.symm, rfl⟩⟩
    have h2' : (((nd d x).l.length : Int) != 2) = false := by rw [h2]; rfl
    have hl2 := hN2.l
    have HN24 := hid hN2.c4
    have h14 := h1.1
    clear h1 hN2
    generalize (nd d x).l = l2 at *
    match l2, h2 with
    | [a2, z2], _ =>
      obtain ⟨b2, o2, c2, hv2, _, _, hcc⟩ := hl2.at_ (by simp)
      cases hv2
      have e1 := X.cell HX2.out (hcc 0 a2 rfl)
      have e2 := X.cell HX2.out (hcc 1 z2 rfl)
      rw [Nat.add_zero] at e1
      have Ha1 := hid (hcc 0 a2 rfl)
      have Ha2 := hid (hcc 1 z2 rfl)
      rw [Nat.add_zero] at Ha1
      have ha := hin2 a2 List.mem_cons_self
      simp only [List.getD_cons_zero] at hf2
      have Hn := hid (R_name p b off c d st _ S2 _ a2 HX2.out (HE.out.mono HS2.out) ha)
      by_cases h3 : nameOf d a2 = []
      · rw [if_neg (fun h => h.2.2 h3)] at hf2
        rw [h3] at Hn
        have Hf2 := hid hf2
        clear hf2 hin2 hl2 hcc h3 h14
        go_wp2_with fail
        refine Hc2.out.mono ?_
        rintro e w5 ⟨rfl, rfl⟩
        go_wp2_with fail
        refine (Hn.out).mono ?_
        rintro e w6 ⟨rfl, S6, k6, hX6⟩
        go_wp2_with fail
        go_ret3
        exact ⟨.nilFunc, .nilFunc, S6, HS2.out.trans k6, X.dropAtom (X.dropAtom hX6), .inl ⟨Hf2.out.symm, rfl⟩⟩
      · rw [if_pos ⟨h14, rfl, h3⟩] at hf2
        have hb1 : (nameOf d a2 == []) = false := by simpa using h3
        have hb2 : (nameOf d a2).isEmpty = false := by simpa using h3
        have Hf2 := hid hf2
        clear hf2 hin2 hl2 hcc h3 h14
        go_wp2_with fail
        refine Hc2.out.mono ?_
        rintro e w5 ⟨rfl, rfl⟩
        go_wp2_with fail
        refine (Hn.out).mono ?_
        rintro e w6 ⟨rfl, S6, k6, hX6⟩
        have g0 := hX6.d0
        have g5 := X.cell hX6 (HN24.out.mono k6)
        have e1 := X.cell hX6 (Ha1.out.mono k6)
        have e2 := X.cell hX6 (Ha2.out.mono k6)
        have HX6 := hid hX6
        have HK6 := hid (HS2.out.trans k6)
        have HL6 := hid k6
        clear hX6 k6
        have HA7 := hid (Xs.alloc0 (RX.xs _ _ _) HX6.out (.cells #[nat a2] 3))
        have HN7 := hid (cells_new w6 _ rfl [nat a2] 3)
        go_wp2_with (at_builtin; refine wpList_appendX tyInts (RX.xs _ _ _) rfl (.tmp 70) (.tmp 81) rfl rfl HA7.out ⟨w6.heap.size, 0, none⟩ 1 1 [nat a2] rfl rfl HN7.out ?c1_7 ?c2_7 ?c3_7 ?c4_7)
        case c1_7 => simp [Value.oneCell']
        case c2_7 => omega
        case c3_7 => unfold maxLen; omega
        clear HA7 HN7
        intro v7 u7 hY7
        have HX7 := hid (X.swap hY7)
        have g0 := hY7.d0
        have g5 := X.cell hY7 (HN24.out.mono HL6.out)
        have e1 := X.cell hY7 (Ha1.out.mono HL6.out)
        have e2 := X.cell hY7 (Ha2.out.mono HL6.out)
        clear hY7
        have HA8 := hid (Xs.alloc0 (RX.xs _ _ _) HX7.out (.cells #[nat z2] 3))
        have HN8 := hid (cells_new u7 _ rfl [nat z2] 3)
        go_wp2_with (at_builtin; refine wpList_appendX tyInts (RX.xs _ _ _) rfl (.tmp 83) (.tmp 94) rfl rfl HA8.out ⟨u7.heap.size, 0, none⟩ 1 1 [nat z2] rfl rfl HN8.out ?c1_8 ?c2_8 ?c3_8 ?c4_8)
        case c1_8 => simp [Value.oneCell']
        case c2_8 => omega
        case c3_8 => unfold maxLen; omega
        clear HA8 HN8
        intro v8 u8 hY8
        have HX8 := hid (X.swap hY8)
        clear hY8
        go_wp2_with fail
        go_roundw
        case rel =>
          refine ⟨k + 1, o ++ [a2], q ++ [z2], S6, by omega, by go_num, HK6.out, by simpa using HX8.out, ?_, by simp [Hok.out], by simp [Hqk.out]⟩
          rw [← Hf2.out]
          cases pairsGo d (l.drop (k + 1)) <;> simp
        case measure => simp [intOf]; omega
end
end Go.Proofs.Ytjjbidajkmodfaa
namespace Go.Proofs.Ytjjbidajkmodfaa
open Go Go.RowKit
section
variable (p b off c : Nat) (d : List Node) (st : St) (L : List Atom) (S : Seal) (w : World)
set_option maxRecDepth 100000 in
set_option maxHeartbeats 8000000 in
theorem R_lambda (F : Fm) (HF : OkR p b off c d F) (i r : Nat) (st' : St) (hX : RX p (dval b off c d) st L S w) (hE : Env S b off c d) (hi : i < d.length) (hr : lambdaS d F i st = some (r, st')) :
    Calls Try.prog 58 #[ptr p, nat i] w (Ret S (RX p (dval b off c d) st' L) (nat r)) := by
  have X := RX.xs p (dval b off c d) st
  have hlenD := Dat.len hE
  have hiI : (i : Int) < (d.length : Int) := by omega
  have hll := hE.dat.ll i hi
  have Hpar := hid (hE.dat.par i hi)
  obtain ⟨lv, hN⟩ := hE.at_ i hi
  have x0 := hX.d0
  obtain ⟨A1, c1, hlv, hc1, hc2⟩ := Sl.shape hN.l
  subst hlv
  have n0 := X.cell hX hN.c0
  have n1 := X.cell hX hN.c1
  have n2 := X.cell hX hN.c2
  have n3 := X.cell hX hN.c3
  have n4 := X.cell hX hN.c4
  obtain ⟨S1, k1, hX1, s1⟩ := X.box hX #[.int .u8 (nd d i).kind, .int .i64 (nd d i).at_, .int .i64 (nd d i).n, str (nd d i).s, .slice A1 (nd d i).l.length c1] 60
  have Hd1 := hid (s1 1 _ rfl)
  have Hd4 := hid (s1 4 _ rfl)
  have d4 := X.cell hX1 Hd4.out
  have y0 := hX1.d0
  have HK1 := hid k1
  have HX1 := hid hX1
  have HE := hid (hE.mono k1)
  have HF := hid HF
  have HL := hid (hN.l.mono k1)
  clear hX hX1 hN hE s1 k1
  unfold lambdaS at hr
  by_cases h3 : (nd d i).l.length < 3
  · rw [if_pos (.inl h3)] at hr
    have h3I : ((nd d i).l.length : Int) < 3 := by omega
    have Hr := hid hr
    clear hr h3
    go_enter Try.func58, Try.ntmps58
    go_wp2_with fail
    refine (R_wrongR p b off c d st L S1 _ i r st' HX1.out HE.out hi Hr.out).mono ?_
    rintro e w2 ⟨rfl, S2, k2, hX2⟩
    go_wp2_with fail
    go_ret
    exact Ret.intro rfl (HK1.out.trans k2) hX2
  have h3I : ¬ ((nd d i).l.length : Int) < 3 := by omega
  have h1I : (1 : Int) < ((nd d i).l.length : Int) := by omega
  obtain ⟨b1, o1, c2, hlv, _, _, hcc⟩ := HL.out.at_ (by intro h; rw [h] at h3; simp at h3)
  simp only [Value.slice.injEq, true_and] at hlv
  obtain ⟨rfl, rfl⟩ := hlv
  obtain ⟨x1, hx1⟩ : ∃ x1, (nd d i).l[1]? = some x1 := ⟨_, List.getElem?_eq_some_iff.2 ⟨by omega, rfl⟩⟩
  have hg : (nd d i).l.getD 1 0 = x1 := by rw [List.getD_eq_getElem?_getD, hx1]; rfl
  have hi1 : x1 < d.length := by have := Hpar.out x1 (List.mem_of_getElem? hx1); omega
  rw [hg] at hr
  have Hx1 := hid (hcc 1 x1 hx1)
  have f1 := X.cell HX1.out Hx1.out
  have Hli := hid (R_list p b off c d st L S1 _ x1 0 HX1.out HE.out hi1)
  clear hcc hx1 hg
  by_cases hk : (nd d x1).kind = 4
  case neg =>
    rw [decide_eq_false (fun h => hk h.1)] at Hli
    rw [if_pos (.inr hk)] at hr
    have Hr := hid hr
    clear hr hk h3
    go_enter Try.func58, Try.ntmps58
    go_wp2_with fail
    refine Hli.out.mono ?_
    rintro e w1 ⟨rfl, rfl⟩
    go_wp2_with fail
    refine (R_wrongR p b off c d st L S1 _ i r st' HX1.out HE.out hi Hr.out).mono ?_
    rintro e w2 ⟨rfl, S2, k2, hX2⟩
    go_wp2_with fail
    go_ret
    exact Ret.intro rfl (HK1.out.trans k2) hX2
  rw [decide_eq_true ⟨hk, by omega⟩] at Hli
  rw [if_neg (by rintro (h | h) <;> contradiction)] at hr
  obtain ⟨lv2, hN2⟩ := HE.out.at_ x1 hi1
  obtain ⟨A2, c5, hlv2, _, _⟩ := Sl.shape hN2.l
  subst hlv2
  have hx1I : (x1 : Int) < (d.length : Int) := by omega
  have Hnm := hid (fun W (hW : RX p (dval b off c d) st L S1 W) => R_names p b off c d st L S1 W _ (nd d x1).l hW HE.out hN2.l (fun j hj => by have := HE.out.dat.par x1 hi1 j hj; omega))
  have HN24 := hid hN2.c4
  have Hr := hid hr
  have h3' : 3 ≤ (nd d i).l.length := by omega
  clear hr hk h3 hN2
  go_enter Try.func58, Try.ntmps58
  go_wp2_with fail
  refine Hli.out.mono ?_
  rintro e w1 ⟨rfl, rfl⟩
  go_wp2_with fail
  refine wp_plan 17 (.take 0 (.take 1 (.take 2 (.take 3 (.take 4 (.take 5 (.take 6 (.take 7 (.take 8 (.take 9 (.take 10 (.take 11 (.one 12 (.take 13 (.take 14 (.take 15 (.take 16 .fin))))))))))))))))) (fun w' => w'.cell? ⟨p, 0, none⟩ = some (dval b off c d) ∧ w'.cell? ⟨w.heap.size, 4, none⟩ = some (.slice (some ⟨b1, o1, none⟩) (nd d i).l.length c1) ∧ w'.cell? ⟨b1, o1 + 1, none⟩ = some (nat x1) ∧ w'.cell? ⟨b, off + x1 * 5 + 4, none⟩ = some (.slice A2 (nd d x1).l.length c5)) (by kernel_rfl) (by kernel_rfl) (fun _ _ d_ _ _ h_ => by cases d_ <;> exact h_) (⟨((X.drew HX1.out)).d0, X.cell (X.drew HX1.out) (Hd4.out), X.cell (X.drew HX1.out) (Hx1.out), X.cell (X.drew HX1.out) (HN24.out)⟩) ?_
  refine Pl.takeW rfl rfl ?v1 ?hy1 ?rest1
  case hy1 => intro w_ _; first | (go_simp; done) | (go_simp; with_reducible rfl)
  simp only [Act.put, List.setIfInBounds_toArray, List.set_cons_zero, List.set_cons_succ]
  refine Pl.takeW rfl rfl ?v2 ?hy2 ?rest2
  case hy2 => intro w_ _; first | (go_simp; done) | (go_simp; with_reducible rfl)
  simp only [Act.put, List.setIfInBounds_toArray, List.set_cons_zero, List.set_cons_succ]
  refine Pl.takeW rfl rfl ?v3 ?hy3 ?rest3
  case hy3 => intro w_ _; first | (go_simp; done) | (go_simp; with_reducible rfl)
  simp only [Act.put, List.setIfInBounds_toArray, List.set_cons_zero, List.set_cons_succ]
  refine Pl.takeW rfl rfl ?v4 ?hy4 ?rest4
  case hy4 => intro w_ _; first | (go_simp; done) | (go_simp; with_reducible rfl)
  simp only [Act.put, List.setIfInBounds_toArray, List.set_cons_zero, List.set_cons_succ]
  refine Pl.takeW rfl rfl ?v5 ?hy5 ?rest5
  case hy5 => intro w_ hS_; obtain ⟨f_p0, f_d4, f_l1, f_m4⟩ := hS_; first | (go_simp; done) | (go_simp; with_reducible rfl)
  simp only [Act.put, List.setIfInBounds_toArray, List.set_cons_zero, List.set_cons_succ]
  refine Pl.takeW rfl rfl ?v6 ?hy6 ?rest6
  case hy6 => intro w_ _; first | (go_simp; done) | (go_simp; with_reducible rfl)
  simp only [Act.put, List.setIfInBounds_toArray, List.set_cons_zero, List.set_cons_succ]
  refine Pl.takeW rfl rfl ?v7 ?hy7 ?rest7
  case hy7 => intro w_ hS_; obtain ⟨f_p0, f_d4, f_l1, f_m4⟩ := hS_; first | (go_simp; done) | (go_simp; with_reducible rfl)
  simp only [Act.put, List.setIfInBounds_toArray, List.set_cons_zero, List.set_cons_succ]
  refine Pl.takeW rfl rfl ?v8 ?hy8 ?rest8
  case hy8 => intro w_ _; first | (go_simp; done) | (go_simp; with_reducible rfl)
  simp only [Act.put, List.setIfInBounds_toArray, List.set_cons_zero, List.set_cons_succ]
  refine Pl.takeW rfl rfl ?v9 ?hy9 ?rest9
  case hy9 => intro w_ hS_; obtain ⟨f_p0, f_d4, f_l1, f_m4⟩ := hS_; first | (go_simp; done) | (go_simp; with_reducible rfl)
  simp only [Act.put, List.setIfInBounds_toArray, List.set_cons_zero, List.set_cons_succ]
  refine Pl.takeW rfl rfl ?v10 ?hy10 ?rest10
  case hy10 => intro w_ _; first | (go_simp; done) | (go_simp; with_reducible rfl)
  simp only [Act.put, List.setIfInBounds_toArray, List.set_cons_zero, List.set_cons_succ]
  refine Pl.takeW rfl rfl ?v11 ?hy11 ?rest11
  case hy11 => intro w_ _; first | (go_simp; done) | (go_simp; with_reducible rfl)
  simp only [Act.put, List.setIfInBounds_toArray, List.set_cons_zero, List.set_cons_succ]
  refine Pl.takeW rfl rfl ?v12 ?hy12 ?rest12
  case hy12 => intro w_ hS_; obtain ⟨f_p0, f_d4, f_l1, f_m4⟩ := hS_; first | (go_simp; done) | (go_simp; with_reducible rfl)
  simp only [Act.put, List.setIfInBounds_toArray, List.set_cons_zero, List.set_cons_succ]
  refine Pl.oneW rfl rfl (fun K_ hK_ => ?_)
  go_simp
  refine (Hnm.out _ (X.drew HX1.out)).mono ?_
  rintro e w3 ⟨v3, S3, k3, hX3, h3⟩
  have HX3 := hid hX3
  have HK3 := hid k3
  rcases h3 with ⟨hn, rfl⟩ | ⟨ns, hn, rfl, hns⟩
  · have hr := Hr.out
    rw [hn] at hr
    have Hr2 := hid hr
    clear hr hn
    refine hK_ _ _ ⟨(hX3).d0, X.cell hX3 ((Hd4.out).mono (k3)), X.cell hX3 ((Hx1.out).mono (k3)), X.cell hX3 ((HN24.out).mono (k3))⟩ ?_
    refine Pl.takeW rfl rfl ?v13 ?hy13 ?rest13
    case hy13 => intro w_ _; first | (go_simp; done) | (go_simp; with_reducible rfl)
    simp only [Act.put, List.setIfInBounds_toArray, List.set_cons_zero, List.set_cons_succ]
    refine Pl.takeW rfl rfl ?v14 ?hy14 ?rest14
    case hy14 => intro w_ _; first | (go_simp; done) | (go_simp; with_reducible rfl)
    simp only [Act.put, List.setIfInBounds_toArray, List.set_cons_zero, List.set_cons_succ]
    refine Pl.takeW rfl rfl ?v15 ?hy15 ?rest15
    case hy15 => intro w_ _; first | (go_simp; done) | (go_simp; with_reducible rfl)
    simp only [Act.put, List.setIfInBounds_toArray, List.set_cons_zero, List.set_cons_succ]
    refine Pl.takeW rfl rfl ?v16 ?hy16 ?rest16
    case hy16 => intro w_ _; first | (go_simp; done) | (go_simp; with_reducible rfl)
    simp only [Act.put, List.setIfInBounds_toArray, List.set_cons_zero, List.set_cons_succ]
    show wpList _ _ _ _ _ _
    simp only [List.drop_succ_cons, List.drop_zero]
    clear hX3 k3
    go_wp2_with fail
    refine (R_wrongR p b off c d st L S3 _ i r st' HX3.out (HE.out.mono HK3.out) hi Hr2.out).mono ?_
    rintro e w5 ⟨rfl, S5, k5, hX5⟩
    go_wp2_with fail
    go_ret
    exact Ret.intro rfl ((HK1.out.trans HK3.out).trans k5) hX5
  · have hr := Hr.out
    rw [hn] at hr
    have Hr2 := hid hr
    have Hns := hid hns
    have Hdr := hid ((NatsR.drop HL.out (k := 2) (by omega) (by omega)).mono HK3.out)
    have hc : ¬ c1 = 2 := by omega
    have hlI : (2 : Int) ≤ ((nd d i).l.length : Int) := by omega
    have g1 := X.cell hX3 (Hd1.out.mono k3)
    have g4 := X.cell hX3 (Hd4.out.mono k3)
    clear hr hn hns
    refine hK_ _ _ ⟨(hX3).d0, X.cell hX3 ((Hd4.out).mono (k3)), X.cell hX3 ((Hx1.out).mono (k3)), X.cell hX3 ((HN24.out).mono (k3))⟩ ?_
    refine Pl.takeW rfl rfl ?v17 ?hy17 ?rest17
    case hy17 => intro w_ _; first | (go_simp; done) | (go_simp; with_reducible rfl)
    simp only [Act.put, List.setIfInBounds_toArray, List.set_cons_zero, List.set_cons_succ]
    refine Pl.takeW rfl rfl ?v18 ?hy18 ?rest18
    case hy18 => intro w_ _; first | (go_simp; done) | (go_simp; with_reducible rfl)
    simp only [Act.put, List.setIfInBounds_toArray, List.set_cons_zero, List.set_cons_succ]
    refine Pl.takeW rfl rfl ?v19 ?hy19 ?rest19
    case hy19 => intro w_ _; first | (go_simp; done) | (go_simp; with_reducible rfl)
    simp only [Act.put, List.setIfInBounds_toArray, List.set_cons_zero, List.set_cons_succ]
    refine Pl.takeW rfl rfl ?v20 ?hy20 ?rest20
    case hy20 => intro w_ _; first | (go_simp; done) | (go_simp; with_reducible rfl)
    simp only [Act.put, List.setIfInBounds_toArray, List.set_cons_zero, List.set_cons_succ]
    show wpList _ _ _ _ _ _
    simp only [List.drop_succ_cons, List.drop_zero]
    clear hX3 k3
    go_wp2_with fail
    refine wp_plan 7 (.take 0 (.take 1 (.take 2 (.take 3 (.take 4 (.take 5 (.take 6 .fin))))))) (fun w_ => w_ = _) (by kernel_rfl) (by kernel_rfl) (fun _ _ d_ _ _ h_ => by cases d_ <;> exact h_) rfl ?_
    refine Pl.takeW rfl rfl ?v21 ?hy21 ?rest21
    case hy21 => intro w_ _; first | (go_simp; done) | (go_simp; with_reducible rfl)
    simp only [Act.put, List.setIfInBounds_toArray, List.set_cons_zero, List.set_cons_succ]
    refine Pl.takeW rfl rfl ?v22 ?hy22 ?rest22
    case hy22 => intro w_ _; first | (go_simp; done) | (go_simp; with_reducible rfl)
    simp only [Act.put, List.setIfInBounds_toArray, List.set_cons_zero, List.set_cons_succ]
    refine Pl.takeW rfl rfl ?v23 ?hy23 ?rest23
    case hy23 => intro w_ hS_; subst hS_; first | (go_simp; done) | (go_simp; with_reducible rfl)
    simp only [Act.put, List.setIfInBounds_toArray, List.set_cons_zero, List.set_cons_succ]
    refine Pl.takeW rfl rfl ?v24 ?hy24 ?rest24
    case hy24 => intro w_ _; first | (go_simp; done) | (go_simp; with_reducible rfl)
    simp only [Act.put, List.setIfInBounds_toArray, List.set_cons_zero, List.set_cons_succ]
    refine Pl.takeW rfl rfl ?v25 ?hy25 ?rest25
    case hy25 => intro w_ _; first | (go_simp; done) | (go_simp; with_reducible rfl)
    simp only [Act.put, List.setIfInBounds_toArray, List.set_cons_zero, List.set_cons_succ]
    refine Pl.takeW rfl rfl ?v26 ?hy26 ?rest26
    case hy26 => intro w_ hS_; subst hS_; first | (go_simp; done) | (go_simp; with_reducible rfl)
    simp only [Act.put, List.setIfInBounds_toArray, List.set_cons_zero, List.set_cons_succ]
    refine Pl.takeW rfl rfl ?v27 ?hy27 ?rest27
    case hy27 => intro w_ _; first | (go_simp; done) | (go_simp; with_reducible rfl)
    simp only [Act.put, List.setIfInBounds_toArray, List.set_cons_zero, List.set_cons_succ]
    show wpList _ _ _ _ _ _
    simp only [List.drop_succ_cons, List.drop_zero]
    go_wp2_with fail
    refine (R_fn p b off c d st L S3 _ F HF.out _ _ _ ns _ r st' (X.drew HX3.out) (HE.out.mono HK3.out) Hns.out Hdr.out (fun j hj => by have := Hpar.out j (List.mem_of_mem_drop hj); omega) (by simp; omega) Hr2.out).mono ?_
    rintro e w5 ⟨rfl, S5, k5, hX5⟩
    go_wp2_with fail
    go_ret
    exact Ret.intro rfl ((HK1.out.trans HK3.out).trans k5) hX5
end
end Go.Proofs.Ytjjbidajkmodfaa
namespace Go.Proofs.Ytjjbidajkmodfaa
open Go Go.RowKit
section
variable (p b off c : Nat) (d : List Node) (st : St) (L : List Atom) (S : Seal) (w : World)
set_option maxRecDepth 100000 in
set_option maxHeartbeats 16000000 in
theorem R_let (F : Fm) (HF : OkR p b off c d F) (i r : Nat) (st' : St) (hX : RX p (dval b off c d) st L S w) (hE : Env S b off c d) (hi : i < d.length) (hr : letS d F i st = some (r, st')) :
    Calls Try.prog 62 #[ptr p, nat i] w (Ret S (RX p (dval b off c d) st' L) (nat r)) := by
  have X := RX.xs p (dval b off c d) st
  have hlenD := Dat.len hE
  have hiI : (i : Int) < (d.length : Int) := by omega
  have hll := hE.dat.ll i hi
  have Hpar := hid (hE.dat.par i hi)
  obtain ⟨lv, hN⟩ := hE.at_ i hi
  have x0 := hX.d0
  obtain ⟨A1, c1, hlv, hc1, hc2⟩ := Sl.shape hN.l
  subst hlv
  have n0 := X.cell hX hN.c0
  have n1 := X.cell hX hN.c1
  have n2 := X.cell hX hN.c2
  have n3 := X.cell hX hN.c3
  have n4 := X.cell hX hN.c4
  obtain ⟨S1, k1, hX1, s1⟩ := X.box hX #[.int .u8 (nd d i).kind, .int .i64 (nd d i).at_, .int .i64 (nd d i).n, str (nd d i).s, .slice A1 (nd d i).l.length c1] 60
  have Hd1 := hid (s1 1 _ rfl)
  have Hd4 := hid (s1 4 _ rfl)
  have d4 := X.cell hX1 Hd4.out
  have y0 := hX1.d0
  have HK1 := hid k1
  have HX1 := hid hX1
  have HE := hid (hE.mono k1)
  have HF := hid HF
  have HL := hid (hN.l.mono k1)
  clear hX hX1 hN hE s1 k1
  unfold letS at hr
  by_cases h3 : (nd d i).l.length < 3
  · rw [if_pos h3] at hr
    have h3I : ((nd d i).l.length : Int) < 3 := by omega
    have Hr := hid hr
    clear hr h3
    go_enter Try.func62, Try.ntmps62
    go_wp2_with fail
    refine (R_wrongR p b off c d st L S1 _ i r st' HX1.out HE.out hi Hr.out).mono ?_
    rintro e w2 ⟨rfl, S2, k2, hX2⟩
    go_wp2_with fail
    go_ret
    exact Ret.intro rfl (HK1.out.trans k2) hX2
  rw [if_neg h3] at hr
  have h3I : ¬ ((nd d i).l.length : Int) < 3 := by omega
  have h1I : (1 : Int) < ((nd d i).l.length : Int) := by omega
  obtain ⟨b1, o1, c2, hlv, _, _, hcc⟩ := HL.out.at_ (by intro h; rw [h] at h3; simp at h3)
  simp only [Value.slice.injEq, true_and] at hlv
  obtain ⟨rfl, rfl⟩ := hlv
  obtain ⟨x1, hx1⟩ : ∃ x1, (nd d i).l[1]? = some x1 := ⟨_, List.getElem?_eq_some_iff.2 ⟨by omega, rfl⟩⟩
  have hg : (nd d i).l.getD 1 0 = x1 := by rw [List.getD_eq_getElem?_getD, hx1]; rfl
  have hi1 : x1 < d.length := by have := Hpar.out x1 (List.mem_of_getElem? hx1); omega
  rw [hg] at hr
  have f1 := X.cell HX1.out (hcc 1 x1 hx1)
  have Hpa := hid (R_pairs p b off c d st L S1 _ x1 HX1.out HE.out hi1)
  have h3' : 3 ≤ (nd d i).l.length := by omega
  have Hr := hid hr
  clear hcc hx1 hg hr h3
  go_enter Try.func62, Try.ntmps62
  go_wp2_with fail
  refine Hpa.out.mono ?_
  rintro e w2 ⟨v2, u2, S2, k2, hX2, h2⟩
  have HX2 := hid hX2
  have HK2 := hid k2
  have g1 := X.cell hX2 (Hd1.out.mono k2)
  have g4 := X.cell hX2 (Hd4.out.mono k2)
  clear hX2 k2
  rcases h2 with ⟨hp, rfl⟩ | ⟨ps, vs, hp, rfl, hps, hvs⟩
  · have hr := Hr.out
    rw [hp] at hr
    have Hr2 := hid hr
    have Hnm := hid (R_names p b off c d st L S2 w2 (.slice none 0 0) [] HX2.out (HE.out.mono HK2.out) (NatsR.nil _) (fun j hj => by cases hj))
    clear hr hp
    go_wp2_with fail
    refine Hnm.out.mono ?_
    rintro e w3 ⟨v3, S3, k3, hX3, h3⟩
    have HX3 := hid hX3
    have HK3 := hid k3
    clear hX3 k3
    rcases h3 with ⟨_, rfl⟩ | ⟨ns, _, rfl, _⟩
    · go_wp2_with fail
      refine (R_wrongR p b off c d st L S3 _ i r st' HX3.out ((HE.out.mono HK2.out).mono HK3.out) hi Hr2.out).mono ?_
      rintro e w5 ⟨rfl, S5, k5, hX5⟩
      go_wp2_with fail
      go_ret
      exact Ret.intro rfl (((HK1.out.trans HK2.out).trans HK3.out).trans k5) hX5
    · go_wp2_with fail
      refine (R_wrongR p b off c d st L S3 _ i r st' HX3.out ((HE.out.mono HK2.out).mono HK3.out) hi Hr2.out).mono ?_
      rintro e w5 ⟨rfl, S5, k5, hX5⟩
      go_wp2_with fail
      go_ret
      exact Ret.intro rfl (((HK1.out.trans HK2.out).trans HK3.out).trans k5) hX5
  obtain ⟨A5, c5, rfl, _, _⟩ := Sl.shape hps
  obtain ⟨A6, c6, rfl, _, _⟩ := Sl.shape hvs
  have hr := Hr.out
  rw [hp] at hr
  have Hin := hid (pairs_in HE.out hi1 hp)
  have Hnm := hid (R_names p b off c d st L S2 w2 _ ps HX2.out (HE.out.mono HK2.out) hps (fun j hj => (Hin.out.1 j hj)))
  have Hvs := hid hvs
  clear hp hps hvs
  go_wp2_with fail
  refine Hnm.out.mono ?_
  rintro e w3 ⟨v3, S3, k3, hX3, h3⟩
  have HX3 := hid hX3
  have HK3 := hid k3
  have g1 := X.cell hX3 ((Hd1.out.mono HK2.out).mono k3)
  have g4 := X.cell hX3 ((Hd4.out.mono HK2.out).mono k3)
  clear hX3 k3
  rcases h3 with ⟨hn, rfl⟩ | ⟨ns, hn, rfl, hns⟩
  · simp only [hn] at hr
    have Hr2 := hid hr
    clear hr hn
    go_wp2_with fail
    refine (R_wrongR p b off c d st L S3 _ i r st' HX3.out ((HE.out.mono HK2.out).mono HK3.out) hi Hr2.out).mono ?_
    rintro e w5 ⟨rfl, S5, k5, hX5⟩
    go_wp2_with fail
    go_ret
    exact Ret.intro rfl (((HK1.out.trans HK2.out).trans HK3.out).trans k5) hX5
  simp only [hn] at hr
  obtain ⟨⟨f, st1⟩, hr1, hr2⟩ := Option.bind_eq_some_iff.1 hr
  obtain ⟨⟨rs, st2⟩, hr3, hr4⟩ := Option.bind_eq_some_iff.1 (show (forms F st1 vs).bind _ = some (r, st') from hr2)
  have hrl := forms_len hr3
  have Hrl := hid hrl
  have Hr1 := hid hr1
  have Hr3 := hid hr3
  have Hr4 := hid hr4
  have Hns := hid hns
  have HE3 := hid ((HE.out.mono HK2.out).mono HK3.out)
  have Hvs3 := hid (Hvs.out.mono HK3.out)
  have Hdr := hid (((NatsR.drop HL.out (k := 2) (by omega) (by omega)).mono HK2.out).mono HK3.out)
  have Hd13 := hid ((Hd1.out.mono HK2.out).mono HK3.out)
  have hc : ¬ c1 = 2 := by omega
  have hlI : (2 : Int) ≤ ((nd d i).l.length : Int) := by omega
  have hvl := Hin.out.2.2.2.1
  have hvlen := Hvs.out.len
  clear hr hn hns hr1 hr2 hr3 hr4 hrl
  go_wp2_with fail
  refine wp_plan 7 (.take 0 (.take 1 (.take 2 (.take 3 (.take 4 (.take 5 (.take 6 .fin))))))) (fun w_ => w_ = _) (by kernel_rfl) (by kernel_rfl) (fun _ _ d_ _ _ h_ => by cases d_ <;> exact h_) rfl ?_
  refine Pl.takeW rfl rfl ?v1 ?hy1 ?rest1
  case hy1 => intro w_ _; first | (go_simp; done) | (go_simp; with_reducible rfl)
  simp only [Act.put, List.setIfInBounds_toArray, List.set_cons_zero, List.set_cons_succ]
  refine Pl.takeW rfl rfl ?v2 ?hy2 ?rest2
  case hy2 => intro w_ _; first | (go_simp; done) | (go_simp; with_reducible rfl)
  simp only [Act.put, List.setIfInBounds_toArray, List.set_cons_zero, List.set_cons_succ]
  refine Pl.takeW rfl rfl ?v3 ?hy3 ?rest3
  case hy3 => intro w_ hS_; subst hS_; first | (go_simp; done) | (go_simp; with_reducible rfl)
  simp only [Act.put, List.setIfInBounds_toArray, List.set_cons_zero, List.set_cons_succ]
  refine Pl.takeW rfl rfl ?v4 ?hy4 ?rest4
  case hy4 => intro w_ _; first | (go_simp; done) | (go_simp; with_reducible rfl)
  simp only [Act.put, List.setIfInBounds_toArray, List.set_cons_zero, List.set_cons_succ]
  refine Pl.takeW rfl rfl ?v5 ?hy5 ?rest5
  case hy5 => intro w_ _; first | (go_simp; done) | (go_simp; with_reducible rfl)
  simp only [Act.put, List.setIfInBounds_toArray, List.set_cons_zero, List.set_cons_succ]
  refine Pl.takeW rfl rfl ?v6 ?hy6 ?rest6
  case hy6 => intro w_ hS_; subst hS_; first | (go_simp; done) | (go_simp; with_reducible rfl)
  simp only [Act.put, List.setIfInBounds_toArray, List.set_cons_zero, List.set_cons_succ]
  refine Pl.takeW rfl rfl ?v7 ?hy7 ?rest7
  case hy7 => intro w_ _; first | (go_simp; done) | (go_simp; with_reducible rfl)
  simp only [Act.put, List.setIfInBounds_toArray, List.set_cons_zero, List.set_cons_succ]
  show wpList _ _ _ _ _ _
  simp only [List.drop_succ_cons, List.drop_zero]
  go_wp2_with fail
  refine (R_fn p b off c d st L S3 _ F HF.out _ _ _ ns _ f st1 (X.drew HX3.out) HE3.out Hns.out Hdr.out (fun j hj => by have := Hpar.out j (List.mem_of_mem_drop hj); omega) (by simp; omega) Hr1.out).mono ?_
  rintro e w4 ⟨rfl, S4, k4, hX4⟩
  have X1 := RX.xs p (dval b off c d) st1
  have HX4 := hid (X1.allocRow hX4 3 1 [nat f] rfl (by unfold maxLen; omega))
  have HK4 := hid k4
  clear hX4 k4 g1 g4
  go_wp2_with fail
  go_loopw [11, 12] (fun v i wr => FormsRel (RX p (dval b off c d)) F 3 vs st2 rs [f] L S4 v i wr) (fun _ i _ => vs.length - (intOf i).toNat)
  case atStart => exact ⟨0, [], st1, S4, rs, Nat.zero_le _, rfl, Seal.le.refl _, HX4.out, Hr3.out, rfl, rfl⟩
  case round =>
    obtain ⟨k, o, st5, S5, rest, hk, rfl, hS5, hX5, hf5, hrs, hok⟩ := hrel
    have X5 := RX.xs p (dval b off c d) st5
    have HS5 := hid hS5
    have HX5 := hid hX5
    have Hf5 := hid hf5
    have Hrs := hid hrs
    have Hok := hid hok
    have hoL : ([f] ++ o).length ≤ vs.length + 1 := by simp; omega
    clear hS5 hX5 hf5 hrs hok
    by_cases hlt : k < vs.length
    · obtain ⟨b6, o6, rfl, hcell⟩ : ∃ b1 o1, A6 = some ⟨b1, o1, none⟩ ∧ World.cell? _ ⟨b1, o1 + k, none⟩ = some (nat vs[k]) := by
        obtain ⟨b1, o1, c1, hv, _, _, hc⟩ := Hvs3.out.at_ (by intro h; subst h; simp at hlt)
        cases hv
        exact ⟨b1, o1, rfl, X5.cell HX5.out (((hc k _ (List.getElem?_eq_some_iff.2 ⟨hlt, rfl⟩)).mono HK4.out).mono HS5.out)⟩
      have hd : vs.drop k = vs[k] :: vs.drop (k + 1) := List.drop_eq_getElem_cons hlt
      have hf2 := Hf5.out
      rw [hd] at hf2
      obtain ⟨r3, st3, rest3, h31, h32, h33⟩ := forms_cons hf2
      have Hi := hid (Hin.out.2.1 vs[k] (List.getElem_mem hlt))
      have hkI : (k : Int) < (vs.length : Int) := by omega
      have H31 := hid h31
      have H32 := hid h32
      have H33 := hid h33
      clear hd hf2 h31 h32 h33
      generalize vs[k] = x at *
      go_wp2_with fail
      refine (HF.out st5 _ S5 _ x r3 st3 HX5.out ((HE3.out.mono HK4.out).mono HS5.out) Hi.out H31.out).mono ?_
      rintro e w6 ⟨rfl, S6, k6, hX6⟩
      have HA7 := hid (Xs.alloc0 (RX.xs _ _ _) hX6 (.cells #[nat r3] 3))
      have HN7 := hid (cells_new w6 _ rfl [nat r3] 3)
      go_wp2_with (at_builtin; refine wpList_appendX tyInts (RX.xs _ _ _) rfl (.tmp 67) (.tmp 74) rfl rfl HA7.out ⟨w6.heap.size, 0, none⟩ 1 1 [nat r3] rfl rfl HN7.out ?c1_7 ?c2_7 ?c3_7 ?c4_7)
      case c1_7 => simp [Value.oneCell']
      case c2_7 => omega
      case c3_7 => unfold maxLen; omega
      clear HA7 HN7
      intro v7 u7 hY7
      have HX7 := hid hY7
      have HK := hid (HS5.out.trans k6)
      clear hY7 hX6 k6
      go_wp2_with fail
      go_roundw
      case rel =>
        refine ⟨k + 1, o ++ [r3], st3, S6, rest3, by omega, by go_num, HK.out, by simpa using HX7.out, H32.out, ?_, by simp [Hok.out]⟩
        rw [Hrs.out]; simp [H33.out]
      case measure => simp [intOf]; omega
    · have hk' : k = vs.length := by omega
      have hf2 := Hf5.out
      rw [hk', List.drop_length] at hf2
      have e1 := forms_nil hf2
      simp only [Prod.mk.injEq] at e1
      obtain ⟨e2, e3⟩ := e1
      subst e2 e3
      have e4 : rs = o := by rw [Hrs.out]; simp
      subst e4
      obtain ⟨A7, c7, rfl, _, _⟩ := X5.rowLen HX5.out
      obtain ⟨S6, k6, hX6, hs6⟩ := X5.sealRow HX5.out
      have g1 := X5.cell hX6 (((Hd13.out.mono HK4.out).mono HS5.out).mono k6)
      have HS6 := hid hs6
      have HX6 := hid hX6
      have HK := hid (((((HK1.out.trans HK2.out).trans HK3.out).trans HK4.out).trans HS5.out).trans k6)
      clear hf2 hk' hs6 hX6 k6
      go_wp2_with fail
      refine (R_put p (dval b off c d) st2 L S6 _ 10 (nd d i).at_ 0 0 [] [] 0 ([f] ++ rs) (.slice none 0 0) _ r st' HX6.out (StrsR.nil _) HS6.out Hr4.out).mono ?_
      rintro e w7 ⟨rfl, S7, k7, hX7⟩
      go_wp2_with fail
      go_ret
      exact Ret.intro rfl (HK.out.trans k7) hX7
end
end Go.Proofs.Ytjjbidajkmodfaa
namespace Go.Proofs.Ytjjbidajkmodfaa
open Go Go.RowKit
theorem stars_two {d : List Node} {F : Fm} {at_ : Int} {bd : List Nat} {st : St} {x y : Nat} {ps vs : List Nat} {r : Nat} {st' : St} (h : stars d F at_ bd st (x :: ps) (y :: vs) = some (r, st')) :
    ∃ b st1 f st2 a st3, stars d F at_ bd st ps vs = some (b, st1) ∧ put st1 { kind := 6, at_ := at_, p := [(nd d x).s], l := [b] } = some (f, st2) ∧ F st2 y = some (a, st3) ∧ put st3 { kind := 10, at_ := at_, l := [f, a] } = some (r, st') := by
  rw [stars] at h
  obtain ⟨⟨b, st1⟩, h1, h⟩ := Option.bind_eq_some_iff.1 h
  obtain ⟨⟨f, st2⟩, h2, h⟩ := Option.bind_eq_some_iff.1 h
  unfold call at h
  obtain ⟨⟨rs, st3⟩, h3, h4⟩ := Option.bind_eq_some_iff.1 h
  obtain ⟨a, st4, rs', h5, h6, h7⟩ := forms_cons h3
  have h8 := forms_nil h6
  simp only [Prod.mk.injEq] at h8
  obtain ⟨rfl, h9⟩ := h8
  dsimp only at h7 h9 h4
  subst h7 h9
  exact ⟨b, st1, f, st2, a, _, h1, h2, h5, h4⟩
section
variable (p b off c : Nat) (d : List Node)
set_option maxRecDepth 100000 in
set_option maxHeartbeats 16000000 in
theorem R_stars (F : Fm) (HF : OkR p b off c d F) (at_ : Int) (bd : List Nat) (hbin : ∀ j ∈ bd, j < d.length) (hbl : bd.length ≤ 1099511627776) :
    ∀ (ps vs : List Nat) (st : St) (L : List Atom) (S : Seal) (w : World) (pv vv bv : Value) (r : Nat) (st' : St), RX p (dval b off c d) st L S w → Env S b off c d → NatsR S pv ps → NatsR S vv vs → NatsR S bv bd →
      (∀ j ∈ ps, j < d.length) → (∀ j ∈ vs, j < d.length) → ps.length = vs.length → stars d F at_ bd st ps vs = some (r, st') →
      Calls Try.prog 64 #[ptr p, .int .i64 at_, pv, vv, bv] w (Ret S (RX p (dval b off c d) st' L) (nat r)) := by
  have HF := hid HF
  have Hbin := hid hbin
  intro ps
  induction ps with
  | nil =>
    intro vs st L S w pv vv bv r st' hX hE hp hv hb _ _ hl hr
    have hr : body F at_ st bd = some (r, st') := by
      cases vs with
      | nil => exact hr
      | cons => simp at hl
    obtain ⟨A1, c1, rfl, _, _⟩ := Sl.shape hp
    obtain ⟨A2, c2, rfl, _, _⟩ := Sl.shape hv
    obtain ⟨A3, c3, rfl, _, _⟩ := Sl.shape hb
    have Hb := hid (R_body p b off c d st L S w F HF.out at_ _ bd r st' hX hE hb Hbin.out hbl hr)
    clear hX hE hp hv hb hr hl
    go_enter Try.func64, Try.ntmps64
    go_wp2_with fail
    refine (Hb.out).mono ?_
    rintro e w1 ⟨rfl, S1, k1, hX1⟩
    go_wp2_with fail
    go_ret
    exact Ret.intro rfl k1 hX1
  | cons x ps ih =>
    intro vs st L S w pv vv bv r st' hX hE hp hv hb hpi hvi hl hr
    match vs, hl with
    | y :: vs, hl =>
    obtain ⟨bb, st1, f, st2, a, st3, h1, h2, h3, h4⟩ := stars_two hr
    obtain ⟨b1, o1, c1, rfl, hk1, _, hc1⟩ := hp.at_ (by simp)
    obtain ⟨b2, o2, c2, rfl, hk2, _, hc2⟩ := hv.at_ (by simp)
    obtain ⟨A3, c3, rfl, _, _⟩ := Sl.shape hb
    have htp := NatsR.tailIf hp
    generalize hA1 : (if c1 = 1 then (some ⟨b1, o1, none⟩ : Option Addr) else some ⟨b1, o1 + 1, none⟩) = A1 at htp
    have htv := NatsR.tailIf hv
    generalize hA2 : (if c2 = 1 then (some ⟨b2, o2, none⟩ : Option Addr) else some ⟨b2, o2 + 1, none⟩) = A2 at htv
    have Hx := hid (hc1 0 x rfl)
    have Hy := hid (hc2 0 y rfl)
    rw [Nat.add_zero] at Hx Hy
    have hxi := hpi x List.mem_cons_self
    have hyi := hvi y List.mem_cons_self
    have hxI : (x : Int) < (d.length : Int) := by omega
    have hlenD := Dat.len hE
    have Hih := hid (fun W (hW : RX p (dval b off c d) st L S W) => ih vs st L S W _ _ _ bb st1 hW hE htp htv hb (fun j hj => hpi j (List.mem_cons_of_mem _ hj)) (fun j hj => hvi j (List.mem_cons_of_mem _ hj)) (by simpa using hl) h1)
    have HX := hid hX
    have HE := hid hE
    obtain ⟨lv, hN⟩ := hE.at_ x hxi
    have HN3 := hid hN.c3
    have g1 : (1 : Int) ≤ (ps.length : Int) + 1 := by omega
    have g2 : (1 : Int) ≤ (vs.length : Int) + 1 := by omega
    have H2 := hid h2
    have H3 := hid h3
    have H4 := hid h4
    clear hX hE hp hv hb hpi hvi hl hr h1 h2 h3 h4 hc1 hc2 htp htv hN ih hbin hk1 hk2
    go_enter Try.func64, Try.ntmps64
    go_wp2_with fail
    refine wp_plan 7 (.take 0 (.take 1 (.take 2 (.take 3 (.take 4 (.take 5 (.take 6 .fin))))))) (fun w_ => w_ = _) (by kernel_rfl) (by kernel_rfl) (fun _ _ d_ _ _ h_ => by cases d_ <;> exact h_) rfl ?_
    refine Pl.takeW rfl rfl ?v1 ?hy1 ?rest1
    case hy1 => intro w_ _; first | (go_simp; done) | (go_simp; with_reducible rfl)
    simp only [Act.put, List.setIfInBounds_toArray, List.set_cons_zero, List.set_cons_succ]
    refine Pl.takeW rfl rfl ?v2 ?hy2 ?rest2
    case hy2 => intro w_ _; first | (go_simp; done) | (go_simp; with_reducible rfl)
    simp only [Act.put, List.setIfInBounds_toArray, List.set_cons_zero, List.set_cons_succ]
    refine Pl.takeW rfl rfl ?v3 ?hy3 ?rest3
    case hy3 => intro w_ _; first | (go_simp; done) | (go_simp; with_reducible rfl)
    simp only [Act.put, List.setIfInBounds_toArray, List.set_cons_zero, List.set_cons_succ]
    refine Pl.takeW rfl rfl ?v4 ?hy4 ?rest4
    case hy4 => intro w_ _; first | (go_simp; done) | (go_simp; with_reducible rfl)
    simp only [Act.put, List.setIfInBounds_toArray, List.set_cons_zero, List.set_cons_succ]
    refine Pl.takeW rfl rfl ?v5 ?hy5 ?rest5
    case hy5 => intro w_ _; first | (go_simp; done) | (go_simp; with_reducible rfl)
    simp only [Act.put, List.setIfInBounds_toArray, List.set_cons_zero, List.set_cons_succ]
    refine Pl.takeW rfl rfl ?v6 ?hy6 ?rest6
    case hy6 => intro w_ _; first | (go_simp; done) | (go_simp; with_reducible rfl)
    simp only [Act.put, List.setIfInBounds_toArray, List.set_cons_zero, List.set_cons_succ]
    refine Pl.takeW rfl rfl ?v7 ?hy7 ?rest7
    case hy7 => intro w_ _; first | (go_simp; done) | (go_simp; with_reducible rfl)
    simp only [Act.put, List.setIfInBounds_toArray, List.set_cons_zero, List.set_cons_succ]
    show wpList _ _ _ _ _ _
    simp only [List.drop_succ_cons, List.drop_zero]
    go_wp2_with fail
    refine (Hih.out _ (RX.drew HX.out)).mono ?_
    rintro e w3 ⟨rfl, S3, k3, hX3⟩
    have X1 := RX.xs p (dval b off c d) st1
    have HX3 := hid hX3
    have HK3 := hid k3
    clear hX3 k3 hA1 hA2
    go_wp2_with fail
    refine wp_plan 16 (.take 0 (.take 1 (.take 2 (.take 3 (.take 4 (.take 5 (.take 6 (.take 7 (.take 8 (.take 9 (.take 10 (.take 11 (.take 13 (.two 12 14 (.one 14 (.take 15 .fin)) (.one 12 (.take 15 .fin)))))))))))))))) (fun w' => w'.cell? ⟨p, 0, none⟩ = some (dval b off c d) ∧ w'.cell? ⟨b1, o1, none⟩ = some (nat x) ∧ w'.cell? ⟨b, off + x * 5 + 3, none⟩ = some (str (nd d x).s)) (by kernel_rfl) (by kernel_rfl) (fun _ _ d_ _ _ h_ => by cases d_ <;> exact h_) (⟨((X1.drew HX3.out)).d0, X1.cell (X1.drew HX3.out) (Hx.out.mono HK3.out), X1.cell (X1.drew HX3.out) (HN3.out.mono HK3.out)⟩) ?_
    refine Pl.takeW rfl rfl ?v8 ?hy8 ?rest8
    case hy8 => intro w_ _; first | (go_simp; done) | (go_simp; with_reducible rfl)
    simp only [Act.put, List.setIfInBounds_toArray, List.set_cons_zero, List.set_cons_succ]
    refine Pl.takeW rfl rfl ?v9 ?hy9 ?rest9
    case hy9 => intro w_ _; first | (go_simp; done) | (go_simp; with_reducible rfl)
    simp only [Act.put, List.setIfInBounds_toArray, List.set_cons_zero, List.set_cons_succ]
    refine Pl.takeW rfl rfl ?v10 ?hy10 ?rest10
    case hy10 => intro w_ _; first | (go_simp; done) | (go_simp; with_reducible rfl)
    simp only [Act.put, List.setIfInBounds_toArray, List.set_cons_zero, List.set_cons_succ]
    refine Pl.takeW rfl rfl ?v11 ?hy11 ?rest11
    case hy11 => intro w_ _; first | (go_simp; done) | (go_simp; with_reducible rfl)
    simp only [Act.put, List.setIfInBounds_toArray, List.set_cons_zero, List.set_cons_succ]
    refine Pl.takeW rfl rfl ?v12 ?hy12 ?rest12
    case hy12 => intro w_ _; first | (go_simp; done) | (go_simp; with_reducible rfl)
    simp only [Act.put, List.setIfInBounds_toArray, List.set_cons_zero, List.set_cons_succ]
    refine Pl.takeW rfl rfl ?v13 ?hy13 ?rest13
    case hy13 => intro w_ hS_; obtain ⟨f_p0, f_q1, f_m3⟩ := hS_; first | (go_simp; done) | (go_simp; with_reducible rfl)
    simp only [Act.put, List.setIfInBounds_toArray, List.set_cons_zero, List.set_cons_succ]
    refine Pl.takeW rfl rfl ?v14 ?hy14 ?rest14
    case hy14 => intro w_ _; first | (go_simp; done) | (go_simp; with_reducible rfl)
    simp only [Act.put, List.setIfInBounds_toArray, List.set_cons_zero, List.set_cons_succ]
    refine Pl.takeW rfl rfl ?v15 ?hy15 ?rest15
    case hy15 => intro w_ _; first | (go_simp; done) | (go_simp; with_reducible rfl)
    simp only [Act.put, List.setIfInBounds_toArray, List.set_cons_zero, List.set_cons_succ]
    refine Pl.takeW rfl rfl ?v16 ?hy16 ?rest16
    case hy16 => intro w_ hS_; obtain ⟨f_p0, f_q1, f_m3⟩ := hS_; first | (go_simp; done) | (go_simp; with_reducible rfl)
    simp only [Act.put, List.setIfInBounds_toArray, List.set_cons_zero, List.set_cons_succ]
    refine Pl.takeW rfl rfl ?v17 ?hy17 ?rest17
    case hy17 => intro w_ _; first | (go_simp; done) | (go_simp; with_reducible rfl)
    simp only [Act.put, List.setIfInBounds_toArray, List.set_cons_zero, List.set_cons_succ]
    refine Pl.takeW rfl rfl ?v18 ?hy18 ?rest18
    case hy18 => intro w_ _; first | (go_simp; done) | (go_simp; with_reducible rfl)
    simp only [Act.put, List.setIfInBounds_toArray, List.set_cons_zero, List.set_cons_succ]
    refine Pl.takeW rfl rfl ?v19 ?hy19 ?rest19
    case hy19 => intro w_ hS_; obtain ⟨f_p0, f_q1, f_m3⟩ := hS_; first | (go_simp; done) | (go_simp; with_reducible rfl)
    simp only [Act.put, List.setIfInBounds_toArray, List.set_cons_zero, List.set_cons_succ]
    refine Pl.takeW rfl rfl ?v20 ?hy20 ?rest20
    case hy20 => intro w_ _; first | (go_simp; done) | (go_simp; with_reducible rfl)
    simp only [Act.put, List.setIfInBounds_toArray, List.set_cons_zero, List.set_cons_succ]
    refine Pl.twoW ?_ ?_
    · refine Pl.oneW rfl rfl (fun K_ hK_ => ?_)
      go_simp
      obtain ⟨Sa, ka, hXa, sa⟩ := X1.box HX3.out #[str (nd d x).s] 9
      refine hK_ _ _ ⟨((X1.drew hXa)).d0, X1.cell (X1.drew hXa) ((Hx.out.mono HK3.out).mono (ka)), X1.cell (X1.drew hXa) ((HN3.out.mono HK3.out).mono (ka))⟩ ?_
      refine Pl.oneW rfl rfl (fun K_ hK_ => ?_)
      go_simp
      obtain ⟨Sb, kb, hXb, sb⟩ := X1.box hXa #[nat bb] 3
      have hsz : (w3.alloc (.cells #[str (nd d x).s] 9)).heap.size = w3.heap.size + 1 := by simp
      rw [hsz] at sb
      refine hK_ _ _ ⟨((X1.drew hXb)).d0, X1.cell (X1.drew hXb) ((Hx.out.mono HK3.out).mono ((ka.trans kb))), X1.cell (X1.drew hXb) ((HN3.out.mono HK3.out).mono ((ka.trans kb)))⟩ ?_
      refine Pl.takeW rfl rfl ?v21 ?hy21 ?rest21
      case hy21 => intro w_ _; first | (go_simp; done) | (go_simp; with_reducible rfl)
      simp only [Act.put, List.setIfInBounds_toArray, List.set_cons_zero, List.set_cons_succ]
      show wpList _ _ _ _ _ _
      simp only [List.drop_succ_cons, List.drop_zero]
      have sa' : ∀ j v, (#[str (nd d x).s] : Array Value)[j]? = some v → Sc Sb w3.heap.size j v := fun j v hv => (sa j v hv).mono kb
      have HXa := hid hXb
      have HKa := hid (HK3.out.trans (ka.trans kb))
      have HSa := hid (StrsR.box1 sa')
      have HNa := hid (NatsR.box1 sb)
      clear ka kb hXa hXb sa sb sa'
      go_wp2_with fail
      refine (R_put p (dval b off c d) st1 L _ _ 6 at_ 0 0 [] [(nd d x).s] 0 [bb] (.slice (some ⟨w3.heap.size, 0, none⟩) 1 1) (.slice (some ⟨(w3.heap.size + 1), 0, none⟩) 1 1) f st2 (X1.drew HXa.out) HSa.out HNa.out H2.out).mono ?_
      rintro e w5 ⟨rfl, S5, k5, hX5⟩
      have X2 := RX.xs p (dval b off c d) st2
      have e7 := X2.cell hX5 ((Hy.out.mono HKa.out).mono k5)
      have HX5 := hid hX5
      have HK5 := hid (HKa.out.trans k5)
      clear hX5 k5
      go_wp2_with fail
      refine (HF.out st2 L S5 _ y a st3 HX5.out (HE.out.mono HK5.out) hyi H3.out).mono ?_
      rintro e w6 ⟨rfl, S6, k6, hX6⟩
      have X3 := RX.xs p (dval b off c d) st3
      obtain ⟨S8, k8, hX8, s8⟩ := X3.box hX6 #[nat f, nat a] 3
      have HX8 := hid hX8
      have HK8 := hid ((HK5.out.trans k6).trans k8)
      have HS8 := hid (⟨by simp, _, _, rfl, Nat.le_refl _, by unfold maxLen; omega, .inr ⟨w6.heap.size, 0, rfl, fun j u hu => by rw [Nat.zero_add]; exact s8 j u (by simpa using hu)⟩⟩ : NatsR S8 (.slice (some ⟨w6.heap.size, 0, none⟩) 2 2) [f, a])
      clear hX8 k8 s8 hX6 k6 e7
      go_wp2_with fail
      refine (R_put p (dval b off c d) st3 L S8 _ 10 at_ 0 0 [] [] 0 [f, a] (.slice none 0 0) (.slice (some ⟨w6.heap.size, 0, none⟩) 2 2) r st' HX8.out (StrsR.nil _) HS8.out H4.out).mono ?_
      rintro e w9 ⟨rfl, S9, k9, hX9⟩
      go_wp2_with fail
      go_ret
      exact Ret.intro rfl (HK8.out.trans k9) hX9
    · refine Pl.oneW rfl rfl (fun K_ hK_ => ?_)
      go_simp
      obtain ⟨Sa, ka, hXa, sa⟩ := X1.box HX3.out #[nat bb] 3
      refine hK_ _ _ ⟨((X1.drew hXa)).d0, X1.cell (X1.drew hXa) ((Hx.out.mono HK3.out).mono (ka)), X1.cell (X1.drew hXa) ((HN3.out.mono HK3.out).mono (ka))⟩ ?_
      refine Pl.oneW rfl rfl (fun K_ hK_ => ?_)
      go_simp
      obtain ⟨Sb, kb, hXb, sb⟩ := X1.box hXa #[str (nd d x).s] 9
      have hsz : (w3.alloc (.cells #[nat bb] 3)).heap.size = w3.heap.size + 1 := by simp
      rw [hsz] at sb
      refine hK_ _ _ ⟨((X1.drew hXb)).d0, X1.cell (X1.drew hXb) ((Hx.out.mono HK3.out).mono ((ka.trans kb))), X1.cell (X1.drew hXb) ((HN3.out.mono HK3.out).mono ((ka.trans kb)))⟩ ?_
      refine Pl.takeW rfl rfl ?v22 ?hy22 ?rest22
      case hy22 => intro w_ _; first | (go_simp; done) | (go_simp; with_reducible rfl)
      simp only [Act.put, List.setIfInBounds_toArray, List.set_cons_zero, List.set_cons_succ]
      show wpList _ _ _ _ _ _
      simp only [List.drop_succ_cons, List.drop_zero]
      have sa' : ∀ j v, (#[nat bb] : Array Value)[j]? = some v → Sc Sb w3.heap.size j v := fun j v hv => (sa j v hv).mono kb
      have HXa := hid hXb
      have HKa := hid (HK3.out.trans (ka.trans kb))
      have HSa := hid (StrsR.box1 sb)
      have HNa := hid (NatsR.box1 sa')
      clear ka kb hXa hXb sa sb sa'
      go_wp2_with fail
      refine (R_put p (dval b off c d) st1 L _ _ 6 at_ 0 0 [] [(nd d x).s] 0 [bb] (.slice (some ⟨(w3.heap.size + 1), 0, none⟩) 1 1) (.slice (some ⟨w3.heap.size, 0, none⟩) 1 1) f st2 (X1.drew HXa.out) HSa.out HNa.out H2.out).mono ?_
      rintro e w5 ⟨rfl, S5, k5, hX5⟩
      have X2 := RX.xs p (dval b off c d) st2
      have e7 := X2.cell hX5 ((Hy.out.mono HKa.out).mono k5)
      have HX5 := hid hX5
      have HK5 := hid (HKa.out.trans k5)
      clear hX5 k5
      go_wp2_with fail
      refine (HF.out st2 L S5 _ y a st3 HX5.out (HE.out.mono HK5.out) hyi H3.out).mono ?_
      rintro e w6 ⟨rfl, S6, k6, hX6⟩
      have X3 := RX.xs p (dval b off c d) st3
      obtain ⟨S8, k8, hX8, s8⟩ := X3.box hX6 #[nat f, nat a] 3
      have HX8 := hid hX8
      have HK8 := hid ((HK5.out.trans k6).trans k8)
      have HS8 := hid (⟨by simp, _, _, rfl, Nat.le_refl _, by unfold maxLen; omega, .inr ⟨w6.heap.size, 0, rfl, fun j u hu => by rw [Nat.zero_add]; exact s8 j u (by simpa using hu)⟩⟩ : NatsR S8 (.slice (some ⟨w6.heap.size, 0, none⟩) 2 2) [f, a])
      clear hX8 k8 s8 hX6 k6 e7
      go_wp2_with fail
      refine (R_put p (dval b off c d) st3 L S8 _ 10 at_ 0 0 [] [] 0 [f, a] (.slice none 0 0) (.slice (some ⟨w6.heap.size, 0, none⟩) 2 2) r st' HX8.out (StrsR.nil _) HS8.out H4.out).mono ?_
      rintro e w9 ⟨rfl, S9, k9, hX9⟩
      go_wp2_with fail
      go_ret
      exact Ret.intro rfl (HK8.out.trans k9) hX9
end
end Go.Proofs.Ytjjbidajkmodfaa
namespace Go.Proofs.Ytjjbidajkmodfaa
open Go Go.RowKit
theorem NatsR.ofBox {S : Seal} {b : Nat} {l : List Nat} (hl : l.length ≤ maxLen) (s : ∀ j v, (l.map nat).toArray[j]? = some v → Sc S b j v) : NatsR S (.slice (some ⟨b, 0, none⟩) l.length l.length) l :=
  ⟨by simp, _, _, rfl, Nat.le_refl _, hl, .inr ⟨b, 0, rfl, fun j u hu => by rw [Nat.zero_add]; exact s j u (by simpa using hu)⟩⟩
theorem andS_two {F : Fm} {at_ : Int} {st : St} {x y : Nat} {t : List Nat} {r : Nat} {st' : St} (h : andS F at_ st (x :: y :: t) = some (r, st')) :
    ∃ a st1 b st2 c st3, F st x = some (a, st1) ∧ andS F at_ st1 (y :: t) = some (b, st2) ∧ bit st2 at_ 0 = some (c, st3) ∧ put st3 { kind := 5, at_ := at_, l := [a, b, c] } = some (r, st') := by
  rw [andS] at h
  · obtain ⟨⟨a, st1⟩, h1, h⟩ := Option.bind_eq_some_iff.1 h
    obtain ⟨⟨b, st2⟩, h2, h⟩ := Option.bind_eq_some_iff.1 h
    obtain ⟨⟨c, st3⟩, h3, h⟩ := Option.bind_eq_some_iff.1 h
    exact ⟨a, st1, b, st2, c, st3, h1, h2, h3, h⟩
  · intro h; cases h
theorem orS_two {F : Fm} {at_ : Int} {st : St} {x y : Nat} {t : List Nat} {r : Nat} {st' : St} (h : orS F at_ st (x :: y :: t) = some (r, st')) :
    ∃ p0 st1 q0 st2 b st3 c st4 f st5 a st6, put st { kind := 4, at_ := at_, s := [32] } = some (p0, st1) ∧ put st1 { kind := 4, at_ := at_, s := [32] } = some (q0, st2) ∧ orS F at_ st2 (y :: t) = some (b, st3) ∧
      put st3 { kind := 5, at_ := at_, l := [p0, q0, b] } = some (c, st4) ∧ put st4 { kind := 6, at_ := at_, p := [[32]], l := [c] } = some (f, st5) ∧ F st5 x = some (a, st6) ∧ put st6 { kind := 10, at_ := at_, l := [f, a] } = some (r, st') := by
  rw [orS] at h
  · obtain ⟨⟨p0, st1⟩, h1, h⟩ := Option.bind_eq_some_iff.1 h
    obtain ⟨⟨q0, st2⟩, h2, h⟩ := Option.bind_eq_some_iff.1 h
    obtain ⟨⟨b, st3⟩, h3, h⟩ := Option.bind_eq_some_iff.1 h
    obtain ⟨⟨c, st4⟩, h4, h⟩ := Option.bind_eq_some_iff.1 h
    obtain ⟨⟨f, st5⟩, h5, h⟩ := Option.bind_eq_some_iff.1 h
    unfold call at h
    obtain ⟨⟨rs, st6⟩, h6, h7⟩ := Option.bind_eq_some_iff.1 h
    obtain ⟨a, st7, rs', h8, h9, h10⟩ := forms_cons h6
    have h11 := forms_nil h9
    simp only [Prod.mk.injEq] at h11
    obtain ⟨rfl, h12⟩ := h11
    dsimp only at h10 h12 h7
    subst h10 h12
    exact ⟨p0, st1, q0, st2, b, st3, c, st4, f, st5, a, _, h1, h2, h3, h4, h5, h8, h7⟩
  · intro h; cases h
section
variable (p b off c : Nat) (d : List Node)
set_option maxRecDepth 100000 in
set_option maxHeartbeats 16000000 in
theorem R_and (F : Fm) (HF : OkR p b off c d F) (at_ : Int) : ∀ (l : List Nat) (st : St) (L : List Atom) (S : Seal) (w : World) (lv : Value) (r : Nat) (st' : St), RX p (dval b off c d) st L S w → Env S b off c d → NatsR S lv l →
    (∀ j ∈ l, j < d.length) → andS F at_ st l = some (r, st') → Calls Try.prog 65 #[ptr p, .int .i64 at_, .bool true, lv] w (Ret S (RX p (dval b off c d) st' L) (nat r)) := by
  have HF := hid HF
  intro l
  induction l with
  | nil =>
    intro st L S w lv r st' hX hE hl _ hr
    obtain ⟨A1, c1, rfl, _, _⟩ := Sl.shape hl
    have Hb := hid (R_bit p st L S w (dval b off c d) at_ 1 r st' hX hr)
    clear hX hE hl hr
    go_enter Try.func65, Try.ntmps65
    go_wp2_with fail
    refine (Hb.out).mono ?_
    rintro e w1 ⟨rfl, S1, k1, hX1⟩
    go_wp2_with fail
    go_ret
    exact Ret.intro rfl k1 hX1
  | cons x l ih =>
    intro st L S w lv r st' hX hE hl hin hr
    have X := RX.xs p (dval b off c d) st
    obtain ⟨b1, o1, c1, rfl, hk1, _, hc1⟩ := hl.at_ (by simp)
    have Hx := hid (hc1 0 x rfl)
    rw [Nat.add_zero] at Hx
    have e1 := X.cell hX Hx.out
    have hxi := hin x List.mem_cons_self
    have hlen := hl.len
    cases l with
    | nil =>
      have Hf := hid (HF.out st L S w x r st' hX hE hxi hr)
      clear hX hE hl hin hr hc1 ih
      go_enter Try.func65, Try.ntmps65
      go_wp2_with fail
      refine (Hf.out).mono ?_
      rintro e w1 ⟨rfl, S1, k1, hX1⟩
      go_wp2_with fail
      go_ret
      exact Ret.intro rfl k1 hX1
    | cons y t =>
      obtain ⟨a, st1, b2, st2, c2, st3, h1, h2, h3, h4⟩ := andS_two hr
      have Htl := hid (NatsR.tail2 hl)
      have Hf := hid (HF.out st L S w x a st1 hX hE hxi h1)
      have Hin := hid (fun j (hj : j ∈ y :: t) => hin j (List.mem_cons_of_mem _ hj))
      have Hih := hid ih
      have HE := hid hE
      have H2 := hid h2
      have H3 := hid h3
      have H4 := hid h4
      have g0 : ((t.length : Int) + 1 + 1 == 0) = false := by rw [beq_eq_false_iff_ne]; omega
      have g1 : ((t.length : Int) + 1 + 1 == 1) = false := by rw [beq_eq_false_iff_ne]; omega
      have g2 : (1 : Int) ≤ (t.length : Int) + 1 + 1 := by omega
      have g3 : ¬ c1 = 1 := by have : (x :: y :: t).length = t.length + 2 := rfl; omega
      clear hX hE hl hin hr hc1 ih h1 h2 h3 h4
      go_enter Try.func65, Try.ntmps65
      go_wp2_with fail
      refine (Hf.out).mono ?_
      rintro e w1 ⟨rfl, S1, k1, hX1⟩
      have HX1 := hid hX1
      have HK1 := hid k1
      clear hX1 k1 e1
      go_wp2_with fail
      refine (Hih.out st1 L S1 _ _ b2 st2 HX1.out (HE.out.mono HK1.out) (Htl.out.mono HK1.out) Hin.out H2.out).mono ?_
      rintro e w2 ⟨rfl, S2, k2, hX2⟩
      have HX2 := hid hX2
      have HK2 := hid (HK1.out.trans k2)
      clear hX2 k2
      go_wp2_with fail
      refine (R_bit p st2 L S2 _ (dval b off c d) at_ 0 c2 st3 HX2.out H3.out).mono ?_
      rintro e w3 ⟨rfl, S3, k3, hX3⟩
      have X3 := RX.xs p (dval b off c d) st3
      obtain ⟨S8, k8, hX8, s8⟩ := X3.box hX3 #[nat a, nat b2, nat c2] 3
      have HX8 := hid hX8
      have HK8 := hid ((HK2.out.trans k3).trans k8)
      have HS8 := hid (NatsR.ofBox (l := [a, b2, c2]) (by unfold maxLen; simp) s8)
      clear hX8 k8 s8 hX3 k3
      go_wp2_with fail
      refine (R_put p (dval b off c d) st3 L S8 _ 5 at_ 0 0 [] [] 0 [a, b2, c2] (.slice none 0 0) (.slice (some ⟨w3.heap.size, 0, none⟩) 3 3) r st' HX8.out (StrsR.nil _) HS8.out H4.out).mono ?_
      rintro e w9 ⟨rfl, S9, k9, hX9⟩
      go_wp2_with fail
      go_ret
      exact Ret.intro rfl (HK8.out.trans k9) hX9
set_option maxRecDepth 100000 in
set_option maxHeartbeats 16000000 in
theorem R_or (F : Fm) (HF : OkR p b off c d F) (at_ : Int) : ∀ (l : List Nat) (st : St) (L : List Atom) (S : Seal) (w : World) (lv : Value) (r : Nat) (st' : St), RX p (dval b off c d) st L S w → Env S b off c d → NatsR S lv l →
    (∀ j ∈ l, j < d.length) → orS F at_ st l = some (r, st') → Calls Try.prog 65 #[ptr p, .int .i64 at_, .bool false, lv] w (Ret S (RX p (dval b off c d) st' L) (nat r)) := by
  have HF := hid HF
  intro l
  induction l with
  | nil =>
    intro st L S w lv r st' hX hE hl _ hr
    obtain ⟨A1, c1, rfl, _, _⟩ := Sl.shape hl
    have Hb := hid (R_bit p st L S w (dval b off c d) at_ 0 r st' hX hr)
    clear hX hE hl hr
    go_enter Try.func65, Try.ntmps65
    go_wp2_with fail
    refine (Hb.out).mono ?_
    rintro e w1 ⟨rfl, S1, k1, hX1⟩
    go_wp2_with fail
    go_ret
    exact Ret.intro rfl k1 hX1
  | cons x l ih =>
    intro st L S w lv r st' hX hE hl hin hr
    have X := RX.xs p (dval b off c d) st
    obtain ⟨b1, o1, c1, rfl, hk1, _, hc1⟩ := hl.at_ (by simp)
    have Hx := hid (hc1 0 x rfl)
    rw [Nat.add_zero] at Hx
    have e1 := X.cell hX Hx.out
    have hxi := hin x List.mem_cons_self
    have hlen := hl.len
    cases l with
    | nil =>
      have Hf := hid (HF.out st L S w x r st' hX hE hxi hr)
      clear hX hE hl hin hr hc1 ih
      go_enter Try.func65, Try.ntmps65
      go_wp2_with fail
      refine (Hf.out).mono ?_
      rintro e w1 ⟨rfl, S1, k1, hX1⟩
      go_wp2_with fail
      go_ret
      exact Ret.intro rfl k1 hX1
    | cons y t =>
      obtain ⟨p0, st1, q0, st2, b2, st3, c2, st4, f, st5, a, st6, h1, h2, h3, h4, h5, h6, h7⟩ := orS_two hr
      have Htl := hid (NatsR.tail2 hl)
      have Hin := hid (fun j (hj : j ∈ y :: t) => hin j (List.mem_cons_of_mem _ hj))
      have Hih := hid ih
      have HE := hid hE
      have HX := hid hX
      have H1 := hid h1
      have H2 := hid h2
      have H3 := hid h3
      have H4 := hid h4
      have H5 := hid h5
      have H6 := hid h6
      have H7 := hid h7
      have g0 : ((t.length : Int) + 1 + 1 == 0) = false := by rw [beq_eq_false_iff_ne]; omega
      have g1 : ((t.length : Int) + 1 + 1 == 1) = false := by rw [beq_eq_false_iff_ne]; omega
      have g2 : (1 : Int) ≤ (t.length : Int) + 1 + 1 := by omega
      have g3 : ¬ c1 = 1 := by have : (x :: y :: t).length = t.length + 2 := rfl; omega
      clear hX hE hl hin hr hc1 ih h1 h2 h3 h4 h5 h6 h7 e1
      go_enter Try.func65, Try.ntmps65
      go_wp2_with fail
      refine (R_put p (dval b off c d) st L S _ 4 at_ 0 0 [32] [] 0 [] (.slice none 0 0) (.slice none 0 0) p0 st1 HX.out (StrsR.nil _) (NatsR.nil _) H1.out).mono ?_
      rintro e w1 ⟨rfl, S1, k1, hX1⟩
      have HX1 := hid hX1
      have HK1 := hid k1
      clear hX1 k1
      go_wp2_with fail
      refine (R_put p (dval b off c d) st1 L S1 _ 4 at_ 0 0 [32] [] 0 [] (.slice none 0 0) (.slice none 0 0) q0 st2 HX1.out (StrsR.nil _) (NatsR.nil _) H2.out).mono ?_
      rintro e w2 ⟨rfl, S2, k2, hX2⟩
      have HX2 := hid hX2
      have HK2 := hid (HK1.out.trans k2)
      clear hX2 k2
      go_wp2_with fail
      refine (Hih.out st2 L S2 _ _ b2 st3 HX2.out (HE.out.mono HK2.out) (Htl.out.mono HK2.out) Hin.out H3.out).mono ?_
      rintro e w3 ⟨rfl, S3, k3, hX3⟩
      have X3 := RX.xs p (dval b off c d) st3
      obtain ⟨S4, k4, hX4, s4⟩ := X3.box hX3 #[nat p0, nat q0, nat b2] 3
      have HX4 := hid hX4
      have HK4 := hid ((HK2.out.trans k3).trans k4)
      have HS4 := hid (NatsR.ofBox (l := [p0, q0, b2]) (by unfold maxLen; simp) s4)
      clear hX4 k4 s4 hX3 k3
      go_wp2_with fail
      refine (R_put p (dval b off c d) st3 L S4 _ 5 at_ 0 0 [] [] 0 [p0, q0, b2] (.slice none 0 0) (.slice (some ⟨w3.heap.size, 0, none⟩) 3 3) c2 st4 HX4.out (StrsR.nil _) HS4.out H4.out).mono ?_
      rintro e w5 ⟨rfl, S5, k5, hX5⟩
      have X5 := RX.xs p (dval b off c d) st4
      obtain ⟨S6, k6, hX6, sa, sb⟩ := X5.box2 hX5 #[str [32]] #[nat c2] 9 3
      have HX6 := hid hX6
      have HK6 := hid ((HK4.out.trans k5).trans k6)
      have HSa := hid (StrsR.box1 sa)
      have HSb := hid (NatsR.box1 sb)
      clear hX6 k6 sa sb hX5 k5
      go_wp2_with fail
      refine (R_put p (dval b off c d) st4 L S6 _ 6 at_ 0 0 [] [[32]] 0 [c2] (.slice (some ⟨w5.heap.size, 0, none⟩) 1 1) (.slice (some ⟨w5.heap.size + 1, 0, none⟩) 1 1) f st5 HX6.out HSa.out HSb.out H5.out).mono ?_
      rintro e w7 ⟨rfl, S7, k7, hX7⟩
      have X7 := RX.xs p (dval b off c d) st5
      have HK7 := hid (HK6.out.trans k7)
      have HX7 := hid hX7
      have e1 := X7.cell hX7 (Hx.out.mono HK7.out)
      clear hX7 k7
      go_wp2_with fail
      refine (HF.out st5 L S7 _ x a st6 HX7.out (HE.out.mono HK7.out) hxi H6.out).mono ?_
      rintro e w8 ⟨rfl, S8, k8, hX8⟩
      have X8 := RX.xs p (dval b off c d) st6
      obtain ⟨S9, k9, hX9, s9⟩ := X8.box hX8 #[nat f, nat a] 3
      have HX9 := hid hX9
      have HK9 := hid ((HK7.out.trans k8).trans k9)
      have HS9 := hid (NatsR.ofBox (l := [f, a]) (by unfold maxLen; simp) s9)
      clear hX9 k9 s9 hX8 k8 e1
      go_wp2_with fail
      refine (R_put p (dval b off c d) st6 L S9 _ 10 at_ 0 0 [] [] 0 [f, a] (.slice none 0 0) (.slice (some ⟨w8.heap.size, 0, none⟩) 2 2) r st' HX9.out (StrsR.nil _) HS9.out H7.out).mono ?_
      rintro e w10 ⟨rfl, S10, k10, hX10⟩
      go_wp2_with fail
      go_ret
      exact Ret.intro rfl (HK9.out.trans k10) hX10
end
end Go.Proofs.Ytjjbidajkmodfaa
namespace Go.Proofs.Ytjjbidajkmodfaa
open Go Go.RowKit
section
variable (p b off c : Nat) (d : List Node)
set_option maxRecDepth 100000 in
set_option maxHeartbeats 16000000 in
theorem R_cond (F : Fm) (HF : OkR p b off c d F) (at_ : Int) : ∀ (l : List Nat) (st : St) (L : List Atom) (S : Seal) (w : World) (lv : Value) (r : Nat) (st' : St), RX p (dval b off c d) st L S w → Env S b off c d → NatsR S lv l →
    (∀ j ∈ l, j < d.length) → condS d F at_ st l = some (r, st') → Calls Try.prog 66 #[ptr p, .int .i64 at_, lv] w (Ret S (RX p (dval b off c d) st' L) (nat r)) := by
  have HF := hid HF
  intro l
  induction l with
  | nil =>
    intro st L S w lv r st' hX hE hl _ hr
    obtain ⟨A1, c1, rfl, _, _⟩ := Sl.shape hl
    have Hb := hid (R_bit p st L S w (dval b off c d) at_ 0 r st' hX hr)
    clear hX hE hl hr
    go_enter Try.func66, Try.ntmps66
    go_wp2_with fail
    refine (Hb.out).mono ?_
    rintro e w1 ⟨rfl, S1, k1, hX1⟩
    go_wp2_with fail
    go_ret
    exact Ret.intro rfl k1 hX1
  | cons x l ih =>
    intro st L S w lv r st' hX hE hl hin hr
    have X := RX.xs p (dval b off c d) st
    rw [condS_cons] at hr
    obtain ⟨b1, o1, c1, rfl, hk1, _, hc1⟩ := hl.at_ (by simp)
    have Hx := hid (hc1 0 x rfl)
    rw [Nat.add_zero] at Hx
    have e1 := X.cell hX Hx.out
    have hxi := hin x List.mem_cons_self
    have Hli := hid (R_list p b off c d st L S w x 2 hX hE hxi)
    have HX := hid hX
    have HE := hid hE
    have hlen := hl.len
    have g0 : ((l.length : Int) + 1 == 0) = false := by rw [beq_eq_false_iff_ne]; omega
    by_cases hb : (nd d x).kind = 4 ∧ 2 ≤ (nd d x).l.length
    case neg =>
      rw [decide_eq_false (fun h => hb ⟨h.1, by omega⟩)] at Hli
      rw [if_pos (by by_cases h : (nd d x).kind = 4; exact .inr (by have : ¬ 2 ≤ (nd d x).l.length := fun h2 => hb ⟨h, h2⟩; omega); exact .inl h)] at hr
      have Hr := hid hr
      clear hX hE hl hin hr hc1 ih hb
      go_enter Try.func66, Try.ntmps66
      go_wp2_with fail
      refine Hli.out.mono ?_
      rintro e w1 ⟨rfl, rfl⟩
      go_wp2_with fail
      refine (R_wrongR p b off c d st L S _ x r st' HX.out HE.out hxi Hr.out).mono ?_
      rintro e w2 ⟨rfl, S2, k2, hX2⟩
      go_wp2_with fail
      go_ret
      exact Ret.intro rfl k2 hX2
    rw [decide_eq_true ⟨hb.1, by omega⟩] at Hli
    rw [if_neg (by rintro (h | h); exact h hb.1; have := hb.2; omega)] at hr
    obtain ⟨lvx, hN⟩ := hE.at_ x hxi
    obtain ⟨y, hy⟩ : ∃ y, (nd d x).l[0]? = some y := ⟨_, List.getElem?_eq_some_iff.2 ⟨by omega, rfl⟩⟩
    have hg : (nd d x).l.getD 0 0 = y := by rw [List.getD_eq_getElem?_getD, hy]; rfl
    rw [hg] at hr
    obtain ⟨b2, o2, c2, rfl, hk2, _, hc2⟩ := hN.l.at_ (by intro h; rw [h] at hy; simp at hy)
    have hyi : y < d.length := by have := hE.dat.par x hxi y (List.mem_of_getElem? hy); omega
    obtain ⟨lvy, hM⟩ := hE.at_ y hyi
    obtain ⟨A3, c3, rfl, _, _⟩ := Sl.shape hM.l
    have Hy := hid (hc2 0 y hy)
    rw [Nat.add_zero] at Hy
    have HN := hid hN
    have HM := hid hM
    have hlenD := Dat.len hE
    have hxI : (x : Int) < (d.length : Int) := by omega
    have hyI : (y : Int) < (d.length : Int) := by omega
    have Hr := hid hr
    have Hb := hid hb
    have Hll := hid (hE.dat.ll x hxi)
    have Hin := hid hin
    have Hl := hid hl
    have Hih := hid ih
    have Hpx := hid (hE.dat.par x hxi)
    clear hX hE hl hin hr hc1 ih hb hN hM hc2 hy hg
    go_enter Try.func66, Try.ntmps66
    go_wp2_with fail
    refine Hli.out.mono ?_
    rintro e w1 ⟨rfl, rfl⟩
    go_wp2_with fail
    refine wp_plan 10 (.take 0 (.take 1 (.take 2 (.take 3 (.take 4 (.take 5 (.take 6 (.take 7 (.take 8 (.one 9 .fin)))))))))) (fun w' => w'.cell? ⟨p, 0, none⟩ = some (dval b off c d) ∧ w'.cell? ⟨b1, o1, none⟩ = some (nat x) ∧ w'.cell? ⟨b, off + x * 5, none⟩ = some (.int .u8 (nd d x).kind) ∧ w'.cell? ⟨b, off + x * 5 + 1, none⟩ = some (.int .i64 (nd d x).at_) ∧ w'.cell? ⟨b, off + x * 5 + 2, none⟩ = some (.int .i64 (nd d x).n) ∧ w'.cell? ⟨b, off + x * 5 + 3, none⟩ = some (str (nd d x).s) ∧ w'.cell? ⟨b, off + x * 5 + 4, none⟩ = some (.slice (some ⟨b2, o2, none⟩) (nd d x).l.length c2)) (by kernel_rfl) (by kernel_rfl) (fun _ _ d_ _ _ h_ => by cases d_ <;> exact h_) (⟨((X.drew HX.out)).d0, X.cell (X.drew HX.out) (Hx.out), X.cell (X.drew HX.out) (HN.out.c0), X.cell (X.drew HX.out) (HN.out.c1), X.cell (X.drew HX.out) (HN.out.c2), X.cell (X.drew HX.out) (HN.out.c3), X.cell (X.drew HX.out) (HN.out.c4)⟩) ?_
    refine Pl.takeW rfl rfl ?v1 ?hy1 ?rest1
    case hy1 => intro w_ _; first | (go_simp; done) | (go_simp; with_reducible rfl)
    simp only [Act.put, List.setIfInBounds_toArray, List.set_cons_zero, List.set_cons_succ]
    refine Pl.takeW rfl rfl ?v2 ?hy2 ?rest2
    case hy2 => intro w_ _; first | (go_simp; done) | (go_simp; with_reducible rfl)
    simp only [Act.put, List.setIfInBounds_toArray, List.set_cons_zero, List.set_cons_succ]
    refine Pl.takeW rfl rfl ?v3 ?hy3 ?rest3
    case hy3 => intro w_ _; first | (go_simp; done) | (go_simp; with_reducible rfl)
    simp only [Act.put, List.setIfInBounds_toArray, List.set_cons_zero, List.set_cons_succ]
    refine Pl.takeW rfl rfl ?v4 ?hy4 ?rest4
    case hy4 => intro w_ hS_; obtain ⟨f_p0, f_q1, f_m0, f_m1, f_m2, f_m3, f_m4⟩ := hS_; first | (go_simp; done) | (go_simp; with_reducible rfl)
    simp only [Act.put, List.setIfInBounds_toArray, List.set_cons_zero, List.set_cons_succ]
    refine Pl.takeW rfl rfl ?v5 ?hy5 ?rest5
    case hy5 => intro w_ _; first | (go_simp; done) | (go_simp; with_reducible rfl)
    simp only [Act.put, List.setIfInBounds_toArray, List.set_cons_zero, List.set_cons_succ]
    refine Pl.takeW rfl rfl ?v6 ?hy6 ?rest6
    case hy6 => intro w_ _; first | (go_simp; done) | (go_simp; with_reducible rfl)
    simp only [Act.put, List.setIfInBounds_toArray, List.set_cons_zero, List.set_cons_succ]
    refine Pl.takeW rfl rfl ?v7 ?hy7 ?rest7
    case hy7 => intro w_ hS_; obtain ⟨f_p0, f_q1, f_m0, f_m1, f_m2, f_m3, f_m4⟩ := hS_; first | (go_simp; done) | (go_simp; with_reducible rfl)
    simp only [Act.put, List.setIfInBounds_toArray, List.set_cons_zero, List.set_cons_succ]
    refine Pl.takeW rfl rfl ?v8 ?hy8 ?rest8
    case hy8 => intro w_ _; first | (go_simp; done) | (go_simp; with_reducible rfl)
    simp only [Act.put, List.setIfInBounds_toArray, List.set_cons_zero, List.set_cons_succ]
    refine Pl.takeW rfl rfl ?v9 ?hy9 ?rest9
    case hy9 => intro w_ hS_; obtain ⟨f_p0, f_q1, f_m0, f_m1, f_m2, f_m3, f_m4⟩ := hS_; first | (go_simp; done) | (go_simp; with_reducible rfl)
    simp only [Act.put, List.setIfInBounds_toArray, List.set_cons_zero, List.set_cons_succ]
    refine Pl.oneW rfl rfl (fun K_ hK_ => ?_)
    go_simp
    refine hK_ _ _ ⟨((X.drew (X.alloc0 HX.out _))).d0, X.cell (X.drew (X.alloc0 HX.out _)) (Hx.out), X.cell (X.drew (X.alloc0 HX.out _)) (HN.out.c0), X.cell (X.drew (X.alloc0 HX.out _)) (HN.out.c1), X.cell (X.drew (X.alloc0 HX.out _)) (HN.out.c2), X.cell (X.drew (X.alloc0 HX.out _)) (HN.out.c3), X.cell (X.drew (X.alloc0 HX.out _)) (HN.out.c4)⟩ ?_
    show wpList _ _ _ _ _ _
    simp only [List.drop_succ_cons, List.drop_zero]
    obtain ⟨Sa, ka, hXa, sa⟩ := X.box HX.out #[.int .u8 (nd d x).kind, .int .i64 (nd d x).at_, .int .i64 (nd d x).n, str (nd d x).s, .slice (some ⟨b2, o2, none⟩) (nd d x).l.length c2] 60
    have HXa := hid hXa
    have HKa := hid ka
    have Ha1 := hid (sa 1 _ rfl)
    have Ha4 := hid (sa 4 _ rfl)
    clear hXa ka sa
    go_wp2_with fail
    have g7 : 0 < (nd d x).l.length := by have := Hb.out.2; omega
    refine wp_plan 11 (.take 0 (.take 1 (.take 2 (.take 3 (.take 4 (.take 5 (.take 6 (.take 7 (.take 8 (.take 9 (.one 10 .fin))))))))))) (fun w' => w'.cell? ⟨p, 0, none⟩ = some (dval b off c d) ∧ w'.cell? ⟨w1.heap.size, 4, none⟩ = some (.slice (some ⟨b2, o2, none⟩) (nd d x).l.length c2) ∧ w'.cell? ⟨b2, o2, none⟩ = some (nat y) ∧ w'.cell? ⟨b, off + y * 5, none⟩ = some (.int .u8 (nd d y).kind) ∧ w'.cell? ⟨b, off + y * 5 + 1, none⟩ = some (.int .i64 (nd d y).at_) ∧ w'.cell? ⟨b, off + y * 5 + 2, none⟩ = some (.int .i64 (nd d y).n) ∧ w'.cell? ⟨b, off + y * 5 + 3, none⟩ = some (str (nd d y).s) ∧ w'.cell? ⟨b, off + y * 5 + 4, none⟩ = some (.slice A3 (nd d y).l.length c3)) (by kernel_rfl) (by kernel_rfl) (fun _ _ d_ _ _ h_ => by cases d_ <;> exact h_) (⟨((X.drew (X.drew HXa.out))).d0, X.cell (X.drew (X.drew HXa.out)) (Ha4.out), X.cell (X.drew (X.drew HXa.out)) (Hy.out.mono HKa.out), X.cell (X.drew (X.drew HXa.out)) (HM.out.c0.mono HKa.out), X.cell (X.drew (X.drew HXa.out)) (HM.out.c1.mono HKa.out), X.cell (X.drew (X.drew HXa.out)) (HM.out.c2.mono HKa.out), X.cell (X.drew (X.drew HXa.out)) (HM.out.c3.mono HKa.out), X.cell (X.drew (X.drew HXa.out)) (HM.out.c4.mono HKa.out)⟩) ?_
    refine Pl.takeW rfl rfl ?v10 ?hy10 ?rest10
    case hy10 => intro w_ _; first | (go_simp; done) | (go_simp; with_reducible rfl)
    simp only [Act.put, List.setIfInBounds_toArray, List.set_cons_zero, List.set_cons_succ]
    refine Pl.takeW rfl rfl ?v11 ?hy11 ?rest11
    case hy11 => intro w_ _; first | (go_simp; done) | (go_simp; with_reducible rfl)
    simp only [Act.put, List.setIfInBounds_toArray, List.set_cons_zero, List.set_cons_succ]
    refine Pl.takeW rfl rfl ?v12 ?hy12 ?rest12
    case hy12 => intro w_ _; first | (go_simp; done) | (go_simp; with_reducible rfl)
    simp only [Act.put, List.setIfInBounds_toArray, List.set_cons_zero, List.set_cons_succ]
    refine Pl.takeW rfl rfl ?v13 ?hy13 ?rest13
    case hy13 => intro w_ hS_; obtain ⟨f_p0, f_D4, f_q2, f_n0, f_n1, f_n2, f_n3, f_n4⟩ := hS_; first | (go_simp; done) | (go_simp; with_reducible rfl)
    simp only [Act.put, List.setIfInBounds_toArray, List.set_cons_zero, List.set_cons_succ]
    refine Pl.takeW rfl rfl ?v14 ?hy14 ?rest14
    case hy14 => intro w_ _; first | (go_simp; done) | (go_simp; with_reducible rfl)
    simp only [Act.put, List.setIfInBounds_toArray, List.set_cons_zero, List.set_cons_succ]
    refine Pl.takeW rfl rfl ?v15 ?hy15 ?rest15
    case hy15 => intro w_ hS_; obtain ⟨f_p0, f_D4, f_q2, f_n0, f_n1, f_n2, f_n3, f_n4⟩ := hS_; first | (go_simp; done) | (go_simp; with_reducible rfl)
    simp only [Act.put, List.setIfInBounds_toArray, List.set_cons_zero, List.set_cons_succ]
    refine Pl.takeW rfl rfl ?v16 ?hy16 ?rest16
    case hy16 => intro w_ _; first | (go_simp; done) | (go_simp; with_reducible rfl)
    simp only [Act.put, List.setIfInBounds_toArray, List.set_cons_zero, List.set_cons_succ]
    refine Pl.takeW rfl rfl ?v17 ?hy17 ?rest17
    case hy17 => intro w_ hS_; obtain ⟨f_p0, f_D4, f_q2, f_n0, f_n1, f_n2, f_n3, f_n4⟩ := hS_; first | (go_simp; done) | (go_simp; with_reducible rfl)
    simp only [Act.put, List.setIfInBounds_toArray, List.set_cons_zero, List.set_cons_succ]
    refine Pl.takeW rfl rfl ?v18 ?hy18 ?rest18
    case hy18 => intro w_ _; first | (go_simp; done) | (go_simp; with_reducible rfl)
    simp only [Act.put, List.setIfInBounds_toArray, List.set_cons_zero, List.set_cons_succ]
    refine Pl.takeW rfl rfl ?v19 ?hy19 ?rest19
    case hy19 => intro w_ hS_; obtain ⟨f_p0, f_D4, f_q2, f_n0, f_n1, f_n2, f_n3, f_n4⟩ := hS_; first | (go_simp; done) | (go_simp; with_reducible rfl)
    simp only [Act.put, List.setIfInBounds_toArray, List.set_cons_zero, List.set_cons_succ]
    refine Pl.oneW rfl rfl (fun K_ hK_ => ?_)
    go_simp
    refine hK_ _ _ ⟨((X.drew (X.drew (X.alloc0 HXa.out _)))).d0, X.cell (X.drew (X.drew (X.alloc0 HXa.out _))) (Ha4.out), X.cell (X.drew (X.drew (X.alloc0 HXa.out _))) (Hy.out.mono HKa.out), X.cell (X.drew (X.drew (X.alloc0 HXa.out _))) (HM.out.c0.mono HKa.out), X.cell (X.drew (X.drew (X.alloc0 HXa.out _))) (HM.out.c1.mono HKa.out), X.cell (X.drew (X.drew (X.alloc0 HXa.out _))) (HM.out.c2.mono HKa.out), X.cell (X.drew (X.drew (X.alloc0 HXa.out _))) (HM.out.c3.mono HKa.out), X.cell (X.drew (X.drew (X.alloc0 HXa.out _))) (HM.out.c4.mono HKa.out)⟩ ?_
    show wpList _ _ _ _ _ _
    simp only [List.drop_succ_cons, List.drop_zero]
    obtain ⟨Sb, kb, hXb, sb⟩ := X.box HXa.out #[.int .u8 (nd d y).kind, .int .i64 (nd d y).at_, .int .i64 (nd d y).n, str (nd d y).s, .slice A3 (nd d y).l.length c3] 60
    have HXb := hid hXb
    have HKb := hid (HKa.out.trans kb)
    have Hb0 := hid (sb 0 _ rfl)
    have Hb3 := hid (sb 3 _ rfl)
    have Ha1b := hid (Ha1.out.mono kb)
    have Ha4b := hid (Ha4.out.mono kb)
    clear hXb kb sb
    have hr := Hr.out
    have g8 : ¬ c2 = 1 := by have := Hb.out.2; omega
    have g9 : (1 : Int) ≤ ((nd d x).l.length : Int) := by have := Hb.out.2; omega
    have Hdr := hid ((NatsR.drop HN.out.l (k := 1) (by have := Hb.out.2; omega) (by omega)).mono HKb.out)
    have hxl : ∀ j ∈ (nd d x).l.drop 1, j < d.length := fun j hj => by have := Hpx.out j (List.mem_of_mem_drop hj); omega
    have Hxl := hid hxl
    clear hxl
    by_cases he : (nd d y).kind = 3 ∧ (nd d y).s = sElse
    · rw [if_pos he] at hr
      have hy1 : ((nd d y).kind == 3) = true := by simpa using he.1
      have hy2 : ((nd d y).s == [101, 108, 115, 101]) = true := by rw [he.2]; rfl
      by_cases hl : l = []
      · subst hl
        rw [if_neg (by simp)] at hr
        have Hr2 := hid hr
        clear hr he
        go_wp2_with fail
        refine wp_plan 6 (.take 0 (.take 1 (.take 2 (.take 3 (.take 4 (.take 5 .fin)))))) (fun w_ => w_ = _) (by kernel_rfl) (by kernel_rfl) (fun _ _ d_ _ _ h_ => by cases d_ <;> exact h_) rfl ?_
        refine Pl.takeW rfl rfl ?v20 ?hy20 ?rest20
        case hy20 => intro w_ _; first | (go_simp; done) | (go_simp; with_reducible rfl)
        simp only [Act.put, List.setIfInBounds_toArray, List.set_cons_zero, List.set_cons_succ]
        refine Pl.takeW rfl rfl ?v21 ?hy21 ?rest21
        case hy21 => intro w_ _; first | (go_simp; done) | (go_simp; with_reducible rfl)
        simp only [Act.put, List.setIfInBounds_toArray, List.set_cons_zero, List.set_cons_succ]
        refine Pl.takeW rfl rfl ?v22 ?hy22 ?rest22
        case hy22 => intro w_ hS_; subst hS_; first | (go_simp; done) | (go_simp; with_reducible rfl)
        simp only [Act.put, List.setIfInBounds_toArray, List.set_cons_zero, List.set_cons_succ]
        refine Pl.takeW rfl rfl ?v23 ?hy23 ?rest23
        case hy23 => intro w_ _; first | (go_simp; done) | (go_simp; with_reducible rfl)
        simp only [Act.put, List.setIfInBounds_toArray, List.set_cons_zero, List.set_cons_succ]
        refine Pl.takeW rfl rfl ?v24 ?hy24 ?rest24
        case hy24 => intro w_ hS_; subst hS_; first | (go_simp; done) | (go_simp; with_reducible rfl)
        simp only [Act.put, List.setIfInBounds_toArray, List.set_cons_zero, List.set_cons_succ]
        refine Pl.takeW rfl rfl ?v25 ?hy25 ?rest25
        case hy25 => intro w_ _; first | (go_simp; done) | (go_simp; with_reducible rfl)
        simp only [Act.put, List.setIfInBounds_toArray, List.set_cons_zero, List.set_cons_succ]
        show wpList _ _ _ _ _ _
        simp only [List.drop_succ_cons, List.drop_zero]
        go_wp2_with fail
        refine (R_body p b off c d st L Sb _ F HF.out _ _ ((nd d x).l.drop 1) r st' (X.drew (X.drew (X.drew HXb.out))) (HE.out.mono HKb.out) Hdr.out Hxl.out (by have := Hll.out; simp; omega) Hr2.out).mono ?_
        rintro e w4 ⟨rfl, S4, k4, hX4⟩
        go_wp2_with fail
        go_ret
        exact Ret.intro rfl (HKb.out.trans k4) hX4
      · rw [if_pos hl] at hr
        have Hr2 := hid hr
        have e1 := X.cell HXb.out (Hx.out.mono HKb.out)
        have g10 : (1 : Int) < (l.length : Int) + 1 := by have := List.length_pos_iff.2 hl; omega
        clear hr he hl
        go_wp2_with fail
        refine (R_wrongR p b off c d st L Sb _ x r st' (X.drew (X.drew HXb.out)) (HE.out.mono HKb.out) hxi Hr2.out).mono ?_
        rintro e w4 ⟨rfl, S4, k4, hX4⟩
        go_wp2_with fail
        go_ret
        exact Ret.intro rfl (HKb.out.trans k4) hX4
    · rw [if_neg he] at hr
      obtain ⟨⟨z1, st1⟩, h1, hr⟩ := Option.bind_eq_some_iff.1 hr
      obtain ⟨⟨z2, st2⟩, h2, hr⟩ := Option.bind_eq_some_iff.1 hr
      obtain ⟨⟨z3, st3⟩, h3, hr⟩ := Option.bind_eq_some_iff.1 hr
      have H1 := hid h1
      have H2 := hid h2
      have H3 := hid h3
      have Hr2 := hid hr
      have Helse := hid he
      have key : ∃ kb sb : Bool, ((nd d y).kind == 3) = kb ∧ ((nd d y).s == [101, 108, 115, 101]) = sb ∧ (kb && sb) = false := by
        refine ⟨_, _, rfl, rfl, ?_⟩
        cases e1 : ((nd d y).kind == 3) <;> cases e2 : ((nd d y).s == [101, 108, 115, 101]) <;> try rfl
        exact absurd ⟨by simpa using e1, by rw [show sElse = [101, 108, 115, 101] from rfl]; simpa using e2⟩ Helse.out
      obtain ⟨kb, sb, hkb3, hsb, hand⟩ := key
      have htl := NatsR.tailIf Hl.out
      generalize hA1 : (if c1 = 1 then (some ⟨b1, o1, none⟩ : Option Addr) else some ⟨b1, o1 + 1, none⟩) = A1 at htl
      have Htl := hid htl
      have hA1 := hid hA1
      have g5 := X.cell HXb.out (Hy.out.mono HKb.out)
      have g10 : (1 : Int) ≤ (l.length : Int) + 1 := by omega
      clear hr he h1 h2 h3 htl
      cases kb with
      | false =>
        go_wp2_with fail
        refine (HF.out st L Sb _ y z1 st1 (X.drew (X.drew HXb.out)) (HE.out.mono HKb.out) hyi H1.out).mono ?_
        rintro e w4 ⟨rfl, S4, k4, hX4⟩
        have X1 := RX.xs p (dval b off c d) st1
        have HX4 := hid hX4
        have HK4 := hid (HKb.out.trans k4)
        have q1 := X1.cell hX4 (Ha1b.out.mono k4)
        have q4 := X1.cell hX4 (Ha4b.out.mono k4)
        have Hdr4 := hid (Hdr.out.mono k4)
        clear hX4 k4 g5
        go_wp2_with fail
        refine wp_plan 6 (.take 0 (.take 1 (.take 2 (.take 3 (.take 4 (.take 5 .fin)))))) (fun w_ => w_ = _) (by kernel_rfl) (by kernel_rfl) (fun _ _ d_ _ _ h_ => by cases d_ <;> exact h_) rfl ?_
        refine Pl.takeW rfl rfl ?v26 ?hy26 ?rest26
        case hy26 => intro w_ _; first | (go_simp; done) | (go_simp; with_reducible rfl)
        simp only [Act.put, List.setIfInBounds_toArray, List.set_cons_zero, List.set_cons_succ]
        refine Pl.takeW rfl rfl ?v27 ?hy27 ?rest27
        case hy27 => intro w_ _; first | (go_simp; done) | (go_simp; with_reducible rfl)
        simp only [Act.put, List.setIfInBounds_toArray, List.set_cons_zero, List.set_cons_succ]
        refine Pl.takeW rfl rfl ?v28 ?hy28 ?rest28
        case hy28 => intro w_ hS_; subst hS_; first | (go_simp; done) | (go_simp; with_reducible rfl)
        simp only [Act.put, List.setIfInBounds_toArray, List.set_cons_zero, List.set_cons_succ]
        refine Pl.takeW rfl rfl ?v29 ?hy29 ?rest29
        case hy29 => intro w_ _; first | (go_simp; done) | (go_simp; with_reducible rfl)
        simp only [Act.put, List.setIfInBounds_toArray, List.set_cons_zero, List.set_cons_succ]
        refine Pl.takeW rfl rfl ?v30 ?hy30 ?rest30
        case hy30 => intro w_ hS_; subst hS_; first | (go_simp; done) | (go_simp; with_reducible rfl)
        simp only [Act.put, List.setIfInBounds_toArray, List.set_cons_zero, List.set_cons_succ]
        refine Pl.takeW rfl rfl ?v31 ?hy31 ?rest31
        case hy31 => intro w_ _; first | (go_simp; done) | (go_simp; with_reducible rfl)
        simp only [Act.put, List.setIfInBounds_toArray, List.set_cons_zero, List.set_cons_succ]
        show wpList _ _ _ _ _ _
        simp only [List.drop_succ_cons, List.drop_zero]
        go_wp2_with fail
        refine (R_body p b off c d st1 L S4 _ F HF.out _ _ ((nd d x).l.drop 1) z2 st2 (X1.drew HX4.out) (HE.out.mono HK4.out) Hdr4.out Hxl.out (by have := Hll.out; simp; omega) H2.out).mono ?_
        rintro e w5 ⟨rfl, S5, k5, hX5⟩
        have HX5 := hid hX5
        have HK5 := hid (HK4.out.trans k5)
        have hA2 := hA1.out
        clear hX5 k5 q1 q4
        go_wp2_with fail
        refine (Hih.out st2 L S5 _ _ z3 st3 HX5.out (HE.out.mono HK5.out) (Htl.out.mono HK5.out) (fun j hj => Hin.out j (List.mem_cons_of_mem _ hj)) H3.out).mono ?_
        rintro e w6 ⟨rfl, S6, k6, hX6⟩
        have X3 := RX.xs p (dval b off c d) st3
        obtain ⟨S8, k8, hX8, s8⟩ := X3.box hX6 #[nat z1, nat z2, nat z3] 3
        have HX8 := hid hX8
        have HK8 := hid ((HK5.out.trans k6).trans k8)
        have HS8 := hid (NatsR.ofBox (l := [z1, z2, z3]) (by unfold maxLen; simp) s8)
        clear hX8 k8 s8 hX6 k6
        go_wp2_with fail
        refine (R_put p (dval b off c d) st3 L S8 _ 5 at_ 0 0 [] [] 0 [z1, z2, z3] (.slice none 0 0) (.slice (some ⟨w6.heap.size, 0, none⟩) 3 3) r st' HX8.out (StrsR.nil _) HS8.out Hr2.out).mono ?_
        rintro e w9 ⟨rfl, S9, k9, hX9⟩
        go_wp2_with fail
        go_ret
        exact Ret.intro rfl (HK8.out.trans k9) hX9
      | true =>
        cases sb with
        | true => cases hand
        | false =>
          go_wp2_with fail
          refine (HF.out st L Sb _ y z1 st1 (X.drew (X.drew HXb.out)) (HE.out.mono HKb.out) hyi H1.out).mono ?_
          rintro e w4 ⟨rfl, S4, k4, hX4⟩
          have X1 := RX.xs p (dval b off c d) st1
          have HX4 := hid hX4
          have HK4 := hid (HKb.out.trans k4)
          have q1 := X1.cell hX4 (Ha1b.out.mono k4)
          have q4 := X1.cell hX4 (Ha4b.out.mono k4)
          have Hdr4 := hid (Hdr.out.mono k4)
          clear hX4 k4 g5
          go_wp2_with fail
          refine wp_plan 6 (.take 0 (.take 1 (.take 2 (.take 3 (.take 4 (.take 5 .fin)))))) (fun w_ => w_ = _) (by kernel_rfl) (by kernel_rfl) (fun _ _ d_ _ _ h_ => by cases d_ <;> exact h_) rfl ?_
          refine Pl.takeW rfl rfl ?v32 ?hy32 ?rest32
          case hy32 => intro w_ _; first | (go_simp; done) | (go_simp; with_reducible rfl)
          simp only [Act.put, List.setIfInBounds_toArray, List.set_cons_zero, List.set_cons_succ]
          refine Pl.takeW rfl rfl ?v33 ?hy33 ?rest33
          case hy33 => intro w_ _; first | (go_simp; done) | (go_simp; with_reducible rfl)
          simp only [Act.put, List.setIfInBounds_toArray, List.set_cons_zero, List.set_cons_succ]
          refine Pl.takeW rfl rfl ?v34 ?hy34 ?rest34
          case hy34 => intro w_ hS_; subst hS_; first | (go_simp; done) | (go_simp; with_reducible rfl)
          simp only [Act.put, List.setIfInBounds_toArray, List.set_cons_zero, List.set_cons_succ]
          refine Pl.takeW rfl rfl ?v35 ?hy35 ?rest35
          case hy35 => intro w_ _; first | (go_simp; done) | (go_simp; with_reducible rfl)
          simp only [Act.put, List.setIfInBounds_toArray, List.set_cons_zero, List.set_cons_succ]
          refine Pl.takeW rfl rfl ?v36 ?hy36 ?rest36
          case hy36 => intro w_ hS_; subst hS_; first | (go_simp; done) | (go_simp; with_reducible rfl)
          simp only [Act.put, List.setIfInBounds_toArray, List.set_cons_zero, List.set_cons_succ]
          refine Pl.takeW rfl rfl ?v37 ?hy37 ?rest37
          case hy37 => intro w_ _; first | (go_simp; done) | (go_simp; with_reducible rfl)
          simp only [Act.put, List.setIfInBounds_toArray, List.set_cons_zero, List.set_cons_succ]
          show wpList _ _ _ _ _ _
          simp only [List.drop_succ_cons, List.drop_zero]
          go_wp2_with fail
          refine (R_body p b off c d st1 L S4 _ F HF.out _ _ ((nd d x).l.drop 1) z2 st2 (X1.drew HX4.out) (HE.out.mono HK4.out) Hdr4.out Hxl.out (by have := Hll.out; simp; omega) H2.out).mono ?_
          rintro e w5 ⟨rfl, S5, k5, hX5⟩
          have HX5 := hid hX5
          have HK5 := hid (HK4.out.trans k5)
          have hA2 := hA1.out
          clear hX5 k5 q1 q4
          go_wp2_with fail
          refine (Hih.out st2 L S5 _ _ z3 st3 HX5.out (HE.out.mono HK5.out) (Htl.out.mono HK5.out) (fun j hj => Hin.out j (List.mem_cons_of_mem _ hj)) H3.out).mono ?_
          rintro e w6 ⟨rfl, S6, k6, hX6⟩
          have X3 := RX.xs p (dval b off c d) st3
          obtain ⟨S8, k8, hX8, s8⟩ := X3.box hX6 #[nat z1, nat z2, nat z3] 3
          have HX8 := hid hX8
          have HK8 := hid ((HK5.out.trans k6).trans k8)
          have HS8 := hid (NatsR.ofBox (l := [z1, z2, z3]) (by unfold maxLen; simp) s8)
          clear hX8 k8 s8 hX6 k6
          go_wp2_with fail
          refine (R_put p (dval b off c d) st3 L S8 _ 5 at_ 0 0 [] [] 0 [z1, z2, z3] (.slice none 0 0) (.slice (some ⟨w6.heap.size, 0, none⟩) 3 3) r st' HX8.out (StrsR.nil _) HS8.out Hr2.out).mono ?_
          rintro e w9 ⟨rfl, S9, k9, hX9⟩
          go_wp2_with fail
          go_ret
          exact Ret.intro rfl (HK8.out.trans k9) hX9
end
end Go.Proofs.Ytjjbidajkmodfaa
