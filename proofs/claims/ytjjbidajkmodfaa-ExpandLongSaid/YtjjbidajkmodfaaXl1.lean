/- Texts T4, K1, K2, G1, G0, G3, G4 of the proof. What each theorem says stands in its own statement. No condition beyond those that it names. -/
import Derived.Test.YtjjbidajkmodfaaXk1
import Derived.Test.YtjjbidajkmodfaaXk2
set_option linter.unusedVariables false
set_option linter.unusedSimpArgs false
namespace Go.Proofs.Ytjjbidajkmodfaa
open Go Go.RowKit
def Kept {α : Type} (I : St → Prop) (o : Option (α × St)) : Prop := ∀ x, o = some x → I x.2
section
variable {I : St → Prop} {d : List Node} {F : Fm}
theorem Kept.bind {α β : Type} {o : Option (α × St)} {f : α × St → Option (β × St)} (h : Kept I o) (k : ∀ x, I x.2 → Kept I (f x)) : Kept I (o.bind f) := by
  intro y hy
  obtain ⟨x, hx, hf⟩ := Option.bind_eq_some_iff.1 hy
  exact k x (h x hx) y hf
theorem Kept.some_ {α : Type} {x : α × St} (h : I x.2) : Kept I (some x) := fun y hy => by cases hy; exact h
variable (hp : ∀ st f, I st → Kept I (put st f)) (hw : ∀ st i, I st → I (wrong d st i).2) (H : ∀ st i, I st → Kept I (F st i))
include hp in
theorem bit_kept {st : St} {a b : Int} (h : I st) : Kept I (bit st a b) := hp _ _ h
include hp in
theorem asks_kept {st : St} {a : Int} {x y z : Nat} (h : I st) : Kept I (asks st a x y z) := hp _ _ h
include H
theorem forms_kept : ∀ (l : List Nat) (st : St), I st → Kept I (forms F st l)
  | [], st, h => .some_ h
  | i :: l, st, h => (H st i h).bind fun x hx => (forms_kept l x.2 hx).bind fun y hy => .some_ hy
include hp
theorem body_kept {at_ : Int} {l : List Nat} {st : St} (h : I st) : Kept I (body F at_ st l) := by
  unfold body
  split
  · exact H st _ h
  · exact (forms_kept H l st h).bind fun x hx => hp _ _ hx
theorem fn_kept {at_ : Int} {ns : List Str} {l : List Nat} {st : St} (h : I st) : Kept I (fn F at_ ns st l) := (body_kept hp H h).bind fun x hx => hp _ _ hx
theorem call_kept {at_ : Int} {f : Nat} {l : List Nat} {st : St} (h : I st) : Kept I (call F at_ f st l) := (forms_kept H l st h).bind fun x hx => hp _ _ hx
theorem stars_kept {at_ : Int} {bd : List Nat} : ∀ (ps vs : List Nat) (st : St), I st → Kept I (stars d F at_ bd st ps vs)
  | p :: ps, v :: vs, st, h => by
    rw [stars]
    exact (stars_kept ps vs st h).bind fun b hb => (hp _ _ hb).bind fun f hf => call_kept hp H hf
  | [], vs, st, h => by
    rw [stars]
    · exact body_kept hp H h
    · intro _ _ _ _ h _; cases h
  | _ :: _, [], st, h => by
    rw [stars]
    · exact body_kept hp H h
    · intro _ _ _ _ _ h; cases h
theorem and_kept {at_ : Int} : ∀ (l : List Nat) (st : St), I st → Kept I (andS F at_ st l)
  | [], st, h => bit_kept hp h
  | [i], st, h => H st i h
  | i :: j :: l, st, h => by
    rw [andS]
    · exact (H st i h).bind fun a ha => (and_kept (j :: l) a.2 ha).bind fun b hb => (bit_kept hp hb).bind fun c hc => asks_kept hp hc
    · intro h; cases h
theorem or_kept {at_ : Int} : ∀ (l : List Nat) (st : St), I st → Kept I (orS F at_ st l)
  | [], st, h => bit_kept hp h
  | [i], st, h => H st i h
  | i :: j :: l, st, h => by
    rw [orS]
    · exact (hp _ _ h).bind fun p h1 => (hp _ _ h1).bind fun q h2 => (or_kept (j :: l) q.2 h2).bind fun b h3 => (asks_kept hp h3).bind fun c h4 => (hp _ _ h4).bind fun f h5 => call_kept hp H h5
    · intro h; cases h
include hw
theorem cond_kept {at_ : Int} : ∀ (l : List Nat) (st : St), I st → Kept I (condS d F at_ st l)
  | [], st, h => bit_kept hp h
  | x :: l, st, h => by
    unfold condS
    split
    · exact .some_ (hw st x h)
    split
    · split
      · exact .some_ (hw st x h)
      · exact body_kept hp H h
    · exact (H st _ h).bind fun a ha => (body_kept hp H ha).bind fun b hb => (cond_kept l b.2 hb).bind fun c hc => asks_kept hp hc
theorem special_kept {s : Str} {i : Nat} {st : St} (h : I st) : Kept I (special d F s i st) := by
  unfold special
  by_cases hs_ : s = sQuote
  · rw [if_pos hs_]
    unfold quoteS; split
    · exact .some_ (hw _ _ h)
    · exact hp _ _ h
  rw [if_neg hs_]; clear hs_
  by_cases hs_ : s = sIf
  · rw [if_pos hs_]
    unfold ifS; split
    · exact .some_ (hw _ _ h)
    refine (H st _ h).bind fun a ha => ?_
    unfold ifWays
    refine (H a.2 _ ha).bind fun b hb => ?_
    refine Kept.bind ?_ fun c hc => asks_kept hp hc
    split
    · exact H _ _ hb
    · exact bit_kept hp hb
  rw [if_neg hs_]; clear hs_
  by_cases hs_ : s = sWhen
  · rw [if_pos hs_]
    unfold whenS; split
    · exact .some_ (hw _ _ h)
    refine (H st _ h).bind fun a ha => ?_
    unfold whenWays
    exact (body_kept hp H ha).bind fun b hb => (bit_kept hp hb).bind fun c hc => asks_kept hp hc
  rw [if_neg hs_]; clear hs_
  by_cases hs_ : s = sUnless
  · rw [if_pos hs_]
    unfold unlessS; split
    · exact .some_ (hw _ _ h)
    refine (H st _ h).bind fun a ha => ?_
    unfold unlessWays
    exact (bit_kept hp ha).bind fun b hb => (body_kept hp H hb).bind fun c hc => asks_kept hp hc
  rw [if_neg hs_]; clear hs_
  by_cases hs_ : s = sSet
  · rw [if_pos hs_]
    unfold setS; split
    · exact .some_ (hw _ _ h)
    exact (H st _ h).bind fun a ha => hp _ _ ha
  rw [if_neg hs_]; clear hs_
  by_cases hs_ : s = sBegin
  · rw [if_pos hs_]
    unfold beginS; split
    · exact .some_ (hw _ _ h)
    exact body_kept hp H h
  rw [if_neg hs_]; clear hs_
  by_cases hs_ : s = sCond
  · rw [if_pos hs_]
    unfold condsS; split
    · exact .some_ (hw _ _ h)
    exact cond_kept hp hw H _ _ h
  rw [if_neg hs_]; clear hs_
  by_cases hs_ : s = sLambda
  · rw [if_pos hs_]
    unfold lambdaS; split
    · exact .some_ (hw _ _ h)
    split
    · exact .some_ (hw _ _ h)
    exact fn_kept hp H h
  rw [if_neg hs_]; clear hs_
  by_cases hs_ : s = sLet
  · rw [if_pos hs_]
    unfold letS; split
    · exact .some_ (hw _ _ h)
    split
    · exact .some_ (hw _ _ h)
    split
    · exact .some_ (hw _ _ h)
    exact (fn_kept hp H h).bind fun f hf => call_kept hp H hf
  rw [if_neg hs_]; clear hs_
  by_cases hs_ : s = sLets
  · rw [if_pos hs_]
    unfold letsS; split
    · exact .some_ (hw _ _ h)
    split
    · exact .some_ (hw _ _ h)
    exact stars_kept hp H _ _ _ h
  rw [if_neg hs_]; clear hs_
  by_cases hs_ : s = sAnd
  · rw [if_pos hs_]; exact and_kept hp H _ _ h
  rw [if_neg hs_]; clear hs_
  by_cases hs_ : s = sOr
  · rw [if_pos hs_]; exact or_kept hp H _ _ h
  rw [if_neg hs_]
  exact .some_ (hw _ _ h)
theorem step_kept {i : Nat} {st : St} (h : I st) : Kept I (step d F st i) := by
  unfold step
  split
  · exact .some_ h
  repeat' split
  · exact hp _ _ h
  · exact bit_kept hp h
  · exact .some_ (hw _ _ h)
  · exact hp _ _ h
  · exact .some_ (hw _ _ h)
  · exact special_kept hp hw H h
  · exact (H st _ h).bind fun a ha => call_kept hp H ha
theorem define_kept {i : Nat} {st : St} (h : I st) : Kept I (defineS d F i st) := by
  unfold defineS
  split
  · exact .some_ (hw _ _ h)
  split
  · split
    · exact .some_ (hw _ _ h)
    · exact (H st _ h).bind fun a ha => hp _ _ ha
  split
  · exact .some_ (hw _ _ h)
  split
  · exact .some_ (hw _ _ h)
  split
  · exact .some_ (hw _ _ h)
  exact (fn_kept hp H h).bind fun f hf => hp _ _ hf
theorem top_kept {i : Nat} {st : St} (h : I st) : Kept I (topS d F st i) := by
  unfold topS
  split
  · exact define_kept hp hw H h
  · exact step_kept hp hw H h
end
section
variable {I : St → Prop} {d : List Node} (hp : ∀ st f, I st → Kept I (put st f)) (hw : ∀ st i, I st → I (wrong d st i).2)
include hp hw
theorem form_kept (k : Nat) : ∀ st i, I st → Kept I (form d k st i) := by
  induction k with
  | zero => intro st i _ x hx; cases hx
  | succ k ih => intro st i h; exact step_kept hp hw ih h
theorem tops_kept (k : Nat) : ∀ (ts : List Nat) (st : St), I st → Kept I (tops (topS d (form d k)) st ts)
  | [], st, h => .some_ h
  | i :: ts, st, h => by
    rw [tops]
    refine (top_kept hp hw (form_kept hp hw k) h).bind fun x hx => ?_
    split
    · exact (tops_kept k ts x.2 hx).bind fun y hy => .some_ hy
    · exact .some_ hx
end
theorem expand_bad {d : List Node} {k : Nat} {ts : List Nat} {y : List Nat × St} (h : expand d k ts = some y) {a : Int} (hb : y.2.bad = some a) : ∃ i, a = (nd d i).at_ := by
  have := tops_kept (I := fun st => ∀ a, st.bad = some a → ∃ i, a = (nd d i).at_) (d := d) (fun st f h x hx => by
    unfold put at hx
    split at hx
    · cases hx; exact h
    · cases hx) (fun st i h a ha => by
    unfold wrong wrongAt at ha
    split at ha
    · cases ha; exact ⟨i, rfl⟩
    · exact h a ha) k ts ⟨[], none⟩ (fun a ha => by cases ha) y h
  exact this a hb
end Go.Proofs.Ytjjbidajkmodfaa
namespace Go.Proofs.Ytjjbidajkmodfaa
open Go Go.RowKit
theorem raw_node (x : Node) : x.raw.node = x := by
  obtain ⟨k, a, n, s, l⟩ := x
  unfold Node.raw RNode.node
  simp only [Node.mk.injEq, true_and, List.map_map]
  exact List.map_id'' (fun i => rfl) l
theorem raw_nodes (d : List Node) : (d.map Node.raw).map RNode.node = d := by
  rw [List.map_map]
  exact List.map_id'' (fun x => raw_node x) d
theorem expand_len {d : List Node} {k : Nat} {ts : List Nat} {y : List Nat × St} (h : expand d k ts = some y) : y.2.fs.length ≤ LIM :=
  tops_kept (I := fun st => st.fs.length ≤ LIM) (d := d) (fun st f _ x hx => by
    unfold put at hx
    split at hx
    · rename_i hl; cases hx; simp; omega
    · cases hx) (fun st i h => by
    unfold wrong wrongAt
    split <;> exact h) k ts ⟨[], none⟩ (by show (0 : Nat) ≤ LIM; exact Nat.zero_le _) y h
theorem textE_expand {s : Str} {r : ERes} (h : textE s = some r) : ∃ y, expand (readS s).row (readS s).row.length (readS s).tops = some y ∧ r = resOf y := by
  unfold textE expandR at h
  have hok := readS_ok s
  rw [if_neg (by
    rintro (h | h)
    · rw [hok.may] at h; cases h
    · rw [List.any_eq_true] at h
      obtain ⟨t, ht, ho⟩ := h
      obtain ⟨i, hi, rfl⟩ := List.mem_map.1 ht
      have := hok.top i hi
      unfold outR at ho
      simp only [decide_eq_true_eq, List.length_map] at ho
      have h2 : (Int.ofNat i) = (i : Int) := rfl
      omega)] at h
  rw [Option.map_eq_some_iff] at h
  obtain ⟨y, hy, hr⟩ := h
  rw [raw_nodes, List.length_map, List.map_map, show (Int.toNat ∘ Int.ofNat) = id from rfl, List.map_id] at hy
  exact ⟨y, hy, hr.symm⟩
theorem text_kinds {s : Str} {r : ERes} (h : textE s = some r) (hs : s.length ≤ 4000) :
    (r.e = 0 ∧ WFs r.fs [] r.os.reverse ∧ r.fs.length ≤ LIM ∧ r.os.length = (readS s).tops.length) ∨ (r.e = 80 ∧ r.at_ < (s.length : Int) ∧ r.fs = [] ∧ r.os = []) := by
  obtain ⟨y, hy, rfl⟩ := textE_expand h
  have hok := readS_ok s
  have hll : ∀ i, (nd (readS s).row i).l.length < 1048576 := by
    intro i
    by_cases hi : i < (readS s).row.length
    · have hx : nd (readS s).row i = (readS s).row[i] := by unfold nd; rw [List.getD_eq_getElem?_getD, List.getElem?_eq_getElem hi]; rfl
      rw [hx]
      have := (hok.nodes _ (List.getElem_mem hi)).l
      omega
    · rw [nd_out (by omega)]; decide
  have hss : ∀ i, (nd (readS s).row i).s.length ≤ 140737488355328 := by
    intro i
    by_cases hi : i < (readS s).row.length
    · have hx : nd (readS s).row i = (readS s).row[i] := by unfold nd; rw [List.getD_eq_getElem?_getD, List.getElem?_eq_getElem hi]; rfl
      rw [hx]
      have := (hok.nodes _ (List.getElem_mem hi)).s
      omega
    · rw [nd_out (by omega)]; decide
  unfold resOf
  cases hb : y.2.bad with
  | none =>
    left
    obtain ⟨h1, h2⟩ := expand_wf hll hss hy hb
    exact ⟨rfl, h1, expand_len hy, h2⟩
  | some a =>
    right
    refine ⟨rfl, ?_, rfl, rfl⟩
    show a < _
    obtain ⟨i, rfl⟩ := expand_bad hy hb
    by_cases hi : i < (readS s).row.length
    · have hx : nd (readS s).row i = (readS s).row[i] := by unfold nd; rw [List.getD_eq_getElem?_getD, List.getElem?_eq_getElem hi]; rfl
      rw [hx]
      exact (hok.nodes _ (List.getElem_mem hi)).at_.2
    · rw [nd_out (by omega)]
      show (0 : Int) < _
      have hne : (readS s).tops ≠ [] := by
        intro h0
        rw [h0] at hy
        cases hy; cases hb
      obtain ⟨t, ht⟩ := List.exists_mem_of_ne_nil _ hne
      have := hok.top t ht
      have h2 := (hok.nodes _ (List.getElem_mem this)).at_
      omega
def loF (k : Int) : Int := if k ≤ 4 then 0 else if k = 5 then 3 else if k = 8 then 2 else 1
def hiF (k : Int) : Int := if k ≤ 4 then 0 else if k = 5 then 3 else if k = 8 ∨ k = 10 then 1048576 else 1
theorem OkForm.lohi {f : Form} (h : OkForm f) : loF f.kind ≤ f.l.length ∧ (f.l.length : Int) ≤ hiF f.kind := by
  have h1 := h.kind
  have h2 := h.most
  unfold loF hiF
  rcases (by omega : f.kind ≤ 4 ∨ f.kind = 5 ∨ f.kind = 6 ∨ f.kind = 7 ∨ f.kind = 8 ∨ f.kind = 9 ∨ f.kind = 10) with hk | hk | hk | hk | hk | hk | hk
  · have := h.few hk
    rw [if_pos hk, if_pos hk]; omega
  · have := h.three hk
    rw [hk]; simp; omega
  · have := h.one (.inl hk)
    rw [hk]; simp; omega
  · have := h.one (.inr (.inl hk))
    rw [hk]; simp; omega
  · have := h.seq hk
    rw [hk]; simp; omega
  · have := h.one (.inr (.inr hk))
    rw [hk]; simp; omega
  · have := h.call hk
    rw [hk]; simp; omega
def Parts3 (S : Seal) (X : Seal → World → Prop) (lo hi : Int) (e : Ending) (w' : World) : Prop := e = .returned (.tuple #[int lo, int hi, .bool true]) ∧ X S w'
set_option maxRecDepth 100000 in
set_option maxHeartbeats 4000000 in
theorem K_parts {X : List Atom → Seal → World → Prop} (X1 : Xs X) (L : List Atom) (S : Seal) (w : World) (k a n z ww : Int) (s : Str) (A B : Option Addr) (n1 c1 n2 c2 : Nat) (hk : 1 ≤ k ∧ k ≤ 10) (hX : X L S w) :
    Calls Try.prog 19 #[.agg #[.int .u8 k, int a, int n, int z, str s, .slice A n1 c1, .int .u64 ww, .slice B n2 c2]] w (Parts3 S (X L) (loF k) (hiF k)) := by
  have HX := hid (X1.alloc0 hX (.cells #[.int .u8 k, int a, int n, int z, str s, .slice A n1 c1, .int .u64 ww, .slice B n2 c2] 41))
  clear hX
  rcases (by omega : k = 1 ∨ k = 2 ∨ k = 3 ∨ k = 4 ∨ k = 5 ∨ k = 6 ∨ k = 7 ∨ k = 8 ∨ k = 9 ∨ k = 10) with rfl | rfl | rfl | rfl | rfl | rfl | rfl | rfl | rfl | rfl
  all_goals
    clear hk
    go_enter Try.func19, Try.ntmps19
    go_wp2_with fail
    go_ret3
    exact ⟨by rfl, HX.out⟩
end Go.Proofs.Ytjjbidajkmodfaa
namespace Go.Proofs.Ytjjbidajkmodfaa
open Go Go.RowKit
def crow (n : Nat) (C : Nat → Nat) : List Value := (List.range n).map fun p => nat (C p)
theorem crow_len (n : Nat) (C : Nat → Nat) : (crow n C).length = n := by simp [crow]
theorem crow_get {n p : Nat} (C : Nat → Nat) (h : p < n) : (crow n C)[p]? = some (nat (C p)) := by simp [crow, h]
theorem crow_congr {n : Nat} {C D : Nat → Nat} (h : ∀ p, C p = D p) : crow n C = crow n D := by
  unfold crow; exact List.map_congr_left fun p _ => by rw [h p]
theorem crow_set {n p : Nat} (C : Nat → Nat) (h : p < n) : (crow n C).set p (nat (C p + 1)) = crow n fun q => C q + if p = q then 1 else 0 := by
  apply List.ext_getElem?
  intro k
  rw [List.getElem?_set]
  by_cases hk : k < n
  · rw [crow_get (fun q => C q + if p = q then 1 else 0) hk]
    by_cases e : p = k
    · subst e; rw [if_pos rfl, if_pos (by rw [crow_len]; exact h), if_pos rfl]
    · rw [if_neg e, crow_get C hk, if_neg e]; rfl
  · rw [List.getElem?_eq_none (by rw [crow_len]; omega), List.getElem?_eq_none (by rw [crow_len]; omega)]
    split
    · omega
    · rfl
theorem crow_made (n : Nat) : (madeCells (int 0).cells (n * 1)).toList = crow n fun _ => 0 := by
  rw [Nat.mul_one, show (int 0).cells = #[int 0] from rfl, toList_madeCells_one]
  unfold crow
  apply List.ext_getElem?
  intro k
  by_cases hk : k < n
  · simp [hk]
  · rw [List.getElem?_eq_none (by simp; omega), List.getElem?_eq_none (by simp; omega)]
theorem cnt_append (a b : List Form) (p : Nat) : cnt (a ++ b) p = cnt a p + cnt b p := by
  unfold cnt; rw [List.map_append, List.sum_append]
theorem cnt_succ {fs : List Form} {k : Nat} {f : Form} (h : fs[k]? = some f) (p : Nat) : cnt (fs.take (k + 1)) p = cnt (fs.take k) p + f.l.count p := by
  rw [List.take_add_one, h, cnt_append]
  unfold cnt
  simp
theorem cnt_le (fs : List Form) (k p : Nat) : cnt (fs.take k) p ≤ cnt fs p := by
  have h := cnt_append (fs.take k) (fs.drop k) p
  rw [List.take_append_drop] at h
  omega
theorem count_succ {l : List Nat} {j q : Nat} (h : l[j]? = some q) (p : Nat) : (l.take (j + 1)).count p = (l.take j).count p + if q = p then 1 else 0 := by
  rw [List.take_add_one, h, List.count_append]
  simp [List.count_singleton]
theorem count_le (l : List Nat) (j p : Nat) : (l.take j).count p ≤ l.count p := (List.take_sublist j l).count_le p
def entB (l : List Str) : Array MapEntry := (l.zipIdx.map fun x => ({ key := str x.1, val := .bool true, born := x.2 } : MapEntry)).toArray
theorem entB_push (l : List Str) (n : Str) : (entB l).push ⟨str n, .bool true, l.length⟩ = entB (l ++ [n]) := by
  unfold entB
  rw [List.zipIdx_append]
  simp
theorem str_inj {a b : Str} (h : str a = str b) : a = b := by
  simpa using h
theorem entB_none {n : Str} {l : List Str} (h : n ∉ l) : Instr.findNow .string (str n) (entB l).toList 0 = some none := by
  rcases MapKept.findNow_spec (d := .string) (k := str n) trivial (entB l).toList 0 (fun x hx => by
    unfold entB at hx
    obtain ⟨y, _, rfl⟩ := List.mem_map.1 hx
    trivial) with h1 | ⟨j, e, _, hj, he⟩
  · exact h1.1
  · have hx := List.mem_of_getElem? hj
    unfold entB at hx
    obtain ⟨y, hy, rfl⟩ := List.mem_map.1 hx
    have := str_inj he
    exact absurd (List.mem_zipIdx' hy).2 (fun h2 => h (by rw [← this, h2]; exact List.getElem_mem _))
end Go.Proofs.Ytjjbidajkmodfaa
namespace Go.Proofs.Ytjjbidajkmodfaa
open Go Go.RowKit
def entF (x : (Int × Nat) × Nat) : MapEntry := { key := .int .u8 x.1.1, val := nat x.1.2, born := x.2 }
def entC (a : List (Int × Nat)) : Array MapEntry := (a.zipIdx.map entF).toArray
def lkC : List (Int × Nat) → Int → Option (Nat × Nat)
  | [], _ => none
  | (d, v) :: a, c => if c = d then some (0, v) else (lkC a c).map fun x => (x.1 + 1, x.2)
def bump : List (Int × Nat) → Int → List (Int × Nat)
  | [], c => [(c, 1)]
  | (d, v) :: a, c => if c = d then (d, v + 1) :: a else (d, v) :: bump a c
def getC (a : List (Int × Nat)) (c : Int) : Nat := ((lkC a c).map (·.2)).getD 0
theorem findC (c : Int) : ∀ (a : List (Int × Nat)) (n k : Nat), Instr.findNow (.int .u8) (.int .u8 c) ((a.zipIdx n).map entF) k = some ((lkC a c).map fun x => (k + x.1, nat x.2))
  | [], _, _ => rfl
  | (d, v) :: a, n, k => by
    have ih := findC c a (n + 1) (k + 1)
    rw [List.zipIdx_cons, List.map_cons, lkC]
    by_cases e : c = d
    · subst e
      simp [Instr.findNow, Instr.sameNow, entF]
    · have hs : Instr.sameNow (.int .u8) (.int .u8 c) (entF ((d, v), n)).key = some false := by
        simp [Instr.sameNow, entF, e]
      rw [if_neg e]
      simp only [Instr.findNow, hs]
      rw [ih]
      cases lkC a c with
      | none => rfl
      | some x => simp; omega
theorem lkC_none {c : Int} : ∀ {a : List (Int × Nat)}, lkC a c = none → bump a c = a ++ [(c, 1)]
  | [], _ => rfl
  | (d, v) :: a, h => by
    rw [lkC] at h
    by_cases e : c = d
    · rw [if_pos e] at h; cases h
    · rw [if_neg e] at h
      rw [bump, if_neg e, lkC_none (by simpa using h)]; rfl
theorem lkC_some {c : Int} : ∀ {a : List (Int × Nat)} {i v : Nat} (n : Nat), lkC a c = some (i, v) → (((a.zipIdx n).map entF)[i]?).map (·.key) = some (.int .u8 c) ∧
    ((a.zipIdx n).map entF).modify i (fun e => { e with key := .int .u8 c, val := nat (v + 1) }) = ((bump a c).zipIdx n).map entF ∧ (bump a c).length = a.length
  | [], _, _, _, h => by cases h
  | (d, u) :: a, i, v, n, h => by
    rw [lkC] at h
    by_cases e : c = d
    · subst e
      rw [if_pos rfl] at h
      cases h
      rw [bump, if_pos rfl]
      simp [entF]
    · rw [if_neg e, Option.map_eq_some_iff] at h
      obtain ⟨⟨i', v'⟩, h1, h2⟩ := h
      cases h2
      obtain ⟨h3, h4, h5⟩ := lkC_some (n + 1) h1
      rw [bump, if_neg e]
      refine ⟨by simpa using h3, ?_, by simp [h5]⟩
      rw [List.zipIdx_cons, List.map_cons, List.zipIdx_cons, List.map_cons, List.modify_succ_cons, h4]
theorem getC_bump (c d : Int) : ∀ (a : List (Int × Nat)), getC (bump a c) d = getC a d + if c = d then 1 else 0
  | [] => by
    unfold getC bump
    simp only [lkC]
    by_cases e : d = c
    · subst e; simp
    · have : ¬ c = d := fun h => e h.symm
      simp [e, this]
  | (x, v) :: a => by
    have ih := getC_bump c d a
    unfold getC at ih ⊢
    rw [bump]
    by_cases e : c = x
    · subst e
      rw [if_pos rfl]
      simp only [lkC]
      by_cases f : d = c
      · subst f; simp
      · have : ¬ c = d := fun h => f h.symm
        simp [f, this]
    · rw [if_neg e]
      simp only [lkC]
      by_cases f : d = x
      · subst f
        simp [e]
      · simp only [if_neg f]
        simpa [Option.map_map, Function.comp_def] using ih
def cntK (fs : List Form) (c : Int) : Nat := (fs.map (·.kind)).count c
theorem cntK_succ {fs : List Form} {k : Nat} {f : Form} (h : fs[k]? = some f) (c : Int) : cntK (fs.take (k + 1)) c = cntK (fs.take k) c + if f.kind = c then 1 else 0 := by
  unfold cntK
  rw [List.take_add_one, h, List.map_append, List.count_append]
  simp [List.count_singleton]
section
variable {X : List Atom → Seal → World → Prop} {L : List Atom} {S : Seal} {w : World} {P : Program} {t kt e : TypeId} {b : Nat} {a : List (Int × Nat)}
theorem run_lookC (x : Xs X) (ht : P.underlying t = some (.map kt e)) (hk : P.underlying kt = some (.int .u8)) (h : X (.map b (entC a) a.length :: L) S w) (hz : (zeroValue e).run P w = .ok (nat 0) w) (c : Int) :
    (Instr.lookup t (.map (some b)) (.int .u8 c) false).run P w = .ok (nat (getC a c)) w := by
  have hf := findC c a 0 0
  cases hl : lkC a c with
  | none =>
    rw [hl] at hf
    have := run_lookup0 (kd := .int .u8) (es := entC a) ht hk (x.mapHeap h) (key := .int .u8 c) rfl hf hz
    rw [this]; unfold getC; rw [hl]; rfl
  | some y =>
    rw [hl] at hf
    have := run_lookup1 (kd := .int .u8) (es := entC a) ht hk (x.mapHeap h) (key := .int .u8 c) rfl hf
    rw [this]; unfold getC; rw [hl]; rfl
theorem run_mapUpdate_old {kd : TypeDesc} {es : Array MapEntry} {clock : Nat} {key val v : Value} {i : Nat} (ht : P.underlying t = some (.map kt e)) (hk : P.underlying kt = some kd) (hb : w.heap[b]? = some (.map es clock)) (hkey : MapKept.IsKey kd key)
    (hn : Instr.findNow kd key es.toList 0 = some (some (i, v))) (hj : (es[i]?).map (·.key) = some key) :
    (Instr.mapUpdate t (.map (some b)) key val).run P w = .ok () { w with heap := w.heap.setIfInBounds b (.map (es.modify i fun e => { e with key := key, val := val }) clock) } := by
  simp [Instr.mapUpdate, run_underlying ht, MapKept.run_getObj_map hb, MapKept.run_checkKey hk hkey, MapKept.run_findKey hk hn, hj, MapKept.run_keyThatStays hkey, MapKept.run_setObj_map _ hb, Result.andThen]
theorem run_bumpX (x : Xs X) (ht : P.underlying t = some (.map kt e)) (hk : P.underlying kt = some (.int .u8)) (h : X (.map b (entC a) a.length :: L) S w) (c : Int) :
    ∃ w', (Instr.mapUpdate t (.map (some b)) (.int .u8 c) (nat (getC a c + 1))).run P w = .ok () w' ∧ X (.map b (entC (bump a c)) (bump a c).length :: L) S w' := by
  have hf := findC c a 0 0
  cases hl : lkC a c with
  | none =>
    rw [hl] at hf
    refine ⟨_, run_mapUpdate_new (kd := .int .u8) (es := entC a) ht hk (x.mapHeap h) rfl hf, ?_⟩
    have h2 := x.setMap h ((entC a).push ⟨.int .u8 c, nat (getC a c + 1), a.length⟩) (a.length + 1)
    have hg : getC a c = 0 := by unfold getC; rw [hl]; rfl
    have he : (entC a).push ⟨.int .u8 c, nat 1, a.length⟩ = entC (a ++ [(c, 1)]) := by
      unfold entC
      rw [List.zipIdx_append]
      simp [entF]
    rw [hg] at h2 ⊢
    rw [Nat.zero_add, he] at h2
    rw [lkC_none hl, List.length_append]
    rw [Nat.zero_add, he]
    exact h2
  | some y =>
    obtain ⟨i, v⟩ := y
    rw [hl] at hf
    obtain ⟨h3, h4, h5⟩ := lkC_some 0 hl
    have hg : getC a c = v := by unfold getC; rw [hl]; rfl
    rw [Option.map_some, Nat.zero_add] at hf
    refine ⟨_, run_mapUpdate_old (kd := .int .u8) (es := entC a) ht hk (x.mapHeap h) rfl hf (by unfold entC; simpa using h3), ?_⟩
    have h2 := x.setMap h ((entC a).modify i fun e => { e with key := .int .u8 c, val := nat (v + 1) }) a.length
    have he : ((entC a).modify i fun e => { e with key := .int .u8 c, val := nat (v + 1) }) = entC (bump a c) := by
      apply Array.toList_inj.1
      unfold entC
      rw [← h4]
      simp
    rw [hg, h5]
    rw [he] at h2 ⊢
    exact h2
end
def longS (s each en : Str) (k : Nat) : Str := s ++ (List.replicate k each).flatten ++ en
theorem str_app (a b : Str) : (⟨a.toArray⟩ : ByteArray) ++ ⟨b.toArray⟩ = ⟨(a ++ b).toArray⟩ := by
  show ByteArray.append _ _ = _
  simp [ByteArray.append]
end Go.Proofs.Ytjjbidajkmodfaa
namespace Go.Proofs.Ytjjbidajkmodfaa
open Go Go.RowKit
def okL (s each en : Str) (k : Nat) (l : List (Int × Nat)) : Bool := match textE (longS s each en k) with | some r => r.e == 0 && l.all fun x => cntK r.fs x.1 == x.2 | none => false
theorem okL_elim {s each en : Str} {k : Nat} {l : List (Int × Nat)} (h : okL s each en k l = true) : ∃ r, textE (longS s each en k) = some r ∧ r.e = 0 ∧ ∀ x ∈ l, cntK r.fs x.1 = x.2 := by
  unfold okL at h
  split at h
  · rename_i r hr
    rw [Bool.and_eq_true, List.all_eq_true] at h
    exact ⟨r, hr, by simpa using h.1, fun x hx => by simpa using h.2 x hx⟩
  · cases h
abbrev andA : Str := [40, 97, 110, 100, 32]
abbrev andB : Str := [120, 32]
abbrev andC : Str := [41]
abbrev orA : Str := [40, 111, 114, 32]
abbrev condA : Str := [40, 99, 111, 110, 100, 32]
abbrev condB : Str := [40, 120, 32, 49, 41, 32]
abbrev condC : Str := [40, 101, 108, 115, 101, 32, 50, 41, 41]
abbrev letA : Str := [40, 108, 101, 116, 42, 32, 40]
abbrev letB : Str := [40, 121, 32, 120, 41, 32]
abbrev letC : Str := [41, 32, 121, 41]
end Go.Proofs.Ytjjbidajkmodfaa
namespace Go.Proofs.Ytjjbidajkmodfaa
open Go Go.RowKit
def CntRet (S : Seal) (L : List Atom) (fs : List Form) (e : Ending) (w' : World) : Prop := ∃ b a S', S.le S' ∧ BX (.map b (entC a) a.length :: L) S' w' ∧ e = .returned (.map (some b)) ∧ ∀ c, getC a c = cntK fs c
def AddRel (s each : Str) (k : Nat) (L : List Atom) (S : Seal) (t i : Value) (wr : World) : Prop := ∃ j, j ≤ k ∧ i = nat j ∧ t = str (s ++ (List.replicate j each).flatten) ∧ BX L S wr
def CntRel (fs : List Form) (b : Nat) (L : List Atom) (S : Seal) (i : Value) (wr : World) : Prop := ∃ j a S1, j ≤ fs.length ∧ i = nat j ∧ S.le S1 ∧ BX (.map b (entC a) a.length :: L) S1 wr ∧ ∀ c, getC a c = cntK (fs.take j) c
theorem cntK_le (fs : List Form) (j : Nat) (c : Int) : cntK (fs.take j) c ≤ j := by
  unfold cntK
  refine Nat.le_trans List.count_le_length ?_
  rw [List.length_map, List.length_take]; omega
theorem rep_len (e : Str) (j : Nat) : (List.replicate j e).flatten.length = j * e.length := by simp
set_option maxRecDepth 100000 in
set_option maxHeartbeats 8000000 in
theorem E_one (L : List Atom) (S : Seal) (s each en : Str) (k g : Nat) (r : ERes) (w : World) (hk : k ≤ 100) (h1 : s.length ≤ 100) (h2 : each.length ≤ 100) (h3 : en.length ≤ 100) (hX : BX L S w) (hg : Sc S g 0 (nat k))
    (hr : textE (longS s each en k) = some r) (he : r.e = 0) : Calls Try.prog 20 #[str s, str each, str en, ptr g] w (CntRet S L r.fs) := by
  have hc := BX.xs.cell hX hg
  have HX := hid hX
  have Hr := hid hr
  clear hX hr hg
  go_enter Try.func20, Try.ntmps20
  go_wp2_with fail
  clear hc
  go_loopw [0, 16] (fun t i wr => AddRel s each k L S t i wr) (fun _ i _ => k - (intOf i).toNat)
  case atStart => exact ⟨0, Nat.zero_le _, rfl, by simp, HX.out⟩
  case round =>
    obtain ⟨j, hj, rfl, rfl, hX2⟩ := hrel
    have HX2 := hid hX2
    have hrl := rep_len each j
    have hjm : j * each.length ≤ 10000 := Nat.mul_le_mul (by omega : j ≤ 100) h2
    clear hX2
    by_cases hlt : j < k
    · have hjI : (j : Int) < (k : Int) := by omega
      have hfl : (List.replicate (j + 1) each).flatten = (List.replicate j each).flatten ++ each := by rw [List.replicate_succ', List.flatten_append]; simp
      go_wp2_with fail
      go_roundw
      case rel => exact ⟨j + 1, by omega, by go_num, by rw [hfl, ← List.append_assoc, str_app], HX2.out⟩
      case measure => simp [intOf]; omega
    · have hjk : j = k := by omega
      subst hjk
      go_wp2_with fail
      refine (E_of L S _ _ r HX2.out (by rw [str_app]; show Array.size _ ≤ _; simp only [List.size_toArray, List.length_append]; omega) (by rw [str_app]; exact Hr.out)).mono ?_
      rintro e w1 ⟨fv, ov, S1, k1, hX1, rfl, hF, hO⟩
      rw [he]
      obtain ⟨A1, c1, rfl, _, _⟩ := hF.shape
      obtain ⟨A2, c2, rfl, _, _⟩ := Sl.shape hO
      have hfl := hF.len
      have hmm : ∀ u : World, (Instr.makeMap 48 none).run Try.prog u = .ok (.map (some u.heap.size)) (u.alloc (.map #[] 0)) := fun u => by rw [run_makeMap]
      have hm0 := BX.xs.allocMap hX1 #[] 0
      have HM0 := hid hm0
      have HF := hid hF
      have HK1 := hid k1
      clear hX1 hm0 hF hO k1 Hr
      generalize r.fs = fs at *
      go_wp2_with fail
      clear hmm
      go_loopw [37] (fun i wr => CntRel fs w1.heap.size L S1 i wr) (fun i _ => fs.length - (intOf i).toNat)
      case atStart => exact ⟨0, [], S1, Nat.zero_le _, rfl, Seal.le.refl S1, HM0.out, fun c => rfl⟩
      case round =>
        obtain ⟨j, a, S2, hj2, rfl, hS2, hX2, hcn⟩ := hrel
        by_cases hlt : j < fs.length
        · obtain ⟨b1, o1, c3, hv3, _, _, hc1⟩ := HF.out.at_ (by intro h; rw [h] at hlt; simp at hlt)
          simp only [Value.slice.injEq, true_and] at hv3
          obtain ⟨rfl, rfl⟩ := hv3
          have hfk : fs[j]? = some fs[j] := List.getElem?_eq_getElem hlt
          obtain ⟨pv, lv, hFa⟩ := hc1 j _ hfk
          have hjI : (j : Int) < (fs.length : Int) := by omega
          generalize fs[j] = f at *
          obtain ⟨kd, at_, n, az, fS, ps, ww, l⟩ := f
          obtain ⟨Ap, cp, rfl, _, _⟩ := Sl.shape hFa.p
          obtain ⟨Al, cl, rfl, _, _⟩ := Sl.shape hFa.l
          have f0 := (BX.xs.cons _).cell hX2 (hFa.c0.mono hS2)
          have f1 := (BX.xs.cons _).cell hX2 (hFa.c1.mono hS2)
          have f2 := (BX.xs.cons _).cell hX2 (hFa.c2.mono hS2)
          have f3 := (BX.xs.cons _).cell hX2 (hFa.c3.mono hS2)
          have f4 := (BX.xs.cons _).cell hX2 (hFa.c4.mono hS2)
          have f5 := (BX.xs.cons _).cell hX2 (hFa.c5.mono hS2)
          have f6 := (BX.xs.cons _).cell hX2 (hFa.c6.mono hS2)
          have f7 := (BX.xs.cons _).cell hX2 (hFa.c7.mono hS2)
          dsimp only at f0 f1 f2 f3 f4 f5 f6 f7
          obtain ⟨S4, k4, hX4, s4⟩ := (BX.xs.cons _).box hX2 #[.int .u8 kd, .int .i64 at_, .int .i64 n, .int .i64 az, str fS, .slice Ap ps.length cp, .int .u64 ww, .slice Al l.length cl] 41
          have b0 := (BX.xs.cons _).cell hX4 (s4 0 _ rfl)
          have hL := run_lookC BX.xs Try.underlying48 Try.underlying5 hX4 (by kernel_rfl) kd
          obtain ⟨W5, m5, hX5⟩ := run_bumpX BX.xs Try.underlying48 Try.underlying5 hX4 kd
          have hgl : getC a kd ≤ j := by rw [hcn kd]; exact cntK_le fs j kd
          rw [show nat (getC a kd + 1) = .int .i64 ((getC a kd : Int) + 1) from rfl] at m5
          have Hcn := hid (fun c => by rw [getC_bump, hcn c, cntK_succ hfk c] : ∀ c, getC (bump a kd) c = cntK (fs.take (j + 1)) c)
          have HX5 := hid hX5
          have HK4 := hid (hS2.trans k4)
          generalize getC a kd = v at *
          clear hX2 hX4 hX5 hS2 k4 s4 hFa hc1 hfk hcn
          go_wp2_with fail
          go_roundw
          case rel => exact ⟨j + 1, bump a kd, S4, by omega, by go_num, HK4.out, HX5.out, Hcn.out⟩
          case measure => simp [intOf]; omega
        · have hj' : j = fs.length := by omega
          have Hcn := hid hcn
          have HX3 := hid hX2
          have HK3 := hid (HK1.out.trans hS2)
          clear hX2 hS2 hcn
          go_wp2_with fail
          go_ret
          exact ⟨_, a, S2, HK3.out, HX3.out, rfl, fun c => by rw [Hcn.out c, hj', List.take_length]⟩
end Go.Proofs.Ytjjbidajkmodfaa
namespace Go.Proofs.Ytjjbidajkmodfaa
open Go Go.RowKit
abbrev AndOk : Prop := ∀ i, i < 30 → okL andA andB andC (i + 1) [(4, i + 1), (5, i)] = true
abbrev OrOk : Prop := ∀ i, i < 30 → okL orA andB andC (i + 1) [(6, i), (10, i), (5, i), (4, i + 1 + 2 * i)] = true
abbrev CondOk : Prop := ∀ i, i < 30 → okL condA condB condC (i + 1) [(5, i + 1), (1, i + 2)] = true
abbrev LetOk : Prop := ∀ i, i < 30 → okL letA letB letC (i + 1) [(6, i + 1), (10, i + 1), (4, i + 2)] = true
set_option maxRecDepth 100000 in
set_option maxHeartbeats 16000000 in
theorem E_long (L : List Atom) (S : Seal) (m : Nat) (w : World) (hm : m < 256) (hX : BX L S w) (Q1 : AndOk) (Q2 : OrOk) (Q3 : CondOk) (Q4 : LetOk) : Calls Try.prog 8 #[.int .u8 (m : Int)] w (Ret S (BX L) (.bool true)) := by
  have Hsh := hid (E_shown L S w hX)
  clear hX
  obtain ⟨i, hi, him⟩ : ∃ i, i < 30 ∧ m % 30 = i := ⟨m % 30, Nat.mod_lt _ (by omega), rfl⟩
  have hmI : (m : Int) % 30 = (i : Int) := by omega
  have hmT : (m : Int).tmod 30 = (i : Int) := by rw [Int.tmod_eq_emod_of_nonneg (by omega)]; exact hmI
  have hiI : (i : Int) < 30 := by omega
  have hi0 : 0 ≤ (i : Int) := by omega
  go_enter Try.func8, Try.ntmps8
  go_wp2_with fail
  refine (Hsh.out).mono ?_
  rintro e w1 ⟨rfl, S1, k1, hX1⟩
  obtain ⟨S2, k2, hX2, s2⟩ := BX.xs.box hX1 #[nat (i + 1)] 3
  have HK2 := hid (k1.trans k2)
  have HX2 := hid hX2
  have Hg := hid (s2 0 _ rfl)
  clear hX1 hX2 k1 k2 s2
  go_wp2_with fail
  obtain ⟨r1, e1, z1, c1⟩ := okL_elim (Q1 i hi)
  refine (E_one L S2 andA andB andC (i + 1) w1.heap.size r1 _ (by omega) (by decide) (by decide) (by decide) HX2.out Hg.out e1 z1).mono ?_
  rintro e w3 ⟨b1, a1, S3, k3, hX3, rfl, hc3⟩
  have HK3 := hid (HK2.out.trans k3)
  have HX3 := hid hX3
  have Hg3 := hid (Hg.out.mono k3)
  have A1 := hid (And.intro ((hc3 4).trans (c1 (4, i + 1) (by simp))) ((hc3 5).trans (c1 (5, i) (by simp))))
  clear hX3 k3 hc3 e1 z1 c1
  go_wp2_with fail
  obtain ⟨r2, e2, z2, c2⟩ := okL_elim (Q2 i hi)
  refine (E_one _ S3 orA andB andC (i + 1) w1.heap.size r2 _ (by omega) (by decide) (by decide) (by decide) HX3.out Hg3.out e2 z2).mono ?_
  rintro e w4 ⟨b2, a2, S4, k4, hX4, rfl, hc4⟩
  have HK4 := hid (HK3.out.trans k4)
  have HX4 := hid hX4
  have Hg4 := hid (Hg3.out.mono k4)
  have A2 := hid (And.intro ((hc4 6).trans (c2 (6, i) (by simp))) (And.intro ((hc4 10).trans (c2 (10, i) (by simp))) (And.intro ((hc4 5).trans (c2 (5, i) (by simp))) ((hc4 4).trans (c2 (4, i + 1 + 2 * i) (by simp))))))
  clear hX4 k4 hc4 e2 z2 c2
  go_wp2_with fail
  obtain ⟨r3, e3, z3, c3⟩ := okL_elim (Q3 i hi)
  refine (E_one _ S4 condA condB condC (i + 1) w1.heap.size r3 _ (by omega) (by decide) (by decide) (by decide) HX4.out Hg4.out e3 z3).mono ?_
  rintro e w5 ⟨b3, a3, S5, k5, hX5, rfl, hc5⟩
  have HK5 := hid (HK4.out.trans k5)
  have HX5 := hid hX5
  have Hg5 := hid (Hg4.out.mono k5)
  have A3 := hid (And.intro ((hc5 5).trans (c3 (5, i + 1) (by simp))) ((hc5 1).trans (c3 (1, i + 2) (by simp))))
  clear hX5 k5 hc5 e3 z3 c3
  go_wp2_with fail
  obtain ⟨r4, e4, z4, c4⟩ := okL_elim (Q4 i hi)
  refine (E_one _ S5 letA letB letC (i + 1) w1.heap.size r4 _ (by omega) (by decide) (by decide) (by decide) HX5.out Hg5.out e4 z4).mono ?_
  rintro e w6 ⟨b4, a4, S6, k6, hX6, rfl, hc6⟩
  have HK6 := hid (HK5.out.trans k6)
  have hg6 := ((((BX.xs.cons _).cons _).cons _).cons _).cell hX6 (Hg5.out.mono k6)
  have hP : ∀ (b : Nat) (a : List (Int × Nat)) (M : List Atom), BX (.map b (entC a) a.length :: M) S6 w6 → ∀ c, (Instr.lookup 48 (.map (some b)) (.int .u8 c) false).run Try.prog w6 = .ok (nat (getC a c)) w6 := fun b a M h c => run_lookC BX.xs Try.underlying48 Try.underlying5 h (by kernel_rfl) c
  have P4 := hP b4 a4 _ hX6
  have P3 := hP b3 a3 _ (BX.xs.dropAtom hX6)
  have P2 := hP b2 a2 _ (BX.xs.dropAtom (BX.xs.dropAtom hX6))
  have P1 := hP b1 a1 _ (BX.xs.dropAtom (BX.xs.dropAtom (BX.xs.dropAtom hX6)))
  have q1 := P1 4
  have q2 := P1 5
  have q3 := P2 6
  have q4 := P2 10
  have q5 := P2 5
  have q6 := P2 4
  have q7 := P3 5
  have q8 := P3 1
  have q9 := P4 6
  have q10 := P4 10
  have q11 := P4 4
  rw [A1.out.1] at q1
  rw [A1.out.2] at q2
  rw [A2.out.1] at q3
  rw [A2.out.2.1] at q4
  rw [A2.out.2.2.1] at q5
  rw [A2.out.2.2.2] at q6
  rw [A3.out.1] at q7
  rw [A3.out.2] at q8
  rw [hc6 6, c4 (6, i + 1) (by simp)] at q9
  rw [hc6 10, c4 (10, i + 1) (by simp)] at q10
  rw [hc6 4, c4 (4, i + 2) (by simp)] at q11
  have HX6 := hid (BX.xs.dropAtom (BX.xs.dropAtom (BX.xs.dropAtom (BX.xs.dropAtom hX6))))
  clear hP P1 P2 P3 P4 A1 A2 A3 hX6 hc6 e4 z4 c4 k6
  clear hm him hmI hmT Q1 Q2 Q3 Q4
  go_wp2_with fail
  go_ret
  exact Ret.intro rfl HK6.out HX6.out
end Go.Proofs.Ytjjbidajkmodfaa
