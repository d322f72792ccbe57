/- 'ExpandKinds' holds: forms are of the ten kinds alone. No condition. -/
import Derived.Test.YtjjbidajkmodfaaXk1
import Derived.Test.YtjjbidajkmodfaaXk2
import Derived.Test.YtjjbidajkmodfaaRows
import Derived.WalkKit
import Derived.ProofKit
import Derived.OpenShut
import Derived.ShutString
set_option linter.unusedVariables false
set_option linter.unusedSimpArgs false
namespace Go.Proofs.Ytjjbidajkmodfaa
open Go Go.RowKit
def Kept {α : Type} (I : St → Prop) (o : Option (α × St)) : Prop := ∀ x, o = some x → I x.2
section
variable {I : St → Prop} {d : List Node} {F : Fm}
theorem Kept.bind {α β : Type} {o : Option (α × St)} {f : α × St → Option (β × St)} (h : Kept I o) (k : ∀ x, I x.2 → Kept I (f x)) : Kept I (o.bind f) := by
  intro y hy
  obtain ⟨x, hx, hf⟩ := Option.bind_eq_some_iff.1 hy
  exact k x (h x hx) y hf
theorem Kept.some_ {α : Type} {x : α × St} (h : I x.2) : Kept I (some x) := fun y hy => by cases hy; exact h
variable (hp : ∀ st f, I st → Kept I (put st f)) (hw : ∀ st i, I st → I (wrong d st i).2) (H : ∀ st i, I st → Kept I (F st i))
include hp in
theorem bit_kept {st : St} {a b : Int} (h : I st) : Kept I (bit st a b) := hp _ _ h
include hp in
theorem asks_kept {st : St} {a : Int} {x y z : Nat} (h : I st) : Kept I (asks st a x y z) := hp _ _ h
include H
theorem forms_kept : ∀ (l : List Nat) (st : St), I st → Kept I (forms F st l)
  | [], st, h => .some_ h
  | i :: l, st, h => (H st i h).bind fun x hx => (forms_kept l x.2 hx).bind fun y hy => .some_ hy
include hp
theorem body_kept {at_ : Int} {l : List Nat} {st : St} (h : I st) : Kept I (body F at_ st l) := by
  unfold body
  split
  · exact H st _ h
  · exact (forms_kept H l st h).bind fun x hx => hp _ _ hx
theorem fn_kept {at_ : Int} {ns : List Str} {l : List Nat} {st : St} (h : I st) : Kept I (fn F at_ ns st l) := (body_kept hp H h).bind fun x hx => hp _ _ hx
theorem call_kept {at_ : Int} {f : Nat} {l : List Nat} {st : St} (h : I st) : Kept I (call F at_ f st l) := (forms_kept H l st h).bind fun x hx => hp _ _ hx
theorem stars_kept {at_ : Int} {bd : List Nat} : ∀ (ps vs : List Nat) (st : St), I st → Kept I (stars d F at_ bd st ps vs)
  | p :: ps, v :: vs, st, h => by
    rw [stars]
    exact (stars_kept ps vs st h).bind fun b hb => (hp _ _ hb).bind fun f hf => call_kept hp H hf
  | [], vs, st, h => by
    rw [stars]
    · exact body_kept hp H h
    · intro _ _ _ _ h _; cases h
  | _ :: _, [], st, h => by
    rw [stars]
    · exact body_kept hp H h
    · intro _ _ _ _ _ h; cases h
theorem and_kept {at_ : Int} : ∀ (l : List Nat) (st : St), I st → Kept I (andS F at_ st l)
  | [], st, h => bit_kept hp h
  | [i], st, h => H st i h
  | i :: j :: l, st, h => by
    rw [andS]
    · exact (H st i h).bind fun a ha => (and_kept (j :: l) a.2 ha).bind fun b hb => (bit_kept hp hb).bind fun c hc => asks_kept hp hc
    · intro h; cases h
theorem or_kept {at_ : Int} : ∀ (l : List Nat) (st : St), I st → Kept I (orS F at_ st l)
  | [], st, h => bit_kept hp h
  | [i], st, h => H st i h
  | i :: j :: l, st, h => by
    rw [orS]
    · exact (hp _ _ h).bind fun p h1 => (hp _ _ h1).bind fun q h2 => (or_kept (j :: l) q.2 h2).bind fun b h3 => (asks_kept hp h3).bind fun c h4 => (hp _ _ h4).bind fun f h5 => call_kept hp H h5
    · intro h; cases h
include hw
theorem cond_kept {at_ : Int} : ∀ (l : List Nat) (st : St), I st → Kept I (condS d F at_ st l)
  | [], st, h => bit_kept hp h
  | x :: l, st, h => by
    unfold condS
    split
    · exact .some_ (hw st x h)
    split
    · split
      · exact .some_ (hw st x h)
      · exact body_kept hp H h
    · exact (H st _ h).bind fun a ha => (body_kept hp H ha).bind fun b hb => (cond_kept l b.2 hb).bind fun c hc => asks_kept hp hc
theorem special_kept {s : Str} {i : Nat} {st : St} (h : I st) : Kept I (special d F s i st) := by
  unfold special
  by_cases hs_ : s = sQuote
  · rw [if_pos hs_]
    unfold quoteS; split
    · exact .some_ (hw _ _ h)
    · exact hp _ _ h
  rw [if_neg hs_]; clear hs_
  by_cases hs_ : s = sIf
  · rw [if_pos hs_]
    unfold ifS; split
    · exact .some_ (hw _ _ h)
    refine (H st _ h).bind fun a ha => ?_
    unfold ifWays
    refine (H a.2 _ ha).bind fun b hb => ?_
    refine Kept.bind ?_ fun c hc => asks_kept hp hc
    split
    · exact H _ _ hb
    · exact bit_kept hp hb
  rw [if_neg hs_]; clear hs_
  by_cases hs_ : s = sWhen
  · rw [if_pos hs_]
    unfold whenS; split
    · exact .some_ (hw _ _ h)
    refine (H st _ h).bind fun a ha => ?_
    unfold whenWays
    exact (body_kept hp H ha).bind fun b hb => (bit_kept hp hb).bind fun c hc => asks_kept hp hc
  rw [if_neg hs_]; clear hs_
  by_cases hs_ : s = sUnless
  · rw [if_pos hs_]
    unfold unlessS; split
    · exact .some_ (hw _ _ h)
    refine (H st _ h).bind fun a ha => ?_
    unfold unlessWays
    exact (bit_kept hp ha).bind fun b hb => (body_kept hp H hb).bind fun c hc => asks_kept hp hc
  rw [if_neg hs_]; clear hs_
  by_cases hs_ : s = sSet
  · rw [if_pos hs_]
    unfold setS; split
    · exact .some_ (hw _ _ h)
    exact (H st _ h).bind fun a ha => hp _ _ ha
  rw [if_neg hs_]; clear hs_
  by_cases hs_ : s = sBegin
  · rw [if_pos hs_]
    unfold beginS; split
    · exact .some_ (hw _ _ h)
    exact body_kept hp H h
  rw [if_neg hs_]; clear hs_
  by_cases hs_ : s = sCond
  · rw [if_pos hs_]
    unfold condsS; split
    · exact .some_ (hw _ _ h)
    exact cond_kept hp hw H _ _ h
  rw [if_neg hs_]; clear hs_
  by_cases hs_ : s = sLambda
  · rw [if_pos hs_]
    unfold lambdaS; split
    · exact .some_ (hw _ _ h)
    split
    · exact .some_ (hw _ _ h)
    exact fn_kept hp H h
  rw [if_neg hs_]; clear hs_
  by_cases hs_ : s = sLet
  · rw [if_pos hs_]
    unfold letS; split
    · exact .some_ (hw _ _ h)
    split
    · exact .some_ (hw _ _ h)
    split
    · exact .some_ (hw _ _ h)
    exact (fn_kept hp H h).bind fun f hf => call_kept hp H hf
  rw [if_neg hs_]; clear hs_
  by_cases hs_ : s = sLets
  · rw [if_pos hs_]
    unfold letsS; split
    · exact .some_ (hw _ _ h)
    split
    · exact .some_ (hw _ _ h)
    exact stars_kept hp H _ _ _ h
  rw [if_neg hs_]; clear hs_
  by_cases hs_ : s = sAnd
  · rw [if_pos hs_]; exact and_kept hp H _ _ h
  rw [if_neg hs_]; clear hs_
  by_cases hs_ : s = sOr
  · rw [if_pos hs_]; exact or_kept hp H _ _ h
  rw [if_neg hs_]
  exact .some_ (hw _ _ h)
theorem step_kept {i : Nat} {st : St} (h : I st) : Kept I (step d F st i) := by
  unfold step
  split
  · exact .some_ h
  repeat' split
  · exact hp _ _ h
  · exact bit_kept hp h
  · exact .some_ (hw _ _ h)
  · exact hp _ _ h
  · exact .some_ (hw _ _ h)
  · exact special_kept hp hw H h
  · exact (H st _ h).bind fun a ha => call_kept hp H ha
theorem define_kept {i : Nat} {st : St} (h : I st) : Kept I (defineS d F i st) := by
  unfold defineS
  split
  · exact .some_ (hw _ _ h)
  split
  · split
    · exact .some_ (hw _ _ h)
    · exact (H st _ h).bind fun a ha => hp _ _ ha
  split
  · exact .some_ (hw _ _ h)
  split
  · exact .some_ (hw _ _ h)
  split
  · exact .some_ (hw _ _ h)
  exact (fn_kept hp H h).bind fun f hf => hp _ _ hf
theorem top_kept {i : Nat} {st : St} (h : I st) : Kept I (topS d F st i) := by
  unfold topS
  split
  · exact define_kept hp hw H h
  · exact step_kept hp hw H h
end
section
variable {I : St → Prop} {d : List Node} (hp : ∀ st f, I st → Kept I (put st f)) (hw : ∀ st i, I st → I (wrong d st i).2)
include hp hw
theorem form_kept (k : Nat) : ∀ st i, I st → Kept I (form d k st i) := by
  induction k with
  | zero => intro st i _ x hx; cases hx
  | succ k ih => intro st i h; exact step_kept hp hw ih h
theorem tops_kept (k : Nat) : ∀ (ts : List Nat) (st : St), I st → Kept I (tops (topS d (form d k)) st ts)
  | [], st, h => .some_ h
  | i :: ts, st, h => by
    rw [tops]
    refine (top_kept hp hw (form_kept hp hw k) h).bind fun x hx => ?_
    split
    · exact (tops_kept k ts x.2 hx).bind fun y hy => .some_ hy
    · exact .some_ hx
end
theorem expand_bad {d : List Node} {k : Nat} {ts : List Nat} {y : List Nat × St} (h : expand d k ts = some y) {a : Int} (hb : y.2.bad = some a) : ∃ i, a = (nd d i).at_ := by
  have := tops_kept (I := fun st => ∀ a, st.bad = some a → ∃ i, a = (nd d i).at_) (d := d) (fun st f h x hx => by
    unfold put at hx
    split at hx
    · cases hx; exact h
    · cases hx) (fun st i h a ha => by
    unfold wrong wrongAt at ha
    split at ha
    · cases ha; exact ⟨i, rfl⟩
    · exact h a ha) k ts ⟨[], none⟩ (fun a ha => by cases ha) y h
  exact this a hb
end Go.Proofs.Ytjjbidajkmodfaa
namespace Go.Proofs.Ytjjbidajkmodfaa
open Go Go.RowKit
theorem raw_node (x : Node) : x.raw.node = x := by
  obtain ⟨k, a, n, s, l⟩ := x
  unfold Node.raw RNode.node
  simp only [Node.mk.injEq, true_and, List.map_map]
  exact List.map_id'' (fun i => rfl) l
theorem raw_nodes (d : List Node) : (d.map Node.raw).map RNode.node = d := by
  rw [List.map_map]
  exact List.map_id'' (fun x => raw_node x) d
theorem expand_len {d : List Node} {k : Nat} {ts : List Nat} {y : List Nat × St} (h : expand d k ts = some y) : y.2.fs.length ≤ LIM :=
  tops_kept (I := fun st => st.fs.length ≤ LIM) (d := d) (fun st f _ x hx => by
    unfold put at hx
    split at hx
    · rename_i hl; cases hx; simp; omega
    · cases hx) (fun st i h => by
    unfold wrong wrongAt
    split <;> exact h) k ts ⟨[], none⟩ (by show (0 : Nat) ≤ LIM; exact Nat.zero_le _) y h
theorem textE_expand {s : Str} {r : ERes} (h : textE s = some r) : ∃ y, expand (readS s).row (readS s).row.length (readS s).tops = some y ∧ r = resOf y := by
  unfold textE expandR at h
  have hok := readS_ok s
  rw [if_neg (by
    rintro (h | h)
    · rw [hok.may] at h; cases h
    · rw [List.any_eq_true] at h
      obtain ⟨t, ht, ho⟩ := h
      obtain ⟨i, hi, rfl⟩ := List.mem_map.1 ht
      have := hok.top i hi
      unfold outR at ho
      simp only [decide_eq_true_eq, List.length_map] at ho
      have h2 : (Int.ofNat i) = (i : Int) := rfl
      omega)] at h
  rw [Option.map_eq_some_iff] at h
  obtain ⟨y, hy, hr⟩ := h
  rw [raw_nodes, List.length_map, List.map_map, show (Int.toNat ∘ Int.ofNat) = id from rfl, List.map_id] at hy
  exact ⟨y, hy, hr.symm⟩
theorem text_kinds {s : Str} {r : ERes} (h : textE s = some r) (hs : s.length ≤ 4000) :
    (r.e = 0 ∧ WFs r.fs [] r.os.reverse ∧ r.fs.length ≤ LIM ∧ r.os.length = (readS s).tops.length) ∨ (r.e = 80 ∧ r.at_ < (s.length : Int) ∧ r.fs = [] ∧ r.os = []) := by
  obtain ⟨y, hy, rfl⟩ := textE_expand h
  have hok := readS_ok s
  have hll : ∀ i, (nd (readS s).row i).l.length < 1048576 := by
    intro i
    by_cases hi : i < (readS s).row.length
    · have hx : nd (readS s).row i = (readS s).row[i] := by unfold nd; rw [List.getD_eq_getElem?_getD, List.getElem?_eq_getElem hi]; rfl
      rw [hx]
      have := (hok.nodes _ (List.getElem_mem hi)).l
      omega
    · rw [nd_out (by omega)]; decide
  have hss : ∀ i, (nd (readS s).row i).s.length ≤ 140737488355328 := by
    intro i
    by_cases hi : i < (readS s).row.length
    · have hx : nd (readS s).row i = (readS s).row[i] := by unfold nd; rw [List.getD_eq_getElem?_getD, List.getElem?_eq_getElem hi]; rfl
      rw [hx]
      have := (hok.nodes _ (List.getElem_mem hi)).s
      omega
    · rw [nd_out (by omega)]; decide
  unfold resOf
  cases hb : y.2.bad with
  | none =>
    left
    obtain ⟨h1, h2⟩ := expand_wf hll hss hy hb
    exact ⟨rfl, h1, expand_len hy, h2⟩
  | some a =>
    right
    refine ⟨rfl, ?_, rfl, rfl⟩
    show a < _
    obtain ⟨i, rfl⟩ := expand_bad hy hb
    by_cases hi : i < (readS s).row.length
    · have hx : nd (readS s).row i = (readS s).row[i] := by unfold nd; rw [List.getD_eq_getElem?_getD, List.getElem?_eq_getElem hi]; rfl
      rw [hx]
      exact (hok.nodes _ (List.getElem_mem hi)).at_.2
    · rw [nd_out (by omega)]
      show (0 : Int) < _
      have hne : (readS s).tops ≠ [] := by
        intro h0
        rw [h0] at hy
        cases hy; cases hb
      obtain ⟨t, ht⟩ := List.exists_mem_of_ne_nil _ hne
      have := hok.top t ht
      have h2 := (hok.nodes _ (List.getElem_mem this)).at_
      omega
def loF (k : Int) : Int := if k ≤ 4 then 0 else if k = 5 then 3 else if k = 8 then 2 else 1
def hiF (k : Int) : Int := if k ≤ 4 then 0 else if k = 5 then 3 else if k = 8 ∨ k = 10 then 1048576 else 1
theorem OkForm.lohi {f : Form} (h : OkForm f) : loF f.kind ≤ f.l.length ∧ (f.l.length : Int) ≤ hiF f.kind := by
  have h1 := h.kind
  have h2 := h.most
  unfold loF hiF
  rcases (by omega : f.kind ≤ 4 ∨ f.kind = 5 ∨ f.kind = 6 ∨ f.kind = 7 ∨ f.kind = 8 ∨ f.kind = 9 ∨ f.kind = 10) with hk | hk | hk | hk | hk | hk | hk
  · have := h.few hk
    rw [if_pos hk, if_pos hk]; omega
  · have := h.three hk
    rw [hk]; simp; omega
  · have := h.one (.inl hk)
    rw [hk]; simp; omega
  · have := h.one (.inr (.inl hk))
    rw [hk]; simp; omega
  · have := h.seq hk
    rw [hk]; simp; omega
  · have := h.one (.inr (.inr hk))
    rw [hk]; simp; omega
  · have := h.call hk
    rw [hk]; simp; omega
def Parts3 (S : Seal) (X : Seal → World → Prop) (lo hi : Int) (e : Ending) (w' : World) : Prop := e = .returned (.tuple #[int lo, int hi, .bool true]) ∧ X S w'
set_option maxRecDepth 100000 in
set_option maxHeartbeats 4000000 in
theorem K_parts {X : List Atom → Seal → World → Prop} (X1 : Xs X) (L : List Atom) (S : Seal) (w : World) (k a n z ww : Int) (s : Str) (A B : Option Addr) (n1 c1 n2 c2 : Nat) (hk : 1 ≤ k ∧ k ≤ 10) (hX : X L S w) :
    Calls Try.prog 19 #[.agg #[.int .u8 k, int a, int n, int z, str s, .slice A n1 c1, .int .u64 ww, .slice B n2 c2]] w (Parts3 S (X L) (loF k) (hiF k)) := by
  have HX := hid (X1.alloc0 hX (.cells #[.int .u8 k, int a, int n, int z, str s, .slice A n1 c1, .int .u64 ww, .slice B n2 c2] 41))
  clear hX
  rcases (by omega : k = 1 ∨ k = 2 ∨ k = 3 ∨ k = 4 ∨ k = 5 ∨ k = 6 ∨ k = 7 ∨ k = 8 ∨ k = 9 ∨ k = 10) with rfl | rfl | rfl | rfl | rfl | rfl | rfl | rfl | rfl | rfl
  all_goals
    clear hk
    go_enter Try.func19, Try.ntmps19
    go_wp2_with fail
    go_ret3
    exact ⟨by rfl, HX.out⟩
end Go.Proofs.Ytjjbidajkmodfaa
namespace Go.Proofs.Ytjjbidajkmodfaa
open Go Go.RowKit
def crow (n : Nat) (C : Nat → Nat) : List Value := (List.range n).map fun p => nat (C p)
theorem crow_len (n : Nat) (C : Nat → Nat) : (crow n C).length = n := by simp [crow]
theorem crow_get {n p : Nat} (C : Nat → Nat) (h : p < n) : (crow n C)[p]? = some (nat (C p)) := by simp [crow, h]
theorem crow_congr {n : Nat} {C D : Nat → Nat} (h : ∀ p, C p = D p) : crow n C = crow n D := by
  unfold crow; exact List.map_congr_left fun p _ => by rw [h p]
theorem crow_set {n p : Nat} (C : Nat → Nat) (h : p < n) : (crow n C).set p (nat (C p + 1)) = crow n fun q => C q + if p = q then 1 else 0 := by
  apply List.ext_getElem?
  intro k
  rw [List.getElem?_set]
  by_cases hk : k < n
  · rw [crow_get (fun q => C q + if p = q then 1 else 0) hk]
    by_cases e : p = k
    · subst e; rw [if_pos rfl, if_pos (by rw [crow_len]; exact h), if_pos rfl]
    · rw [if_neg e, crow_get C hk, if_neg e]; rfl
  · rw [List.getElem?_eq_none (by rw [crow_len]; omega), List.getElem?_eq_none (by rw [crow_len]; omega)]
    split
    · omega
    · rfl
theorem crow_made (n : Nat) : (madeCells (int 0).cells (n * 1)).toList = crow n fun _ => 0 := by
  rw [Nat.mul_one, show (int 0).cells = #[int 0] from rfl, toList_madeCells_one]
  unfold crow
  apply List.ext_getElem?
  intro k
  by_cases hk : k < n
  · simp [hk]
  · rw [List.getElem?_eq_none (by simp; omega), List.getElem?_eq_none (by simp; omega)]
theorem cnt_append (a b : List Form) (p : Nat) : cnt (a ++ b) p = cnt a p + cnt b p := by
  unfold cnt; rw [List.map_append, List.sum_append]
theorem cnt_succ {fs : List Form} {k : Nat} {f : Form} (h : fs[k]? = some f) (p : Nat) : cnt (fs.take (k + 1)) p = cnt (fs.take k) p + f.l.count p := by
  rw [List.take_add_one, h, cnt_append]
  unfold cnt
  simp
theorem cnt_le (fs : List Form) (k p : Nat) : cnt (fs.take k) p ≤ cnt fs p := by
  have h := cnt_append (fs.take k) (fs.drop k) p
  rw [List.take_append_drop] at h
  omega
theorem count_succ {l : List Nat} {j q : Nat} (h : l[j]? = some q) (p : Nat) : (l.take (j + 1)).count p = (l.take j).count p + if q = p then 1 else 0 := by
  rw [List.take_add_one, h, List.count_append]
  simp [List.count_singleton]
theorem count_le (l : List Nat) (j p : Nat) : (l.take j).count p ≤ l.count p := (List.take_sublist j l).count_le p
def entB (l : List Str) : Array MapEntry := (l.zipIdx.map fun x => ({ key := str x.1, val := .bool true, born := x.2 } : MapEntry)).toArray
theorem entB_push (l : List Str) (n : Str) : (entB l).push ⟨str n, .bool true, l.length⟩ = entB (l ++ [n]) := by
  unfold entB
  rw [List.zipIdx_append]
  simp
theorem str_inj {a b : Str} (h : str a = str b) : a = b := by
  simpa using h
theorem entB_none {n : Str} {l : List Str} (h : n ∉ l) : Instr.findNow .string (str n) (entB l).toList 0 = some none := by
  rcases MapKept.findNow_spec (d := .string) (k := str n) trivial (entB l).toList 0 (fun x hx => by
    unfold entB at hx
    obtain ⟨y, _, rfl⟩ := List.mem_map.1 hx
    trivial) with h1 | ⟨j, e, _, hj, he⟩
  · exact h1.1
  · have hx := List.mem_of_getElem? hj
    unfold entB at hx
    obtain ⟨y, hy, rfl⟩ := List.mem_map.1 hx
    have := str_inj he
    exact absurd (List.mem_zipIdx' hy).2 (fun h2 => h (by rw [← this, h2]; exact List.getElem_mem _))
end Go.Proofs.Ytjjbidajkmodfaa
namespace Go.Proofs.Ytjjbidajkmodfaa
open Go Go.RowKit
def KRel (n g m : Nat) (C : Nat → Nat → Nat) (L : List Atom) (S : Seal) (i : Value) (wr : World) : Prop :=
  ∃ k S1, k ≤ m ∧ i = nat k ∧ S.le S1 ∧ BX (.row 3 1 (.slice (some ⟨g, 0, none⟩) n n) n (crow n (C k)) :: L) S1 wr
def MRel (b : Nat) (ps : List Str) (L : List Atom) (S : Seal) (i : Value) (wr : World) : Prop :=
  ∃ k, k ≤ ps.length ∧ i = nat k ∧ BX (.map b (entB (ps.take k)) k :: L) S wr
theorem BX.glob {L : List Atom} {S : Seal} {w : World} (h : BX L S w) : ∃ m : Int, w.cell? ⟨0, 0, none⟩ = some (.int .i64 m) := let ⟨m, c⟩ := h.1; ⟨m, BX.xs.cell h c⟩
theorem new_of {x : Str} : ∀ {l : List Str} {j : Nat}, l.Nodup → l[j]? = some x → x ∉ l.take j
  | [], _, _, h => by simp at h
  | a :: l, 0, _, _ => by simp
  | a :: l, j + 1, hn, h => by
    rw [List.nodup_cons] at hn
    rw [List.getElem?_cons_succ] at h
    rw [List.take_succ_cons, List.mem_cons]
    rintro (rfl | h2)
    · exact hn.1 (List.mem_of_getElem? h)
    · exact new_of hn.2 h h2
theorem entB_succ {l : List Str} {j : Nat} {x : Str} (h : l[j]? = some x) : (entB (l.take j)).push ⟨str x, .bool true, j⟩ = entB (l.take (j + 1)) := by
  have hj := (List.getElem?_eq_some_iff.1 h).1
  have h2 := entB_push (l.take j) x
  rw [List.length_take, Nat.min_eq_left (by omega)] at h2
  rw [h2, List.take_add_one, h]
  rfl
set_option maxRecDepth 100000 in
set_option maxHeartbeats 40000000 in
theorem E_kinds (L : List Atom) (S : Seal) (s : ByteArray) (w : World) (hX : BX L S w) (hs : s.size ≤ 9223372036854775807) : Calls Try.prog 5 #[.string s] w (Ret S (BX L) (.bool true)) := by
  have Hsh := hid (E_shown L S w hX)
  clear hX
  go_enter Try.func5, Try.ntmps5
  go_wp2_with fail
  refine (Hsh.out).mono ?_
  rintro e w1 ⟨rfl, S1, k1, hX1⟩
  have HX1 := hid hX1
  have HK1 := hid k1
  clear hX1 k1
  by_cases hb : 1000 < s.size
  · have hbI : (1000 : Int) < (s.size : Int) := by omega
    go_wp2_with fail
    go_ret
    exact Ret.intro rfl HK1.out HX1.out
  have hbI : ¬ (1000 : Int) < (s.size : Int) := by omega
  obtain ⟨r, hr⟩ := textE_some s.data.toList
  have hsz : s.data.toList.length = s.size := by rw [Array.length_toList]; rfl
  have Hk := hid (text_kinds hr (by omega))
  have Hr := hid hr
  clear hr
  go_wp2_with fail
  refine (E_of L S1 s _ r HX1.out hs Hr.out).mono ?_
  rintro e w2 ⟨fv, ov, S2, k2, hX2, rfl, hF, hO⟩
  obtain ⟨A1, c1, rfl, _, _⟩ := hF.shape
  obtain ⟨A2, c2, rfl, _, _⟩ := Sl.shape hO
  have hfl := hF.len
  have hol := NatsR.len hO
  have HK2 := hid (HK1.out.trans k2)
  have HF := hid hF
  have HO := hid hO
  have hk := Hk.out
  clear Hr Hk hF hO k2
  obtain ⟨fs, os, at_, eo⟩ := r
  dsimp only at *
  rcases hk with ⟨rfl, hw, hlim, -⟩ | ⟨rfl, ha, rfl, rfl⟩
  case inr =>
    have haI : at_ < (s.size : Int) := by omega
    have HX2 := hid hX2
    clear hX2
    go_wp2_with fail
    go_ret
    exact Ret.intro rfl HK2.out HX2.out
  have Hw := hid hw
  clear hw
  obtain ⟨hmk, hX3⟩ := BX.xs.makeRow (P := Try.prog) (t := 23) (e := 3) (size := 1) (bytes := 8) (z := int 0) Try.underlying23 (by kernel_rfl) hX2 fs.length (by unfold LIM at hlim; omega) (by unfold maxLen; unfold LIM at hlim; omega)
  rw [crow_made] at hX3
  generalize w2.alloc _ = W0 at hmk hX3
  generalize w2.heap.size = g at hmk hX3
  have HX3 := hid hX3
  clear hX2 hX3
  go_wp2_with fail
  clear hmk
  go_loopw [63] (fun i wr => KRel fs.length g fs.length (fun k => cnt (fs.take k)) L S2 i wr) (fun i _ => fs.length - (intOf i).toNat)
  case atStart => exact ⟨0, S2, Nat.zero_le _, rfl, Seal.le.refl S2, HX3.out⟩
  case round =>
    obtain ⟨k, S3, hk, rfl, hS3, hX3⟩ := hrel
    by_cases hlt : k < fs.length
    · obtain ⟨b1, o1, c3, hv3, _, _, hc1⟩ := HF.out.at_ (by intro h; rw [h] at hlt; simp at hlt)
      simp only [Value.slice.injEq, true_and] at hv3
      obtain ⟨rfl, rfl⟩ := hv3
      have hfk : fs[k]? = some fs[k] := List.getElem?_eq_getElem hlt
      obtain ⟨pv, lv, hFa⟩ := hc1 k _ hfk
      have Hok := hid (Hw.out.ok fs[k] (List.getElem_mem hlt))
      have Hltk := hid (Hw.out.lt k fs[k] hfk)
      have Hnpk := hid (Hw.out.np fs[k] (List.getElem_mem hlt))
      have hlh := Hok.out.lohi
      have hkr := Hok.out.kind
      have hkI : (k : Int) < (fs.length : Int) := by omega
      generalize fs[k] = f at *
      obtain ⟨kd, at_, n, a, fS, ps, ww, l⟩ := f
      obtain ⟨Ap, cp, rfl, _, _⟩ := Sl.shape hFa.p
      obtain ⟨Al, cl, rfl, _, _⟩ := Sl.shape hFa.l
      have hpl := hFa.p.len
      have hll := NatsR.len hFa.l
      dsimp only at hlh hkr hpl hll
      have f0 := (BX.xs.cons _).cell hX3 (hFa.c0.mono hS3)
      have f1 := (BX.xs.cons _).cell hX3 (hFa.c1.mono hS3)
      have f2 := (BX.xs.cons _).cell hX3 (hFa.c2.mono hS3)
      have f3 := (BX.xs.cons _).cell hX3 (hFa.c3.mono hS3)
      have f4 := (BX.xs.cons _).cell hX3 (hFa.c4.mono hS3)
      have f5 := (BX.xs.cons _).cell hX3 (hFa.c5.mono hS3)
      have f6 := (BX.xs.cons _).cell hX3 (hFa.c6.mono hS3)
      have f7 := (BX.xs.cons _).cell hX3 (hFa.c7.mono hS3)
      dsimp only at f0 f1 f2 f3 f4 f5 f6 f7
      obtain ⟨S4, k4, hX4, s4⟩ := (BX.xs.cons _).box hX3 #[.int .u8 kd, .int .i64 at_, .int .i64 n, .int .i64 a, str fS, .slice Ap ps.length cp, .int .u64 ww, .slice Al l.length cl] 41
      have HS4 := hid (hS3.trans k4)
      have HX4 := hid hX4
      have HFa := hid ((hFa.mono hS3).mono k4)
      have Hc := hid hc1
      have Hfk := hid hfk
      have Hb := hid (And.intro (s4 0 _ rfl) (And.intro (s4 4 _ rfl) (And.intro (s4 5 _ rfl) (s4 7 _ rfl))))
      have hlo : ¬ (l.length : Int) < loF kd := by omega
      have hhi : ¬ hiF kd < (l.length : Int) := by omega
      clear hX3 hX4 hS3 k4 s4 hFa hc1 hfk hlh
      go_wp2_with fail
      refine (K_parts (BX.xs.cons _) L S4 _ kd at_ n a ww fS _ _ _ _ _ _ hkr HX4.out).mono ?_
      rintro e w5 ⟨rfl, hX5⟩
      have b0 := (BX.xs.cons _).cell hX5 Hb.out.1
      have b5 := (BX.xs.cons _).cell hX5 Hb.out.2.2.1
      have b7 := (BX.xs.cons _).cell hX5 Hb.out.2.2.2
      have HX5 := hid hX5
      have Hkr := hid hkr
      clear hX5 hkr f0 f1 f2 f3 f4 f5 f6 f7
      generalize loF kd = lo at *
      generalize hiF kd = hi at *
      by_cases k6 : kd = 6
      · have e6 : (kd != 6) = false := by simp [k6]
        clear k6
        go_wp2_with fail
        clear b0
        try clear hpl0
        go_loopw [104] (fun i wr => KRel fs.length g l.length (fun j p => cnt (fs.take k) p + (l.take j).count p) L S4 i wr) (fun i _ => l.length - (intOf i).toNat)
        case atStart => exact ⟨0, S4, Nat.zero_le _, rfl, Seal.le.refl _, HX5.out⟩
        case round =>
          obtain ⟨j, S6, hj, rfl, hS6, hX6⟩ := hrel
          have HS6 := hid hS6
          have HX6 := hid hX6
          by_cases hjl : j < l.length
          · obtain ⟨b3, o3, c5, hv5, _, _, hc3⟩ := HFa.out.l.at_ (by intro h; dsimp only at h; rw [h] at hjl; simp at hjl)
            simp only [Value.slice.injEq, true_and] at hv5
            obtain ⟨rfl, rfl⟩ := hv5
            have hql : l[j]? = some l[j] := List.getElem?_eq_getElem hjl
            have t1 := (BX.xs.cons _).cell hX6 ((hc3 j _ hql).mono hS6)
            have hqk := Hltk.out l[j] (List.getElem_mem hjl)
            have hq9 := Hnpk.out l[j] (List.getElem_mem hjl)
            try dsimp only at hqk hq9
            have hjI : (j : Int) < (l.length : Int) := by omega
            generalize l[j] = q at *
            have hqn : q < fs.length := by omega
            have hqs : fs[q]? = some fs[q] := List.getElem?_eq_getElem hqn
            obtain ⟨pv2, lv2, hG⟩ := Hc.out q _ hqs
            have t2 := (BX.xs.cons _).cell hX6 ((hG.c0.mono HS4.out).mono hS6)
            rw [List.getD_eq_getElem?_getD, hqs, Option.getD_some] at hq9
            generalize fs[q].kind = kq at *
            have e9q : (kq == 9) = false := by simpa using hq9
            have hqI : (q : Int) < (fs.length : Int) := by omega
            have hqJ : ¬ (k : Int) ≤ (q : Int) := by omega
            obtain ⟨g', c7, hv, fm⟩ := BX.xs.rowCell hX6 (crow_get _ hqn)
            simp only [Value.slice.injEq, Option.some.injEq, Addr.mk.injEq, true_and, and_true] at hv
            obtain ⟨rfl, rfl⟩ := hv
            have hX7 := BX.xs.rowStore hX6 q (nat (cnt (fs.take k) q + (l.take j).count q + 1))
            rw [crow_set _ hqn] at hX7
            have ff := BX.xs.rowFree hX6 q
            have hb1 := cnt_le fs (k + 1) q
            rw [cnt_succ Hfk.out q] at hb1
            dsimp only at hb1
            have hb2 := count_le l j q
            have hb3 := Hw.out.use q hqn
            have hbb : cnt (fs.take k) q + (l.take j).count q ≤ 1 := by omega
            generalize hcc : cnt (fs.take k) q + (l.take j).count q = cq at *
            have HX7 := hid hX7
            have Hql := hid hql
            clear hX6 hX7 hc3 hql hqs hG hb1 hb2 hb3 hS6
            go_wp2_with fail
            go_roundw
            case rel =>
              refine ⟨j + 1, S6, by omega, by go_num, HS6.out, ?_⟩
              show BX (.row _ _ _ _ (crow fs.length fun p => cnt (fs.take k) p + (l.take (j + 1)).count p) :: L) S6 _
              rw [crow_congr (fun p => show cnt (fs.take k) p + (l.take (j + 1)).count p = cnt (fs.take k) p + (l.take j).count p + if q = p then 1 else 0 by rw [count_succ Hql.out p, Nat.add_assoc])]
              exact HX7.out
            case measure => simp [intOf]; omega
          · have hj' : j = l.length := by omega
            have hX7 : BX (.row 3 1 (.slice (some ⟨g, 0, none⟩) fs.length fs.length) fs.length (crow fs.length (cnt (fs.take (k + 1)))) :: L) S6 wr := by
              rw [crow_congr (fun p => (cnt_succ Hfk.out p))]
              rw [hj'] at hX6
              dsimp only at hX6
              rwa [List.take_length] at hX6
            have hmm : ∀ u : World, (Instr.makeMap 44 none).run Try.prog u = .ok (.map (some u.heap.size)) (u.alloc (.map #[] 0)) := fun u => by rw [run_makeMap]
            have hm0 := BX.xs.allocMap hX7 #[] 0
            have b5' := (BX.xs.cons _).cell hX7 (Hb.out.2.2.1.mono hS6)
            have b5'' := ((BX.xs.cons _).cons _).cell hm0 (Hb.out.2.2.1.mono hS6)
            have HM0 := hid hm0
            have HK6 := hid (HS4.out.trans hS6)
            clear hX6 hX7 hm0 hS6
            go_wp2_with fail
            clear hmm b5' b5''
            go_loopw [134] (fun i w' => MRel wr.heap.size ps (.row 3 1 (.slice (some ⟨g, 0, none⟩) fs.length fs.length) fs.length (crow fs.length (cnt (fs.take (k + 1)))) :: L) S6 i w') (fun i _ => ps.length - (intOf i).toNat)
            case atStart => exact ⟨0, Nat.zero_le _, rfl, HM0.out⟩
            case round =>
              obtain ⟨j2, hj2, rfl, hX8⟩ := hrel
              have HX8 := hid hX8
              obtain ⟨mm, hg⟩ := hX8.glob
              have Hg := hid hg
              clear hg
              by_cases hjp : j2 < ps.length
              · obtain ⟨b4, o4, c6, hv6, _, _, hc4⟩ := HFa.out.p.at_ (by intro h; dsimp only at h; rw [h] at hjp; simp at hjp)
                simp only [Value.slice.injEq, true_and] at hv6
                obtain ⟨rfl, rfl⟩ := hv6
                have hps : ps[j2]? = some ps[j2] := List.getElem?_eq_getElem hjp
                have t3 := ((BX.xs.cons _).cons _).cell hX8 ((hc4 j2 _ hps).mono HS6.out)
                have hfr := Hok.out.free ps[j2] (List.getElem_mem hjp)
                have hni := new_of (Hok.out.apart : ps.Nodup) hps
                have hjI : (j2 : Int) < (ps.length : Int) := by omega
                generalize ps[j2] = x at *
                have hL := run_lookup0 (key := str x) (z := .bool false) Try.underlying44 Try.underlying9 (BX.xs.mapHeap hX8) trivial (entB_none hni) (by kernel_rfl)
                obtain ⟨W5, m5, hX9⟩ := run_insX BX.xs Try.underlying44 Try.underlying9 hX8 (str x) (.bool true) trivial (entB_none hni)
                rw [entB_succ hps] at hX9
                have HX9 := hid hX9
                have Hfr := hid hfr
                clear hX8 hX9 hc4 hps hfr hni
                have hr0 := Hfr.out.1
                go_wp2_with fail
                refine (P_reserved x _ mm Hg.out (by have := Hfr.out.2; omega)).mono ?_
                rintro e w7 ⟨rfl, rfl⟩
                go_wp2_with fail
                go_roundw
                case rel => exact ⟨j2 + 1, by omega, by go_num, HX9.out⟩
                case measure => simp [intOf]; omega
              · have b0 := ((BX.xs.cons _).cons _).cell hX8 (Hb.out.1.mono HS6.out)
                have b4 := ((BX.xs.cons _).cons _).cell hX8 (Hb.out.2.1.mono HS6.out)
                have HX9 := hid (BX.xs.dropAtom hX8)
                clear hX8
                by_cases k7 : kd = 7
                · have e7 : (kd == 7) = true := by simp [k7]
                  have Hn := hid (Hok.out.name (.inr (.inl k7)))
                  clear k7
                  have hr0 := Hn.out.1
                  dsimp only at hr0
                  go_wp2_with fail
                  refine (P_reserved fS _ mm Hg.out (by have := Hn.out.2; omega)).mono ?_
                  rintro e w7 ⟨rfl, rfl⟩
                  go_wp2_with fail
                  go_roundw
                  case rel => exact ⟨k + 1, S6, by omega, by go_num, HK6.out, HX9.out⟩
                  case measure => simp [intOf]; omega
                have e7 : (kd == 7) = false := by simp [k7]
                by_cases k9 : kd = 9
                · have e9 : (kd == 9) = true := by simp [k9]
                  have Hn := hid (Hok.out.name (.inr (.inr k9)))
                  clear k7 k9
                  have hr0 := Hn.out.1
                  dsimp only at hr0
                  go_wp2_with fail
                  refine (P_reserved fS _ mm Hg.out (by have := Hn.out.2; omega)).mono ?_
                  rintro e w7 ⟨rfl, rfl⟩
                  go_wp2_with fail
                  go_roundw
                  case rel => exact ⟨k + 1, S6, by omega, by go_num, HK6.out, HX9.out⟩
                  case measure => simp [intOf]; omega
                have e9 : (kd == 9) = false := by simp [k9]
                by_cases k4 : kd = 4
                · have e4 : (kd == 4) = true := by simp [k4]
                  have Hn := hid (Hok.out.name (.inl k4))
                  clear k7 k9 k4
                  have hr0 := Hn.out.1
                  dsimp only at hr0
                  go_wp2_with fail
                  refine (P_reserved fS _ mm Hg.out (by have := Hn.out.2; omega)).mono ?_
                  rintro e w7 ⟨rfl, rfl⟩
                  go_wp2_with fail
                  go_roundw
                  case rel => exact ⟨k + 1, S6, by omega, by go_num, HK6.out, HX9.out⟩
                  case measure => simp [intOf]; omega
                have e4 : (kd == 4) = false := by simp [k4]
                clear k7 k9 k4
                go_wp2_with fail
                go_roundw
                case rel => exact ⟨k + 1, S6, by omega, by go_num, HK6.out, HX9.out⟩
                case measure => simp [intOf]; omega
      · have e6 : (kd != 6) = true := by simpa using k6
        have hp0 := Hok.out.names k6
        dsimp only at hp0
        have hpl0 : (ps.length : Int) = 0 := by rw [hp0]; rfl
        clear k6 hp0
        go_wp2_with fail
        clear b0
        try clear hpl0
        go_loopw [104] (fun i wr => KRel fs.length g l.length (fun j p => cnt (fs.take k) p + (l.take j).count p) L S4 i wr) (fun i _ => l.length - (intOf i).toNat)
        case atStart => exact ⟨0, S4, Nat.zero_le _, rfl, Seal.le.refl _, HX5.out⟩
        case round =>
          obtain ⟨j, S6, hj, rfl, hS6, hX6⟩ := hrel
          have HS6 := hid hS6
          have HX6 := hid hX6
          by_cases hjl : j < l.length
          · obtain ⟨b3, o3, c5, hv5, _, _, hc3⟩ := HFa.out.l.at_ (by intro h; dsimp only at h; rw [h] at hjl; simp at hjl)
            simp only [Value.slice.injEq, true_and] at hv5
            obtain ⟨rfl, rfl⟩ := hv5
            have hql : l[j]? = some l[j] := List.getElem?_eq_getElem hjl
            have t1 := (BX.xs.cons _).cell hX6 ((hc3 j _ hql).mono hS6)
            have hqk := Hltk.out l[j] (List.getElem_mem hjl)
            have hq9 := Hnpk.out l[j] (List.getElem_mem hjl)
            try dsimp only at hqk hq9
            have hjI : (j : Int) < (l.length : Int) := by omega
            generalize l[j] = q at *
            have hqn : q < fs.length := by omega
            have hqs : fs[q]? = some fs[q] := List.getElem?_eq_getElem hqn
            obtain ⟨pv2, lv2, hG⟩ := Hc.out q _ hqs
            have t2 := (BX.xs.cons _).cell hX6 ((hG.c0.mono HS4.out).mono hS6)
            rw [List.getD_eq_getElem?_getD, hqs, Option.getD_some] at hq9
            generalize fs[q].kind = kq at *
            have e9q : (kq == 9) = false := by simpa using hq9
            have hqI : (q : Int) < (fs.length : Int) := by omega
            have hqJ : ¬ (k : Int) ≤ (q : Int) := by omega
            obtain ⟨g', c7, hv, fm⟩ := BX.xs.rowCell hX6 (crow_get _ hqn)
            simp only [Value.slice.injEq, Option.some.injEq, Addr.mk.injEq, true_and, and_true] at hv
            obtain ⟨rfl, rfl⟩ := hv
            have hX7 := BX.xs.rowStore hX6 q (nat (cnt (fs.take k) q + (l.take j).count q + 1))
            rw [crow_set _ hqn] at hX7
            have ff := BX.xs.rowFree hX6 q
            have hb1 := cnt_le fs (k + 1) q
            rw [cnt_succ Hfk.out q] at hb1
            dsimp only at hb1
            have hb2 := count_le l j q
            have hb3 := Hw.out.use q hqn
            have hbb : cnt (fs.take k) q + (l.take j).count q ≤ 1 := by omega
            generalize hcc : cnt (fs.take k) q + (l.take j).count q = cq at *
            have HX7 := hid hX7
            have Hql := hid hql
            clear hX6 hX7 hc3 hql hqs hG hb1 hb2 hb3 hS6
            go_wp2_with fail
            go_roundw
            case rel =>
              refine ⟨j + 1, S6, by omega, by go_num, HS6.out, ?_⟩
              show BX (.row _ _ _ _ (crow fs.length fun p => cnt (fs.take k) p + (l.take (j + 1)).count p) :: L) S6 _
              rw [crow_congr (fun p => show cnt (fs.take k) p + (l.take (j + 1)).count p = cnt (fs.take k) p + (l.take j).count p + if q = p then 1 else 0 by rw [count_succ Hql.out p, Nat.add_assoc])]
              exact HX7.out
            case measure => simp [intOf]; omega
          · have hj' : j = l.length := by omega
            have hX7 : BX (.row 3 1 (.slice (some ⟨g, 0, none⟩) fs.length fs.length) fs.length (crow fs.length (cnt (fs.take (k + 1)))) :: L) S6 wr := by
              rw [crow_congr (fun p => (cnt_succ Hfk.out p))]
              rw [hj'] at hX6
              dsimp only at hX6
              rwa [List.take_length] at hX6
            have hmm : ∀ u : World, (Instr.makeMap 44 none).run Try.prog u = .ok (.map (some u.heap.size)) (u.alloc (.map #[] 0)) := fun u => by rw [run_makeMap]
            have hm0 := BX.xs.allocMap hX7 #[] 0
            have b5' := (BX.xs.cons _).cell hX7 (Hb.out.2.2.1.mono hS6)
            have b5'' := ((BX.xs.cons _).cons _).cell hm0 (Hb.out.2.2.1.mono hS6)
            have HM0 := hid hm0
            have HK6 := hid (HS4.out.trans hS6)
            clear hX6 hX7 hm0 hS6
            go_wp2_with fail
            clear hmm b5' b5''
            go_loopw [134] (fun i w' => MRel wr.heap.size ps (.row 3 1 (.slice (some ⟨g, 0, none⟩) fs.length fs.length) fs.length (crow fs.length (cnt (fs.take (k + 1)))) :: L) S6 i w') (fun i _ => ps.length - (intOf i).toNat)
            case atStart => exact ⟨0, Nat.zero_le _, rfl, HM0.out⟩
            case round =>
              obtain ⟨j2, hj2, rfl, hX8⟩ := hrel
              have HX8 := hid hX8
              obtain ⟨mm, hg⟩ := hX8.glob
              have Hg := hid hg
              clear hg
              by_cases hjp : j2 < ps.length
              · obtain ⟨b4, o4, c6, hv6, _, _, hc4⟩ := HFa.out.p.at_ (by intro h; dsimp only at h; rw [h] at hjp; simp at hjp)
                simp only [Value.slice.injEq, true_and] at hv6
                obtain ⟨rfl, rfl⟩ := hv6
                have hps : ps[j2]? = some ps[j2] := List.getElem?_eq_getElem hjp
                have t3 := ((BX.xs.cons _).cons _).cell hX8 ((hc4 j2 _ hps).mono HS6.out)
                have hfr := Hok.out.free ps[j2] (List.getElem_mem hjp)
                have hni := new_of (Hok.out.apart : ps.Nodup) hps
                have hjI : (j2 : Int) < (ps.length : Int) := by omega
                generalize ps[j2] = x at *
                have hL := run_lookup0 (key := str x) (z := .bool false) Try.underlying44 Try.underlying9 (BX.xs.mapHeap hX8) trivial (entB_none hni) (by kernel_rfl)
                obtain ⟨W5, m5, hX9⟩ := run_insX BX.xs Try.underlying44 Try.underlying9 hX8 (str x) (.bool true) trivial (entB_none hni)
                rw [entB_succ hps] at hX9
                have HX9 := hid hX9
                have Hfr := hid hfr
                clear hX8 hX9 hc4 hps hfr hni
                have hr0 := Hfr.out.1
                go_wp2_with fail
                refine (P_reserved x _ mm Hg.out (by have := Hfr.out.2; omega)).mono ?_
                rintro e w7 ⟨rfl, rfl⟩
                go_wp2_with fail
                go_roundw
                case rel => exact ⟨j2 + 1, by omega, by go_num, HX9.out⟩
                case measure => simp [intOf]; omega
              · have b0 := ((BX.xs.cons _).cons _).cell hX8 (Hb.out.1.mono HS6.out)
                have b4 := ((BX.xs.cons _).cons _).cell hX8 (Hb.out.2.1.mono HS6.out)
                have HX9 := hid (BX.xs.dropAtom hX8)
                clear hX8
                by_cases k7 : kd = 7
                · have e7 : (kd == 7) = true := by simp [k7]
                  have Hn := hid (Hok.out.name (.inr (.inl k7)))
                  clear k7
                  have hr0 := Hn.out.1
                  dsimp only at hr0
                  go_wp2_with fail
                  refine (P_reserved fS _ mm Hg.out (by have := Hn.out.2; omega)).mono ?_
                  rintro e w7 ⟨rfl, rfl⟩
                  go_wp2_with fail
                  go_roundw
                  case rel => exact ⟨k + 1, S6, by omega, by go_num, HK6.out, HX9.out⟩
                  case measure => simp [intOf]; omega
                have e7 : (kd == 7) = false := by simp [k7]
                by_cases k9 : kd = 9
                · have e9 : (kd == 9) = true := by simp [k9]
                  have Hn := hid (Hok.out.name (.inr (.inr k9)))
                  clear k7 k9
                  have hr0 := Hn.out.1
                  dsimp only at hr0
                  go_wp2_with fail
                  refine (P_reserved fS _ mm Hg.out (by have := Hn.out.2; omega)).mono ?_
                  rintro e w7 ⟨rfl, rfl⟩
                  go_wp2_with fail
                  go_roundw
                  case rel => exact ⟨k + 1, S6, by omega, by go_num, HK6.out, HX9.out⟩
                  case measure => simp [intOf]; omega
                have e9 : (kd == 9) = false := by simp [k9]
                by_cases k4 : kd = 4
                · have e4 : (kd == 4) = true := by simp [k4]
                  have Hn := hid (Hok.out.name (.inl k4))
                  clear k7 k9 k4
                  have hr0 := Hn.out.1
                  dsimp only at hr0
                  go_wp2_with fail
                  refine (P_reserved fS _ mm Hg.out (by have := Hn.out.2; omega)).mono ?_
                  rintro e w7 ⟨rfl, rfl⟩
                  go_wp2_with fail
                  go_roundw
                  case rel => exact ⟨k + 1, S6, by omega, by go_num, HK6.out, HX9.out⟩
                  case measure => simp [intOf]; omega
                have e4 : (kd == 4) = false := by simp [k4]
                clear k7 k9 k4
                go_wp2_with fail
                go_roundw
                case rel => exact ⟨k + 1, S6, by omega, by go_num, HK6.out, HX9.out⟩
                case measure => simp [intOf]; omega
    · have hk' : k = fs.length := by omega
      rw [hk'] at hX3
      dsimp only at hX3
      rw [List.take_length] at hX3
      have HX4 := hid hX3
      have HS4 := hid hS3
      clear hX3 hS3
      go_wp2_with fail
      go_loopw [169] (fun i wr => KRel fs.length g os.length (fun j p => cnt fs p + (os.take j).count p) L S3 i wr) (fun i _ => os.length - (intOf i).toNat)
      case atStart => exact ⟨0, S3, Nat.zero_le _, rfl, Seal.le.refl _, HX4.out⟩
      case round =>
        obtain ⟨j, S6, hj, rfl, hS6, hX6⟩ := hrel
        by_cases hjl : j < os.length
        · obtain ⟨b3, o3, c5, hv5, _, _, hc3⟩ := HO.out.at_ (by intro h; rw [h] at hjl; simp at hjl)
          simp only [Value.slice.injEq, true_and] at hv5
          obtain ⟨rfl, rfl⟩ := hv5
          have hql : os[j]? = some os[j] := List.getElem?_eq_getElem hjl
          have t1 := (BX.xs.cons _).cell hX6 (((hc3 j _ hql).mono HS4.out).mono hS6)
          have hqn := Hw.out.rt os[j] (List.mem_reverse.2 (List.getElem_mem hjl))
          have hjI : (j : Int) < (os.length : Int) := by omega
          generalize os[j] = q at *
          have hqI : (q : Int) < (fs.length : Int) := by omega
          have hqJ : ¬ (fs.length : Int) ≤ (q : Int) := by omega
          obtain ⟨g', c7, hv, fm⟩ := BX.xs.rowCell hX6 (crow_get _ hqn)
          simp only [Value.slice.injEq, Option.some.injEq, Addr.mk.injEq, true_and, and_true] at hv
          obtain ⟨rfl, rfl⟩ := hv
          have hX7 := BX.xs.rowStore hX6 q (nat (cnt fs q + (os.take j).count q + 1))
          rw [crow_set _ hqn] at hX7
          have ff := BX.xs.rowFree hX6 q
          have hb2 := count_le os j q
          have hb3 := Hw.out.use q hqn
          rw [List.count_reverse] at hb3
          have hbb : cnt fs q + (os.take j).count q ≤ 1 := by omega
          generalize hcc : cnt fs q + (os.take j).count q = cq at *
          have HX7 := hid hX7
          have Hql := hid hql
          have HS6 := hid hS6
          clear hX6 hX7 hc3 hql hb2 hb3 hS6
          go_wp2_with fail
          go_roundw
          case rel =>
            refine ⟨_, _, _, ⟨j + 1, S6, by omega, by go_num, HS6.out, ?_⟩, rfl, rfl, rfl⟩
            show BX (.row _ _ _ _ (crow fs.length fun p => cnt fs p + (os.take (j + 1)).count p) :: L) S6 _
            rw [crow_congr (fun p => show cnt fs p + (os.take (j + 1)).count p = cnt fs p + (os.take j).count p + if q = p then 1 else 0 by rw [count_succ Hql.out p, Nat.add_assoc])]
            exact HX7.out
          case measure => simp [intOf]; omega
        · have hj' : j = os.length := by omega
          rw [hj'] at hX6
          dsimp only at hX6
          rw [List.take_length] at hX6
          have HX6 := hid hX6
          have HK6 := hid ((HK2.out.trans HS4.out).trans hS6)
          clear hX6 hS6
          go_wp2_with fail
          go_loopw [190] (fun i wr => KRel fs.length g fs.length (fun _ p => cnt fs p + os.count p) L S6 i wr) (fun i _ => fs.length - (intOf i).toNat)
          case atStart => exact ⟨0, S6, Nat.zero_le _, rfl, Seal.le.refl _, HX6.out⟩
          case round =>
            obtain ⟨k, S8, hk, rfl, hS8, hX8⟩ := hrel
            have HX8 := hid hX8
            have HS8 := hid hS8
            by_cases hkl : k < fs.length
            · have hb3 := Hw.out.use k hkl
              rw [List.count_reverse] at hb3
              have hb4 : cnt fs k + os.count k = 1 := by simpa using hb3
              obtain ⟨g', c7, hv, fm⟩ := BX.xs.rowCell hX8 (crow_get _ hkl)
              simp only [Value.slice.injEq, Option.some.injEq, Addr.mk.injEq, true_and, and_true] at hv
              obtain ⟨rfl, rfl⟩ := hv
              dsimp only at fm
              rw [hb4] at fm
              have hkI : (k : Int) < (fs.length : Int) := by omega
              clear hX8 hS8 hb3 hb4
              go_wp2_with fail
              go_roundw
              case rel => exact ⟨k + 1, S8, by omega, by go_num, HS8.out, HX8.out⟩
              case measure => simp [intOf]; omega
            · clear hX8 hS8
              go_wp2_with fail
              go_ret
              exact Ret.intro rfl (HK6.out.trans HS8.out) (BX.xs.dropAtom HX8.out)
end Go.Proofs.Ytjjbidajkmodfaa
namespace Go.Proofs.Ytjjbidajkmodfaa.expandKinds
open Go.ChangeShapes Go.WideShapes Go.ChangeAt Go.RowKit
open Go.ChangeMaps (open_string shut_string)
theorem own : ownKnob Try.prog.godebug = none := by kernel_rfl
set_option maxRecDepth 100000 in
theorem lifted (os : Os) (started : os.Started) (H : Type) (enc : TypeId × Value → H) :
    ReturnsInHanded {} Try.checked os 5 .any (Rows.expandKindsSpec.pre6 enc Try.prog Try.f5 Rows.expandKindsRow.domain false) (Rows.expandKindsSpec.post enc Try.prog Try.f5 false true false false) := by
  refine returnsInHanded_of_change_shaped (C := Try.checked) own started (by kernel_rfl) Try.func5
    (ChangeSpec.witness6 (enc := enc) (C := Try.checked) false ⟨#[], #[.string ByteArray.empty], []⟩ 8 (by kernel_rfl) (by kernel_rfl) (by kernel_rfl) (by kernel_rfl)) ?_
  intro W base args ds gs before hval0 hW hcnd _ hsh _
  have hval : ∀ (j : Nat) t v, Try.f5.params[j]? = some t → args[j]? = some v → Value.okWide Try.prog W .any base t v := hval0
  have hW' := hW
  obtain ⟨p, q, hA0, hV, rfl, hfz, hnd⟩ := hW
  have hA : DataW.TrodAll enc Try.prog W 0 (fun _ => true) true Try.f5.params.toList args.toList ds p := hA0
  rw [Try.params5] at hA hval
  obtain ⟨v0, vs0, d0, ds0, p0, q0, hargs, rfl, rfl, h0, r0⟩ := trodAll_cons hA
  obtain ⟨rfl, rfl, rfl⟩ := trodAll_nil r0
  obtain rfl : args = #[v0] := by cases args; simp_all
  obtain ⟨rfl, rfl⟩ := trodVars_none hV
  obtain ⟨a0, rfl, rfl, rfl, w0⟩ := open_string Try.underlying9 (hval 0 9 v0 rfl rfl) h0
  clear hA0 hval0
  simp only [List.append_nil] at hW'
  refine (E_kinds [] (seal0 W) a0 W (bx0 hsh) (by unfold maxLen at w0; omega)).mono fun e W' ⟨he, S', k, hX⟩ => ?_
  subst he
  exact ⟨_, rfl, _, _, _, [], [], [], hW', trodAll_cons_mk (shut_bool Try.underlying4 _) trodAll_mk0, trodAll_cons_mk (shut_string Try.underlying9 w0) trodAll_mk0, rfl, bx_kept k hX _, fun h => by cases h⟩
theorem expandKinds_holds : Rows.ExpandKindsSaid :=
  OpenClaim.holds_of_wide 5 Try.f5 rfl rfl rfl rfl rfl rfl rfl ⟨rfl, rfl, rfl, rfl, rfl⟩ rfl rfl rfl rfl rfl (by kernel_rfl) Try.func5 (by kernel_rfl)
    (of_decide_eq_true (by kernel_rfl)) (by unfold Func.isWrapper; first | (rw [if_pos (by decide +kernel)]; kernel_rfl) | (rw [if_neg (by decide +kernel)]; exact ⟨rfl, rfl⟩))
    (fun os started H enc _ => lifted os started H enc)
end Go.Proofs.Ytjjbidajkmodfaa.expandKinds
