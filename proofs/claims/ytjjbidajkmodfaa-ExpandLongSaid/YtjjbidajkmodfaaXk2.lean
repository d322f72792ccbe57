/- Texts T2 of the proof. What each theorem says stands in its own statement. No condition beyond those that it names. -/
import Derived.Test.YtjjbidajkmodfaaXa1
set_option linter.unusedVariables false
set_option linter.unusedSimpArgs false
namespace Go.Proofs.Ytjjbidajkmodfaa
open Go Go.RowKit
def cnt (fs : List Form) (p : Nat) : Nat := (fs.map fun f => f.l.count p).sum
def Fr (n : Str) : Prop := res n = false ∧ n.length ≤ 140737488355328
structure OkForm (f : Form) : Prop where
  kind : 1 ≤ f.kind ∧ f.kind ≤ 10
  few : f.kind ≤ 4 → f.l.length = 0
  three : f.kind = 5 → f.l.length = 3
  one : f.kind = 6 ∨ f.kind = 7 ∨ f.kind = 9 → f.l.length = 1
  seq : f.kind = 8 → 2 ≤ f.l.length
  call : f.kind = 10 → 1 ≤ f.l.length
  most : f.l.length ≤ 1048576
  names : f.kind ≠ 6 → f.p = []
  apart : f.p.Nodup
  free : ∀ n ∈ f.p, Fr n
  name : f.kind = 4 ∨ f.kind = 7 ∨ f.kind = 9 → Fr f.s
structure WFs (fs : List Form) (inner tops : List Nat) : Prop where
  use : ∀ p, p < fs.length → cnt fs p + inner.count p + tops.count p = 1
  lt : ∀ (i : Nat) (f : Form), fs[i]? = some f → ∀ p ∈ f.l, p < i
  ri : ∀ p ∈ inner, p < fs.length
  rt : ∀ p ∈ tops, p < fs.length
  ok : ∀ f ∈ fs, OkForm f
  nd : ∀ p ∈ inner, (fs.getD p default).kind ≠ 9
  np : ∀ f ∈ fs, ∀ p ∈ f.l, (fs.getD p default).kind ≠ 9
theorem WFs.nil : WFs [] [] [] := by
  constructor
  · intro p h; simp at h
  · intro i f h; simp at h
  · intro p h; cases h
  · intro p h; cases h
  · intro f h; cases h
  · intro p h; cases h
  · intro f h; cases h
theorem cnt_far {fs : List Form} {p : Nat} (h : ∀ f ∈ fs, p ∉ f.l) : cnt fs p = 0 := by
  unfold cnt
  induction fs with
  | nil => rfl
  | cons f fs ih =>
    rw [List.map_cons, List.sum_cons, ih fun g hg => h g (List.mem_cons_of_mem _ hg), List.count_eq_zero.2 (h f List.mem_cons_self)]
theorem WFs.part_lt {fs : List Form} {inner tops : List Nat} (h : WFs fs inner tops) {f : Form} (hf : f ∈ fs) {p : Nat} (hp : p ∈ f.l) : p < fs.length := by
  obtain ⟨i, hi⟩ := List.getElem?_of_mem hf
  have := h.lt i f hi p hp
  have := (List.getElem?_eq_some_iff.1 hi).1
  omega
theorem getD_app {fs : List Form} {f : Form} {p : Nat} (h : p < fs.length) : (fs ++ [f]).getD p default = fs.getD p default := by
  rw [List.getD_eq_getElem?_getD, List.getD_eq_getElem?_getD, List.getElem?_append_left h]
theorem getD_new {fs : List Form} {f : Form} : (fs ++ [f]).getD fs.length default = f := by
  rw [List.getD_eq_getElem?_getD, List.getElem?_append_right (Nat.le_refl _)]; simp
theorem WFs.put {fs : List Form} {pre inner tops : List Nat} {f : Form} (h : WFs fs (pre ++ inner) tops) (hf : OkForm f) (hp : ∀ p, pre.count p = f.l.count p) (inner' tops' : List Nat)
    (hc : ∀ p, inner'.count p + tops'.count p = inner.count p + tops.count p + (if p = fs.length then 1 else 0)) (h1 : ∀ p ∈ inner', p = fs.length ∧ f.kind ≠ 9 ∨ p ∈ inner) (h2 : ∀ p ∈ tops', p = fs.length ∨ p ∈ tops) : WFs (fs ++ [f]) inner' tops' := by
  have hmem : ∀ p ∈ f.l, p ∈ pre ++ inner := fun p hq => List.mem_append.2 (.inl (List.count_pos_iff.1 (by rw [hp p]; exact List.count_pos_iff.2 hq)))
  have hfl : ∀ p ∈ f.l, p < fs.length := fun p hq => h.ri p (hmem p hq)
  refine ⟨fun p hlt => ?_, fun i g hi p hq => ?_, fun p hq => ?_, fun p hq => ?_, fun g hg => ?_, fun p hq => ?_, fun g hg p hq => ?_⟩
  · have e : cnt (fs ++ [f]) p = cnt fs p + f.l.count p := by unfold cnt; simp
    rw [e]
    have hc := hc p
    by_cases hpl : p = fs.length
    · subst hpl
      rw [if_pos rfl] at hc
      have a1 : cnt fs fs.length = 0 := cnt_far fun g hg hq => by have := h.part_lt hg hq; omega
      have a2 : f.l.count fs.length = 0 := List.count_eq_zero.2 fun hq => by have := hfl _ hq; omega
      have a3 : inner.count fs.length = 0 := List.count_eq_zero.2 fun hq => by have := h.ri _ (List.mem_append.2 (.inr hq)); omega
      have a4 : tops.count fs.length = 0 := List.count_eq_zero.2 fun hq => by have := h.rt _ hq; omega
      omega
    · rw [if_neg hpl] at hc
      have hlt' : p < fs.length := by simp at hlt; omega
      have := h.use p hlt'
      rw [List.count_append, hp p] at this
      omega
  · by_cases hil : i < fs.length
    · rw [List.getElem?_append_left hil] at hi; exact h.lt i g hi p hq
    · have hie : i = fs.length := by
        have := (List.getElem?_eq_some_iff.1 hi).1
        simp at this; omega
      subst hie
      rw [List.getElem?_append_right (Nat.le_refl _)] at hi
      simp at hi; subst hi; exact hfl p hq
  · rw [List.length_append, List.length_singleton]
    rcases h1 p hq with ⟨h, _⟩ | hq
    · omega
    · have := h.ri p (List.mem_append.2 (.inr hq)); omega
  · rw [List.length_append, List.length_singleton]
    rcases h2 p hq with h | hq
    · omega
    · have := h.rt p hq; omega
  · rcases List.mem_append.1 hg with hg | hg
    · exact h.ok g hg
    · rw [List.mem_singleton.1 hg]; exact hf
  · rcases h1 p hq with ⟨rfl, h9⟩ | hq
    · rw [getD_new]; exact h9
    · have hm := List.mem_append.2 (.inr hq : p ∈ pre ∨ p ∈ inner)
      rw [getD_app (h.ri p hm)]; exact h.nd p hm
  · rcases List.mem_append.1 hg with hg | hg
    · rw [getD_app (h.part_lt hg hq)]; exact h.np g hg p hq
    · rw [List.mem_singleton.1 hg] at hq
      rw [getD_app (hfl p hq)]; exact h.nd p (hmem p hq)
def Kp {α : Type} (pre : List Nat) (st : St) (o : Option (α × St)) (post : α → List Nat) : Prop :=
  ∀ x, o = some x → x.2.bad = none → st.bad = none ∧ ∀ inner tops, WFs st.fs (pre ++ inner) tops → WFs x.2.fs (post x.1 ++ inner) tops
theorem Kp.bind {α β : Type} {pre : List Nat} {st : St} {o : Option (α × St)} {f : α × St → Option (β × St)} {post : α → List Nat} {post' : β → List Nat} (h : Kp [] st o post) (k : ∀ x, o = some x → Kp (post x.1 ++ pre) x.2 (f x) post') : Kp pre st (o.bind f) post' := by
  intro y hy hb
  obtain ⟨x, hx, hf⟩ := Option.bind_eq_some_iff.1 hy
  obtain ⟨h1, h2⟩ := k x hx y hf hb
  obtain ⟨h3, h4⟩ := h x hx h1
  exact ⟨h3, fun inner tops hw => h2 inner tops (by rw [List.append_assoc]; exact h4 (pre ++ inner) tops hw)⟩
theorem Kp.bind' {α β : Type} {pre : List Nat} {st : St} {o : Option (α × St)} {f : α × St → Option (β × St)} {post : α → List Nat} {post' : β → List Nat} (h : Kp pre st o post) (k : ∀ x, o = some x → Kp (post x.1) x.2 (f x) post') : Kp pre st (o.bind f) post' := by
  intro y hy hb
  obtain ⟨x, hx, hf⟩ := Option.bind_eq_some_iff.1 hy
  obtain ⟨h1, h2⟩ := k x hx y hf hb
  obtain ⟨h3, h4⟩ := h x hx h1
  exact ⟨h3, fun inner tops hw => h2 inner tops (h4 inner tops hw)⟩
theorem put_kp {st : St} {f : Form} {pre : List Nat} (hf : OkForm f) (h9 : f.kind ≠ 9) (hp : ∀ p, pre.count p = f.l.count p) : Kp pre st (put st f) fun r => [r] := by
  intro x hx hb
  unfold put at hx
  split at hx
  case isFalse => cases hx
  simp only [Option.some.injEq] at hx
  subst hx
  exact ⟨hb, fun inner tops hw => hw.put hf hp _ _ (fun p => by rw [List.singleton_append, List.count_cons]; simp only [beq_iff_eq]; split <;> split <;> omega) (fun p hq => by
    rcases List.mem_cons.1 hq with h | h
    · exact .inl ⟨h, h9⟩
    · exact .inr h) fun p hq => .inr hq⟩
theorem wrong_kp {d : List Node} {st : St} {i : Nat} {pre : List Nat} {post : Nat → List Nat} : Kp pre st (some (wrong d st i)) post := by
  intro x hx hb
  cases hx
  unfold wrong wrongAt at hb
  split at hb
  · cases hb
  · rename_i h; exact absurd hb h
theorem bit_kp {st : St} {a b : Int} : Kp [] st (bit st a b) fun r => [r] :=
  put_kp ⟨by simp, by simp, by simp, by simp, by simp, by simp, by simp, by simp, by simp, by simp, by simp⟩ (by simp) (by simp)
theorem asks_kp {st : St} {at_ : Int} {a b c : Nat} {pre : List Nat} (hp : ∀ p, pre.count p = [a, b, c].count p) : Kp pre st (asks st at_ a b c) fun r => [r] :=
  put_kp ⟨by simp, by simp, by simp, by simp, by simp, by simp, by simp, by simp, by simp, by simp, by simp⟩ (by simp) hp
section
variable {d : List Node} {F : Fm} (H : ∀ st i, Kp [] st (F st i) fun r => [r])
include H
theorem forms_kp : ∀ (l : List Nat) (st : St), Kp [] st (forms F st l) id
  | [], st => fun x hx hb => by cases hx; exact ⟨hb, fun _ _ h => h⟩
  | i :: l, st => by
    refine (H st i).bind fun x _ => ?_
    intro y hy hb
    obtain ⟨z, hz, hy⟩ := Option.bind_eq_some_iff.1 hy
    cases hy
    obtain ⟨h1, h2⟩ := forms_kp l x.2 z hz hb
    refine ⟨h1, fun inner tops hw => ?_⟩
    have h3 := h2 (x.1 :: inner) tops (by simpa using hw)
    have hc : ∀ p, (id z.1 ++ x.1 :: inner).count p = (id (x.1 :: z.1) ++ inner).count p := fun p => by simp [List.count_append, List.count_cons]; omega
    have hm : ∀ p, p ∈ id (x.1 :: z.1) ++ inner → p ∈ id z.1 ++ x.1 :: inner := fun p hq => by
      simp only [id, List.cons_append, List.mem_cons, List.mem_append] at hq ⊢
      rcases hq with h | h | h
      · exact .inr (.inl h)
      · exact .inl h
      · exact .inr (.inr h)
    exact ⟨fun p hlt => by rw [← hc p]; exact h3.use p hlt, h3.lt, fun p hq => h3.ri p (hm p hq), h3.rt, h3.ok, fun p hq => h3.nd p (hm p hq), h3.np⟩
omit H in
theorem forms_length : ∀ (l : List Nat) (st : St) (x : List Nat × St), forms F st l = some x → x.1.length = l.length
  | [], st, x, h => by cases h; rfl
  | i :: l, st, x, h => by
    obtain ⟨y, _, h⟩ := Option.bind_eq_some_iff.1 h
    obtain ⟨z, hz, h⟩ := Option.bind_eq_some_iff.1 h
    cases h
    have := forms_length l y.2 z hz
    simp [this]
theorem body_kp {at_ : Int} {l : List Nat} {st : St} (h0 : l ≠ []) (hm : l.length ≤ 1048576) : Kp [] st (body F at_ st l) fun r => [r] := by
  unfold body
  split
  · exact H st _
  · rename_i h1
    have h2 : 2 ≤ l.length := by have := List.length_pos_iff.2 h0; omega
    refine (forms_kp H l st).bind fun x hx => ?_
    have hl := forms_length l st x hx
    exact put_kp ⟨by simp, by simp, by simp, by simp, fun _ => by simp [hl]; omega, by simp, by simp [hl]; omega, by simp, by simp, by simp, by simp⟩ (by simp) (by simp)
theorem fn_kp {at_ : Int} {ns : List Str} {l : List Nat} {st : St} (hn : ns.Nodup) (hf : ∀ n ∈ ns, Fr n) (h0 : l ≠ []) (hm : l.length ≤ 1048576) : Kp [] st (fn F at_ ns st l) fun r => [r] := by
  refine (body_kp H h0 hm).bind fun x _ => ?_
  exact put_kp ⟨by simp, by simp, by simp, by simp, by simp, by simp, by simp, by simp, hn, hf, by simp⟩ (by simp) (by simp)
theorem call_kp {at_ : Int} {f : Nat} {l : List Nat} {st : St} (hm : l.length < 1048576) : Kp [f] st (call F at_ f st l) fun r => [r] := by
  refine (forms_kp H l st).bind fun x hx => ?_
  have hl := forms_length l st x hx
  exact put_kp ⟨by simp, by simp, by simp, by simp, by simp, by simp, by simp [hl]; omega, by simp, by simp, by simp, by simp⟩ (by simp) (fun p => by simp [List.count_append, List.count_cons])
theorem stars_kp {at_ : Int} {bd : List Nat} (h0 : bd ≠ []) (hm : bd.length ≤ 1048576) : ∀ (ps vs : List Nat) (st : St), (∀ p ∈ ps, Fr (nd d p).s) → Kp [] st (stars d F at_ bd st ps vs) fun r => [r]
  | p :: ps, v :: vs, st, hr => by
    rw [stars]
    refine (stars_kp h0 hm ps vs st fun q hq => hr q (List.mem_cons_of_mem _ hq)).bind fun b _ => ?_
    refine Kp.bind' (put_kp (pre := [b.1]) ⟨by simp, by simp, by simp, by simp, by simp, by simp, by simp, by simp, by simp, fun n hn => by rw [List.mem_singleton.1 hn]; exact hr p List.mem_cons_self, by simp⟩ (by simp) (by simp)) fun f _ => ?_
    exact call_kp H (by simp)
  | [], vs, st, _ => by
    rw [stars]
    · exact body_kp H h0 hm
    · intro _ _ _ _ h _; cases h
  | _ :: _, [], st, _ => by
    rw [stars]
    · exact body_kp H h0 hm
    · intro _ _ _ _ _ h; cases h
theorem and_kp {at_ : Int} : ∀ (l : List Nat) (st : St), Kp [] st (andS F at_ st l) fun r => [r]
  | [], st => bit_kp
  | [i], st => H st i
  | i :: j :: l, st => by
    rw [andS]
    · refine (H st i).bind fun a _ => (and_kp (j :: l) a.2).bind fun b _ => bit_kp.bind fun c _ => asks_kp fun p => by simp [List.count_cons]; omega
    · intro h; cases h
omit H in
theorem hid_kp {st : St} {at_ : Int} : Kp [] st (Go.Proofs.Ytjjbidajkmodfaa.put st { kind := 4, at_ := at_, s := [32] }) fun r => [r] :=
  put_kp ⟨by simp, by simp, by simp, by simp, by simp, by simp, by simp, by simp, by simp, by simp, fun _ => ⟨by rfl, by simp⟩⟩ (by simp) (by simp)
theorem or_kp {at_ : Int} : ∀ (l : List Nat) (st : St), Kp [] st (orS F at_ st l) fun r => [r]
  | [], st => bit_kp
  | [i], st => H st i
  | i :: j :: l, st => by
    rw [orS]
    · refine hid_kp.bind fun p _ => hid_kp.bind fun q _ => (or_kp (j :: l) q.2).bind fun b _ => ?_
      refine Kp.bind' (asks_kp (pre := [b.1] ++ ([q.1] ++ ([p.1] ++ []))) fun p => by simp [List.count_cons]; omega) fun c _ => ?_
      refine Kp.bind' (put_kp (pre := [c.1]) ⟨by simp, by simp, by simp, by simp, by simp, by simp, by simp, by simp, by simp, fun n hn => by rw [List.mem_singleton.1 hn]; exact ⟨by rfl, by simp⟩, by simp⟩ (by simp) (by simp)) fun f _ => ?_
      exact call_kp H (by simp)
    · intro h; cases h
theorem cond_kp {at_ : Int} (hl : ∀ i, (nd d i).l.length < 1048576) : ∀ (l : List Nat) (st : St), Kp [] st (condS d F at_ st l) fun r => [r]
  | [], st => bit_kp
  | x :: l, st => by
    unfold condS
    split
    · exact wrong_kp
    rename_i h1
    have hd : (nd d x).l.drop 1 ≠ [] := fun h => h1 (.inr (by have := congrArg List.length h; simp at this; omega))
    have hm : ((nd d x).l.drop 1).length ≤ 1048576 := by have := hl x; simp; omega
    split
    · split
      · exact wrong_kp
      · exact body_kp H hd hm
    · exact (H st _).bind fun a _ => (body_kp H hd hm).bind fun b _ => (cond_kp hl l b.2).bind fun c _ => asks_kp fun p => by simp [List.count_cons]; omega
end
theorem nameOf_free {d : List Node} (hs : ∀ i, (nd d i).s.length ≤ 140737488355328) {i : Nat} (h : nameOf d i ≠ []) : Fr (nameOf d i) ∧ nameOf d i = (nd d i).s := by
  unfold nameOf at h ⊢
  split
  · rename_i h1; exact ⟨⟨h1.2, hs i⟩, rfl⟩
  · rename_i h1; rw [if_neg h1] at h; exact absurd rfl h
theorem namesGo_ok {d : List Node} (hs : ∀ i, (nd d i).s.length ≤ 140737488355328) : ∀ (l : List Nat) (o ns : List Str), o.Nodup → (∀ n ∈ o, Fr n) → namesGo d o l = some ns → ns.Nodup ∧ ∀ n ∈ ns, Fr n
  | [], o, ns, h1, h2, h => by cases h; exact ⟨h1, h2⟩
  | i :: l, o, ns, h1, h2, h => by
    unfold namesGo at h
    split at h
    · cases h
    rename_i hc
    have h3 : nameOf d i ≠ [] := fun h => hc (.inl h)
    have h4 : nameOf d i ∉ o := fun h => hc (.inr (.inr (by simpa using h)))
    refine namesGo_ok hs l _ ns ?_ ?_ h
    · rw [List.nodup_append]
      exact ⟨h1, by simp, fun a ha b hb => by rw [List.mem_singleton.1 hb]; rintro rfl; exact h4 ha⟩
    · intro n hn
      rcases List.mem_append.1 hn with hn | hn
      · exact h2 n hn
      · rw [List.mem_singleton.1 hn]; exact (nameOf_free hs h3).1
theorem names_ok {d : List Node} (hs : ∀ i, (nd d i).s.length ≤ 140737488355328) {l : List Nat} {ns : List Str} (h : names d l = some ns) : ns.Nodup ∧ ∀ n ∈ ns, Fr n := namesGo_ok hs l [] ns List.nodup_nil (fun n hn => by cases hn) h
theorem pairsGo_ok {d : List Node} (hs : ∀ i, (nd d i).s.length ≤ 140737488355328) : ∀ (l ps vs : List Nat), pairsGo d l = some (ps, vs) → vs.length = l.length ∧ ∀ p ∈ ps, Fr (nd d p).s
  | [], ps, vs, h => by cases h; exact ⟨rfl, fun p hp => by cases hp⟩
  | p :: l, ps, vs, h => by
    unfold pairsGo at h
    split at h
    case isFalse => cases h
    rename_i h1
    obtain ⟨⟨ps', vs'⟩, h2, h3⟩ := Option.bind_eq_some_iff.1 h
    cases h3
    obtain ⟨h4, h5⟩ := pairsGo_ok hs l ps' vs' h2
    refine ⟨by simp [h4], fun q hq => ?_⟩
    rcases List.mem_cons.1 hq with rfl | hq
    · have := nameOf_free hs h1.2.2
      rw [← this.2]; exact this.1
    · exact h5 q hq
theorem pairs_ok {d : List Node} (hs : ∀ i, (nd d i).s.length ≤ 140737488355328) {i : Nat} {ps vs : List Nat} (h : pairs d i = some (ps, vs)) : vs.length = (nd d i).l.length ∧ ∀ p ∈ ps, Fr (nd d p).s := by
  unfold pairs at h
  split at h
  · exact pairsGo_ok hs _ _ _ h
  · cases h
section
variable {d : List Node} {F : Fm} (H : ∀ st i, Kp [] st (F st i) fun r => [r]) (hl : ∀ i, (nd d i).l.length < 1048576) (hs : ∀ i, (nd d i).s.length ≤ 140737488355328)
include H hl hs
theorem special_kp {s : Str} {i : Nat} {st : St} : Kp [] st (special d F s i st) fun r => [r] := by
  have h2 : ¬ (nd d i).l.length < 3 → (nd d i).l.drop 2 ≠ [] := fun h h' => by have := congrArg List.length h'; simp at this; omega
  have h1 : ¬ (nd d i).l.length < 2 → (nd d i).l.drop 1 ≠ [] := fun h h' => by have := congrArg List.length h'; simp at this; omega
  have hm : ∀ k, ((nd d i).l.drop k).length ≤ 1048576 := fun k => by have := hl i; simp; omega
  unfold special
  by_cases hs_ : s = sQuote
  · rw [if_pos hs_]
    unfold quoteS; split
    · exact wrong_kp
    · exact put_kp ⟨by simp, by simp, by simp, by simp, by simp, by simp, by simp, by simp, by simp, by simp, by simp⟩ (by simp) (by simp)
  rw [if_neg hs_]
  clear hs_
  by_cases hs_ : s = sIf
  · rw [if_pos hs_]
    unfold ifS; split
    · exact wrong_kp
    refine (H st _).bind fun a _ => ?_
    unfold ifWays
    refine (H a.2 _).bind fun b _ => ?_
    refine Kp.bind (post := fun r => [r]) ?_ fun c _ => asks_kp fun p => by simp [List.count_cons]; omega
    split
    · exact H _ _
    · exact bit_kp
  rw [if_neg hs_]
  clear hs_
  by_cases hs_ : s = sWhen
  · rw [if_pos hs_]
    unfold whenS; split
    · exact wrong_kp
    rename_i h3
    refine (H st _).bind fun a _ => ?_
    unfold whenWays
    exact (body_kp H (h2 h3) (hm 2)).bind fun b _ => bit_kp.bind fun c _ => asks_kp fun p => by simp [List.count_cons]; omega
  rw [if_neg hs_]
  clear hs_
  by_cases hs_ : s = sUnless
  · rw [if_pos hs_]
    unfold unlessS; split
    · exact wrong_kp
    rename_i h3
    refine (H st _).bind fun a _ => ?_
    unfold unlessWays
    exact bit_kp.bind fun b _ => (body_kp H (h2 h3) (hm 2)).bind fun c _ => asks_kp fun p => by simp [List.count_cons]; omega
  rw [if_neg hs_]
  clear hs_
  by_cases hs_ : s = sSet
  · rw [if_pos hs_]
    unfold setS; split
    · exact wrong_kp
    rename_i h3
    have hn := nameOf_free hs (fun h => h3 (.inr h))
    exact (H st _).bind fun a _ => put_kp ⟨by simp, by simp, by simp, by simp, by simp, by simp, by simp, by simp, by simp, by simp, fun _ => hn.1⟩ (by simp) (by simp)
  rw [if_neg hs_]
  clear hs_
  by_cases hs_ : s = sBegin
  · rw [if_pos hs_]
    unfold beginS; split
    · exact wrong_kp
    rename_i h3
    exact body_kp H (h1 h3) (hm 1)
  rw [if_neg hs_]
  clear hs_
  by_cases hs_ : s = sCond
  · rw [if_pos hs_]
    unfold condsS; split
    · exact wrong_kp
    exact cond_kp H hl _ _
  rw [if_neg hs_]
  clear hs_
  by_cases hs_ : s = sLambda
  · rw [if_pos hs_]
    unfold lambdaS; split
    · exact wrong_kp
    rename_i h3
    split
    · exact wrong_kp
    rename_i ns hns
    exact fn_kp H (names_ok hs hns).1 (names_ok hs hns).2 (h2 fun h => h3 (.inl h)) (hm 2)
  rw [if_neg hs_]
  clear hs_
  by_cases hs_ : s = sLet
  · rw [if_pos hs_]
    unfold letS; split
    · exact wrong_kp
    rename_i h3
    split
    · exact wrong_kp
    rename_i ps vs hpv
    split
    · exact wrong_kp
    rename_i ns hns
    exact (fn_kp H (names_ok hs hns).1 (names_ok hs hns).2 (h2 h3) (hm 2)).bind fun f _ => call_kp H (by rw [(pairs_ok hs hpv).1]; exact hl _)
  rw [if_neg hs_]
  clear hs_
  by_cases hs_ : s = sLets
  · rw [if_pos hs_]
    unfold letsS; split
    · exact wrong_kp
    rename_i h3
    split
    · exact wrong_kp
    rename_i ps vs hpv
    exact stars_kp H (h2 h3) (hm 2) ps vs st (pairs_ok hs hpv).2
  rw [if_neg hs_]
  clear hs_
  by_cases hs_ : s = sAnd
  · rw [if_pos hs_]
    exact and_kp H _ _
  rw [if_neg hs_]
  clear hs_
  by_cases hs_ : s = sOr
  · rw [if_pos hs_]
    exact or_kp H _ _
  rw [if_neg hs_]
  clear hs_
  exact wrong_kp
theorem step_kp {i : Nat} {st : St} : Kp [] st (step d F st i) fun r => [r] := by
  unfold step
  split
  · rename_i h
    intro x hx hb
    cases hx; exact absurd hb h
  repeat' split
  · exact put_kp ⟨by simp, by simp, by simp, by simp, by simp, by simp, by simp, by simp, by simp, by simp, by simp⟩ (by simp) (by simp)
  · exact bit_kp
  · exact wrong_kp
  · rename_i h
    exact put_kp ⟨by simp, by simp, by simp, by simp, by simp, by simp, by simp, by simp, by simp, by simp, fun _ => ⟨by simpa using h, hs i⟩⟩ (by simp) (by simp)
  · exact wrong_kp
  · exact special_kp H hl hs
  · exact (H st _).bind fun a _ => call_kp H (by have := hl i; simp; omega)
end
def Kt (st : St) (o : Out) : Prop := ∀ x, o = some x → x.2.bad = none → st.bad = none ∧ ∀ tops, WFs st.fs [] tops → WFs x.2.fs [] (x.1 :: tops)
theorem Kp.top {st : St} {o : Out} (h : Kp [] st o fun r => [r]) : Kt st o := by
  intro x hx hb
  obtain ⟨h1, h2⟩ := h x hx hb
  refine ⟨h1, fun tops hw => ?_⟩
  have h3 := h2 [] tops hw
  refine ⟨fun p hp => ?_, h3.lt, fun p hp => (by cases hp), fun p hp => ?_, h3.ok, fun p hp => (by cases hp), h3.np⟩
  · have := h3.use p hp
    simp only [List.append_nil, List.count_cons, List.count_nil] at this ⊢
    omega
  · rcases List.mem_cons.1 hp with rfl | hp
    · exact h3.ri _ (by simp)
    · exact h3.rt p hp
theorem Kt.bind {st : St} {o : Out} {f : Nat × St → Out} (h : Kp [] st o fun r => [r])
    (k : ∀ x, o = some x → ∀ y, f x = some y → y.2.bad = none → x.2.bad = none ∧ ∀ tops, WFs x.2.fs [x.1] tops → WFs y.2.fs [] (y.1 :: tops)) : Kt st (o.bind f) := by
  intro y hy hb
  obtain ⟨x, hx, hf⟩ := Option.bind_eq_some_iff.1 hy
  obtain ⟨h1, h2⟩ := k x hx y hf hb
  obtain ⟨h3, h4⟩ := h x hx h1
  exact ⟨h3, fun tops hw => h2 tops (h4 [] tops hw)⟩
theorem def_kp {st : St} {f : Form} {b : Nat} (hf : OkForm f) (hb : f.l = [b]) : ∀ y, put st f = some y → y.2.bad = none → st.bad = none ∧ ∀ tops, WFs st.fs [b] tops → WFs y.2.fs [] (y.1 :: tops) := by
  intro x hx hb'
  unfold put at hx
  split at hx
  case isFalse => cases hx
  simp only [Option.some.injEq] at hx
  subst hx
  exact ⟨hb', fun tops hw => WFs.put (pre := [b]) (inner := []) hw hf (fun p => by rw [hb]) [] (st.fs.length :: tops) (fun p => by rw [List.count_cons]; simp only [beq_iff_eq]; split <;> split <;> omega) (fun p hq => by cases hq) fun p hq => List.mem_cons.1 hq⟩
section
variable {d : List Node} {F : Fm} (H : ∀ st i, Kp [] st (F st i) fun r => [r]) (hl : ∀ i, (nd d i).l.length < 1048576) (hs : ∀ i, (nd d i).s.length ≤ 140737488355328)
include H hl hs
theorem define_kp {i : Nat} {st : St} : Kt st (defineS d F i st) := by
  unfold defineS
  split
  · exact Kp.top wrong_kp
  rename_i h3
  have h2 : (nd d i).l.drop 2 ≠ [] := fun h' => by have := congrArg List.length h'; simp at this; omega
  split
  · split
    · exact Kp.top wrong_kp
    rename_i h4
    have hn := nameOf_free hs (fun h => h4 (.inl h))
    exact Kt.bind (H st _) fun x _ => def_kp ⟨by simp, by simp, by simp, by simp, by simp, by simp, by simp, by simp, by simp, by simp, fun _ => hn.1⟩ rfl
  split
  · exact Kp.top wrong_kp
  split
  · exact Kp.top wrong_kp
  rename_i ns hns
  split
  · exact Kp.top wrong_kp
  rename_i h4
  have hn := nameOf_free hs h4
  exact Kt.bind (fn_kp H (names_ok hs hns).1 (names_ok hs hns).2 h2 (by have := hl i; simp; omega)) fun x _ => def_kp ⟨by simp, by simp, by simp, by simp, by simp, by simp, by simp, by simp, by simp, by simp, fun _ => hn.1⟩ rfl
theorem top_kp {i : Nat} {st : St} : Kt st (topS d F st i) := by
  unfold topS
  split
  · exact define_kp H hl hs
  · exact (step_kp H hl hs).top
end
theorem form_kp {d : List Node} (hl : ∀ i, (nd d i).l.length < 1048576) (hs : ∀ i, (nd d i).s.length ≤ 140737488355328) (k : Nat) : ∀ st i, Kp [] st (form d k st i) fun r => [r] := by
  induction k with
  | zero => intro st i x hx; cases hx
  | succ k ih => intro st i; exact step_kp ih hl hs
theorem tops_kp {T : Fm} (H : ∀ st i, Kt st (T st i)) : ∀ (ts : List Nat) (st : St) (y : List Nat × St), tops T st ts = some y → y.2.bad = none → ∀ os, WFs st.fs [] os → WFs y.2.fs [] (y.1.reverse ++ os) ∧ y.1.length = ts.length
  | [], st, y, h, hb, os, hw => by cases h; exact ⟨hw, rfl⟩
  | i :: ts, st, y, h, hb, os, hw => by
    rw [tops] at h
    obtain ⟨x, hx, h⟩ := Option.bind_eq_some_iff.1 h
    split at h
    · rename_i hxb
      obtain ⟨z, hz, h⟩ := Option.bind_eq_some_iff.1 h
      cases h
      obtain ⟨_, h2⟩ := H st i x hx hxb
      obtain ⟨h3, h4⟩ := tops_kp H ts x.2 z hz hb _ (h2 os hw)
      exact ⟨by simpa using h3, by simp [h4]⟩
    · rename_i hxb
      cases h; exact absurd hb hxb
theorem expand_wf {d : List Node} (hl : ∀ i, (nd d i).l.length < 1048576) (hs : ∀ i, (nd d i).s.length ≤ 140737488355328) {k : Nat} {ts : List Nat} {y : List Nat × St} (h : expand d k ts = some y) (hb : y.2.bad = none) : WFs y.2.fs [] y.1.reverse ∧ y.1.length = ts.length := by
  have := tops_kp (fun st i => top_kp (form_kp hl hs k) hl hs) ts ⟨[], none⟩ y h hb [] WFs.nil
  simpa using this
end Go.Proofs.Ytjjbidajkmodfaa
