/- Texts T3 of the proof. What each theorem says stands in its own statement. No condition beyond those that it names. -/
import Derived.Test.YtjjbidajkmodfaaXa1
set_option linter.unusedVariables false
set_option linter.unusedSimpArgs false
namespace Go.Proofs.Ytjjbidajkmodfaa
open Go Go.RowKit
structure OkTok (n : Nat) (t : Tok) : Prop where
  kind : 1 ≤ t.kind ∧ t.kind ≤ 6
  at_ : t.at_ < n
  s : t.s.length ≤ 32
  i64 : -1099511627776 ≤ t.n ∧ t.n ≤ 1099511627776
  bool : t.kind = 5 → t.n = 0 ∨ t.n = 1
theorem markI_range (c : UInt8) : markI c = 0 ∨ markI c = 1 ∨ markI c = 2 ∨ markI c = 3 := by
  unfold markI; repeat' split
  all_goals simp
theorem word_len {l : Str} : (wordR l).length ≤ l.length := (List.takeWhile_sublist _).length_le
theorem lexF_ok {n : Nat} : ∀ (k i : Nat) (l : Str), i + l.length ≤ n → (∀ ts, lexF k i l = .ok ts → ts.length ≤ l.length ∧ ∀ t ∈ ts, OkTok n t) ∧ (∀ a e, lexF k i l = .bad a e → l.length ≤ k → a < n ∧ (e = 50 ∨ e = 51 ∨ e = 3))
  | _, i, [], _ => ⟨fun ts h => by simp only [lexF, LR.ok.injEq] at h; subst h; exact ⟨Nat.le_refl _, fun t ht => by cases ht⟩, fun a e h => by simp [lexF] at h⟩
  | 0, i, c :: r, _ => ⟨fun ts h => by simp [lexF] at h, fun a e _ h => by simp at h⟩
  | k + 1, i, c :: r, hn => by
    have hl : (c :: r).length = r.length + 1 := rfl
    rw [hl] at hn
    have pre : ∀ (j : Nat) (m : Str) (t : Tok), OkTok n t → m.length ≤ r.length → j + m.length ≤ n → (∀ ts, (lexF k j m).pre [t] = .ok ts → ts.length ≤ r.length + 1 ∧ ∀ t ∈ ts, OkTok n t) ∧ (∀ a e, (lexF k j m).pre [t] = .bad a e → r.length + 1 ≤ k + 1 → a < n ∧ (e = 50 ∨ e = 51 ∨ e = 3)) := by
      intro j m t ht hm hj
      obtain ⟨h1, h2⟩ := lexF_ok k j m hj
      cases e : lexF k j m with
      | ok l =>
        obtain ⟨h3, h4⟩ := h1 l e
        refine ⟨fun ts h => ?_, fun a e' h => by simp [LR.pre] at h⟩
        simp only [LR.pre, LR.ok.injEq] at h
        subst h
        refine ⟨by simp; omega, fun u hu => ?_⟩
        rcases List.mem_append.1 hu with hu | hu
        · rw [List.mem_singleton.1 hu]; exact ht
        · exact h4 u hu
      | bad a e' =>
        refine ⟨fun ts h => by simp [LR.pre] at h, fun a' e'' h hk => ?_⟩
        simp only [LR.pre, LR.bad.injEq] at h
        obtain ⟨rfl, rfl⟩ := h
        exact h2 _ _ e (by omega)
    have same : ∀ (j : Nat) (m : Str), m.length ≤ r.length → j + m.length ≤ n → (∀ ts, lexF k j m = .ok ts → ts.length ≤ r.length + 1 ∧ ∀ t ∈ ts, OkTok n t) ∧ (∀ a e, lexF k j m = .bad a e → r.length + 1 ≤ k + 1 → a < n ∧ (e = 50 ∨ e = 51 ∨ e = 3)) := by
      intro j m hm hj
      obtain ⟨h1, h2⟩ := lexF_ok k j m hj
      exact ⟨fun ts h => ⟨by have := (h1 ts h).1; omega, (h1 ts h).2⟩, fun a e h hk => h2 a e h (by omega)⟩
    have bad : ∀ (e' : Int), (e' = 50 ∨ e' = 51 ∨ e' = 3) → (∀ ts, LR.bad i e' = .ok ts → ts.length ≤ r.length + 1 ∧ ∀ t ∈ ts, OkTok n t) ∧ (∀ a e, LR.bad i e' = .bad a e → r.length + 1 ≤ k + 1 → a < n ∧ (e = 50 ∨ e = 51 ∨ e = 3)) := by
      intro e' he
      refine ⟨fun ts h => (by cases h), fun a e h _ => ?_⟩
      simp only [LR.bad.injEq] at h
      obtain ⟨rfl, rfl⟩ := h
      exact ⟨by omega, he⟩
    rw [hl, lexF]
    split
    · exact same _ _ (Nat.le_refl _) (by omega)
    split
    · have h1 : (r.takeWhile isNl).length + (r.dropWhile isNl).length = r.length := by rw [← List.length_append, List.takeWhile_append_dropWhile]
      exact same _ _ (by omega) (by omega)
    split
    · exact pre _ _ _ ⟨by have := markI_range c; dsimp only; omega, by simp; omega, by simp, by simp, fun _ => by simp⟩ (Nat.le_refl _) (by omega)
    split
    · split
      · exact pre _ _ _ ⟨by simp, by simp; omega, by simp, by dsimp only; split <;> simp, fun _ => by dsimp only; split <;> simp⟩ (by simp) (by
          rename_i hw
          have : r ≠ [] := by rintro rfl; simp [wordR] at hw
          have := List.length_pos_iff.2 this
          simp; omega)
      · exact bad 50 (by simp)
    split
    · exact bad 50 (by simp)
    rename_i hlet
    have hw0 : (wordR (c :: r)).length = (wordR r).length + 1 := by
      have : letterB c = true := by simpa using hlet
      unfold wordR; rw [List.takeWhile_cons_of_pos this]; rfl
    have hwr := word_len (l := r)
    split
    · refine bad _ ?_
      rename_i he
      revert he
      unfold oneE
      repeat' split
      all_goals simp
    · rename_i he
      replace he : oneE (wordR (c :: r)) = 0 := by simpa using he
      refine pre _ _ _ ?_ (by rw [List.length_drop, hl]; omega) (by rw [List.length_drop, hl]; omega)
      unfold oneE at he
      unfold oneT
      split
      · rename_i hnum
        rw [if_pos hnum] at he
        have : (wordR (c :: r)).length ≤ 32 := by
          by_cases h : 32 < (wordR (c :: r)).length
          · rw [if_pos h] at he; cases he
          · omega
        exact ⟨by simp, by simp; omega, this, by simp, by simp⟩
      · rename_i hnum
        rw [if_neg hnum] at he
        split at he
        · cases he
        split at he
        · cases he
        rename_i hv
        exact ⟨by simp, by simp; omega, by simp, by simp; omega, by simp⟩
def mayS : List Int → Nat → List RNode → Option (List Int)
  | seen, _, [] => some seen
  | seen, i, x :: rd => if Right x then (linksGo i seen x.l).bind fun s => mayS s (i + 1) rd else none
theorem mayS_go : ∀ (rd : List RNode) (seen : List Int) (i : Nat), mayGo seen i rd = (mayS seen i rd).isSome
  | [], _, _ => rfl
  | x :: rd, seen, i => by
    unfold mayGo mayS
    split
    · cases h : linksGo i seen x.l with
      | none => rfl
      | some s => exact mayS_go rd s (i + 1)
    · rfl
theorem mayS_snoc {x : RNode} : ∀ (rd : List RNode) (seen s : List Int) (i : Nat), mayS seen i rd = some s → mayS seen i (rd ++ [x]) = if Right x then linksGo (i + rd.length) s x.l else none
  | [], seen, s, i, h => by
    cases h
    show (if Right x then _ else _) = _
    split
    · show (linksGo i seen x.l).bind _ = linksGo i seen x.l
      cases linksGo i seen x.l <;> rfl
    · rfl
  | y :: rd, seen, s, i, h => by
    unfold mayS at h
    split at h
    case isFalse => cases h
    rename_i hy
    obtain ⟨s1, h1, h2⟩ := Option.bind_eq_some_iff.1 h
    rw [List.cons_append, mayS, if_pos hy, h1]
    show mayS s1 (i + 1) (rd ++ [x]) = _
    rw [mayS_snoc rd s1 s (i + 1) h2, List.length_cons, show i + 1 + rd.length = i + (rd.length + 1) by omega]
theorem links_ok {i : Nat} : ∀ (l : List Nat) (s : List Int), l.Nodup → (∀ p ∈ l, p < i ∧ (p : Int) ∉ s) → linksGo i s (l.map Int.ofNat) = some (s ++ l.map Int.ofNat)
  | [], s, _, _ => by simp [linksGo]
  | p :: l, s, hd, h => by
    obtain ⟨h1, h2⟩ := h p List.mem_cons_self
    obtain ⟨h3, h4⟩ := List.nodup_cons.1 hd
    rw [List.map_cons, linksGo, if_neg (by rintro (h | h | h); · simp at h; omega
                                           · simp at h; omega
                                           · exact h2 h)]
    rw [links_ok l _ h4 fun q hq => ⟨(h q (List.mem_cons_of_mem _ hq)).1, fun hm => by
      rcases List.mem_append.1 hm with hm | hm
      · exact (h q (List.mem_cons_of_mem _ hq)).2 hm
      · have h9 : (q : Int) = (p : Int) := List.mem_singleton.1 hm
        have : q = p := by omega
        subst this; exact h3 hq⟩]
    simp
def RI (row : List Node) (pd : List Nat) : Prop := ∃ seen, mayS [] 0 (row.map Node.raw) = some seen ∧ pd.Nodup ∧ (∀ p ∈ pd, p < row.length ∧ (p : Int) ∉ seen) ∧ ∀ p ∈ seen, p < (row.length : Int)
theorem RI.perm {row : List Node} {a b : List Nat} (h : RI row a) (p : a.Perm b) : RI row b := by
  obtain ⟨s, h1, h2, h3, h4⟩ := h
  exact ⟨s, h1, p.nodup_iff.1 h2, fun q hq => h3 q (p.mem_iff.2 hq), h4⟩
theorem RI.put {row : List Node} {x : Node} {pd : List Nat} (h : RI row (x.l ++ pd)) (hx : Right x.raw) : RI (row ++ [x]) (row.length :: pd) := by
  obtain ⟨s, h1, h2, h3, h4⟩ := h
  obtain ⟨h5, h6, h7⟩ := List.nodup_append.1 h2
  have hl := links_ok (i := row.length) x.l s h5 fun p hp => h3 p (List.mem_append.2 (.inl hp))
  refine ⟨s ++ x.l.map Int.ofNat, ?_, ?_, fun p hp => ?_, fun p hp => ?_⟩
  · rw [List.map_append, List.map_singleton, mayS_snoc _ _ _ _ h1, if_pos hx, List.length_map, Nat.zero_add]; exact hl
  · refine List.nodup_cons.2 ⟨fun hm => ?_, h6⟩
    have := (h3 _ (List.mem_append.2 (.inr hm))).1; omega
  · rw [List.length_append, List.length_singleton]
    rcases List.mem_cons.1 hp with rfl | hp
    · refine ⟨by omega, fun hm => ?_⟩
      rcases List.mem_append.1 hm with hm | hm
      · have := h4 _ hm; omega
      · obtain ⟨q, hq, he⟩ := List.mem_map.1 hm
        have := (h3 q (List.mem_append.2 (.inl hq))).1
        have h9 : (q : Int) = (row.length : Int) := he
        omega
    · obtain ⟨a, b⟩ := h3 p (List.mem_append.2 (.inr hp))
      refine ⟨by omega, fun hm => ?_⟩
      rcases List.mem_append.1 hm with hm | hm
      · exact b hm
      · obtain ⟨q, hq, he⟩ := List.mem_map.1 hm
        have h9 : (q : Int) = (p : Int) := he
        have : q = p := by omega
        subst this; exact h7 q hq q hp rfl
  · rw [List.length_append, List.length_singleton]
    rcases List.mem_append.1 hp with hm | hm
    · have := h4 _ hm; omega
    · obtain ⟨q, hq, rfl⟩ := List.mem_map.1 hm
      have := (h3 q (List.mem_append.2 (.inl hq))).1
      simp; omega
structure OkNode (n : Nat) (m : Nat) (x : Node) : Prop where
  at_ : 0 ≤ x.at_ ∧ x.at_ < n
  s : x.s.length ≤ 32
  i64 : -1099511627776 ≤ x.n ∧ x.n ≤ 1099511627776
  l : x.l.length ≤ m
  right : Right x.raw
theorem OkNode.mono {n m m' : Nat} {x : Node} (h : OkNode n m x) (k : m ≤ m') : OkNode n m' x := ⟨h.at_, h.s, h.i64, Nat.le_trans h.l k, h.right⟩
structure RSok (n m : Nat) (r : RS) : Prop where
  inv : RI r.row (r.tops ++ r.op.flatMap Part.l)
  few : r.row.length + r.op.length ≤ m
  nodes : ∀ x ∈ r.row, OkNode n m x
  parts : ∀ p ∈ r.op, 0 ≤ p.at_ ∧ p.at_ < (n : Int) ∧ p.l.length ≤ r.row.length
  tops : r.tops.length ≤ r.row.length
theorem rput_ok {n : Nat} : ∀ (ps : List Part) (row : List Node) (tops : List Nat) (x : Node) (m : Nat), RI row (x.l ++ (tops ++ ps.flatMap Part.l)) → row.length + ps.length + 1 ≤ m → (∀ y ∈ row, OkNode n m y) → OkNode n m x → (∀ p ∈ ps, 0 ≤ p.at_ ∧ p.at_ < (n : Int) ∧ p.l.length ≤ row.length) → tops.length ≤ row.length →
    RSok n m (rput ps row tops x)
  | [], row, tops, x, m, h, hm, hn, hx, hp, ht => by
    refine ⟨?_, by simp [rput] at hm ⊢; omega, fun y hy => ?_, fun p hp => by simp [rput] at hp, by simp [rput]; omega⟩
    · have := h.put hx.right
      refine this.perm ?_
      simp only [rput, List.flatMap_nil, List.append_nil]
      exact (List.perm_append_singleton _ _).symm
    · rcases List.mem_append.1 hy with hy | hy
      · exact hn y hy
      · rw [List.mem_singleton.1 hy]; exact hx
  | p :: ps, row, tops, x, m, h, hm, hn, hx, hp, ht => by
    have h1 := h.put hx.right
    rw [List.length_cons] at hm
    have hp0 := hp p List.mem_cons_self
    have hn' : ∀ y ∈ row ++ [x], OkNode n m y := fun y hy => by
      rcases List.mem_append.1 hy with hy | hy
      · exact hn y hy
      · rw [List.mem_singleton.1 hy]; exact hx
    unfold rput
    split
    · refine rput_ok ps (row ++ [x]) tops ⟨4, p.at_, 0, [], p.l ++ [row.length]⟩ m (h1.perm ?_) (by simp; omega) hn' ⟨⟨hp0.1, hp0.2.1⟩, by simp, by simp, by simp; omega, ⟨hp0.1, .inl rfl, .inr (.inr (.inr ⟨rfl, rfl, rfl⟩))⟩⟩ (fun q hq => by have := hp q (List.mem_cons_of_mem _ hq); simp; omega) (by simp; omega)
      show (row.length :: (tops ++ (p.l ++ ps.flatMap Part.l))).Perm ((p.l ++ [row.length]) ++ (tops ++ ps.flatMap Part.l))
      rw [List.perm_iff_count]
      intro a
      simp only [List.count_append, List.count_cons, List.count_nil]; omega
    · refine ⟨h1.perm ?_, by simp; omega, hn', fun q hq => ?_, by simp; omega⟩
      · show (row.length :: (tops ++ (p.l ++ ps.flatMap Part.l))).Perm (tops ++ ((p.l ++ [row.length]) ++ ps.flatMap Part.l))
        rw [List.perm_iff_count]
        intro a
        simp only [List.count_append, List.count_cons, List.count_nil]; omega
      · rcases List.mem_cons.1 hq with rfl | hq
        · refine ⟨hp0.1, hp0.2.1, ?_⟩
          simp; omega
        · have := hp q (List.mem_cons_of_mem _ hq)
          simp; omega
theorem rtok_ok {n m : Nat} {r : RS} {t : Tok} (h : RSok n m r) (ht : OkTok n t) (hk : rtokE r t = 0) : RSok n (m + 2) (rtok r t) := by
  have hn : ∀ y ∈ r.row, OkNode n (m + 2) y := fun y hy => (h.nodes y hy).mono (by omega)
  have hf := h.few
  have hat := ht.at_
  have leaf : ∀ x : Node, x.l = [] → OkNode n (m + 2) x → RSok n (m + 2) (r.put x) := fun x hl hx => rput_ok r.op r.row r.tops x (m + 2) (by rw [hl]; exact h.inv) (by omega) hn hx h.parts h.tops
  unfold rtok
  repeat' split
  · exact leaf _ rfl ⟨by simp; omega, by simp, ht.i64, by simp, ⟨by show (0 : Int) ≤ (t.at_ : Int); omega, .inr rfl, .inl ⟨rfl, rfl⟩⟩⟩
  · rename_i h5
    exact leaf _ rfl ⟨by simp; omega, by simp, ht.i64, by simp, ⟨by show (0 : Int) ≤ (t.at_ : Int); omega, .inr rfl, .inr (.inl ⟨rfl, rfl, ht.bool h5⟩)⟩⟩
  · exact leaf _ rfl ⟨by simp; omega, ht.s, by simp, by simp, ⟨by show (0 : Int) ≤ (t.at_ : Int); omega, .inr rfl, .inr (.inr (.inl ⟨rfl, rfl⟩))⟩⟩
  · refine ⟨by simpa [RS.opened] using h.inv, by simp [RS.opened]; omega, hn, fun p hp => ?_, h.tops⟩
    rcases List.mem_cons.1 hp with rfl | hp
    · simp; omega
    · exact h.parts p hp
  · refine rput_ok _ r.row r.tops _ (m + 2) (by simpa [RS.opened] using h.inv) (by simp [RS.opened]; omega) hn ⟨by simp; omega, by simp [sQuote], by simp, by simp, ⟨by show (0 : Int) ≤ (t.at_ : Int); omega, .inr rfl, .inr (.inr (.inl ⟨rfl, rfl⟩))⟩⟩ (fun p hp => ?_) h.tops
    rcases List.mem_cons.1 hp with rfl | hp
    · simp; omega
    · exact h.parts p hp
  · unfold RS.close
    cases ho : r.op with
    | nil =>
      dsimp only
      exact ⟨h.inv, by omega, hn, h.parts, h.tops⟩
    | cons p ps =>
      have hinv := h.inv
      have hp := h.parts
      rw [ho] at hf hinv hp
      rw [List.length_cons] at hf
      have hp0 := hp p List.mem_cons_self
      refine rput_ok ps r.row r.tops _ (m + 2) (hinv.perm ?_) (by omega) hn ⟨⟨hp0.1, hp0.2.1⟩, by simp, by simp, by show p.l.length ≤ _; omega, ⟨hp0.1, .inl rfl, .inr (.inr (.inr ⟨rfl, rfl, rfl⟩))⟩⟩ (fun q hq => hp q (List.mem_cons_of_mem _ hq)) h.tops
      show (r.tops ++ (p.l ++ ps.flatMap Part.l)).Perm (p.l ++ (r.tops ++ ps.flatMap Part.l))
      rw [List.perm_iff_count]
      intro a
      simp only [List.count_append]; omega
  · exact ⟨h.inv, by omega, hn, h.parts, h.tops⟩
structure RdOk (n : Nat) (r : RdRes) : Prop where
  may : mayB (r.row.map Node.raw) = true
  few : r.row.length ≤ 2 * n
  nodes : ∀ x ∈ r.row, OkNode n (2 * n) x
  tops : r.tops.length ≤ r.row.length
  top : ∀ t ∈ r.tops, t < r.row.length
  nodup : r.tops.Nodup
theorem RdOk.nil (n : Nat) (a e : Int) : RdOk n ⟨[], [], a, e⟩ := ⟨rfl, Nat.zero_le _, fun x hx => (by cases hx), Nat.le_refl _, fun t ht => (by cases ht), List.nodup_nil⟩
theorem rgo_ok {n : Nat} {all : List Tok} : ∀ (l : List Tok) (r : RS) (m : Nat), RSok n m r → m + 2 * l.length ≤ 2 * n → (∀ t ∈ l, OkTok n t) → RdOk n (rgo all r l)
  | [], r, m, h, hm, _ => by
    rw [rgo]
    have hm' : m ≤ 2 * n := by simpa using hm
    cases ho : r.op with
    | nil =>
      have hinv := h.inv
      rw [ho] at hinv
      simp only [List.flatMap_nil, List.append_nil] at hinv
      obtain ⟨s, h1, h2, h3, h4⟩ := hinv
      exact ⟨by show mayGo [] 0 _ = true; rw [mayS_go, h1]; rfl, by have := h.few; show r.row.length ≤ _; omega, fun x hx => (h.nodes x hx).mono hm', h.tops, fun t ht => (h3 t ht).1, h2⟩
    | cons p ps =>
      dsimp only
      split
      · exact RdOk.nil n _ _
      · exact RdOk.nil n _ _
  | t :: l, r, m, h, hm, ht => by
    rw [List.length_cons] at hm
    rw [rgo]
    split
    · exact RdOk.nil n _ _
    · rename_i he
      exact rgo_ok l _ (m + 2) (rtok_ok h (ht t List.mem_cons_self) (by simpa using he)) (by omega) fun u hu => ht u (List.mem_cons_of_mem _ hu)
theorem readS_ok (s : Str) : RdOk s.length (readS s) := by
  unfold readS
  cases h : lexS s with
  | bad a e => exact RdOk.nil _ _ _
  | ok l =>
    unfold lexS at h
    split at h
    · cases h
    obtain ⟨h1, h2⟩ := (lexF_ok (n := s.length) s.length 0 s (by omega)).1 l h
    exact rgo_ok l ⟨[], [], []⟩ 0 ⟨⟨[], rfl, List.nodup_nil, fun p hp => (by cases hp), fun p hp => by cases hp⟩, Nat.le_refl _, fun x hx => (by cases hx), fun p hp => (by cases hp), Nat.le_refl _⟩ (by omega) h2
end Go.Proofs.Ytjjbidajkmodfaa
