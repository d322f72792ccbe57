/- Texts Heap, Data, Spec, Draw, Xs, Shelf, Map, Raw, Lex of the proof. What each theorem says stands in its own statement. No condition beyond those that it names. -/
import Derived.WalkKit
import Derived.Maps.AppendAt
import Derived.Deep.Draws
import Derived.Deep.RegionHeld3
import Derived.StillTail
import Derived.OrdersHeld
import Derived.Shelf.Strings.Search1
import Derived.Shelf.Strings.Search2
import Derived.Shelf.Strings.Search3
import Derived.Shelf.LaysM
import Derived.Shelf.Strings.Shaped
import Derived.Test.YtjjbidajkmodfaaProg
import Derived.MapKept
set_option linter.unusedVariables false
set_option linter.unusedSimpArgs false
namespace Go.Proofs.Ytjjbidajkmodfaa
open Go Go.RowKit
theorem hid {p : Prop} (h : p) : Hid p := h
structure Seal where
  m : Nat → Option Obj
  os : Os
  tape : Nat → Question → Nat
  output : Array (Nat × ByteArray)
def Seal.le (S S' : Seal) : Prop := (∀ b o, S.m b = some o → S'.m b = some o) ∧ S'.os = S.os ∧ S'.tape = S.tape ∧ S'.output = S.output
theorem Seal.le.refl (S : Seal) : S.le S := ⟨fun _ _ h => h, rfl, rfl, rfl⟩
theorem Seal.le.trans {A B C : Seal} (h : A.le B) (k : B.le C) : A.le C := ⟨fun b o x => k.1 b o (h.1 b o x), k.2.1.trans h.2.1, k.2.2.1.trans h.2.2.1, k.2.2.2.trans h.2.2.2⟩
def Seal.put (S : Seal) (b : Nat) (o : Obj) : Seal := { S with m := fun k => if k = b then some o else S.m k }
theorem Seal.le_put {S : Seal} {b : Nat} (h : S.m b = none) (o : Obj) : S.le (S.put b o) := by
  refine ⟨fun k x hk => ?_, rfl, rfl, rfl⟩
  show (if k = b then some o else S.m k) = some x
  rw [if_neg (fun e => by subst e; rw [h] at hk; cases hk)]; exact hk
theorem Seal.put_same (S : Seal) (b : Nat) (o : Obj) : (S.put b o).m b = some o := by simp [Seal.put]
def Sc (S : Seal) (b o : Nat) (v : Value) : Prop := ∃ c t fr, S.m b = some (.cells c t fr) ∧ c[o]? = some v
theorem Sc.mono {S S' : Seal} (k : S.le S') {b o : Nat} {v : Value} (h : Sc S b o v) : Sc S' b o v := by
  obtain ⟨c, t, fr, h1, h2⟩ := h; exact ⟨c, t, fr, k.1 _ _ h1, h2⟩
inductive Atom where
  | blk (b : Nat) (c : Array Value) (t : TypeId)
  | map (b : Nat) (es : Array MapEntry) (clock : Nat)
  | row (e size : Nat) (v : Value) (n : Nat) (xs : List Value)
def Atom.block : Atom → Option Nat
  | .blk b _ _ => some b
  | .map b _ _ => some b
  | .row _ _ v _ _ => v.ownBlock
def Atom.holds (w : World) : Atom → Prop
  | .blk b c t => w.heap[b]? = some (.cells c t (0, 0))
  | .map b es k => w.heap[b]? = some (.map es k)
  | .row e size v n xs => w.ownsRow 0 e size v n xs
theorem Atom.lt {w : World} {a : Atom} (h : a.holds w) : ∀ b, a.block = some b → b < w.heap.size := by
  intro b hb
  cases a with
  | blk g c t => cases hb; exact (Array.getElem?_eq_some_iff.1 h).1
  | map g es k => cases hb; exact (Array.getElem?_eq_some_iff.1 h).1
  | row e size v n xs => exact (World.ownsRow.lt h b hb).2
theorem Atom.kept {w w' : World} {a : Atom} (h : a.holds w) (hk : ∀ b, a.block = some b → w'.heap[b]? = w.heap[b]?) : a.holds w' := by
  cases a with
  | blk g c t => exact (hk g rfl).trans h
  | map g es k => exact (hk g rfl).trans h
  | row e size v n xs =>
    refine ⟨h.1, ?_⟩
    rcases h.2 with h2 | ⟨g, cap, cur, hv, hb, hg, r⟩
    · exact .inl h2
    · exact .inr ⟨g, cap, cur, hv, hb, (hk g (by rw [hv]; rfl)).trans hg, r⟩
structure Wd (S : Seal) (L : List Atom) (w : World) : Prop where
  os : w.os = S.os
  tape : w.tape = S.tape
  output : w.output = S.output
  kept : ∀ b o, S.m b = some o → w.heap[b]? = some o
  own : ∀ a ∈ L, a.holds w
  free : ∀ a ∈ L, ∀ b, a.block = some b → S.m b = none
  apart : (L.filterMap Atom.block).Nodup
section
variable {S S' : Seal} {L L' : List Atom} {w w' : World}
theorem Wd.cell (h : Wd S L w) {b o : Nat} {v : Value} (c : Sc S b o v) : w.cell? ⟨b, o, none⟩ = some v := by
  obtain ⟨cs, t, fr, h1, h2⟩ := c
  simp [World.cell?, h.kept _ _ h1, h2]
theorem Wd.fresh (h : Wd S L w) : S.m w.heap.size = none := by
  cases e : S.m w.heap.size with
  | none => rfl
  | some o => have := h.kept _ _ e; simp at this
theorem Wd.fresh_ge (h : Wd S L w) {k : Nat} (hk : w.heap.size ≤ k) : S.m k = none := by
  cases e : S.m k with
  | none => rfl
  | some o => have h1 := (Array.getElem?_eq_some_iff.1 (h.kept _ _ e)).1; omega
theorem Wd.fresh_own (h : Wd S L w) {k : Nat} (hk : w.heap.size ≤ k) : k ∉ L.filterMap Atom.block := by
  intro hm
  obtain ⟨a, ha, hb⟩ := List.mem_filterMap.1 hm
  have := Atom.lt (h.own a ha) k hb
  omega
theorem Wd.same (h : Wd S L w) (h1 : w'.os = w.os) (h2 : w'.tape = w.tape) (h3 : w'.output = w.output) (hk : ∀ b, b < w.heap.size → w'.heap[b]? = w.heap[b]?) : Wd S L w' :=
  ⟨h1.trans h.os, h2.trans h.tape, h3.trans h.output, fun b o hb => (hk b (Array.getElem?_eq_some_iff.1 (h.kept b o hb)).1).trans (h.kept b o hb),
    fun a ha => Atom.kept (h.own a ha) fun b hb => hk b (Atom.lt (h.own a ha) b hb), h.free, h.apart⟩
theorem Wd.drew (h : Wd S L w) : Wd S L w.drew := h.same rfl rfl rfl fun _ _ => rfl
theorem Wd.drewN (h : Wd S L w) (n : Nat) : Wd S L (w.drewN n) := h.same rfl rfl rfl fun _ _ => rfl
theorem Wd.alloc0 (h : Wd S L w) (o : Obj) : Wd S L (w.alloc o) := h.same rfl rfl rfl fun b hb => Below.heap_alloc w o b hb
theorem Wd.alloc (h : Wd S L w) (o : Obj) : Wd (S.put w.heap.size o) L (w.alloc o) := by
  have h0 := h.alloc0 o
  refine ⟨h0.os, h0.tape, h0.output, fun b x hb => ?_, h0.own, fun a ha b hb => ?_, h0.apart⟩
  · by_cases e : b = w.heap.size
    · subst e; rw [Seal.put_same] at hb; cases hb; exact heap_alloc_new w o
    · exact h0.kept b x (by simpa [Seal.put, e] using hb)
  · have hlt := Atom.lt (h.own a ha) b hb
    show (if b = w.heap.size then some o else S.m b) = none
    rw [if_neg (by omega)]; exact h.free a ha b hb
theorem Wd.le_alloc (h : Wd S L w) (o : Obj) : S.le (S.put w.heap.size o) := Seal.le_put h.fresh o
theorem Sc.new {S : Seal} {b o : Nat} {c : Array Value} {t : TypeId} {fr : Nat × Nat} {v : Value} (hv : c[o]? = some v) : Sc (S.put b (.cells c t fr)) b o v := ⟨c, t, fr, Seal.put_same _ _ _, hv⟩
theorem Wd.allocOwn (h : Wd S L w) (c : Array Value) (t : TypeId) : Wd S (.blk w.heap.size c t :: L) (w.alloc (.cells c t)) := by
  have h0 := h.alloc0 (.cells c t)
  refine ⟨h0.os, h0.tape, h0.output, h0.kept, fun a ha => ?_, fun a ha b hb => ?_, ?_⟩
  · rcases List.mem_cons.1 ha with rfl | ha
    · exact heap_alloc_new w _
    · exact h0.own a ha
  · rcases List.mem_cons.1 ha with rfl | ha
    · cases hb; exact h.fresh
    · exact h0.free a ha b hb
  · show (w.heap.size :: L.filterMap Atom.block).Nodup
    exact List.nodup_cons.2 ⟨h.fresh_own (Nat.le_refl _), h.apart⟩
theorem Wd.allocMap (h : Wd S L w) (es : Array MapEntry) (k : Nat) : Wd S (.map w.heap.size es k :: L) (w.alloc (.map es k)) := by
  have h0 := h.alloc0 (.map es k)
  refine ⟨h0.os, h0.tape, h0.output, h0.kept, fun a ha => ?_, fun a ha b hb => ?_, ?_⟩
  · rcases List.mem_cons.1 ha with rfl | ha
    · exact heap_alloc_new w _
    · exact h0.own a ha
  · rcases List.mem_cons.1 ha with rfl | ha
    · cases hb; exact h.fresh
    · exact h0.free a ha b hb
  · show (w.heap.size :: L.filterMap Atom.block).Nodup
    exact List.nodup_cons.2 ⟨h.fresh_own (Nat.le_refl _), h.apart⟩
theorem Wd.perm (h : Wd S L w) (p : L.Perm L') : Wd S L' w :=
  ⟨h.os, h.tape, h.output, h.kept, fun a ha => h.own a (p.mem_iff.2 ha), fun a ha => h.free a (p.mem_iff.2 ha), ((p.filterMap _).nodup_iff).1 h.apart⟩
theorem Wd.swap {a b : Atom} (h : Wd S (a :: b :: L) w) : Wd S (b :: a :: L) w := h.perm (List.Perm.swap _ _ _)
theorem Wd.rot3 {a b c : Atom} (h : Wd S (a :: b :: c :: L) w) : Wd S (c :: a :: b :: L) w :=
  h.perm ((List.Perm.cons a (List.Perm.swap c b L)).trans (List.Perm.swap c a (b :: L)))
theorem Wd.tor3 {a b c : Atom} (h : Wd S (c :: a :: b :: L) w) : Wd S (a :: b :: c :: L) w :=
  h.perm ((List.Perm.swap a c (b :: L)).trans (List.Perm.cons a (List.Perm.swap b c L)))
theorem Wd.tail {a : Atom} (h : Wd S (a :: L) w) : Wd S L w :=
  ⟨h.os, h.tape, h.output, h.kept, fun x hx => h.own x (List.mem_cons_of_mem _ hx), fun x hx => h.free x (List.mem_cons_of_mem _ hx), by
    have := h.apart
    rw [List.filterMap_cons] at this
    split at this
    · exact this
    · exact (List.nodup_cons.1 this).2⟩
theorem Wd.rowNil (h : Wd S L w) (e size : Nat) : Wd S (.row e size (.slice none 0 0) 0 [] :: L) w :=
  ⟨h.os, h.tape, h.output, h.kept, fun a ha => by
      rcases List.mem_cons.1 ha with rfl | ha
      · exact World.ownsRow_nil w 0 e size
      · exact h.own a ha, fun a ha b hb => by
      rcases List.mem_cons.1 ha with rfl | ha
      · cases hb
      · exact h.free a ha b hb, h.apart⟩
theorem Wd.blk_mem {b : Nat} {c : Array Value} {t : TypeId} (h : Wd S L w) (hm : Atom.blk b c t ∈ L) : w.heap[b]? = some (.cells c t (0, 0)) := h.own _ hm
theorem Wd.blkHead {b : Nat} {c : Array Value} {t : TypeId} (h : Wd S (.blk b c t :: L) w) : w.heap[b]? = some (.cells c t (0, 0)) := h.own _ List.mem_cons_self
theorem Wd.blkCell {b : Nat} {c : Array Value} {t : TypeId} (h : Wd S (.blk b c t :: L) w) (i : Nat) : w.cell? ⟨b, i, none⟩ = c[i]? := cell_of_row w b i c t (0, 0) h.blkHead
theorem Wd.blkFree {b : Nat} {c : Array Value} {t : TypeId} (h : Wd S (.blk b c t :: L) w) (i : Nat) : w.frozen? ⟨b, i, none⟩ = false := frozen_of_row w b i c t h.blkHead
theorem Wd.blkLt {b : Nat} {c : Array Value} {t : TypeId} (h : Wd S (.blk b c t :: L) w) : b < w.heap.size := Atom.lt (h.own _ List.mem_cons_self) b rfl
theorem Wd.turn {a a' : Atom} (h : Wd S (a :: L) w) (h1 : w'.os = w.os) (h2 : w'.tape = w.tape) (h3 : w'.output = w.output)
    (hk : ∀ b, b < w.heap.size → a.block ≠ some b → w'.heap[b]? = w.heap[b]?) (ha : a'.holds w')
    (hb : ∀ b, a'.block = some b → a.block = some b ∨ w.heap.size ≤ b) : Wd S (a' :: L) w' := by
  have ht := h.tail
  have hne : ∀ x ∈ L, ∀ b, x.block = some b → a.block ≠ some b := fun x hx b hxb hab => by
    have := h.apart
    rw [List.filterMap_cons, hab] at this
    exact (List.nodup_cons.1 this).1 (List.mem_filterMap.2 ⟨x, hx, hxb⟩)
  refine ⟨h1.trans h.os, h2.trans h.tape, h3.trans h.output, fun b o hs => ?_, fun x hx => ?_, fun x hx b hxb => ?_, ?_⟩
  · have hlt := (Array.getElem?_eq_some_iff.1 (h.kept b o hs)).1
    refine (hk b hlt fun hab => ?_).trans (h.kept b o hs)
    have := h.free a List.mem_cons_self b hab
    rw [this] at hs; cases hs
  · rcases List.mem_cons.1 hx with rfl | hx
    · exact ha
    · exact Atom.kept (ht.own x hx) fun b hxb => hk b (Atom.lt (ht.own x hx) b hxb) (hne x hx b hxb)
  · rcases List.mem_cons.1 hx with rfl | hx
    · rcases hb b hxb with h4 | h4
      · exact h.free a List.mem_cons_self b h4
      · exact h.fresh_ge h4
    · exact ht.free x hx b hxb
  · rw [List.filterMap_cons]
    split
    · exact ht.apart
    · rename_i b hab
      refine List.nodup_cons.2 ⟨fun hm => ?_, ht.apart⟩
      rcases hb b hab with h4 | h4
      · obtain ⟨x, hx, hxb⟩ := List.mem_filterMap.1 hm
        exact hne x hx b hxb h4
      · exact ht.fresh_own h4 hm
theorem Wd.store {b : Nat} {c : Array Value} {t : TypeId} (h : Wd S (.blk b c t :: L) w) (i : Nat) (v : Value) : Wd S (.blk b (c.setIfInBounds i v) t :: L) (w.setCell ⟨b, i, none⟩ v) :=
  h.turn rfl rfl rfl (fun k _ hk => heap_setCell_other w _ k v (fun e => hk (by rw [e]; rfl))) (heap_setCell_same w b i c t v h.blkHead) fun k hk => .inl hk
theorem Wd.sealBlk {b : Nat} {c : Array Value} {t : TypeId} (h : Wd S (.blk b c t :: L) w) : S.le (S.put b (.cells c t)) ∧ Wd (S.put b (.cells c t)) L w := by
  have hn := h.free _ List.mem_cons_self b rfl
  have ht := h.tail
  refine ⟨Seal.le_put hn _, ht.os, ht.tape, ht.output, fun k x hk => ?_, ht.own, fun a ha k hk => ?_, ht.apart⟩
  · by_cases e : k = b
    · subst e; rw [Seal.put_same] at hk; cases hk; exact h.blkHead
    · exact ht.kept k x (by simpa [Seal.put, e] using hk)
  · show (if k = b then some _ else S.m k) = none
    rw [if_neg ?_]
    · exact ht.free a ha k hk
    · rintro rfl
      have := h.apart
      simp only [List.filterMap_cons, Atom.block] at this
      exact (List.nodup_cons.1 this).1 (List.mem_filterMap.2 ⟨a, ha, hk⟩)
def Sl (S : Seal) (size : Nat) (v : Value) (n : Nat) (xs : List Value) : Prop :=
  xs.length = n * size ∧ ∃ A c, v = .slice A n c ∧ n ≤ c ∧ c ≤ maxLen ∧ (n = 0 ∨ ∃ b off, A = some ⟨b, off, none⟩ ∧ ∀ j u, xs[j]? = some u → Sc S b (off + j) u)
theorem Sl.mono (k : S.le S') {size n : Nat} {v : Value} {xs : List Value} (h : Sl S size v n xs) : Sl S' size v n xs := by
  obtain ⟨h1, A, c, hv, h2, h3, h4⟩ := h
  refine ⟨h1, A, c, hv, h2, h3, ?_⟩
  rcases h4 with h4 | ⟨b, off, hA, h4⟩
  · exact .inl h4
  · exact .inr ⟨b, off, hA, fun j u hu => (h4 j u hu).mono k⟩
theorem Sl.nil (S : Seal) (size : Nat) : Sl S size (.slice none 0 0) 0 [] := ⟨by simp, none, 0, rfl, Nat.le_refl _, by unfold maxLen; omega, .inl rfl⟩
theorem Wd.sealRow {e size n : Nat} {v : Value} {xs : List Value} (h : Wd S (.row e size v n xs :: L) w) : ∃ S', S.le S' ∧ Wd S' L w ∧ Sl S' size v n xs := by
  have hr : w.ownsRow 0 e size v n xs := h.own _ List.mem_cons_self
  obtain ⟨hl, hr⟩ := hr
  rcases hr with ⟨rfl, rfl⟩ | ⟨g, cap, cur, rfl, _, hg, hnc, hcm, hcs, htk⟩
  · refine ⟨S, .refl S, h.tail, ?_⟩
    have : xs = [] := List.eq_nil_of_length_eq_zero (by simpa using hl)
    subst this; exact Sl.nil S size
  · have h' : Wd S (.blk g cur e :: L) w := ⟨h.os, h.tape, h.output, h.kept, fun a ha => by
      rcases List.mem_cons.1 ha with rfl | ha
      · exact hg
      · exact h.own a (List.mem_cons_of_mem _ ha), fun a ha b hb => by
      rcases List.mem_cons.1 ha with rfl | ha
      · cases hb; exact h.free _ List.mem_cons_self g rfl
      · exact h.free a (List.mem_cons_of_mem _ ha) b hb, h.apart⟩
    obtain ⟨k1, k2⟩ := h'.sealBlk
    refine ⟨_, k1, k2, hl, _, cap, rfl, hnc, hcm, .inr ⟨g, 0, rfl, fun j u hu => Sc.new ?_⟩⟩
    rw [← htk, List.getElem?_take] at hu
    split at hu
    · rw [Nat.zero_add, ← Array.getElem?_toList]; exact hu
    · cases hu
theorem Wd.rowLen {e size n : Nat} {v : Value} {xs : List Value} (h : Wd S (.row e size v n xs :: L) w) : ∃ A c, v = .slice A n c ∧ n ≤ c ∧ c ≤ maxLen := by
  have hr : w.ownsRow 0 e size v n xs := h.own _ List.mem_cons_self
  rcases hr.2 with ⟨rfl, rfl⟩ | ⟨g, cap, cur, rfl, _, hg, hnc, hcm, _⟩
  · exact ⟨none, 0, rfl, Nat.le_refl _, by unfold maxLen; omega⟩
  · exact ⟨_, cap, rfl, hnc, hcm⟩
theorem Wd.rowCell {e size n : Nat} {v : Value} {xs : List Value} (h : Wd S (.row e size v n xs :: L) w) {j : Nat} {u : Value} (hu : xs[j]? = some u) :
    ∃ g c, v = .slice (some ⟨g, 0, none⟩) n c ∧ w.cell? ⟨g, j, none⟩ = some u := by
  have hr : w.ownsRow 0 e size v n xs := h.own _ List.mem_cons_self
  rcases hr.2 with ⟨rfl, rfl⟩ | ⟨g, cap, cur, rfl, _, hg, hnc, hcm, hcs, htk⟩
  · have := hr.1
    have hx : xs = [] := List.eq_nil_of_length_eq_zero (by simpa using this)
    subst hx; simp at hu
  · refine ⟨g, cap, rfl, ?_⟩
    rw [cell_of_row w g j cur e (0, 0) hg, ← Array.getElem?_toList]
    rw [← htk, List.getElem?_take] at hu
    split at hu
    · exact hu
    · cases hu
theorem cells_new (w : World) (b : Nat) (hb : b = w.heap.size) (l : List Value) (t : TypeId) : ∀ j u, l[j]? = some u → (w.alloc (.cells l.toArray t)).cell? ((⟨b, 0, none⟩ : Addr).add j) = some u := by
  intro j u hu
  subst hb
  have e : ((⟨w.heap.size, 0, none⟩ : Addr).add j) = ⟨w.heap.size, j, none⟩ := by unfold Addr.add; split <;> simp_all
  rw [e, cell_of_row _ _ _ l.toArray t (0, 0) (heap_alloc_new w _)]
  simpa using hu
structure SliceTy (P : Program) (t e size bytes : Nat) : Prop where
  ht : P.underlying t = some (.slice e)
  hi : ∃ i z, P.info? e = some i ∧ i.zero = some z ∧ i.size = size ∧ i.bytes = bytes ∧ z.cells.size = size
  hs : 0 < size
theorem SliceTy.of {P : Program} {t e size bytes : Nat} {z : Value} (ht : P.underlying t = some (.slice e)) (hi : (P.info? e).map (fun i => (i.zero, i.size, i.bytes)) = some (some z, size, bytes)) (hz : z.cells.size = size) (hs : 0 < size) : SliceTy P t e size bytes := by
  refine ⟨ht, ?_, hs⟩
  cases h : P.info? e with
  | none => rw [h] at hi; cases hi
  | some i =>
    rw [h] at hi
    simp only [Option.map_some, Option.some.injEq, Prod.mk.injEq] at hi
    exact ⟨i, z, rfl, hi.1, hi.2.1, hi.2.2, hz⟩
theorem Wd.run_append {P : Program} {t ty e size bytes : Nat} (T : SliceTy P t e size bytes) {v : Value} {n : Nat} {xs : List Value} (h : Wd S (.row e size v n xs :: L) w)
    (ad : Addr) (m c : Nat) (news : List Value) (hl : news.length = m * size) (hnews : ∀ j u, news[j]? = some u → w.cell? (ad.add j) = some u) (h1 : ∀ u ∈ news, u.oneCell' = true)
    (hbytes : (n + m) * bytes ≤ 140737488355328) (h63 : n + m ≤ maxLen) :
    ∃ v' w', (Builtin.append_ #[t, t] ty #[v, .slice (some ad) m c]).run P w = .ok v' w' ∧ Wd S (.row e size v' (n + m) (xs ++ news) :: L) w' := by
  obtain ⟨i, z, hi, hz, hsz, hby, hzs⟩ := T.hi
  obtain ⟨v', w', hr, h2, h3, h4, h5⟩ := run_append_own_at (P := P) w 0 t ty e i z size bytes T.ht hi hz hsz hby hzs T.hs v n xs (h.own _ List.mem_cons_self) ad m c news hl hnews h1 h63 hbytes (Nat.zero_le _)
  refine ⟨v', w', hr, h.turn h3.os h3.tape h3.output (fun b hb hne => h3.block b hb (fun e => hne e.symm)) h2 fun b hb => ?_⟩
  rcases h5 with h5 | h5
  · exact .inl (by rw [← hb]; exact h5.symm)
  · have hb' : v'.ownBlock = some b := hb
    rw [h5] at hb'; cases hb'; exact .inr (Nat.le_refl _)
theorem wp_append {P : Program} {t e size bytes : Nat} (T : SliceTy P t e size bytes) {o : Oper} {a : Act} {K : Act → World → Prop} {Q : Exit → Act → World → Prop} (s x : Operand)
    (ho : o.op = .call { callee := .builtin .append, args := #[s, x], argTypes := #[t, t] }) {v : Value} {n : Nat} {xs : List Value} (hs : a.eval s = v) (h : Wd S (.row e size v n xs :: L) w)
    (ad : Addr) (m c : Nat) (news : List Value) (hx : a.eval x = .slice (some ad) m c) (hl : news.length = m * size) (hnews : ∀ j u, news[j]? = some u → w.cell? (ad.add j) = some u) (h1 : ∀ u ∈ news, u.oneCell' = true)
    (hbytes : (n + m) * bytes ≤ 140737488355328) (h63 : n + m ≤ maxLen)
    (hK : ∀ v' w', Wd S (.row e size v' (n + m) (xs ++ news) :: L) w' → K (a.put o.dst v') w') : o.wp P a w K Q := by
  obtain ⟨v', w', hr, h2⟩ := h.run_append (ty := o.type) T ad m c news hl hnews h1 hbytes h63
  unfold Oper.wp execOp
  simp only [ho, resolve, invoke, builtin, Sem.run_bind, Sem.run_pure, Result.andThen_ok, List.map_toArray, List.map_cons, List.map_nil, hs, hx, hr]
  exact hK v' w' h2
theorem wpList_append {P : Program} {t e size bytes : Nat} (T : SliceTy P t e size bytes) {ops : Array Oper} {rest : List Oper} {o : Oper} {a : Act} {Q : Exit → Act → World → Prop} (hgd : o.guard = none) (s x : Operand)
    (ho : o.op = .call { callee := .builtin .append, args := #[s, x], argTypes := #[t, t] }) {v : Value} {n : Nat} {xs : List Value} (hs : a.eval s = v) (h : Wd S (.row e size v n xs :: L) w)
    (ad : Addr) (m c : Nat) (news : List Value) (hx : a.eval x = .slice (some ad) m c) (hl : news.length = m * size) (hnews : ∀ j u, news[j]? = some u → w.cell? (ad.add j) = some u) (h1 : ∀ u ∈ news, u.oneCell' = true)
    (hbytes : (n + m) * bytes ≤ 140737488355328) (h63 : n + m ≤ maxLen)
    (hK : ∀ v' w', Wd S (.row e size v' (n + m) (xs ++ news) :: L) w' → wpList P ops Q rest (a.put o.dst v') w') : wpList P ops Q (o :: rest) a w :=
  wpList_plain hgd fun _ hh => wp_append T s x ho hs h ad m c news hx hl hnews h1 hbytes h63 fun v' w' h2 => hh _ _ (hK v' w' h2)
end
end Go.Proofs.Ytjjbidajkmodfaa
namespace Go.Proofs.Ytjjbidajkmodfaa
open Go Go.RowKit
abbrev Str := List UInt8
abbrev bs (l : Str) : ByteArray := ⟨l.toArray⟩
theorem bs_inj {a b : Str} (h : bs a = bs b) : a = b := by
  have := congrArg (fun x : ByteArray => x.data.toList) h
  simpa using this
theorem bs_of (b : ByteArray) : b = bs b.data.toList := by cases b; simp
theorem bs_size (a : Str) : (bs a).size = a.length := by simp [ByteArray.size]
structure Node where
  kind : Int
  at_ : Int
  n : Int
  s : Str
  l : List Nat
instance : Inhabited Node := ⟨⟨0, 0, 0, [], []⟩⟩
structure Form where
  kind : Int
  at_ : Int
  n : Int := 0
  a : Int := 0
  s : Str := []
  p : List Str := []
  w : Int := 0
  l : List Nat := []
instance : Inhabited Form := ⟨{ kind := 0, at_ := 0 }⟩
abbrev nat (n : Nat) : Value := .int .i64 (n : Int)
abbrev str (s : Str) : Value := .string ⟨s.toArray⟩
theorem nat_cells (l : List Nat) : ∀ u ∈ l.map nat, u.oneCell' = true := by
  intro u hu; obtain ⟨n, _, rfl⟩ := List.mem_map.1 hu; rfl
theorem str_cells (l : List Str) : ∀ u ∈ l.map str, u.oneCell' = true := by
  intro u hu; obtain ⟨n, _, rfl⟩ := List.mem_map.1 hu; rfl
section
variable {S S' : Seal} {L : List Atom} {w : World}
def NatsR (S : Seal) (v : Value) (l : List Nat) : Prop := Sl S 1 v l.length (l.map nat)
def StrsR (S : Seal) (v : Value) (l : List Str) : Prop := Sl S 1 v l.length (l.map str)
theorem NatsR.mono (k : S.le S') {v : Value} {l : List Nat} (h : NatsR S v l) : NatsR S' v l := Sl.mono k h
theorem StrsR.mono (k : S.le S') {v : Value} {l : List Str} (h : StrsR S v l) : StrsR S' v l := Sl.mono k h
theorem NatsR.nil (S : Seal) : NatsR S (.slice none 0 0) [] := Sl.nil S 1
theorem StrsR.nil (S : Seal) : StrsR S (.slice none 0 0) [] := Sl.nil S 1
theorem Sl.shape {size n : Nat} {v : Value} {xs : List Value} (h : Sl S size v n xs) : ∃ A c, v = .slice A n c ∧ n ≤ c ∧ c ≤ maxLen := by
  obtain ⟨_, A, c, hv, h1, h2, _⟩ := h; exact ⟨A, c, hv, h1, h2⟩
theorem Sl.at_ {size n : Nat} {v : Value} {xs : List Value} (h : Sl S size v n xs) (h0 : 0 < n) : ∃ b off c, v = .slice (some ⟨b, off, none⟩) n c ∧ n ≤ c ∧ c ≤ maxLen ∧ ∀ j u, xs[j]? = some u → Sc S b (off + j) u := by
  obtain ⟨_, A, c, hv, h1, h2, h3⟩ := h
  rcases h3 with h3 | ⟨b, off, rfl, h3⟩
  · omega
  · exact ⟨b, off, c, hv, h1, h2, h3⟩
theorem NatsR.at_ {v : Value} {l : List Nat} (h : NatsR S v l) (h0 : l ≠ []) : ∃ b off c, v = .slice (some ⟨b, off, none⟩) l.length c ∧ l.length ≤ c ∧ c ≤ maxLen ∧ ∀ j n, l[j]? = some n → Sc S b (off + j) (nat n) := by
  obtain ⟨b, off, c, hv, h1, h2, h3⟩ := Sl.at_ h (by cases l with | nil => exact absurd rfl h0 | cons => simp)
  exact ⟨b, off, c, hv, h1, h2, fun j n hj => h3 j _ (by rw [List.getElem?_map, hj]; rfl)⟩
theorem StrsR.at_ {v : Value} {l : List Str} (h : StrsR S v l) (h0 : l ≠ []) : ∃ b off c, v = .slice (some ⟨b, off, none⟩) l.length c ∧ l.length ≤ c ∧ c ≤ maxLen ∧ ∀ j n, l[j]? = some n → Sc S b (off + j) (str n) := by
  obtain ⟨b, off, c, hv, h1, h2, h3⟩ := Sl.at_ h (by cases l with | nil => exact absurd rfl h0 | cons => simp)
  exact ⟨b, off, c, hv, h1, h2, fun j n hj => h3 j _ (by rw [List.getElem?_map, hj]; rfl)⟩
theorem NatsR.new (S : Seal) (b : Nat) (t : TypeId) (l : List Nat) (h : l.length ≤ maxLen) : NatsR (S.put b (.cells (l.map nat).toArray t)) (.slice (some ⟨b, 0, none⟩) l.length l.length) l :=
  ⟨by simp, _, _, rfl, Nat.le_refl _, h, .inr ⟨b, 0, rfl, fun j u hu => Sc.new (by simpa using hu)⟩⟩
theorem StrsR.new (S : Seal) (b : Nat) (t : TypeId) (l : List Str) (h : l.length ≤ maxLen) : StrsR (S.put b (.cells (l.map str).toArray t)) (.slice (some ⟨b, 0, none⟩) l.length l.length) l :=
  ⟨by simp, _, _, rfl, Nat.le_refl _, h, .inr ⟨b, 0, rfl, fun j u hu => Sc.new (by simpa using hu)⟩⟩
theorem Sl.drop1 {n : Nat} {A : Option Addr} {c : Nat} {xs : List Value} (h : Sl S 1 (.slice A n c) n xs) (k : Nat) (hk : k ≤ n) :
    Sl S 1 (.slice (if c = k then A else A.map (·.add k)) (n - k) (c - k)) (n - k) (xs.drop k) := by
  obtain ⟨hl, A', c', hv, h1, h2, h3⟩ := h
  simp only [Value.slice.injEq, true_and] at hv
  obtain ⟨rfl, rfl⟩ := hv
  refine ⟨by simp [hl], _, _, rfl, by omega, by omega, ?_⟩
  by_cases e : n = k
  · exact .inl (by omega)
  right
  rcases h3 with h3 | ⟨b, off, rfl, h3⟩
  · omega
  · rw [if_neg (by omega)]
    refine ⟨b, off + k, ?_, fun j u hu => ?_⟩
    · show some (Addr.add ⟨b, off, none⟩ k) = _
      unfold Addr.add; split
      · rename_i h0; subst h0; rfl
      · rfl
    · rw [List.getElem?_drop] at hu
      rw [Nat.add_assoc]; exact h3 _ _ hu
theorem NatsR.drop {b o c k : Nat} {l : List Nat} (h : NatsR S (.slice (some ⟨b, o, none⟩) l.length c) l) (hk : k < l.length) (h0 : 0 < k) : NatsR S (.slice (some ⟨b, o + k, none⟩) (l.length - k) (c - k)) (l.drop k) := by
  obtain ⟨_, A, c', hv, h1, _, _⟩ := id h
  simp only [Value.slice.injEq, true_and] at hv
  obtain ⟨rfl, rfl⟩ := hv
  have := Sl.drop1 h k (by omega)
  rw [if_neg (by omega), ← List.map_drop] at this
  have e : (some (⟨b, o, none⟩ : Addr)).map (·.add k) = some ⟨b, o + k, none⟩ := by
    show some (Addr.add ⟨b, o, none⟩ k) = _
    unfold Addr.add; rw [if_neg (by omega)]
  rw [e] at this
  unfold NatsR
  rw [List.length_drop]; exact this
def NodesC (S : Seal) (xs : List Value) (d : List Node) : Prop :=
  xs.length = d.length * 5 ∧ ∀ i nd, d[i]? = some nd → ∃ lv, xs[i * 5]? = some (.int .u8 nd.kind) ∧ xs[i * 5 + 1]? = some (.int .i64 nd.at_) ∧ xs[i * 5 + 2]? = some (.int .i64 nd.n) ∧
    xs[i * 5 + 3]? = some (str nd.s) ∧ xs[i * 5 + 4]? = some lv ∧ NatsR S lv nd.l
def FormsC (S : Seal) (xs : List Value) (fs : List Form) : Prop :=
  xs.length = fs.length * 8 ∧ ∀ i f, fs[i]? = some f → ∃ pv lv, xs[i * 8]? = some (.int .u8 f.kind) ∧ xs[i * 8 + 1]? = some (.int .i64 f.at_) ∧ xs[i * 8 + 2]? = some (.int .i64 f.n) ∧
    xs[i * 8 + 3]? = some (.int .i64 f.a) ∧ xs[i * 8 + 4]? = some (str f.s) ∧ xs[i * 8 + 5]? = some pv ∧ xs[i * 8 + 6]? = some (.int .u64 f.w) ∧ xs[i * 8 + 7]? = some lv ∧ StrsR S pv f.p ∧ NatsR S lv f.l
theorem NodesC.mono (k : S.le S') {xs : List Value} {d : List Node} (h : NodesC S xs d) : NodesC S' xs d :=
  ⟨h.1, fun i nd hi => let ⟨lv, a, b, c, e, f, g⟩ := h.2 i nd hi; ⟨lv, a, b, c, e, f, g.mono k⟩⟩
theorem FormsC.mono (k : S.le S') {xs : List Value} {d : List Form} (h : FormsC S xs d) : FormsC S' xs d :=
  ⟨h.1, fun i nd hi => let ⟨pv, lv, a, b, c, e, f, g, x, y, z, u⟩ := h.2 i nd hi; ⟨pv, lv, a, b, c, e, f, g, x, y, z.mono k, u.mono k⟩⟩
theorem NodesC.nil (S : Seal) : NodesC S [] [] := ⟨rfl, fun i nd h => by simp at h⟩
theorem FormsC.nil (S : Seal) : FormsC S [] [] := ⟨rfl, fun i nd h => by simp at h⟩
theorem FormsC.snoc {xs : List Value} {fs : List Form} (h : FormsC S xs fs) (f : Form) {pv lv : Value} (hp : StrsR S pv f.p) (hl : NatsR S lv f.l) :
    FormsC S (xs ++ [.int .u8 f.kind, .int .i64 f.at_, .int .i64 f.n, .int .i64 f.a, str f.s, pv, .int .u64 f.w, lv]) (fs ++ [f]) := by
  refine ⟨by simp [h.1]; omega, fun i g hg => ?_⟩
  by_cases e : i < fs.length
  · rw [List.getElem?_append_left e] at hg
    obtain ⟨pv', lv', a1, a2, a3, a4, a5, a6, a7, a8, a9, a10⟩ := h.2 i g hg
    have hx := h.1
    refine ⟨pv', lv', ?_, ?_, ?_, ?_, ?_, ?_, ?_, ?_, a9, a10⟩ <;> (rw [List.getElem?_append_left (by omega)]; assumption)
  · have hi : i = fs.length := by
      have := (List.getElem?_eq_some_iff.1 hg).1
      simp at this; omega
    subst hi
    rw [List.getElem?_append_right (Nat.le_refl _), Nat.sub_self] at hg
    simp only [List.getElem?_cons_zero, Option.some.injEq] at hg
    subst hg
    have hx := h.1
    refine ⟨pv, lv, ?_, ?_, ?_, ?_, ?_, ?_, ?_, ?_, hp, hl⟩
    · rw [List.getElem?_append_right (by omega), show fs.length * 8 - xs.length = 0 by omega]; rfl
    · rw [List.getElem?_append_right (by omega), show fs.length * 8 + 1 - xs.length = 1 by omega]; rfl
    · rw [List.getElem?_append_right (by omega), show fs.length * 8 + 2 - xs.length = 2 by omega]; rfl
    · rw [List.getElem?_append_right (by omega), show fs.length * 8 + 3 - xs.length = 3 by omega]; rfl
    · rw [List.getElem?_append_right (by omega), show fs.length * 8 + 4 - xs.length = 4 by omega]; rfl
    · rw [List.getElem?_append_right (by omega), show fs.length * 8 + 5 - xs.length = 5 by omega]; rfl
    · rw [List.getElem?_append_right (by omega), show fs.length * 8 + 6 - xs.length = 6 by omega]; rfl
    · rw [List.getElem?_append_right (by omega), show fs.length * 8 + 7 - xs.length = 7 by omega]; rfl
theorem NodesC.snoc {xs : List Value} {d : List Node} (h : NodesC S xs d) (x : Node) {lv : Value} (hl : NatsR S lv x.l) :
    NodesC S (xs ++ [.int .u8 x.kind, .int .i64 x.at_, .int .i64 x.n, str x.s, lv]) (d ++ [x]) := by
  refine ⟨by simp [h.1]; omega, fun i g hg => ?_⟩
  by_cases e : i < d.length
  · rw [List.getElem?_append_left e] at hg
    obtain ⟨lv', a1, a2, a3, a4, a5, a6⟩ := h.2 i g hg
    have hx := h.1
    refine ⟨lv', ?_, ?_, ?_, ?_, ?_, a6⟩ <;> (rw [List.getElem?_append_left (by omega)]; assumption)
  · have hi : i = d.length := by
      have := (List.getElem?_eq_some_iff.1 hg).1
      simp at this; omega
    subst hi
    rw [List.getElem?_append_right (Nat.le_refl _), Nat.sub_self] at hg
    simp only [List.getElem?_cons_zero, Option.some.injEq] at hg
    subst hg
    have hx := h.1
    refine ⟨lv, ?_, ?_, ?_, ?_, ?_, hl⟩
    · rw [List.getElem?_append_right (by omega), show d.length * 5 - xs.length = 0 by omega]; rfl
    · rw [List.getElem?_append_right (by omega), show d.length * 5 + 1 - xs.length = 1 by omega]; rfl
    · rw [List.getElem?_append_right (by omega), show d.length * 5 + 2 - xs.length = 2 by omega]; rfl
    · rw [List.getElem?_append_right (by omega), show d.length * 5 + 3 - xs.length = 3 by omega]; rfl
    · rw [List.getElem?_append_right (by omega), show d.length * 5 + 4 - xs.length = 4 by omega]; rfl
def NodesR (S : Seal) (v : Value) (d : List Node) : Prop := ∃ xs, Sl S 5 v d.length xs ∧ NodesC S xs d
def FormsR (S : Seal) (v : Value) (d : List Form) : Prop := ∃ xs, Sl S 8 v d.length xs ∧ FormsC S xs d
theorem NodesR.mono (k : S.le S') {v : Value} {d : List Node} (h : NodesR S v d) : NodesR S' v d := let ⟨xs, a, b⟩ := h; ⟨xs, a.mono k, b.mono k⟩
theorem FormsR.mono (k : S.le S') {v : Value} {d : List Form} (h : FormsR S v d) : FormsR S' v d := let ⟨xs, a, b⟩ := h; ⟨xs, a.mono k, b.mono k⟩
structure NodeAt (S : Seal) (b o : Nat) (nd : Node) (lv : Value) : Prop where
  c0 : Sc S b o (.int .u8 nd.kind)
  c1 : Sc S b (o + 1) (.int .i64 nd.at_)
  c2 : Sc S b (o + 2) (.int .i64 nd.n)
  c3 : Sc S b (o + 3) (str nd.s)
  c4 : Sc S b (o + 4) lv
  l : NatsR S lv nd.l
theorem NodeAt.mono (k : S.le S') {b o : Nat} {nd : Node} {lv : Value} (h : NodeAt S b o nd lv) : NodeAt S' b o nd lv :=
  ⟨h.c0.mono k, h.c1.mono k, h.c2.mono k, h.c3.mono k, h.c4.mono k, h.l.mono k⟩
theorem NodesR.at_ {v : Value} {d : List Node} (h : NodesR S v d) (h0 : d ≠ []) : ∃ b off c, v = .slice (some ⟨b, off, none⟩) d.length c ∧ d.length ≤ c ∧ c ≤ maxLen ∧
    ∀ i nd, d[i]? = some nd → ∃ lv, NodeAt S b (off + i * 5) nd lv := by
  obtain ⟨xs, hs, hc⟩ := h
  obtain ⟨b, off, c, hv, h1, h2, h3⟩ := Sl.at_ hs (by cases d with | nil => exact absurd rfl h0 | cons => simp)
  refine ⟨b, off, c, hv, h1, h2, fun i nd hi => ?_⟩
  obtain ⟨lv, a0, a1, a2, a3, a4, a5⟩ := hc.2 i nd hi
  exact ⟨lv, h3 _ _ a0, h3 _ _ a1, h3 _ _ a2, h3 _ _ a3, h3 _ _ a4, a5⟩
theorem NodesR.len {v : Value} {d : List Node} (h : NodesR S v d) : d.length ≤ 9223372036854775807 := by
  obtain ⟨xs, hs, _⟩ := h
  obtain ⟨A, c, _, h1, h2⟩ := Sl.shape hs
  unfold maxLen at h2; omega
theorem NatsR.len {v : Value} {d : List Nat} (h : NatsR S v d) : d.length ≤ 9223372036854775807 := by
  obtain ⟨A, c, _, h1, h2⟩ := Sl.shape h
  unfold maxLen at h2; omega
end
end Go.Proofs.Ytjjbidajkmodfaa
namespace Go.Proofs.Ytjjbidajkmodfaa
open Go Go.RowKit
def sQuote : Str := [113, 117, 111, 116, 101]
def sIf : Str := [105, 102]
def sLambda : Str := [108, 97, 109, 98, 100, 97]
def sSet : Str := [115, 101, 116, 33]
def sBegin : Str := [98, 101, 103, 105, 110]
def sDefine : Str := [100, 101, 102, 105, 110, 101]
def sLet : Str := [108, 101, 116]
def sLets : Str := [108, 101, 116, 42]
def sCond : Str := [99, 111, 110, 100]
def sElse : Str := [101, 108, 115, 101]
def sAnd : Str := [97, 110, 100]
def sOr : Str := [111, 114]
def sWhen : Str := [119, 104, 101, 110]
def sUnless : Str := [117, 110, 108, 101, 115, 115]
def reservedL : List Str := [sQuote, sIf, sLambda, sSet, sBegin, sDefine, sLet, sLets, sCond, sElse, sAnd, sOr, sWhen, sUnless]
def res (s : Str) : Bool := reservedL.contains s
def LIM : Nat := 1099511627776
structure St where
  fs : List Form
  bad : Option Int
def nd (d : List Node) (i : Nat) : Node := d.getD i default
abbrev Out := Option (Nat × St)
abbrev Fm := St → Nat → Out
def put (st : St) (f : Form) : Out := if st.fs.length < LIM then some (st.fs.length, { st with fs := st.fs ++ [f] }) else none
def wrongAt (a : Int) (st : St) : Nat × St := (0, if st.bad = none then { st with bad := some a } else st)
def wrong (d : List Node) (st : St) (i : Nat) : Nat × St := wrongAt (nd d i).at_ st
def bit (st : St) (at_ n : Int) : Out := put st { kind := 2, at_ := at_, n := n }
def asks (st : St) (at_ : Int) (a b c : Nat) : Out := put st { kind := 5, at_ := at_, l := [a, b, c] }
def nameOf (d : List Node) (i : Nat) : Str := if (nd d i).kind = 3 ∧ res (nd d i).s = false then (nd d i).s else []
def namesGo (d : List Node) : List Str → List Nat → Option (List Str)
  | out, [] => some out
  | out, i :: l => if nameOf d i = [] ∨ 100 ≤ out.length ∨ out.contains (nameOf d i) = true then none else namesGo d (out ++ [nameOf d i]) l
def names (d : List Node) (l : List Nat) : Option (List Str) := namesGo d [] l
def forms (F : Fm) : St → List Nat → Option (List Nat × St)
  | st, [] => some ([], st)
  | st, i :: l => (F st i).bind fun x => (forms F x.2 l).bind fun y => some (x.1 :: y.1, y.2)
def body (F : Fm) (at_ : Int) (st : St) (l : List Nat) : Out :=
  if l.length = 1 then F st (l.getD 0 0) else (forms F st l).bind fun x => put x.2 { kind := 8, at_ := at_, l := x.1 }
def fn (F : Fm) (at_ : Int) (ns : List Str) (st : St) (l : List Nat) : Out :=
  (body F at_ st l).bind fun x => put x.2 { kind := 6, at_ := at_, p := ns, l := [x.1] }
def call (F : Fm) (at_ : Int) (f : Nat) (st : St) (l : List Nat) : Out :=
  (forms F st l).bind fun x => put x.2 { kind := 10, at_ := at_, l := f :: x.1 }
def pairsGo (d : List Node) : List Nat → Option (List Nat × List Nat)
  | [] => some ([], [])
  | p :: l => if (nd d p).kind = 4 ∧ (nd d p).l.length = 2 ∧ nameOf d ((nd d p).l.getD 0 0) ≠ [] then
      (pairsGo d l).bind fun x => some ((nd d p).l.getD 0 0 :: x.1, (nd d p).l.getD 1 0 :: x.2) else none
def pairs (d : List Node) (i : Nat) : Option (List Nat × List Nat) := if (nd d i).kind = 4 then pairsGo d (nd d i).l else none
def stars (d : List Node) (F : Fm) (at_ : Int) (bd : List Nat) : St → List Nat → List Nat → Out
  | st, p :: ps, v :: vs => (stars d F at_ bd st ps vs).bind fun b => (put b.2 { kind := 6, at_ := at_, p := [(nd d p).s], l := [b.1] }).bind fun f => call F at_ f.1 f.2 [v]
  | st, _, _ => body F at_ st bd
def andS (F : Fm) (at_ : Int) : St → List Nat → Out
  | st, [] => bit st at_ 1
  | st, [i] => F st i
  | st, i :: l => (F st i).bind fun a => (andS F at_ a.2 l).bind fun b => (bit b.2 at_ 0).bind fun c => asks c.2 at_ a.1 b.1 c.1
def orS (F : Fm) (at_ : Int) : St → List Nat → Out
  | st, [] => bit st at_ 0
  | st, [i] => F st i
  | st, i :: l => (put st { kind := 4, at_ := at_, s := [32] }).bind fun p => (put p.2 { kind := 4, at_ := at_, s := [32] }).bind fun q =>
      (orS F at_ q.2 l).bind fun b => (asks b.2 at_ p.1 q.1 b.1).bind fun c => (put c.2 { kind := 6, at_ := at_, p := [[32]], l := [c.1] }).bind fun f => call F at_ f.1 f.2 [i]
def condS (d : List Node) (F : Fm) (at_ : Int) : St → List Nat → Out
  | st, [] => bit st at_ 0
  | st, c :: l => if (nd d c).kind ≠ 4 ∨ (nd d c).l.length < 2 then some (wrong d st c)
      else if (nd d ((nd d c).l.getD 0 0)).kind = 3 ∧ (nd d ((nd d c).l.getD 0 0)).s = sElse then
        (if l ≠ [] then some (wrong d st c) else body F (nd d c).at_ st ((nd d c).l.drop 1))
      else (F st ((nd d c).l.getD 0 0)).bind fun a => (body F (nd d c).at_ a.2 ((nd d c).l.drop 1)).bind fun b => (condS d F at_ b.2 l).bind fun x => asks x.2 at_ a.1 b.1 x.1
section
variable (d : List Node) (F : Fm)
def quoteS (i : Nat) (st : St) : Out :=
  if (nd d i).l.length ≠ 2 then some (wrong d st i) else put st { kind := 3, at_ := (nd d i).at_, n := ((nd d i).l.getD 1 0 : Nat) }
def ifWays (at_ : Int) (l : List Nat) (a : Nat) (st : St) : Out :=
  (F st (l.getD 2 0)).bind fun b => (if l.length = 4 then F b.2 (l.getD 3 0) else bit b.2 at_ 0).bind fun c => asks c.2 at_ a b.1 c.1
def whenWays (at_ : Int) (l : List Nat) (a : Nat) (st : St) : Out :=
  (body F at_ st (l.drop 2)).bind fun b => (bit b.2 at_ 0).bind fun c => asks c.2 at_ a b.1 c.1
def unlessWays (at_ : Int) (l : List Nat) (a : Nat) (st : St) : Out :=
  (bit st at_ 0).bind fun b => (body F at_ b.2 (l.drop 2)).bind fun c => asks c.2 at_ a b.1 c.1
def ifS (i : Nat) (st : St) : Out :=
  if (nd d i).l.length < 3 ∨ 4 < (nd d i).l.length then some (wrong d st i) else (F st ((nd d i).l.getD 1 0)).bind fun a => ifWays F (nd d i).at_ (nd d i).l a.1 a.2
def whenS (i : Nat) (st : St) : Out :=
  if (nd d i).l.length < 3 then some (wrong d st i) else (F st ((nd d i).l.getD 1 0)).bind fun a => whenWays F (nd d i).at_ (nd d i).l a.1 a.2
def unlessS (i : Nat) (st : St) : Out :=
  if (nd d i).l.length < 3 then some (wrong d st i) else (F st ((nd d i).l.getD 1 0)).bind fun a => unlessWays F (nd d i).at_ (nd d i).l a.1 a.2
def lambdaS (i : Nat) (st : St) : Out :=
  if (nd d i).l.length < 3 ∨ (nd d ((nd d i).l.getD 1 0)).kind ≠ 4 then some (wrong d st i) else
    match names d (nd d ((nd d i).l.getD 1 0)).l with
    | none => some (wrong d st i)
    | some ns => fn F (nd d i).at_ ns st ((nd d i).l.drop 2)
def letS (i : Nat) (st : St) : Out :=
  if (nd d i).l.length < 3 then some (wrong d st i) else
    match pairs d ((nd d i).l.getD 1 0) with
    | none => some (wrong d st i)
    | some (ps, vs) => match names d ps with
      | none => some (wrong d st i)
      | some ns => (fn F (nd d i).at_ ns st ((nd d i).l.drop 2)).bind fun f => call F (nd d i).at_ f.1 f.2 vs
def letsS (i : Nat) (st : St) : Out :=
  if (nd d i).l.length < 3 then some (wrong d st i) else
    match pairs d ((nd d i).l.getD 1 0) with
    | none => some (wrong d st i)
    | some (ps, vs) => stars d F (nd d i).at_ ((nd d i).l.drop 2) st ps vs
def setS (i : Nat) (st : St) : Out :=
  if (nd d i).l.length ≠ 3 ∨ nameOf d ((nd d i).l.getD 1 0) = [] then some (wrong d st i) else
    (F st ((nd d i).l.getD 2 0)).bind fun a => put a.2 { kind := 7, at_ := (nd d i).at_, s := nameOf d ((nd d i).l.getD 1 0), l := [a.1] }
def beginS (i : Nat) (st : St) : Out :=
  if (nd d i).l.length < 2 then some (wrong d st i) else body F (nd d i).at_ st ((nd d i).l.drop 1)
def condsS (i : Nat) (st : St) : Out :=
  if (nd d i).l.length < 2 then some (wrong d st i) else condS d F (nd d i).at_ st ((nd d i).l.drop 1)
def defineS (i : Nat) (st : St) : Out :=
  if (nd d i).l.length < 3 then some (wrong d st i)
  else if (nd d ((nd d i).l.getD 1 0)).kind = 3 then
    (if nameOf d ((nd d i).l.getD 1 0) = [] ∨ (nd d i).l.length ≠ 3 then some (wrong d st i) else
      (F st ((nd d i).l.getD 2 0)).bind fun a => put a.2 { kind := 9, at_ := (nd d i).at_, s := nameOf d ((nd d i).l.getD 1 0), l := [a.1] })
  else if (nd d ((nd d i).l.getD 1 0)).kind ≠ 4 ∨ (nd d ((nd d i).l.getD 1 0)).l.length = 0 then some (wrong d st i)
  else match names d ((nd d ((nd d i).l.getD 1 0)).l.drop 1) with
    | none => some (wrong d st i)
    | some ns => if nameOf d ((nd d ((nd d i).l.getD 1 0)).l.getD 0 0) = [] then some (wrong d st i) else
      (fn F (nd d i).at_ ns st ((nd d i).l.drop 2)).bind fun f => put f.2 { kind := 9, at_ := (nd d i).at_, s := nameOf d ((nd d ((nd d i).l.getD 1 0)).l.getD 0 0), l := [f.1] }
def special (s : Str) (i : Nat) (st : St) : Out :=
  if s = sQuote then quoteS d i st
  else if s = sIf then ifS d F i st
  else if s = sWhen then whenS d F i st
  else if s = sUnless then unlessS d F i st
  else if s = sSet then setS d F i st
  else if s = sBegin then beginS d F i st
  else if s = sCond then condsS d F i st
  else if s = sLambda then lambdaS d F i st
  else if s = sLet then letS d F i st
  else if s = sLets then letsS d F i st
  else if s = sAnd then andS F (nd d i).at_ st ((nd d i).l.drop 1)
  else if s = sOr then orS F (nd d i).at_ st ((nd d i).l.drop 1)
  else some (wrong d st i)
def heads (i : Nat) : Bool := decide ((nd d i).kind = 4 ∧ (nd d i).l ≠ [] ∧ (nd d ((nd d i).l.getD 0 0)).kind = 3) && res (nd d ((nd d i).l.getD 0 0)).s
def headName (i : Nat) : Str := (nd d ((nd d i).l.getD 0 0)).s
def step : Fm := fun st i =>
  if st.bad ≠ none then some (0, st)
  else if (nd d i).kind = 1 then put st { kind := 1, at_ := (nd d i).at_, n := (nd d i).n }
  else if (nd d i).kind = 2 then bit st (nd d i).at_ (nd d i).n
  else if (nd d i).kind = 3 then (if res (nd d i).s = true then some (wrong d st i) else put st { kind := 4, at_ := (nd d i).at_, s := (nd d i).s })
  else if (nd d i).l = [] then some (wrong d st i)
  else if heads d i = true then special d F (headName d i) i st
  else (F st ((nd d i).l.getD 0 0)).bind fun f => call F (nd d i).at_ f.1 f.2 ((nd d i).l.drop 1)
def topS : Fm := fun st i => if st.bad = none ∧ heads d i = true ∧ headName d i = sDefine then defineS d F i st else step d F st i
end
def form (d : List Node) : Nat → Fm
  | 0 => fun _ _ => none
  | k + 1 => step d (form d k)
def tops (T : Fm) : St → List Nat → Option (List Nat × St)
  | st, [] => some ([], st)
  | st, i :: l => (T st i).bind fun x => if x.2.bad = none then (tops T x.2 l).bind fun y => some (x.1 :: y.1, y.2) else some ([], x.2)
def expand (d : List Node) (k : Nat) (ts : List Nat) : Option (List Nat × St) := tops (topS d (form d k)) ⟨[], none⟩ ts
end Go.Proofs.Ytjjbidajkmodfaa
namespace Go.Proofs.Ytjjbidajkmodfaa
open Go Go.RowKit
section
variable {P : Program} {ops : Array Oper} {md : Region.Mode} {Q : Exit → Act → World → Prop} {S : World → Prop}
def wpAnyS (P : Program) (md : Region.Mode) (ops : Array Oper) (Q : Exit → Act → World → Prop) (S : World → Prop) (n : Nat) (T : Array Bool → Act → World → Prop) : Nat → Array Bool → Act → World → Prop
  | 0, listed, a, w => T listed a w
  | f + 1, listed, a, w => Region.ready md ops listed ≠ [] ∧ ∀ i ∈ Region.ready md ops listed, i < n ∧ wpOp P ops Q i (fun a' w' => S w' ∧ wpAnyS P md ops Q S n T f (listed.setIfInBounds i true) a' w') a w
theorem wpAny_of_S {n g : Nat} {T : Array Bool → Act → World → Prop} (hT : ∀ listed a w, T listed a w → wpAny P md ops Q g listed a w) :
    ∀ (f : Nat) (listed : Array Bool) (a : Act) (w : World), wpAnyS P md ops Q S n T f listed a w → wpAny P md ops Q (f + g) listed a w
  | 0, listed, a, w, h => by rw [Nat.zero_add]; exact hT _ _ _ h
  | f + 1, listed, a, w, h => by
    rw [show f + 1 + g = (f + g) + 1 by omega]
    exact ⟨fun h0 => absurd h0 h.1, fun i hi => wpOp_mono (fun a' w' h' => wpAny_of_S hT f _ a' w' h'.2) (h.2 i hi).2⟩
theorem wpAnyS_first {n i : Nat} {oi : Oper} {v : Value} {T : Array Bool → Act → World → Prop} (hi : ops[i]? = some oi) (hsel : ∀ (j : Nat) (o : Oper) cs b, ops[j]? = some o → o.op ≠ .select cs b)
    (hQ : ∀ c a d v w, Q (.panic c) (Act.put a d v) w → Q (.panic c) a w)
    (hs : Region.sinkB md ops n = true) (hc : Region.chainB md ops n = true) (hn : n < ops.size) (hin : i < n)
    (hdone : ∀ listed a w, T listed a w → ∀ j ∈ Region.ready md ops listed, n ≤ j) :
    ∀ (f : Nat) (listed : Array Bool) (a : Act) (w : World), HeadInv md ops n listed →
      (∀ j oj, ops[j]? = some oj → j ≠ i → listed.getD j true = false → (∀ e ∈ oj.after, Region.binds md e = true → e.on ≠ i) → oi.apart ops oj = true) →
      i ∈ Region.ready md ops listed → YieldsIf P ops S oi v a → S w →
      wpAnyS P md ops Q S n T f (listed.setIfInBounds i true) (a.put oi.dst v) w → wpAnyS P md ops Q S n T (f + 1) listed a w := by
  intro f
  induction f with
  | zero =>
    intro listed a w inv _ hr hy hS H
    have hun := (mem_ready.1 hr).1
    refine ⟨fun h => (by rw [h] at hr; cases hr), fun j hj => ?_⟩
    have hjn : j < n := by
      rcases Nat.lt_or_ge j n with h | h
      · exact h
      · exact absurd hj (tail_waits hs hc hn inv _ i rfl hin hun j h)
    refine ⟨hjn, ?_⟩
    by_cases hji : j = i
    · subst hji; exact hy.wpOp hi hS ⟨hS, H⟩
    · have := hdone _ _ _ H j (ready_mono hj hji)
      omega
  | succ f ih =>
    intro listed a w inv hfree hr hy hS H
    have hun := (mem_ready.1 hr).1
    refine ⟨fun h => (by rw [h] at hr; cases hr), fun j hj => ?_⟩
    have hjn : j < n := by
      rcases Nat.lt_or_ge j n with h | h
      · exact h
      · exact absurd hj (tail_waits hs hc hn inv _ i rfl hin hun j h)
    refine ⟨hjn, ?_⟩
    by_cases hji : j = i
    · subst hji; exact hy.wpOp hi hS ⟨hS, H⟩
    · have h1 := (H.2 j (ready_mono hj hji)).2
      obtain ⟨hjun, oj, hoj, hall⟩ := mem_ready.1 hj
      have hnot : ∀ e ∈ oj.after, Region.binds md e = true → e.on ≠ i := fun e he hb heq => by
        have h1 := hall e he hb
        rw [heq, getD_both hun] at h1
        cases h1
      have h2 := wpOp_putIf hoj (hfree j oj hoj hji hjun hnot) (fun cs b => hsel i oi cs b hi) (fun cs b => hsel j oj cs b hoj) (fun c a w => hQ c a _ _ w) hy h1
      have hfree' : ∀ k ok, ops[k]? = some ok → k ≠ i → (listed.setIfInBounds j true).getD k true = false →
          (∀ e ∈ ok.after, Region.binds md e = true → e.on ≠ i) → oi.apart ops ok = true := fun k ok hk hki hun hno => by
        refine hfree k ok hk hki ?_ hno
        by_cases hjk : j = k
        · subst hjk; exact hjun
        · rw [getD_set_ne true hjk] at hun; exact hun
      refine wpOp_mono (fun a' w' h3 => ⟨h3.2.1, ih (listed.setIfInBounds j true) a' w' (inv.set hj hjn) hfree' (ready_mono hr (Ne.symm hji)) h3.1 h3.2.1 ?_⟩) h2
      rw [Array.setIfInBounds_comm _ _ hji]
      exact h3.2.2
inductive Pl where
  | fin
  | take (i : Nat) (r : Pl)
  | one (i : Nat) (r : Pl)
  | two (i j : Nat) (r s : Pl)
  | tri (i j k : Nat) (r s t : Pl)
def Pl.len : Pl → Nat
  | fin => 0
  | take _ r => r.len + 1
  | one _ r => r.len + 1
  | two _ _ r _ => r.len + 1
  | tri _ _ _ r _ _ => r.len + 1
def Pl.okB (md : Region.Mode) (ops : Array Oper) (n : Nat) : Pl → Array Bool → Bool
  | fin, listed => Region.seqB md ops (ops.size - n) n listed
  | take i r, listed => decide (i < n) && (Region.ready md ops listed).contains i && Region.free md ops listed i && r.okB md ops n (listed.setIfInBounds i true)
  | one i r, listed => decide (i < n) && decide (Region.ready md ops listed = [i]) && r.okB md ops n (listed.setIfInBounds i true)
  | two i j r s, listed => decide (i < n) && decide (j < n) && decide (Region.ready md ops listed = [i, j]) && decide (r.len = s.len) && r.okB md ops n (listed.setIfInBounds i true) && s.okB md ops n (listed.setIfInBounds j true)
  | tri i j k r s t, listed => decide (i < n) && decide (j < n) && decide (k < n) && decide (Region.ready md ops listed = [i, j, k]) && decide (r.len = s.len) && decide (r.len = t.len) && r.okB md ops n (listed.setIfInBounds i true) && s.okB md ops n (listed.setIfInBounds j true) && t.okB md ops n (listed.setIfInBounds k true)
def Pl.okAll (ops : Array Oper) (n : Nat) (p : Pl) : Bool :=
  Region.noSelect ops && decide (n < ops.size) && Region.sinkB .any ops n && Region.chainB .any ops n && decide (p.len = n) && p.okB .any ops n (Array.replicate ops.size false)
def Pl.wp (P : Program) (ops : Array Oper) (Q : Exit → Act → World → Prop) (S : World → Prop) (T : Act → World → Prop) : Pl → Act → World → Prop
  | fin, a, w => T a w
  | take i r, a, w => ∃ v o, ops[i]? = some o ∧ YieldsIf P ops S o v a ∧ r.wp P ops Q S T (a.put o.dst v) w
  | one i r, a, w => wpOp P ops Q i (fun a' w' => S w' ∧ r.wp P ops Q S T a' w') a w
  | two i j r s, a, w => wpOp P ops Q i (fun a' w' => S w' ∧ r.wp P ops Q S T a' w') a w ∧ wpOp P ops Q j (fun a' w' => S w' ∧ s.wp P ops Q S T a' w') a w
  | tri i j k r s t, a, w => wpOp P ops Q i (fun a' w' => S w' ∧ r.wp P ops Q S T a' w') a w ∧ wpOp P ops Q j (fun a' w' => S w' ∧ s.wp P ops Q S T a' w') a w ∧ wpOp P ops Q k (fun a' w' => S w' ∧ t.wp P ops Q S T a' w') a w
theorem wpAnyS_of_plan {n g : Nat} {T : Act → World → Prop} (hQ : ∀ c a d v w, Q (.panic c) (Act.put a d v) w → Q (.panic c) a w) (hsel : Region.noSelect ops = true) (hs : Region.sinkB md ops n = true) (hc : Region.chainB md ops n = true) (hn : n < ops.size) (hg : g = ops.size - n) :
    ∀ (p : Pl) (listed : Array Bool) (a : Act) (w : World), HeadInv md ops n listed → p.okB md ops n listed = true → S w → p.wp P ops Q S T a w →
    wpAnyS P md ops Q S n (fun listed' a' w' => Region.seqB md ops g n listed' = true ∧ T a' w') p.len listed a w
  | .fin, listed, a, w, _, hB, _, h => ⟨by subst hg; exact hB, h⟩
  | .take i r, listed, a, w, inv, hB, hS, h => by
    simp only [Pl.okB, Bool.and_eq_true, decide_eq_true_eq] at hB
    obtain ⟨⟨⟨hin, hr⟩, hf⟩, hB'⟩ := hB
    obtain ⟨v, o, h0, hy, hK⟩ := h
    have hr' : i ∈ Region.ready md ops listed := by simpa using hr
    exact wpAnyS_first h0 (Region.noSelect_spec hsel) hQ hs hc hn hin (fun listed' a' w' hL => seqB_ready hL.1) r.len listed a w inv (Region.free_spec h0 hf) hr' hy hS
      (wpAnyS_of_plan hQ hsel hs hc hn hg r _ _ _ (inv.set hr' hin) hB' hS hK)
  | .one i r, listed, a, w, inv, hB, hS, h => by
    simp only [Pl.okB, Bool.and_eq_true, decide_eq_true_eq] at hB
    obtain ⟨⟨hin, hr⟩, hB'⟩ := hB
    have hr' : i ∈ Region.ready md ops listed := by rw [hr]; exact List.mem_singleton.2 rfl
    refine ⟨fun h0 => (by rw [h0] at hr'; cases hr'), fun k hk => ?_⟩
    rw [hr] at hk
    have : k = i := by simpa using hk
    subst this
    exact ⟨hin, wpOp_mono (fun a' w' h' => ⟨h'.1, wpAnyS_of_plan hQ hsel hs hc hn hg r _ _ _ (inv.set hr' hin) hB' h'.1 h'.2⟩) h⟩
  | .two i j r s, listed, a, w, inv, hB, hS, h => by
    simp only [Pl.okB, Bool.and_eq_true, decide_eq_true_eq] at hB
    obtain ⟨⟨⟨⟨⟨hin, hjn⟩, hr⟩, hl⟩, hB1⟩, hB2⟩ := hB
    have hri : i ∈ Region.ready md ops listed := by rw [hr]; exact List.mem_cons_self
    have hrj : j ∈ Region.ready md ops listed := by rw [hr]; exact List.mem_cons_of_mem _ List.mem_cons_self
    refine ⟨fun h0 => (by rw [h0] at hri; cases hri), fun k hk => ?_⟩
    rw [hr] at hk
    rcases List.mem_cons.1 hk with rfl | hk
    · exact ⟨hin, wpOp_mono (fun a' w' h' => ⟨h'.1, wpAnyS_of_plan hQ hsel hs hc hn hg r _ _ _ (inv.set hri hin) hB1 h'.1 h'.2⟩) h.1⟩
    · have : k = j := by simpa using hk
      subst this
      refine ⟨hjn, wpOp_mono (fun a' w' h' => ⟨h'.1, ?_⟩) h.2⟩
      show wpAnyS P md ops Q S n _ r.len _ _ _
      rw [hl]
      exact wpAnyS_of_plan hQ hsel hs hc hn hg s _ _ _ (inv.set hrj hjn) hB2 h'.1 h'.2
  | .tri i j k r s t, listed, a, w, inv, hB, hS, h => by
    simp only [Pl.okB, Bool.and_eq_true, decide_eq_true_eq] at hB
    obtain ⟨⟨⟨⟨⟨⟨⟨⟨hin, hjn⟩, hkn⟩, hr⟩, hl⟩, hl2⟩, hB1⟩, hB2⟩, hB3⟩ := hB
    have hri : i ∈ Region.ready md ops listed := by rw [hr]; simp
    have hrj : j ∈ Region.ready md ops listed := by rw [hr]; simp
    have hrk : k ∈ Region.ready md ops listed := by rw [hr]; simp
    refine ⟨fun h0 => (by rw [h0] at hri; cases hri), fun x hx => ?_⟩
    rw [hr] at hx
    simp only [List.mem_cons, List.not_mem_nil, or_false] at hx
    rcases hx with rfl | rfl | rfl
    · exact ⟨hin, wpOp_mono (fun a' w' h' => ⟨h'.1, wpAnyS_of_plan hQ hsel hs hc hn hg r _ _ _ (inv.set hri hin) hB1 h'.1 h'.2⟩) h.1⟩
    · refine ⟨hjn, wpOp_mono (fun a' w' h' => ⟨h'.1, ?_⟩) h.2.1⟩
      show wpAnyS P md ops Q S n _ r.len _ _ _
      rw [hl]
      exact wpAnyS_of_plan hQ hsel hs hc hn hg s _ _ _ (inv.set hrj hjn) hB2 h'.1 h'.2
    · refine ⟨hkn, wpOp_mono (fun a' w' h' => ⟨h'.1, ?_⟩) h.2.2⟩
      show wpAnyS P md ops Q S n _ r.len _ _ _
      rw [hl2]
      exact wpAnyS_of_plan hQ hsel hs hc hn hg t _ _ _ (inv.set hrk hkn) hB3 h'.1 h'.2
theorem wp_plan {id : Nat} {a : Act} {w : World} {l : List Oper} (n : Nat) (p : Pl) (S : World → Prop) (hm : P.follows .mixedOrders = true) (hB : p.okAll l.toArray n = true)
    (hQ : ∀ c a d v w, Q (.panic c) (Act.put a d v) w → Q (.panic c) a w) (hS : S w.drew)
    (h : p.wp P l.toArray Q S (fun a' w' => wpList P l.toArray Q (l.drop n) a' w') a w.drew) : (Code.region id l.toArray true).wp P Q a w := by
  simp only [Pl.okAll, Bool.and_eq_true, decide_eq_true_eq] at hB
  obtain ⟨⟨⟨⟨⟨hsel, hn⟩, hs⟩, hc⟩, hlen⟩, hp⟩ := hB
  have hn' : n < l.length := by simpa using hn
  have hdl : (l.drop n).length = l.toArray.size - n := by simp
  have inv0 : HeadInv .any l.toArray n (Array.replicate l.toArray.size false) :=
    ⟨by simp, fun j oj _ hl => (by rw [getD_replicate_false] at hl; cases hl), fun t _ ht => getD_in (by simpa using ht) (getD_replicate_false _ _)⟩
  have H := wpAnyS_of_plan (md := .any) (g := l.toArray.size - n) hQ hsel hs hc hn rfl p _ a w.drew inv0 hp hS h
  refine wp_region_any hm ?_
  have := wpAny_of_S (Q := Q) (g := l.toArray.size - n) (fun listed a' w' hL => by
    have := wpAny_of_seq (md := .any) (Q' := Q) (l.drop n) n listed a' w' (fun j => by simp [List.getElem?_drop]) (by rw [hdl]; exact hL.1) hL.2
    rwa [hdl] at this) _ _ _ _ H
  rw [hlen, show n + (l.toArray.size - n) = l.toArray.size by omega] at this
  exact this
section
variable {l : List Oper}
theorem at_list {i : Nat} {o : Oper} (h : l[i]? = some o) : l.toArray[i]? = some o := by simpa using h
theorem Pl.takeW {T : Act → World → Prop} {i : Nat} {r : Pl} {a : Act} {w : World} {o : Oper} (h0 : l[i]? = some o) (hw : Region.wanted o (yielded l.toArray a.tmps) = true) (v : Value)
    (hy : ∀ w, S w → (execOp a.eval o).run P w = .ok (.value v) w) (h : r.wp P l.toArray Q S T (a.put o.dst v) w) : (Pl.take i r).wp P l.toArray Q S T a w := ⟨v, o, at_list h0, .inl ⟨hw, hy⟩, h⟩
theorem Pl.takeU {T : Act → World → Prop} {i : Nat} {r : Pl} {a : Act} {w : World} {o : Oper} (h0 : l[i]? = some o) (hw : Region.wanted o (yielded l.toArray a.tmps) = false)
    (h : r.wp P l.toArray Q S T (a.put o.dst undef) w) : (Pl.take i r).wp P l.toArray Q S T a w := ⟨undef, o, at_list h0, .inr ⟨hw, rfl⟩, h⟩
theorem Pl.oneW {T : Act → World → Prop} {i : Nat} {r : Pl} {a : Act} {w : World} {o : Oper} (h0 : l[i]? = some o) (hw : Region.wanted o (yielded l.toArray a.tmps) = true)
    (h : ∀ K : Act → World → Prop, (∀ a' w', S w' → r.wp P l.toArray Q S T a' w' → K a' w') → o.wp P a w K Q) : (Pl.one i r).wp P l.toArray Q S T a w := by
  show wpOp P l.toArray Q i _ a w
  unfold wpOp; simp only [at_list h0, hw, if_true]; exact .inl (h _ fun _ _ h1 h2 => ⟨h1, h2⟩)
theorem Pl.oneU {T : Act → World → Prop} {i : Nat} {r : Pl} {a : Act} {w : World} {o : Oper} (h0 : l[i]? = some o) (hw : Region.wanted o (yielded l.toArray a.tmps) = false) (hS : S w)
    (h : r.wp P l.toArray Q S T (a.put o.dst undef) w) : (Pl.one i r).wp P l.toArray Q S T a w := by
  show wpOp P l.toArray Q i _ a w
  unfold wpOp; simp only [at_list h0, hw]; exact ⟨hS, h⟩
theorem Pl.twoW {T : Act → World → Prop} {i j : Nat} {r s : Pl} {a : Act} {w : World} (h1 : (Pl.one i r).wp P ops Q S T a w) (h2 : (Pl.one j s).wp P ops Q S T a w) : (Pl.two i j r s).wp P ops Q S T a w := ⟨h1, h2⟩
theorem Pl.triW {T : Act → World → Prop} {i j k : Nat} {r s t : Pl} {a : Act} {w : World} (h1 : (Pl.one i r).wp P ops Q S T a w) (h2 : (Pl.one j s).wp P ops Q S T a w) (h3 : (Pl.one k t).wp P ops Q S T a w) : (Pl.tri i j k r s t).wp P ops Q S T a w := ⟨h1, h2, h3⟩
end
end
end Go.Proofs.Ytjjbidajkmodfaa
namespace Go.Proofs.Ytjjbidajkmodfaa
open Go Go.RowKit
def Ret (S : Seal) (X : Seal → World → Prop) (v : Value) (e : Ending) (w' : World) : Prop := e = .returned v ∧ ∃ S', S.le S' ∧ X S' w'
theorem Ret.intro {S S' : Seal} {X : Seal → World → Prop} {v u : Value} {w' : World} (hv : u = v) (k : S.le S') (h : X S' w') : Ret S X v (.returned u) w' := ⟨by rw [hv], S', k, h⟩
theorem ret_v {u v : Value} (h : u = v) : Ending.returned u = .returned v := by rw [h]
def Xs (X : List Atom → Seal → World → Prop) : Prop := ∀ L S w, X L S w → ∃ H, Wd S (H ++ L) w ∧ ∀ L' S' w', S.le S' → Wd S' (H ++ L') w' → X L' S' w'
section
variable {X : List Atom → Seal → World → Prop} {L : List Atom} {S : Seal} {w : World}
theorem Xs.wd (x : Xs X) (h : X L S w) : ∃ H, Wd S (H ++ L) w := let ⟨H, a, _⟩ := x L S w h; ⟨H, a⟩
theorem Xs.cell (x : Xs X) (h : X L S w) {b o : Nat} {v : Value} (c : Sc S b o v) : w.cell? ⟨b, o, none⟩ = some v := let ⟨_, a⟩ := x.wd h; a.cell c
theorem Xs.alloc (x : Xs X) (h : X L S w) (o : Obj) : X L (S.put w.heap.size o) (w.alloc o) := let ⟨H, a, b⟩ := x L S w h; b L _ _ (a.le_alloc o) (a.alloc o)
theorem Xs.le_alloc (x : Xs X) (h : X L S w) (o : Obj) : S.le (S.put w.heap.size o) := let ⟨H, a, b⟩ := x L S w h; a.le_alloc o
theorem Xs.alloc0 (x : Xs X) (h : X L S w) (o : Obj) : X L S (w.alloc o) := let ⟨H, a, b⟩ := x L S w h; b L _ _ (.refl S) (a.alloc0 o)
theorem Xs.drew (x : Xs X) (h : X L S w) : X L S w.drew := let ⟨H, a, b⟩ := x L S w h; b L _ _ (.refl S) a.drew
theorem Xs.drewN (x : Xs X) (h : X L S w) (n : Nat) : X L S (w.drewN n) := let ⟨H, a, b⟩ := x L S w h; b L _ _ (.refl S) (a.drewN n)
theorem Xs.rowNil (x : Xs X) (h : X L S w) (e size : Nat) : X (.row e size (.slice none 0 0) 0 [] :: L) S w := by
  obtain ⟨H, a, b⟩ := x L S w h
  exact b _ _ _ (.refl S) ((a.rowNil e size).perm List.perm_middle.symm)
theorem Xs.front {a : Atom} (x : Xs X) (h : X (a :: L) S w) : ∃ H, Wd S (a :: (H ++ L)) w ∧ ∀ a' S' w', S.le S' → Wd S' (a' :: (H ++ L)) w' → X (a' :: L) S' w' := by
  obtain ⟨H, k, b⟩ := x _ S w h
  exact ⟨H, k.perm List.perm_middle, fun a' S' w' hs hw => b _ _ _ hs (hw.perm List.perm_middle.symm)⟩
theorem Xs.sealRow (x : Xs X) {e size n : Nat} {v : Value} {xs : List Value} (h : X (.row e size v n xs :: L) S w) : ∃ S', S.le S' ∧ X L S' w ∧ Sl S' size v n xs := by
  obtain ⟨H, k, b⟩ := x _ S w h
  obtain ⟨S', k1, k2, k3⟩ := (k.perm List.perm_middle).sealRow
  exact ⟨S', k1, b _ _ _ k1 k2, k3⟩
theorem Xs.dropAtom (x : Xs X) {a : Atom} (h : X (a :: L) S w) : X L S w := by
  obtain ⟨H, k, b⟩ := x _ S w h
  exact b _ _ _ (.refl S) (k.perm List.perm_middle).tail
theorem Xs.rowLen (x : Xs X) {e size n : Nat} {v : Value} {xs : List Value} (h : X (.row e size v n xs :: L) S w) : ∃ A c, v = .slice A n c ∧ n ≤ c ∧ c ≤ maxLen := let ⟨_, k, _⟩ := x.front h; k.rowLen
theorem Xs.rowCell (x : Xs X) {e size n : Nat} {v : Value} {xs : List Value} (h : X (.row e size v n xs :: L) S w) {j : Nat} {u : Value} (hu : xs[j]? = some u) :
    ∃ g c, v = .slice (some ⟨g, 0, none⟩) n c ∧ w.cell? ⟨g, j, none⟩ = some u := let ⟨_, k, _⟩ := x.front h; k.rowCell hu
theorem Xs.blkCell (x : Xs X) {b : Nat} {c : Array Value} {t : TypeId} (h : X (.blk b c t :: L) S w) (i : Nat) : w.cell? ⟨b, i, none⟩ = c[i]? := let ⟨_, k, _⟩ := x.front h; k.blkCell i
theorem Xs.blkFree (x : Xs X) {b : Nat} {c : Array Value} {t : TypeId} (h : X (.blk b c t :: L) S w) (i : Nat) : w.frozen? ⟨b, i, none⟩ = false := let ⟨_, k, _⟩ := x.front h; k.blkFree i
theorem Xs.store (x : Xs X) {b : Nat} {c : Array Value} {t : TypeId} (h : X (.blk b c t :: L) S w) (i : Nat) (v : Value) : X (.blk b (c.setIfInBounds i v) t :: L) S (w.setCell ⟨b, i, none⟩ v) := by
  obtain ⟨H, k, b⟩ := x.front h
  exact b _ _ _ (.refl S) (k.store i v)
theorem Xs.allocOwn (x : Xs X) (h : X L S w) (c : Array Value) (t : TypeId) : X (.blk w.heap.size c t :: L) S (w.alloc (.cells c t)) := by
  obtain ⟨H, k, b⟩ := x _ S w h
  exact b _ _ _ (.refl S) ((k.allocOwn c t).perm List.perm_middle.symm)
theorem Xs.sealBlk (x : Xs X) {b : Nat} {c : Array Value} {t : TypeId} (h : X (.blk b c t :: L) S w) : S.le (S.put b (.cells c t)) ∧ X L (S.put b (.cells c t)) w := by
  obtain ⟨H, k, g⟩ := x _ S w h
  obtain ⟨k1, k2⟩ := (k.perm List.perm_middle).sealBlk
  exact ⟨k1, g _ _ _ k1 k2⟩
theorem Xs.allocRow (x : Xs X) (h : X L S w) (e n : Nat) (xs : List Value) (hl : xs.length = n) (hm : n ≤ maxLen) : X (.row e 1 (.slice (some ⟨w.heap.size, 0, none⟩) n n) n xs :: L) S (w.alloc (.cells xs.toArray e)) := by
  obtain ⟨H, k, b⟩ := x.front (x.allocOwn h xs.toArray e)
  refine b _ _ _ (.refl S) ⟨k.os, k.tape, k.output, k.kept, fun a ha => ?_, fun a ha b hb => ?_, k.apart⟩
  · rcases List.mem_cons.1 ha with rfl | ha
    · exact ⟨by omega, .inr ⟨w.heap.size, n, xs.toArray, rfl, Nat.zero_le _, k.blkHead, Nat.le_refl _, hm, by simp [hl], by rw [Nat.mul_one, ← hl]; simp⟩⟩
    · exact k.own a (List.mem_cons_of_mem _ ha)
  · rcases List.mem_cons.1 ha with rfl | ha
    · cases hb; exact k.free _ List.mem_cons_self _ rfl
    · exact k.free a (List.mem_cons_of_mem _ ha) b hb
theorem Xs.perm (x : Xs X) {L' : List Atom} (h : X L S w) (p : L.Perm L') : X L' S w := by
  obtain ⟨H, k, b⟩ := x _ S w h
  exact b _ _ _ (.refl S) (k.perm (List.Perm.append_left H p))
theorem Xs.swap (x : Xs X) {a b : Atom} (h : X (a :: b :: L) S w) : X (b :: a :: L) S w := x.perm h (List.Perm.swap _ _ _)
theorem Xs.cons (x : Xs X) (a : Atom) : Xs fun L S w => X (a :: L) S w := by
  intro L S w h
  obtain ⟨H, k, b⟩ := x _ S w h
  exact ⟨H ++ [a], by simpa using k, fun L' S' w' hs hw => b _ _ _ hs (by simpa using hw)⟩
theorem wpList_appendX {P : Program} {t e size bytes : Nat} (T : SliceTy P t e size bytes) (x : Xs X) {ops : Array Oper} {rest : List Oper} {o : Oper} {a : Act} {Q : Exit → Act → World → Prop} (hgd : o.guard = none) (s y : Operand)
    (ho : o.op = .call { callee := .builtin .append, args := #[s, y], argTypes := #[t, t] }) {v : Value} {n : Nat} {xs : List Value} (hs : a.eval s = v) (h : X (.row e size v n xs :: L) S w)
    (ad : Addr) (m c : Nat) (news : List Value) (hx : a.eval y = .slice (some ad) m c) (hl : news.length = m * size) (hnews : ∀ j u, news[j]? = some u → w.cell? (ad.add j) = some u) (h1 : ∀ u ∈ news, u.oneCell' = true)
    (hbytes : (n + m) * bytes ≤ 140737488355328) (h63 : n + m ≤ maxLen)
    (hK : ∀ v' w', X (.row e size v' (n + m) (xs ++ news) :: L) S w' → wpList P ops Q rest (a.put o.dst v') w') : wpList P ops Q (o :: rest) a w := by
  obtain ⟨H, k, b⟩ := x.front h
  exact wpList_append T hgd s y ho hs k ad m c news hx hl hnews h1 hbytes h63 fun v' w' hw => hK v' w' (b _ _ _ (.refl S) hw)
theorem wp_appendX {P : Program} {t e size bytes : Nat} (T : SliceTy P t e size bytes) (x : Xs X) {o : Oper} {a : Act} {K : Act → World → Prop} {Q : Exit → Act → World → Prop} (s y : Operand)
    (ho : o.op = .call { callee := .builtin .append, args := #[s, y], argTypes := #[t, t] }) {v : Value} {n : Nat} {xs : List Value} (hs : a.eval s = v) (h : X (.row e size v n xs :: L) S w)
    (ad : Addr) (m c : Nat) (news : List Value) (hx : a.eval y = .slice (some ad) m c) (hl : news.length = m * size) (hnews : ∀ j u, news[j]? = some u → w.cell? (ad.add j) = some u) (h1 : ∀ u ∈ news, u.oneCell' = true)
    (hbytes : (n + m) * bytes ≤ 140737488355328) (h63 : n + m ≤ maxLen)
    (hK : ∀ v' w', X (.row e size v' (n + m) (xs ++ news) :: L) S w' → K (a.put o.dst v') w') : o.wp P a w K Q := by
  obtain ⟨H, k, b⟩ := x.front h
  exact wp_append T s y ho hs k ad m c news hx hl hnews h1 hbytes h63 fun v' w' hw => hK v' w' (b _ _ _ (.refl S) hw)
theorem Xs.box (x : Xs X) (h : X L S w) (c : Array Value) (t : TypeId) : ∃ S', S.le S' ∧ X L S' (w.alloc (.cells c t)) ∧ ∀ j v, c[j]? = some v → Sc S' w.heap.size j v :=
  ⟨_, x.le_alloc h _, x.alloc h _, fun j v hv => Sc.new hv⟩
theorem Xs.box2 (x : Xs X) (h : X L S w) (c c' : Array Value) (t t' : TypeId) : ∃ S', S.le S' ∧ X L S' ((w.alloc (.cells c t)).alloc (.cells c' t')) ∧ (∀ j v, c[j]? = some v → Sc S' w.heap.size j v) ∧ ∀ j v, c'[j]? = some v → Sc S' (w.heap.size + 1) j v := by
  obtain ⟨S1, k1, h1, s1⟩ := x.box h c t
  obtain ⟨S2, k2, h2, s2⟩ := x.box h1 c' t'
  refine ⟨S2, k1.trans k2, h2, fun j v hv => (s1 j v hv).mono k2, fun j v hv => ?_⟩
  have := s2 j v hv
  rwa [World.size_alloc] at this
theorem Xs.box3 (x : Xs X) (h : X L S w) (c c' c'' : Array Value) (t t' t'' : TypeId) : ∃ S', S.le S' ∧ X L S' (((w.alloc (.cells c t)).alloc (.cells c' t')).alloc (.cells c'' t'')) ∧
    (∀ j v, c[j]? = some v → Sc S' w.heap.size j v) ∧ (∀ j v, c'[j]? = some v → Sc S' (w.heap.size + 1) j v) ∧ ∀ j v, c''[j]? = some v → Sc S' (w.heap.size + 2) j v := by
  obtain ⟨S1, k1, h1, s1, s2⟩ := x.box2 h c c' t t'
  obtain ⟨S2, k2, h2, s3⟩ := x.box h1 c'' t''
  refine ⟨S2, k1.trans k2, h2, fun j v hv => (s1 j v hv).mono k2, fun j v hv => (s2 j v hv).mono k2, fun j v hv => ?_⟩
  have := s3 j v hv
  rwa [World.size_alloc, World.size_alloc] at this
theorem Xs.news1 (x : Xs X) (h : X L S w) {g : Nat} {u : Value} (c : Sc S g 0 u) : ∀ j u', [u][j]? = some u' → w.cell? ((⟨g, 0, none⟩ : Addr).add j) = some u' := by
  intro j u' hu
  have hj : j = 0 := by
    have := (List.getElem?_eq_some_iff.1 hu).1
    simp at this; exact this
  subst hj
  simp only [List.getElem?_cons_zero, Option.some.injEq] at hu
  subst hu
  exact x.cell h c
theorem NatsR.box1 {S : Seal} {b a : Nat} (s : ∀ j v, (#[nat a] : Array Value)[j]? = some v → Sc S b j v) : NatsR S (.slice (some ⟨b, 0, none⟩) 1 1) [a] :=
  ⟨by simp, _, _, rfl, Nat.le_refl _, by unfold maxLen; omega, .inr ⟨b, 0, rfl, fun j u hu => by rw [Nat.zero_add]; exact s j u (by simpa using hu)⟩⟩
theorem StrsR.box1 {S : Seal} {b : Nat} {a : Str} (s : ∀ j v, (#[str a] : Array Value)[j]? = some v → Sc S b j v) : StrsR S (.slice (some ⟨b, 0, none⟩) 1 1) [a] :=
  ⟨by simp, _, _, rfl, Nat.le_refl _, by unfold maxLen; omega, .inr ⟨b, 0, rfl, fun j u hu => by rw [Nat.zero_add]; exact s j u (by simpa using hu)⟩⟩
def StrsW (w : World) (v : Value) (l : List Str) : Prop :=
  l.length ≤ 9223372036854775807 ∧ ∃ A c, v = .slice A l.length c ∧ (l = [] ∨ ∃ b off, A = some ⟨b, off, none⟩ ∧ ∀ j s, l[j]? = some s → w.cell? ⟨b, off + j, none⟩ = some (str s))
theorem Xs.strsW (x : Xs X) {e : Nat} {v : Value} {l : List Str} (h : X (.row e 1 v l.length (l.map str) :: L) S w) : StrsW w v l := by
  obtain ⟨A, c, rfl, h1, h2⟩ := x.rowLen h
  refine ⟨by unfold maxLen at h2; omega, A, c, rfl, ?_⟩
  cases l with
  | nil => exact .inl rfl
  | cons s t =>
    right
    obtain ⟨g, c', hv, _⟩ := x.rowCell h (j := 0) (u := str s) rfl
    cases hv
    refine ⟨g, 0, rfl, fun j u hu => ?_⟩
    obtain ⟨g', c'', hv, hc⟩ := x.rowCell h (j := j) (u := str u) (by rw [List.getElem?_map, hu]; rfl)
    cases hv
    simpa using hc
theorem Xs.natsCell (x : Xs X) {e : Nat} {v : Value} {l : List Nat} (h : X (.row e 1 v l.length (l.map nat) :: L) S w) {j n : Nat} (hn : l[j]? = some n) :
    ∃ g c, v = .slice (some ⟨g, 0, none⟩) l.length c ∧ w.cell? ⟨g, j, none⟩ = some (nat n) := x.rowCell h (by rw [List.getElem?_map, hn]; rfl)
end
end Go.Proofs.Ytjjbidajkmodfaa
namespace Go.Proofs
open Go.Shelf
def Try.lays217_ren : Go.Shelf.Ren := ⟨fun | 217 => 96 | 266 => 108 | n => n, fun | 9 => 9 | 5 => 5 | 3 => 3 | n => n, fun | n => n⟩
theorem Try.lays217 : Go.Proofs.Lays.n217 Try.prog Try.lays217_ren := {
  mixed := by kernel_rfl
  f217 := Try.func96.trans (congrArg some (by kernel_rfl))
  f266 := Try.func108.trans (congrArg some (by kernel_rfl))
  t3 := Try.underlying3
  a3 := Try.isAgg3
  z3 := Try.sizeOf3
  v3 := Try.zeroValue3
  t5 := Try.underlying5
  a5 := Try.isAgg5
  z5 := Try.sizeOf5
  v5 := Try.zeroValue5
  t9 := Try.underlying9
  a9 := Try.isAgg9
  z9 := Try.sizeOf9
  v9 := Try.zeroValue9 }
open Go.RowKit Go.Lib in
theorem Try.stringslite_IndexByte (s : ByteArray) (c : Int) (w : World) :
    Calls Try.prog 96 #[.string s, .int .u8 c] w fun e w' => e = .returned (.int .i64 (Lib.indexByte s.data.toList c.toNat.toUInt8)) ∧ w' = w := Any.stringslite_IndexByte Try.lays217 s c w
def Try.lays224_ren : Go.Shelf.Ren := ⟨fun | 224 => 98 | n => n, fun | 3 => 3 | n => n, fun | n => n⟩
theorem Try.lays224 : Go.Proofs.Lays.n224 Try.prog Try.lays224_ren := {
  mixed := by kernel_rfl
  f224 := Try.func98.trans (congrArg some (by kernel_rfl))
  t3 := Try.underlying3
  a3 := Try.isAgg3
  z3 := Try.sizeOf3
  v3 := Try.zeroValue3 }
open Go.RowKit Go.Lib in
theorem Try.bytealg_Cutover (n : Int) (h0 : 0 ≤ n) (h1 : n < 4611686018427387904) (w : World) :
    Calls Try.prog 98 #[.int .i64 n] w fun e w' => e = .returned (.int .i64 ((n + 16) / 8)) ∧ w' = w := Any.bytealg_Cutover Try.lays224 n h0 h1 w
def Try.lays314_ren : Go.Shelf.Ren := ⟨fun | 314 => 109 | n => n, fun | 9 => 9 | 51 => 120 | 3 => 3 | 4 => 4 | 5 => 5 | 46 => 78 | n => n, fun | n => n⟩
theorem Try.lays314 : Go.Proofs.Lays.n314 Try.prog Try.lays314_ren := {
  mixed := by kernel_rfl
  f314 := Try.func109.trans (congrArg some (by kernel_rfl))
  t3 := Try.underlying3
  a3 := Try.isAgg3
  z3 := Try.sizeOf3
  v3 := Try.zeroValue3
  t4 := Try.underlying4
  a4 := Try.isAgg4
  z4 := Try.sizeOf4
  v4 := Try.zeroValue4
  t5 := Try.underlying5
  a5 := Try.isAgg5
  z5 := Try.sizeOf5
  v5 := Try.zeroValue5
  t9 := Try.underlying9
  a9 := Try.isAgg9
  z9 := Try.sizeOf9
  v9 := Try.zeroValue9
  t46 := Try.underlying78
  a46 := Try.isAgg78
  z46 := Try.sizeOf78
  v46 := Try.zeroValue78
  t51 := Try.underlying120
  a51 := Try.isAgg120
  z51 := Try.sizeOf120
  v51 := Try.zeroValue120 }
open Go.RowKit Go.Lib in
theorem Try.bytealg_hashStr (sep : ByteArray) (hs : sep.size < 4294967281) (w : World) :
    Calls Try.prog 109 #[.string sep] w fun e w' => e = .returned (.tuple #[.int .u32 (RK.H sep.data.toList % 4294967296), .int .u32 (16777619 ^ sep.size % 4294967296)]) ∧ w' = w := Any.bytealg_hashStr Try.lays314 sep hs w
def Try.lays267_ren : Go.Shelf.Ren := ⟨fun | 267 => 99 | 314 => 109 | n => n, fun | 9 => 9 | 3 => 3 | 146 => 121 | 51 => 120 | 4 => 4 | 5 => 5 | 46 => 78 | n => n, fun | n => n⟩
theorem Try.lays267 : Go.Proofs.Lays.n267 Try.prog Try.lays267_ren := {
  mixed := by kernel_rfl
  f267 := Try.func99.trans (congrArg some (by kernel_rfl))
  f314 := Try.func109.trans (congrArg some (by kernel_rfl))
  t3 := Try.underlying3
  a3 := Try.isAgg3
  z3 := Try.sizeOf3
  v3 := Try.zeroValue3
  t4 := Try.underlying4
  a4 := Try.isAgg4
  z4 := Try.sizeOf4
  v4 := Try.zeroValue4
  t5 := Try.underlying5
  a5 := Try.isAgg5
  z5 := Try.sizeOf5
  v5 := Try.zeroValue5
  t9 := Try.underlying9
  a9 := Try.isAgg9
  z9 := Try.sizeOf9
  v9 := Try.zeroValue9
  t46 := Try.underlying78
  a46 := Try.isAgg78
  z46 := Try.sizeOf78
  v46 := Try.zeroValue78
  t51 := Try.underlying120
  a51 := Try.isAgg120
  z51 := Try.sizeOf120
  v51 := Try.zeroValue120
  t146 := Try.underlying121
  a146 := Try.isAgg121
  z146 := Try.sizeOf121
  v146 := Try.zeroValue121 }
open Go.RowKit Go.Lib in
theorem Try.bytealg_IndexRabinKarp (s sep : ByteArray) (h1 : 1 ≤ sep.size) (h2 : sep.size ≤ s.size) (hs : s.size < 4294967281) (w : World) :
    Calls Try.prog 99 #[.string s, .string sep] w fun e w' => e = .returned (.int .i64 (Lib.index s.data.toList sep.data.toList)) ∧ w' = w := Any.bytealg_IndexRabinKarp Try.lays267 s sep h1 h2 hs w
def Try.lays219_ren : Go.Shelf.Ren := ⟨fun | 219 => 67 | 217 => 96 | 225 => 97 | 224 => 98 | 267 => 99 | 266 => 108 | 314 => 109 | n => n, fun | 9 => 9 | 3 => 3 | 4 => 4 | 5 => 5 | 46 => 78 | 146 => 121 | 51 => 120 | n => n, fun | 1 => 0 | n => n⟩
theorem Try.lays219 : Go.Proofs.Lays.n219 Try.prog Try.lays219_ren := {
  mixed := by kernel_rfl
  f217 := Try.func96.trans (congrArg some (by kernel_rfl))
  f219 := Try.func67.trans (congrArg some (by kernel_rfl))
  f224 := Try.func98.trans (congrArg some (by kernel_rfl))
  f225 := Try.func97.trans (congrArg some (by kernel_rfl))
  f266 := Try.func108.trans (congrArg some (by kernel_rfl))
  f267 := Try.func99.trans (congrArg some (by kernel_rfl))
  f314 := Try.func109.trans (congrArg some (by kernel_rfl))
  t3 := Try.underlying3
  a3 := Try.isAgg3
  z3 := Try.sizeOf3
  v3 := Try.zeroValue3
  t4 := Try.underlying4
  a4 := Try.isAgg4
  z4 := Try.sizeOf4
  v4 := Try.zeroValue4
  t5 := Try.underlying5
  a5 := Try.isAgg5
  z5 := Try.sizeOf5
  v5 := Try.zeroValue5
  t9 := Try.underlying9
  a9 := Try.isAgg9
  z9 := Try.sizeOf9
  v9 := Try.zeroValue9
  t46 := Try.underlying78
  a46 := Try.isAgg78
  z46 := Try.sizeOf78
  v46 := Try.zeroValue78
  t51 := Try.underlying120
  a51 := Try.isAgg120
  z51 := Try.sizeOf120
  v51 := Try.zeroValue120
  t146 := Try.underlying121
  a146 := Try.isAgg121
  z146 := Try.sizeOf121
  v146 := Try.zeroValue121
  g1 := by kernel_rfl }
open Go.RowKit Go.Lib in
theorem Try.stringslite_Index_one (s : ByteArray) (c : UInt8) (w : World) :
    Calls Try.prog 67 #[.string s, .string ⟨#[c]⟩] w fun e w' => e = .returned (.int .i64 (Lib.indexByte s.data.toList c)) ∧ w' = w := Any.stringslite_Index_one Try.lays219 s c w
open Go.RowKit Go.Lib in
theorem Try.stringslite_Index (s sub : ByteArray) (m : Int) (w : World) (hs : s.size < 4294967281) (hm : w.cell? ⟨0, 0, none⟩ = some (.int .i64 m)) :
    Calls Try.prog 67 #[.string s, .string sub] w fun e w' => e = .returned (.int .i64 (Lib.index s.data.toList sub.data.toList)) ∧ w' = w := Any.stringslite_Index Try.lays219 s sub m w hs hm
def Try.lays143_ren : Go.Shelf.Ren := ⟨fun | 143 => 39 | 219 => 67 | 217 => 96 | 225 => 97 | 224 => 98 | 267 => 99 | 266 => 108 | 314 => 109 | n => n, fun | 9 => 9 | 3 => 3 | 4 => 4 | 5 => 5 | 46 => 78 | 146 => 121 | 51 => 120 | n => n, fun | 1 => 0 | n => n⟩
theorem Try.lays143 : Go.Proofs.Lays.n143 Try.prog Try.lays143_ren := {
  mixed := by kernel_rfl
  f143 := Try.func39.trans (congrArg some (by kernel_rfl))
  f217 := Try.func96.trans (congrArg some (by kernel_rfl))
  f219 := Try.func67.trans (congrArg some (by kernel_rfl))
  f224 := Try.func98.trans (congrArg some (by kernel_rfl))
  f225 := Try.func97.trans (congrArg some (by kernel_rfl))
  f266 := Try.func108.trans (congrArg some (by kernel_rfl))
  f267 := Try.func99.trans (congrArg some (by kernel_rfl))
  f314 := Try.func109.trans (congrArg some (by kernel_rfl))
  t3 := Try.underlying3
  a3 := Try.isAgg3
  z3 := Try.sizeOf3
  v3 := Try.zeroValue3
  t4 := Try.underlying4
  a4 := Try.isAgg4
  z4 := Try.sizeOf4
  v4 := Try.zeroValue4
  t5 := Try.underlying5
  a5 := Try.isAgg5
  z5 := Try.sizeOf5
  v5 := Try.zeroValue5
  t9 := Try.underlying9
  a9 := Try.isAgg9
  z9 := Try.sizeOf9
  v9 := Try.zeroValue9
  t46 := Try.underlying78
  a46 := Try.isAgg78
  z46 := Try.sizeOf78
  v46 := Try.zeroValue78
  t51 := Try.underlying120
  a51 := Try.isAgg120
  z51 := Try.sizeOf120
  v51 := Try.zeroValue120
  t146 := Try.underlying121
  a146 := Try.isAgg121
  z146 := Try.sizeOf121
  v146 := Try.zeroValue121
  g1 := by kernel_rfl }
open Go.RowKit Go.Lib in
theorem Try.strings_Index_one (s : ByteArray) (c : UInt8) (w : World) :
    Calls Try.prog 39 #[.string s, .string ⟨#[c]⟩] w fun e w' => e = .returned (.int .i64 (Lib.indexByte s.data.toList c)) ∧ w' = w := Any.strings_Index_one Try.lays143 s c w
open Go.RowKit Go.Lib in
theorem Try.strings_Index (s sub : ByteArray) (m : Int) (w : World) (hs : s.size < 4294967281) (hm : w.cell? ⟨0, 0, none⟩ = some (.int .i64 m)) :
    Calls Try.prog 39 #[.string s, .string sub] w fun e w' => e = .returned (.int .i64 (Lib.index s.data.toList sub.data.toList)) ∧ w' = w := Any.strings_Index Try.lays143 s sub m w hs hm
def Try.lays144_ren : Go.Shelf.Ren := ⟨fun | 144 => 27 | 143 => 39 | 219 => 67 | 217 => 96 | 225 => 97 | 224 => 98 | 267 => 99 | 266 => 108 | 314 => 109 | n => n, fun | 9 => 9 | 4 => 4 | 3 => 3 | 5 => 5 | 46 => 78 | 146 => 121 | 51 => 120 | n => n, fun | 1 => 0 | n => n⟩
theorem Try.lays144 : Go.Proofs.Lays.n144 Try.prog Try.lays144_ren := {
  mixed := by kernel_rfl
  f143 := Try.func39.trans (congrArg some (by kernel_rfl))
  f144 := Try.func27.trans (congrArg some (by kernel_rfl))
  f217 := Try.func96.trans (congrArg some (by kernel_rfl))
  f219 := Try.func67.trans (congrArg some (by kernel_rfl))
  f224 := Try.func98.trans (congrArg some (by kernel_rfl))
  f225 := Try.func97.trans (congrArg some (by kernel_rfl))
  f266 := Try.func108.trans (congrArg some (by kernel_rfl))
  f267 := Try.func99.trans (congrArg some (by kernel_rfl))
  f314 := Try.func109.trans (congrArg some (by kernel_rfl))
  t3 := Try.underlying3
  a3 := Try.isAgg3
  z3 := Try.sizeOf3
  v3 := Try.zeroValue3
  t4 := Try.underlying4
  a4 := Try.isAgg4
  z4 := Try.sizeOf4
  v4 := Try.zeroValue4
  t5 := Try.underlying5
  a5 := Try.isAgg5
  z5 := Try.sizeOf5
  v5 := Try.zeroValue5
  t9 := Try.underlying9
  a9 := Try.isAgg9
  z9 := Try.sizeOf9
  v9 := Try.zeroValue9
  t46 := Try.underlying78
  a46 := Try.isAgg78
  z46 := Try.sizeOf78
  v46 := Try.zeroValue78
  t51 := Try.underlying120
  a51 := Try.isAgg120
  z51 := Try.sizeOf120
  v51 := Try.zeroValue120
  t146 := Try.underlying121
  a146 := Try.isAgg121
  z146 := Try.sizeOf121
  v146 := Try.zeroValue121
  g1 := by kernel_rfl }
open Go.RowKit Go.Lib in
theorem Try.strings_Contains_one (s : ByteArray) (c : UInt8) (w : World) :
    Calls Try.prog 27 #[.string s, .string ⟨#[c]⟩] w fun e w' => e = .returned (.bool (decide (0 ≤ Lib.indexByte s.data.toList c))) ∧ w' = w := Any.strings_Contains_one Try.lays144 s c w
open Go.RowKit Go.Lib in
theorem Try.strings_Contains (s sub : ByteArray) (m : Int) (w : World) (hs : s.size < 4294967281) (hm : w.cell? ⟨0, 0, none⟩ = some (.int .i64 m)) :
    Calls Try.prog 27 #[.string s, .string sub] w fun e w' => e = .returned (.bool (Lib.contains s.data.toList sub.data.toList)) ∧ w' = w := Any.strings_Contains Try.lays144 s sub m w hs hm
def Try.laysM219_ren : Go.Shelf.Ren := ⟨fun | 219 => 67 | 217 => 96 | 225 => 97 | 224 => 98 | 267 => 99 | 266 => 108 | 314 => 109 | n => n, fun | 9 => 9 | 3 => 3 | 4 => 4 | 5 => 5 | 46 => 78 | 146 => 121 | 51 => 120 | n => n, fun | 1 => 0 | n => n⟩
theorem Try.laysM219 : Go.Proofs.LaysM.n219 Try.prog Try.laysM219_ren := {
  mixed := by kernel_rfl
  f217 := Try.func96.trans (congrArg some (by kernel_rfl))
  f219 := Try.func67.trans (congrArg some (by kernel_rfl))
  f224 := Try.func98.trans (congrArg some (by kernel_rfl))
  f225 := Try.func97.trans (congrArg some (by kernel_rfl))
  f266 := Try.func108.trans (congrArg some (by kernel_rfl))
  f267 := Try.func99.trans (congrArg some (by kernel_rfl))
  f314 := Try.func109.trans (congrArg some (by kernel_rfl))
  t3 := Try.underlying3
  a3 := Try.isAgg3
  z3 := Try.sizeOf3
  v3 := Try.zeroValue3
  t4 := Try.underlying4
  a4 := Try.isAgg4
  z4 := Try.sizeOf4
  v4 := Try.zeroValue4
  t5 := Try.underlying5
  a5 := Try.isAgg5
  z5 := Try.sizeOf5
  v5 := Try.zeroValue5
  t9 := Try.underlying9
  a9 := Try.isAgg9
  z9 := Try.sizeOf9
  v9 := Try.zeroValue9
  t46 := Try.underlying78
  a46 := Try.isAgg78
  z46 := Try.sizeOf78
  v46 := Try.zeroValue78
  t51 := Try.underlying120
  a51 := Try.isAgg120
  z51 := Try.sizeOf120
  v51 := Try.zeroValue120
  t146 := Try.underlying121
  a146 := Try.isAgg121
  z146 := Try.sizeOf121
  v146 := Try.zeroValue121
  g1 := by kernel_rfl
  i3 := by kernel_rfl
  i4 := by kernel_rfl
  i5 := by kernel_rfl
  i9 := by kernel_rfl
  i46 := by kernel_rfl
  i51 := by kernel_rfl
  i146 := by kernel_rfl
  m1 := by kernel_rfl
  s1_3 := fun w h => Go.Proofs.cell_of_shapedOpen_int (zero := #[.int .i64 0]) (t := 3) h (of_decide_eq_true (by kernel_rfl)) (by kernel_rfl) rfl (by kernel_rfl) (by kernel_rfl) Try.underlying3 }
open Go.RowKit Go.Lib in
theorem Try.stringslite_Index_shaped (s sub : ByteArray) (w : World) (h : w.ShapedOpen Try.prog) (hs : s.size < 4294967281) :
    Calls Try.prog 67 #[.string s, .string sub] w fun e w' => e = .returned (.int .i64 (Lib.index s.data.toList sub.data.toList)) ∧ w' = w := Any.stringslite_Index_shaped Try.laysM219 s sub w h hs
def Try.laysM143_ren : Go.Shelf.Ren := ⟨fun | 143 => 39 | 219 => 67 | 217 => 96 | 225 => 97 | 224 => 98 | 267 => 99 | 266 => 108 | 314 => 109 | n => n, fun | 9 => 9 | 3 => 3 | 4 => 4 | 5 => 5 | 46 => 78 | 146 => 121 | 51 => 120 | n => n, fun | 1 => 0 | n => n⟩
theorem Try.laysM143 : Go.Proofs.LaysM.n143 Try.prog Try.laysM143_ren := {
  mixed := by kernel_rfl
  f143 := Try.func39.trans (congrArg some (by kernel_rfl))
  f217 := Try.func96.trans (congrArg some (by kernel_rfl))
  f219 := Try.func67.trans (congrArg some (by kernel_rfl))
  f224 := Try.func98.trans (congrArg some (by kernel_rfl))
  f225 := Try.func97.trans (congrArg some (by kernel_rfl))
  f266 := Try.func108.trans (congrArg some (by kernel_rfl))
  f267 := Try.func99.trans (congrArg some (by kernel_rfl))
  f314 := Try.func109.trans (congrArg some (by kernel_rfl))
  t3 := Try.underlying3
  a3 := Try.isAgg3
  z3 := Try.sizeOf3
  v3 := Try.zeroValue3
  t4 := Try.underlying4
  a4 := Try.isAgg4
  z4 := Try.sizeOf4
  v4 := Try.zeroValue4
  t5 := Try.underlying5
  a5 := Try.isAgg5
  z5 := Try.sizeOf5
  v5 := Try.zeroValue5
  t9 := Try.underlying9
  a9 := Try.isAgg9
  z9 := Try.sizeOf9
  v9 := Try.zeroValue9
  t46 := Try.underlying78
  a46 := Try.isAgg78
  z46 := Try.sizeOf78
  v46 := Try.zeroValue78
  t51 := Try.underlying120
  a51 := Try.isAgg120
  z51 := Try.sizeOf120
  v51 := Try.zeroValue120
  t146 := Try.underlying121
  a146 := Try.isAgg121
  z146 := Try.sizeOf121
  v146 := Try.zeroValue121
  g1 := by kernel_rfl
  i3 := by kernel_rfl
  i4 := by kernel_rfl
  i5 := by kernel_rfl
  i9 := by kernel_rfl
  i46 := by kernel_rfl
  i51 := by kernel_rfl
  i146 := by kernel_rfl
  m1 := by kernel_rfl
  s1_3 := fun w h => Go.Proofs.cell_of_shapedOpen_int (zero := #[.int .i64 0]) (t := 3) h (of_decide_eq_true (by kernel_rfl)) (by kernel_rfl) rfl (by kernel_rfl) (by kernel_rfl) Try.underlying3 }
open Go.RowKit Go.Lib in
theorem Try.strings_Index_shaped (s sub : ByteArray) (w : World) (h : w.ShapedOpen Try.prog) (hs : s.size < 4294967281) :
    Calls Try.prog 39 #[.string s, .string sub] w fun e w' => e = .returned (.int .i64 (Lib.index s.data.toList sub.data.toList)) ∧ w' = w := Any.strings_Index_shaped Try.laysM143 s sub w h hs
def Try.laysM144_ren : Go.Shelf.Ren := ⟨fun | 144 => 27 | 143 => 39 | 219 => 67 | 217 => 96 | 225 => 97 | 224 => 98 | 267 => 99 | 266 => 108 | 314 => 109 | n => n, fun | 9 => 9 | 4 => 4 | 3 => 3 | 5 => 5 | 46 => 78 | 146 => 121 | 51 => 120 | n => n, fun | 1 => 0 | n => n⟩
theorem Try.laysM144 : Go.Proofs.LaysM.n144 Try.prog Try.laysM144_ren := {
  mixed := by kernel_rfl
  f143 := Try.func39.trans (congrArg some (by kernel_rfl))
  f144 := Try.func27.trans (congrArg some (by kernel_rfl))
  f217 := Try.func96.trans (congrArg some (by kernel_rfl))
  f219 := Try.func67.trans (congrArg some (by kernel_rfl))
  f224 := Try.func98.trans (congrArg some (by kernel_rfl))
  f225 := Try.func97.trans (congrArg some (by kernel_rfl))
  f266 := Try.func108.trans (congrArg some (by kernel_rfl))
  f267 := Try.func99.trans (congrArg some (by kernel_rfl))
  f314 := Try.func109.trans (congrArg some (by kernel_rfl))
  t3 := Try.underlying3
  a3 := Try.isAgg3
  z3 := Try.sizeOf3
  v3 := Try.zeroValue3
  t4 := Try.underlying4
  a4 := Try.isAgg4
  z4 := Try.sizeOf4
  v4 := Try.zeroValue4
  t5 := Try.underlying5
  a5 := Try.isAgg5
  z5 := Try.sizeOf5
  v5 := Try.zeroValue5
  t9 := Try.underlying9
  a9 := Try.isAgg9
  z9 := Try.sizeOf9
  v9 := Try.zeroValue9
  t46 := Try.underlying78
  a46 := Try.isAgg78
  z46 := Try.sizeOf78
  v46 := Try.zeroValue78
  t51 := Try.underlying120
  a51 := Try.isAgg120
  z51 := Try.sizeOf120
  v51 := Try.zeroValue120
  t146 := Try.underlying121
  a146 := Try.isAgg121
  z146 := Try.sizeOf121
  v146 := Try.zeroValue121
  g1 := by kernel_rfl
  i3 := by kernel_rfl
  i4 := by kernel_rfl
  i5 := by kernel_rfl
  i9 := by kernel_rfl
  i46 := by kernel_rfl
  i51 := by kernel_rfl
  i146 := by kernel_rfl
  m1 := by kernel_rfl
  s1_3 := fun w h => Go.Proofs.cell_of_shapedOpen_int (zero := #[.int .i64 0]) (t := 3) h (of_decide_eq_true (by kernel_rfl)) (by kernel_rfl) rfl (by kernel_rfl) (by kernel_rfl) Try.underlying3 }
open Go.RowKit Go.Lib in
theorem Try.strings_Contains_shaped (s sub : ByteArray) (w : World) (h : w.ShapedOpen Try.prog) (hs : s.size < 4294967281) :
    Calls Try.prog 27 #[.string s, .string sub] w fun e w' => e = .returned (.bool (Lib.contains s.data.toList sub.data.toList)) ∧ w' = w := Any.strings_Contains_shaped Try.laysM144 s sub w h hs
end Go.Proofs
namespace Go.Proofs.Ytjjbidajkmodfaa
open Go Go.RowKit
theorem Wd.setMap {S : Seal} {L : List Atom} {w : World} {b k k' : Nat} {es es' : Array MapEntry} (h : Wd S (.map b es k :: L) w) : Wd S (.map b es' k' :: L) { w with heap := w.heap.setIfInBounds b (.map es' k') } := by
  have hb : w.heap[b]? = some (.map es k) := h.own _ List.mem_cons_self
  have hh := MapKept.heap_set (o' := .map es' k') hb
  exact h.turn rfl rfl rfl (fun g _ hg => hh.2 g fun e => hg (by rw [e]; rfl)) hh.1 fun g hg => .inl hg
section
variable {X : List Atom → Seal → World → Prop} {L : List Atom} {S : Seal} {w : World} {P : Program} {t kt e : TypeId} {kd : TypeDesc} {b clock : Nat} {es : Array MapEntry}
theorem Xs.mapHeap (x : Xs X) (h : X (.map b es clock :: L) S w) : w.heap[b]? = some (.map es clock) := let ⟨_, k, _⟩ := x.front h; k.own _ List.mem_cons_self
theorem Xs.allocMap (x : Xs X) (h : X L S w) (es : Array MapEntry) (k : Nat) : X (.map w.heap.size es k :: L) S (w.alloc (.map es k)) := by
  obtain ⟨H, a, b⟩ := x _ S w h
  exact b _ _ _ (.refl S) ((a.allocMap es k).perm List.perm_middle.symm)
theorem Xs.setMap (x : Xs X) (h : X (.map b es clock :: L) S w) (es' : Array MapEntry) (k' : Nat) : X (.map b es' k' :: L) S { w with heap := w.heap.setIfInBounds b (.map es' k') } := by
  obtain ⟨H, k, g⟩ := x.front h
  exact g _ _ _ (.refl S) k.setMap
theorem run_mapUpdate_new {key val : Value} (ht : P.underlying t = some (.map kt e)) (hk : P.underlying kt = some kd) (hb : w.heap[b]? = some (.map es clock)) (hkey : MapKept.IsKey kd key) (hn : Instr.findNow kd key es.toList 0 = some none) :
    (Instr.mapUpdate t (.map (some b)) key val).run P w = .ok () { w with heap := w.heap.setIfInBounds b (.map (es.push ⟨key, val, clock⟩) (clock + 1)) } := by
  simp [Instr.mapUpdate, run_underlying ht, MapKept.run_getObj_map hb, MapKept.run_checkKey hk hkey, MapKept.run_findKey hk hn, MapKept.run_setObj_map _ hb, Result.andThen]
theorem run_lookup_ok {key v : Value} {i : Nat} (ht : P.underlying t = some (.map kt e)) (hk : P.underlying kt = some kd) (hb : w.heap[b]? = some (.map es clock)) (hkey : MapKept.IsKey kd key) (hn : Instr.findNow kd key es.toList 0 = some (some (i, v))) :
    (Instr.lookup t (.map (some b)) key true).run P w = .ok (.tuple #[v, .bool true]) w := by
  simp [Instr.lookup, run_underlying ht, MapKept.run_getObj_map hb, MapKept.run_checkKey hk hkey, MapKept.run_findKey hk hn, Result.andThen]
theorem run_lookup_none {key z : Value} (ht : P.underlying t = some (.map kt e)) (hk : P.underlying kt = some kd) (hb : w.heap[b]? = some (.map es clock)) (hkey : MapKept.IsKey kd key) (hn : Instr.findNow kd key es.toList 0 = some none) (hz : (zeroValue e).run P w = .ok z w) :
    (Instr.lookup t (.map (some b)) key true).run P w = .ok (.tuple #[z, .bool false]) w := by
  simp [Instr.lookup, run_underlying ht, MapKept.run_getObj_map hb, MapKept.run_checkKey hk hkey, MapKept.run_findKey hk hn, Result.andThen, hz]
theorem run_lookup1 {key v : Value} {i : Nat} (ht : P.underlying t = some (.map kt e)) (hk : P.underlying kt = some kd) (hb : w.heap[b]? = some (.map es clock)) (hkey : MapKept.IsKey kd key) (hn : Instr.findNow kd key es.toList 0 = some (some (i, v))) :
    (Instr.lookup t (.map (some b)) key false).run P w = .ok v w := by
  simp [Instr.lookup, run_underlying ht, MapKept.run_getObj_map hb, MapKept.run_checkKey hk hkey, MapKept.run_findKey hk hn, Result.andThen]
theorem run_lookup0 {key z : Value} (ht : P.underlying t = some (.map kt e)) (hk : P.underlying kt = some kd) (hb : w.heap[b]? = some (.map es clock)) (hkey : MapKept.IsKey kd key) (hn : Instr.findNow kd key es.toList 0 = some none) (hz : (zeroValue e).run P w = .ok z w) :
    (Instr.lookup t (.map (some b)) key false).run P w = .ok z w := by
  simp [Instr.lookup, run_underlying ht, MapKept.run_getObj_map hb, MapKept.run_checkKey hk hkey, MapKept.run_findKey hk hn, Result.andThen, hz]
theorem run_insX (x : Xs X) (ht : P.underlying t = some (.map kt e)) (hk : P.underlying kt = some kd) (h : X (.map b es clock :: L) S w) (key val : Value) (hkey : MapKept.IsKey kd key) (hn : Instr.findNow kd key es.toList 0 = some none) :
    ∃ w', (Instr.mapUpdate t (.map (some b)) key val).run P w = .ok () w' ∧ X (.map b (es.push ⟨key, val, clock⟩) (clock + 1) :: L) S w' :=
  ⟨_, run_mapUpdate_new ht hk (x.mapHeap h) hkey hn, x.setMap h _ _⟩
theorem wpList_insertX (x : Xs X) {ops : Array Oper} {rest : List Oper} {o : Oper} {a : Act} {Q : Exit → Act → World → Prop} (hg : o.guard = none) (m k v : Operand) (t : TypeId) (hop : o.op = Op.insert t m k v) (ht : P.underlying t = some (.map kt e)) (hk : P.underlying kt = some kd)
    (hm : a.eval m = .map (some b)) (h : X (.map b es clock :: L) S w) (key val : Value) (hx : a.eval k = key) (hv : a.eval v = val) (hkey : MapKept.IsKey kd key) (hn : Instr.findNow kd key es.toList 0 = some none)
    (hK : ∀ w', X (.map b (es.push ⟨key, val, clock⟩) (clock + 1) :: L) S w' → wpList P ops Q rest (a.put o.dst undef) w') : wpList P ops Q (o :: rest) a w := by
  refine wpList_plain hg fun K' hK' => ?_
  have hrun := run_mapUpdate_new (val := val) ht hk (x.mapHeap h) hkey hn
  unfold Oper.wp
  simp [execOp, hop, hm, hx, hv, hrun, Result.andThen]
  exact hK' _ _ (hK _ (x.setMap h _ _))
theorem wpList_mapUpdateX (x : Xs X) {ops : Array Oper} {rest : List Oper} {o : Oper} {a : Act} {Q : Exit → Act → World → Prop} (hg : o.guard = none) (m k v : Operand) (t : TypeId) (hop : o.op = Op.mapUpdate t m k v) (ht : P.underlying t = some (.map kt e)) (hk : P.underlying kt = some kd)
    (hm : a.eval m = .map (some b)) (h : X (.map b es clock :: L) S w) (key val : Value) (hx : a.eval k = key) (hv : a.eval v = val) (hkey : MapKept.IsKey kd key) (hn : Instr.findNow kd key es.toList 0 = some none)
    (hK : ∀ w', X (.map b (es.push ⟨key, val, clock⟩) (clock + 1) :: L) S w' → wpList P ops Q rest (a.put o.dst undef) w') : wpList P ops Q (o :: rest) a w := by
  refine wpList_plain hg fun K' hK' => ?_
  have hrun := run_mapUpdate_new (val := val) ht hk (x.mapHeap h) hkey hn
  unfold Oper.wp
  simp [execOp, hop, hm, hx, hv, hrun, Result.andThen]
  exact hK' _ _ (hK _ (x.setMap h _ _))
end
end Go.Proofs.Ytjjbidajkmodfaa
namespace Go.Proofs.Ytjjbidajkmodfaa
open Go Go.RowKit
structure RNode where
  kind : Int
  at_ : Int
  n : Int
  s : Str
  l : List Int
instance : Inhabited RNode := ⟨⟨0, 0, 0, [], []⟩⟩
abbrev int (n : Int) : Value := .int .i64 n
def IntsR (S : Seal) (v : Value) (l : List Int) : Prop := Sl S 1 v l.length (l.map int)
theorem IntsR.mono {S S' : Seal} (k : S.le S') {v : Value} {l : List Int} (h : IntsR S v l) : IntsR S' v l := Sl.mono k h
theorem NatsR.ints {S : Seal} {v : Value} {l : List Nat} (h : NatsR S v l) : IntsR S v (l.map Int.ofNat) := by
  unfold IntsR; unfold NatsR at h; rw [List.length_map, List.map_map]; exact h
theorem IntsR.nats {S : Seal} {v : Value} {l : List Int} (h : IntsR S v l) (h0 : ∀ x ∈ l, 0 ≤ x) : NatsR S v (l.map Int.toNat) := by
  unfold NatsR; unfold IntsR at h
  have : l.map int = (l.map Int.toNat).map nat := by
    rw [List.map_map]
    refine List.map_congr_left fun x hx => ?_
    show int x = nat x.toNat
    exact congrArg (Value.int .i64) (Int.toNat_of_nonneg (h0 x hx)).symm
  rw [← this, List.length_map]; exact h
theorem IntsR.at_ {S : Seal} {v : Value} {l : List Int} (h : IntsR S v l) (h0 : l ≠ []) : ∃ b off c, v = .slice (some ⟨b, off, none⟩) l.length c ∧ l.length ≤ c ∧ c ≤ maxLen ∧ ∀ j n, l[j]? = some n → Sc S b (off + j) (int n) := by
  obtain ⟨b, off, c, hv, h1, h2, h3⟩ := Sl.at_ h (by cases l with | nil => exact absurd rfl h0 | cons => simp)
  exact ⟨b, off, c, hv, h1, h2, fun j n hj => h3 j _ (by rw [List.getElem?_map, hj]; rfl)⟩
theorem IntsR.len {S : Seal} {v : Value} {d : List Int} (h : IntsR S v d) : d.length ≤ 9223372036854775807 := by
  obtain ⟨A, c, _, h1, h2⟩ := Sl.shape h
  unfold maxLen at h2; omega
structure RNodeAt (S : Seal) (b o : Nat) (x : RNode) (lv : Value) : Prop where
  c0 : Sc S b o (.int .u8 x.kind)
  c1 : Sc S b (o + 1) (.int .i64 x.at_)
  c2 : Sc S b (o + 2) (.int .i64 x.n)
  c3 : Sc S b (o + 3) (str x.s)
  c4 : Sc S b (o + 4) lv
  l : IntsR S lv x.l
theorem RNodeAt.mono {S S' : Seal} (k : S.le S') {b o : Nat} {x : RNode} {lv : Value} (h : RNodeAt S b o x lv) : RNodeAt S' b o x lv :=
  ⟨h.c0.mono k, h.c1.mono k, h.c2.mono k, h.c3.mono k, h.c4.mono k, h.l.mono k⟩
def I64 (n : Int) : Prop := -9223372036854775808 ≤ n ∧ n ≤ 9223372036854775807
structure RNode.Ok (x : RNode) : Prop where
  n : I64 x.n
  s : x.s.length ≤ 140737488355328
def RNodesR (S : Seal) (v : Value) (rd : List RNode) : Prop :=
  (∀ x ∈ rd, x.Ok) ∧ ∃ A c, v = .slice A rd.length c ∧ rd.length ≤ c ∧ c ≤ maxLen ∧ (rd = [] ∨ ∃ b off, A = some ⟨b, off, none⟩ ∧ ∀ i x, rd[i]? = some x → ∃ lv, RNodeAt S b (off + i * 5) x lv)
theorem RNodesR.mono {S S' : Seal} (k : S.le S') {v : Value} {rd : List RNode} (h : RNodesR S v rd) : RNodesR S' v rd := by
  obtain ⟨h0, A, c, h1, h2, h3, h4⟩ := h
  refine ⟨h0, A, c, h1, h2, h3, ?_⟩
  rcases h4 with h4 | ⟨b, off, h4, h5⟩
  · exact .inl h4
  · exact .inr ⟨b, off, h4, fun i x hi => let ⟨lv, a⟩ := h5 i x hi; ⟨lv, a.mono k⟩⟩
theorem RNodesR.at_ {S : Seal} {A : Option Addr} {n c : Nat} {rd : List RNode} (h : RNodesR S (.slice A n c) rd) {k : Nat} (hk : k < rd.length) : ∃ b off, A = some ⟨b, off, none⟩ ∧ ∃ lv, RNodeAt S b (off + k * 5) rd[k] lv := by
  obtain ⟨_, A', c', hv, _, _, h4⟩ := h
  cases hv
  rcases h4 with rfl | ⟨b, off, rfl, h5⟩
  · simp at hk
  · exact ⟨b, off, rfl, h5 k _ (List.getElem?_eq_some_iff.2 ⟨hk, rfl⟩)⟩
theorem RNodesR.shape {S : Seal} {v : Value} {rd : List RNode} (h : RNodesR S v rd) : ∃ A c, v = .slice A rd.length c ∧ rd.length ≤ c ∧ c ≤ maxLen := by
  obtain ⟨_, A, c, h1, h2, h3, _⟩ := h; exact ⟨A, c, h1, h2, h3⟩
theorem RNodesR.len {S : Seal} {v : Value} {rd : List RNode} (h : RNodesR S v rd) : rd.length ≤ 9223372036854775807 := by
  obtain ⟨A, c, _, h1, h2⟩ := h.shape
  unfold maxLen at h2; omega
def Right (x : RNode) : Prop := 0 ≤ x.at_ ∧ (x.kind = 4 ∨ x.l = []) ∧ (x.kind = 1 ∧ x.s = [] ∨ x.kind = 2 ∧ x.s = [] ∧ (x.n = 0 ∨ x.n = 1) ∨ x.kind = 3 ∧ x.n = 0 ∨ x.kind = 4 ∧ x.s = [] ∧ x.n = 0)
instance (x : RNode) : Decidable (Right x) := by unfold Right; infer_instance
def linksGo (i : Nat) : List Int → List Int → Option (List Int)
  | seen, [] => some seen
  | seen, p :: l => if p < 0 ∨ (i : Int) ≤ p ∨ p ∈ seen then none else linksGo i (seen ++ [p]) l
def mayGo : List Int → Nat → List RNode → Bool
  | _, _, [] => true
  | seen, i, x :: rd => if Right x then (match linksGo i seen x.l with | none => false | some seen' => mayGo seen' (i + 1) rd) else false
def mayB (rd : List RNode) : Bool := mayGo [] 0 rd
def Node.raw (x : Node) : RNode := ⟨x.kind, x.at_, x.n, x.s, x.l.map Int.ofNat⟩
def RNode.node (x : RNode) : Node := ⟨x.kind, x.at_, x.n, x.s, x.l.map Int.toNat⟩
def ents (seen : List Int) : Array MapEntry := (seen.zipIdx.map fun x => ({ key := int x.1, val := int 1, born := x.2 } : MapEntry)).toArray
theorem ents_push (seen : List Int) (p : Int) : (ents seen).push ⟨int p, int 1, seen.length⟩ = ents (seen ++ [p]) := by
  unfold ents
  rw [List.zipIdx_append]
  simp
theorem findNow_ents (p : Int) : ∀ (seen : List Int) (a k : Nat), (p ∉ seen → Instr.findNow (.int .i64) (int p) (seen.zipIdx a |>.map fun x => ({ key := int x.1, val := int 1, born := x.2 } : MapEntry)) k = some none) ∧
    (p ∈ seen → ∃ i, Instr.findNow (.int .i64) (int p) (seen.zipIdx a |>.map fun x => ({ key := int x.1, val := int 1, born := x.2 } : MapEntry)) k = some (some (i, int 1)))
  | [], _, _ => ⟨fun _ => rfl, fun h => by cases h⟩
  | q :: seen, a, k => by
    have ih := findNow_ents p seen (a + 1) (k + 1)
    by_cases e : p = q
    · subst e
      refine ⟨fun h => absurd (List.mem_cons_self) h, fun _ => ⟨k, ?_⟩⟩
      simp [Instr.findNow, Instr.sameNow]
    · have hs : Instr.sameNow (.int .i64) (int p) (int q) = some false := by
        simp [Instr.sameNow, e]
      refine ⟨fun h => ?_, fun h => ?_⟩
      · simp only [List.zipIdx_cons, List.map_cons, Instr.findNow, hs]
        exact ih.1 fun h' => h (List.mem_cons_of_mem _ h')
      · obtain ⟨i, hi⟩ := ih.2 ((List.mem_cons.1 h).resolve_left e)
        refine ⟨i, ?_⟩
        simp only [List.zipIdx_cons, List.map_cons, Instr.findNow, hs]
        exact hi
theorem ents_none {p : Int} {seen : List Int} (h : p ∉ seen) : Instr.findNow (.int .i64) (int p) (ents seen).toList 0 = some none := (findNow_ents p seen 0 0).1 h
theorem ents_some {p : Int} {seen : List Int} (h : p ∈ seen) : ∃ i, Instr.findNow (.int .i64) (int p) (ents seen).toList 0 = some (some (i, int 1)) := (findNow_ents p seen 0 0).2 h
end Go.Proofs.Ytjjbidajkmodfaa
namespace Go.Proofs.Ytjjbidajkmodfaa
open Go Go.RowKit
structure Tok where
  kind : Int
  at_ : Nat
  n : Int := 0
  s : Str := []
instance : Inhabited Tok := ⟨{ kind := 0, at_ := 0 }⟩
def someL : Str := [33, 36, 37, 38, 42, 43, 45, 47, 58, 60, 61, 62, 63, 94, 95, 126]
def letterB (c : UInt8) : Bool :=
  (decide (97 ≤ (c.toNat : Int)) && decide ((c.toNat : Int) ≤ 122)) || (decide (65 ≤ (c.toNat : Int)) && decide ((c.toNat : Int) ≤ 90)) || (decide (48 ≤ (c.toNat : Int)) && decide ((c.toNat : Int) ≤ 57)) || someL.contains c
def digB (c : UInt8) : Bool := decide (48 ≤ (c.toNat : Int)) && decide ((c.toNat : Int) ≤ 57)
def wordR (l : Str) : Str := l.takeWhile letterB
def unsign (w : Str) : Str := if w.getD 0 0 = 45 then w.drop 1 else w
def numB (w : Str) : Bool := (unsign w).all digB && !(unsign w).isEmpty
def valN (w : Str) : Int := w.foldl (fun n c => n * 10 + ((c.toNat : Int) - 48)) 0
def valI (w : Str) : Int := if w.getD 0 0 = 45 then - valN (w.drop 1) else valN w
def oneE (w : Str) : Int := if numB w = false then (if 32 < w.length then 3 else 0) else if 13 < w.length then 51 else if valI w ≤ -1099511627776 ∨ 1099511627776 ≤ valI w then 51 else 0
def oneT (w : Str) (i : Nat) : Tok := if numB w = false then { kind := 6, at_ := i, s := w } else { kind := 4, at_ := i, n := valI w }
def markI (c : UInt8) : Int := if c = 40 then 1 else if c = 41 then 2 else if c = 39 then 3 else 0
def isNl (c : UInt8) : Bool := c != 10
inductive LR where
  | ok (l : List Tok)
  | bad (at_ : Nat) (e : Int)
def LR.pre (o : List Tok) : LR → LR
  | .ok l => .ok (o ++ l)
  | .bad a e => .bad a e
theorem LR.pre_nil (r : LR) : r.pre [] = r := by cases r <;> rfl
theorem LR.pre_pre (o o' : List Tok) (r : LR) : (r.pre o').pre o = r.pre (o ++ o') := by cases r <;> simp [LR.pre]
def lexF : Nat → Nat → Str → LR
  | _, _, [] => .ok []
  | 0, _, _ :: _ => .bad 0 0
  | k + 1, i, c :: r =>
    if c = 32 ∨ c = 9 ∨ c = 10 then lexF k (i + 1) r
    else if c = 59 then lexF k (i + 1 + (r.takeWhile isNl).length) (r.dropWhile isNl)
    else if markI c ≠ 0 then (lexF k (i + 1) r).pre [{ kind := markI c, at_ := i }]
    else if c = 35 then (if wordR r = [116] ∨ wordR r = [102] then (lexF k (i + 2) (r.drop 1)).pre [{ kind := 5, at_ := i, n := if wordR r = [116] then 1 else 0 }] else .bad i 50)
    else if letterB c = false then .bad i 50
    else if oneE (wordR (c :: r)) ≠ 0 then .bad i (oneE (wordR (c :: r)))
    else (lexF k (i + (wordR (c :: r)).length) ((c :: r).drop (wordR (c :: r)).length)).pre [oneT (wordR (c :: r)) i]
def lexS (s : Str) : LR := if 4000 < s.length then .bad 0 3 else lexF s.length 0 s
structure Part where
  at_ : Int
  quote : Bool
  l : List Nat
structure RS where
  row : List Node
  tops : List Nat
  op : List Part
def rput : List Part → List Node → List Nat → Node → RS
  | [], row, tops, x => ⟨row ++ [x], tops ++ [row.length], []⟩
  | p :: ps, row, tops, x => if p.quote = true ∧ p.l.length = 1 then rput ps (row ++ [x]) tops ⟨4, p.at_, 0, [], p.l ++ [row.length]⟩ else ⟨row ++ [x], tops, ⟨p.at_, p.quote, p.l ++ [row.length]⟩ :: ps⟩
def RS.put (r : RS) (x : Node) : RS := rput r.op r.row r.tops x
def RS.close (r : RS) : RS := match r.op with
  | [] => r
  | p :: ps => rput ps r.row r.tops ⟨4, p.at_, 0, [], p.l⟩
def RS.quoted (r : RS) : Bool := match r.op with
  | [] => false
  | p :: _ => p.quote
def RS.opened (r : RS) (t : Tok) : RS := { r with op := ⟨t.at_, t.kind == 3, []⟩ :: r.op }
def rtokE (r : RS) (t : Tok) : Int :=
  if t.kind = 1 ∨ t.kind = 3 then (if 50 ≤ r.op.length then 62 else 0) else if t.kind = 2 then (if r.quoted = true then 63 else if r.op = [] then 61 else 0) else 0
def rtok (r : RS) (t : Tok) : RS :=
  if t.kind = 4 then r.put ⟨1, t.at_, t.n, [], []⟩
  else if t.kind = 5 then r.put ⟨2, t.at_, t.n, [], []⟩
  else if t.kind = 6 then r.put ⟨3, t.at_, 0, t.s, []⟩
  else if t.kind = 1 then r.opened t
  else if t.kind = 3 then (r.opened t).put ⟨3, t.at_, 0, sQuote, []⟩
  else if t.kind = 2 then r.close else r
structure RdRes where
  row : List Node
  tops : List Nat
  at_ : Int
  e : Int
def rgo (all : List Tok) : RS → List Tok → RdRes
  | r, [] => match r.op with
    | [] => ⟨r.row, r.tops, 0, 0⟩
    | p :: _ => if (all.getLast?.getD default).kind = 3 then ⟨[], [], (all.getLast?.getD default).at_, 63⟩ else ⟨[], [], p.at_, 60⟩
  | r, t :: l => if rtokE r t ≠ 0 then ⟨[], [], t.at_, rtokE r t⟩ else rgo all (rtok r t) l
def readS (s : Str) : RdRes := match lexS s with
  | .bad a e => ⟨[], [], a, e⟩
  | .ok l => rgo l ⟨[], [], []⟩ l
end Go.Proofs.Ytjjbidajkmodfaa
