/- Texts L1, L2, D1, D2 of the proof. What each theorem says stands in its own statement. No condition beyond those that it names. -/
import Derived.Test.YtjjbidajkmodfaaXa1
import Derived.Test.YtjjbidajkmodfaaXa2
import Derived.Test.YtjjbidajkmodfaaXa8
import Derived.Test.YtjjbidajkmodfaaXa12
import Derived.Laws.Strings2
import Derived.WalkSpells
set_option linter.unusedVariables false
set_option linter.unusedSimpArgs false
namespace Go.Proofs.Ytjjbidajkmodfaa
open Go Go.RowKit
theorem contains_drop {l : Str} {k : Nat} {c x : UInt8} (hx : l[k]? = some x) : (l.drop k).contains c = (c == x || (l.drop (k + 1)).contains c) := by
  obtain ⟨h, rfl⟩ := List.getElem?_eq_some_iff.1 hx
  rw [List.drop_eq_getElem_cons h, List.contains_cons]
def Pure (v : Value) (w : World) (e : Ending) (w' : World) : Prop := e = .returned v ∧ w = w'
theorem Pure.intro {v u : Value} {w : World} (h : v = u) : Pure u w (.returned v) w := ⟨by rw [h], rfl⟩
abbrev someB : ByteArray := { data := #[33, 36, 37, 38, 42, 43, 45, 47, 58, 60, 61, 62, 63, 94, 95, 126] }
theorem someB_get (k : Nat) (h : k < 16) : someB[k]'(by exact h) = someL[k]'(by exact h) := rfl
set_option maxRecDepth 100000 in
set_option maxHeartbeats 8000000 in
theorem L_letter (c : UInt8) (w : World) : Calls Try.prog 42 #[.int .u8 (c.toNat : Int)] w (Pure (.bool (letterB c)) w) := by
  by_cases hn : ((97 ≤ (c.toNat : Int)) ∧ (c.toNat : Int) ≤ 122) ∨ (65 ≤ (c.toNat : Int) ∧ (c.toNat : Int) ≤ 90) ∨ (48 ≤ (c.toNat : Int) ∧ (c.toNat : Int) ≤ 57)
  · have hl : letterB c = true := by
      unfold letterB
      rcases hn with ⟨h1, h2⟩ | ⟨h1, h2⟩ | ⟨h1, h2⟩ <;> simp [h1, h2]
    rw [hl]
    clear hl
    rcases hn with ⟨h1, h2⟩ | ⟨h1, h2⟩ | ⟨h1, h2⟩
    · go_enter Try.func42, Try.ntmps42
      go_wp2_with fail
      go_ret
      exact Pure.intro rfl
    · have h3 : ¬ 97 ≤ (c.toNat : Int) := by omega
      go_enter Try.func42, Try.ntmps42
      go_wp2_with fail
      go_ret
      exact Pure.intro rfl
    · have h3 : ¬ 97 ≤ (c.toNat : Int) := by omega
      have h4 : ¬ 65 ≤ (c.toNat : Int) := by omega
      go_enter Try.func42, Try.ntmps42
      go_wp2_with fail
      go_ret
      exact Pure.intro rfl
  have hl : letterB c = someL.contains c := by
    unfold letterB
    have h1 : (decide (97 ≤ (c.toNat : Int)) && decide ((c.toNat : Int) ≤ 122)) = false := by simp only [Bool.and_eq_false_iff, decide_eq_false_iff_not]; omega
    have h2 : (decide (65 ≤ (c.toNat : Int)) && decide ((c.toNat : Int) ≤ 90)) = false := by simp only [Bool.and_eq_false_iff, decide_eq_false_iff_not]; omega
    have h3 : (decide (48 ≤ (c.toNat : Int)) && decide ((c.toNat : Int) ≤ 57)) = false := by simp only [Bool.and_eq_false_iff, decide_eq_false_iff_not]; omega
    rw [h1, h2, h3]; simp
  obtain ⟨bv, hbv⟩ : ∃ bv, someL.contains c = bv := ⟨_, rfl⟩
  rw [hl, hbv]
  have HB := hid hbv
  clear hl hbv
  have key : (97 ≤ (c.toNat : Int) ∧ 122 < (c.toNat : Int)) ∨ (90 < (c.toNat : Int) ∧ (c.toNat : Int) < 97) ∨ (57 < (c.toNat : Int) ∧ (c.toNat : Int) < 65) ∨ ((c.toNat : Int) < 48) := by omega
  have HN := hid hn
  clear hn
  rcases key with ⟨h1, h2⟩ | ⟨h1, h2⟩ | ⟨h1, h2⟩ | h1
  · have h3 : ¬ (c.toNat : Int) ≤ 122 := by omega
    have h4 : (65 : Int) ≤ (c.toNat : Int) := by omega
    have h5 : ¬ (c.toNat : Int) ≤ 90 := by omega
    have h6 : (48 : Int) ≤ (c.toNat : Int) := by omega
    have h7 : ¬ (c.toNat : Int) ≤ 57 := by omega
    go_enter Try.func42, Try.ntmps42
    go_wp2_with fail
    go_loop [4] (fun i => ∃ k : Nat, k ≤ 16 ∧ i = nat k ∧ (someL.drop k).contains c = someL.contains c) (fun i => 16 - (intOf i).toNat)
    case atStart => exact ⟨0, by omega, rfl, rfl⟩
    case round =>
      obtain ⟨k, hk, rfl, hc⟩ := hrel
      by_cases hlt : k < 16
      · have hc2 := contains_drop (c := c) (show someL[k]? = some (someL[k]'(by exact hlt)) from List.getElem?_eq_getElem _)
        rw [hc, ← someB_get k hlt] at hc2
        have hkI : (k : Int) < 16 := by omega
        have hks : k < someB.size := hlt
        by_cases hx : c = someB[k]'(by exact hlt)
        · have hb : (((someB[k]'(by exact hlt)).toNat : Int) == (c.toNat : Int)) = true := by rw [← hx]; simp
          have Hc := hid (show someL.contains c = true by rw [hc2, ← hx]; simp)
          clear hc hc2 hx hk
          go_wp2_with fail
          go_ret
          exact Pure.intro (show Value.bool true = Value.bool bv by rw [← HB.out, Hc.out])
        · have hb : (((someB[k]'(by exact hlt)).toNat : Int) == (c.toNat : Int)) = false := by
            rw [beq_eq_false_iff_ne]; intro h; exact hx (UInt8.toNat_inj.1 (by omega))
          have Hc := hid (show (someL.drop (k + 1)).contains c = someL.contains c by rw [hc2]; simp [hx])
          clear hc hc2 hx hk
          go_wp2_with fail
          go_round
          case rel => exact ⟨k + 1, by omega, by go_num, Hc.out⟩
          case measure => simp [intOf]; omega
      · obtain rfl : k = 16 := by omega
        have Hc := hid (show false = someL.contains c by rw [← hc]; rfl)
        clear hc hk hlt
        go_wp2_with fail
        go_ret
        exact Pure.intro (show Value.bool false = Value.bool bv by rw [← HB.out, ← Hc.out])
  · have h3 : ¬ 97 ≤ (c.toNat : Int) := by omega
    have h4 : (65 : Int) ≤ (c.toNat : Int) := by omega
    have h5 : ¬ (c.toNat : Int) ≤ 90 := by omega
    have h6 : (48 : Int) ≤ (c.toNat : Int) := by omega
    have h7 : ¬ (c.toNat : Int) ≤ 57 := by omega
    go_enter Try.func42, Try.ntmps42
    go_wp2_with fail
    go_loop [4] (fun i => ∃ k : Nat, k ≤ 16 ∧ i = nat k ∧ (someL.drop k).contains c = someL.contains c) (fun i => 16 - (intOf i).toNat)
    case atStart => exact ⟨0, by omega, rfl, rfl⟩
    case round =>
      obtain ⟨k, hk, rfl, hc⟩ := hrel
      by_cases hlt : k < 16
      · have hc2 := contains_drop (c := c) (show someL[k]? = some (someL[k]'(by exact hlt)) from List.getElem?_eq_getElem _)
        rw [hc, ← someB_get k hlt] at hc2
        have hkI : (k : Int) < 16 := by omega
        have hks : k < someB.size := hlt
        by_cases hx : c = someB[k]'(by exact hlt)
        · have hb : (((someB[k]'(by exact hlt)).toNat : Int) == (c.toNat : Int)) = true := by rw [← hx]; simp
          have Hc := hid (show someL.contains c = true by rw [hc2, ← hx]; simp)
          clear hc hc2 hx hk
          go_wp2_with fail
          go_ret
          exact Pure.intro (show Value.bool true = Value.bool bv by rw [← HB.out, Hc.out])
        · have hb : (((someB[k]'(by exact hlt)).toNat : Int) == (c.toNat : Int)) = false := by
            rw [beq_eq_false_iff_ne]; intro h; exact hx (UInt8.toNat_inj.1 (by omega))
          have Hc := hid (show (someL.drop (k + 1)).contains c = someL.contains c by rw [hc2]; simp [hx])
          clear hc hc2 hx hk
          go_wp2_with fail
          go_round
          case rel => exact ⟨k + 1, by omega, by go_num, Hc.out⟩
          case measure => simp [intOf]; omega
      · obtain rfl : k = 16 := by omega
        have Hc := hid (show false = someL.contains c by rw [← hc]; rfl)
        clear hc hk hlt
        go_wp2_with fail
        go_ret
        exact Pure.intro (show Value.bool false = Value.bool bv by rw [← HB.out, ← Hc.out])
  · have h3 : ¬ 97 ≤ (c.toNat : Int) := by omega
    have h4 : ¬ (65 : Int) ≤ (c.toNat : Int) := by omega
    have h6 : (48 : Int) ≤ (c.toNat : Int) := by omega
    have h7 : ¬ (c.toNat : Int) ≤ 57 := by omega
    go_enter Try.func42, Try.ntmps42
    go_wp2_with fail
    go_loop [4] (fun i => ∃ k : Nat, k ≤ 16 ∧ i = nat k ∧ (someL.drop k).contains c = someL.contains c) (fun i => 16 - (intOf i).toNat)
    case atStart => exact ⟨0, by omega, rfl, rfl⟩
    case round =>
      obtain ⟨k, hk, rfl, hc⟩ := hrel
      by_cases hlt : k < 16
      · have hc2 := contains_drop (c := c) (show someL[k]? = some (someL[k]'(by exact hlt)) from List.getElem?_eq_getElem _)
        rw [hc, ← someB_get k hlt] at hc2
        have hkI : (k : Int) < 16 := by omega
        have hks : k < someB.size := hlt
        by_cases hx : c = someB[k]'(by exact hlt)
        · have hb : (((someB[k]'(by exact hlt)).toNat : Int) == (c.toNat : Int)) = true := by rw [← hx]; simp
          have Hc := hid (show someL.contains c = true by rw [hc2, ← hx]; simp)
          clear hc hc2 hx hk
          go_wp2_with fail
          go_ret
          exact Pure.intro (show Value.bool true = Value.bool bv by rw [← HB.out, Hc.out])
        · have hb : (((someB[k]'(by exact hlt)).toNat : Int) == (c.toNat : Int)) = false := by
            rw [beq_eq_false_iff_ne]; intro h; exact hx (UInt8.toNat_inj.1 (by omega))
          have Hc := hid (show (someL.drop (k + 1)).contains c = someL.contains c by rw [hc2]; simp [hx])
          clear hc hc2 hx hk
          go_wp2_with fail
          go_round
          case rel => exact ⟨k + 1, by omega, by go_num, Hc.out⟩
          case measure => simp [intOf]; omega
      · obtain rfl : k = 16 := by omega
        have Hc := hid (show false = someL.contains c by rw [← hc]; rfl)
        clear hc hk hlt
        go_wp2_with fail
        go_ret
        exact Pure.intro (show Value.bool false = Value.bool bv by rw [← HB.out, ← Hc.out])
  · have h3 : ¬ 97 ≤ (c.toNat : Int) := by omega
    have h4 : ¬ (65 : Int) ≤ (c.toNat : Int) := by omega
    have h6 : ¬ (48 : Int) ≤ (c.toNat : Int) := by omega
    go_enter Try.func42, Try.ntmps42
    go_wp2_with fail
    go_loop [4] (fun i => ∃ k : Nat, k ≤ 16 ∧ i = nat k ∧ (someL.drop k).contains c = someL.contains c) (fun i => 16 - (intOf i).toNat)
    case atStart => exact ⟨0, by omega, rfl, rfl⟩
    case round =>
      obtain ⟨k, hk, rfl, hc⟩ := hrel
      by_cases hlt : k < 16
      · have hc2 := contains_drop (c := c) (show someL[k]? = some (someL[k]'(by exact hlt)) from List.getElem?_eq_getElem _)
        rw [hc, ← someB_get k hlt] at hc2
        have hkI : (k : Int) < 16 := by omega
        have hks : k < someB.size := hlt
        by_cases hx : c = someB[k]'(by exact hlt)
        · have hb : (((someB[k]'(by exact hlt)).toNat : Int) == (c.toNat : Int)) = true := by rw [← hx]; simp
          have Hc := hid (show someL.contains c = true by rw [hc2, ← hx]; simp)
          clear hc hc2 hx hk
          go_wp2_with fail
          go_ret
          exact Pure.intro (show Value.bool true = Value.bool bv by rw [← HB.out, Hc.out])
        · have hb : (((someB[k]'(by exact hlt)).toNat : Int) == (c.toNat : Int)) = false := by
            rw [beq_eq_false_iff_ne]; intro h; exact hx (UInt8.toNat_inj.1 (by omega))
          have Hc := hid (show (someL.drop (k + 1)).contains c = someL.contains c by rw [hc2]; simp [hx])
          clear hc hc2 hx hk
          go_wp2_with fail
          go_round
          case rel => exact ⟨k + 1, by omega, by go_num, Hc.out⟩
          case measure => simp [intOf]; omega
      · obtain rfl : k = 16 := by omega
        have Hc := hid (show false = someL.contains c by rw [← hc]; rfl)
        clear hc hk hlt
        go_wp2_with fail
        go_ret
        exact Pure.intro (show Value.bool false = Value.bool bv by rw [← HB.out, ← Hc.out])
set_option maxHeartbeats 4000000 in
theorem L_mark (c : UInt8) (w : World) : Calls Try.prog 40 #[.int .u8 (c.toNat : Int)] w (Pure (.int .u8 (markI c)) w) := by
  have hne : ∀ x : UInt8, c ≠ x → ((c.toNat : Int) == (x.toNat : Int)) = false := fun x h => by
    rw [beq_eq_false_iff_ne]; intro h'; exact h (UInt8.toNat_inj.1 (by omega))
  by_cases h1 : c = 40
  · subst h1
    go_enter Try.func40, Try.ntmps40
    go_wp2_with fail
    go_ret
    exact Pure.intro rfl
  have e1 : ((c.toNat : Int) == 40) = false := hne 40 h1
  by_cases h2 : c = 41
  · subst h2
    go_enter Try.func40, Try.ntmps40
    go_wp2_with fail
    go_ret
    exact Pure.intro rfl
  have e2 : ((c.toNat : Int) == 41) = false := hne 41 h2
  by_cases h3 : c = 39
  · subst h3
    go_enter Try.func40, Try.ntmps40
    go_wp2_with fail
    go_ret
    exact Pure.intro rfl
  have e3 : ((c.toNat : Int) == 39) = false := hne 39 h3
  have hv : markI c = 0 := by unfold markI; rw [if_neg h1, if_neg h2, if_neg h3]
  rw [hv]
  clear hne h1 h2 h3 hv
  go_enter Try.func40, Try.ntmps40
  go_wp2_with fail
  go_ret
  exact Pure.intro rfl
theorem takeWhile_drop {p : UInt8 → Bool} {l : Str} {k : Nat} {x : UInt8} (hx : l[k]? = some x) : (l.drop k).takeWhile p = if p x = true then x :: (l.drop (k + 1)).takeWhile p else [] := by
  obtain ⟨h, rfl⟩ := List.getElem?_eq_some_iff.1 hx
  rw [List.drop_eq_getElem_cons h, List.takeWhile_cons]
theorem bs_get (l : Str) (k : Nat) (h : k < l.length) : (bs l)[k]'(by rw [bs_size]; exact h) = l[k] := rfl
theorem takeWhile_take (p : UInt8 → Bool) : ∀ l : Str, l.take (l.takeWhile p).length = l.takeWhile p
  | [] => rfl
  | x :: l => by
    rw [List.takeWhile_cons]
    split
    · rw [List.length_cons, List.take_succ_cons, takeWhile_take p l]
    · rfl
theorem extract_bs (s : ByteArray) (a b : Nat) : s.extract a b = bs ((s.data.toList.drop a).take (b - a)) := by
  calc s.extract a b = (bs s.data.toList).extract a b := by rw [← bs_of]
    _ = _ := ByteArray.extract_mk s.data.toList a b
theorem word_extract {s : ByteArray} {a k : Nat} {W : Str} (hW : wordR (s.data.toList.drop a) = W) (hc : k - a = W.length) : Value.string (s.extract a k) = str W := by
  rw [extract_bs, hc, ← hW]
  unfold wordR
  rw [takeWhile_take]
set_option maxHeartbeats 4000000 in
theorem L_word (s : ByteArray) (at_ : Nat) (w : World) (hs : s.size ≤ 9223372036854775807) (ha : at_ ≤ s.size) :
    Calls Try.prog 41 #[.string s, nat at_] w (Pure (str (wordR (s.data.toList.drop at_))) w) := by
  have hsl : s.size = s.data.toList.length := by simp
  obtain ⟨W, hW⟩ : ∃ W, wordR (s.data.toList.drop at_) = W := ⟨_, rfl⟩
  rw [hW]
  have HW := hid hW
  have Hsl := hid hsl
  clear hW hsl
  go_enter Try.func41, Try.ntmps41
  go_wp2_with fail
  go_loop [5] (fun i => ∃ k : Nat, at_ ≤ k ∧ k ≤ s.size ∧ i = nat k ∧ k - at_ + (wordR (s.data.toList.drop k)).length = W.length) (fun i => s.size - (intOf i).toNat)
  case atStart => exact ⟨at_, Nat.le_refl _, ha, rfl, by rw [HW.out]; omega⟩
  case round =>
    obtain ⟨k, hk1, hk2, rfl, hc⟩ := hrel
    by_cases hlt : k < s.size
    · have hx : s.data.toList[k]? = some s[k] := by
        have h : k < s.data.toList.length := by rw [← Hsl.out]; exact hlt
        rw [List.getElem?_eq_getElem h]; rfl
      have hq : wordR (s.data.toList.drop k) = if letterB s[k] = true then s[k] :: wordR (s.data.toList.drop (k + 1)) else [] := takeWhile_drop hx
      rw [hq] at hc
      have hkI : (k : Int) < (s.size : Int) := by omega
      generalize hy : letterB s[k] = y at *
      cases y with
      | true =>
        rw [if_pos rfl] at hc
        have Hc := hid hc
        have Hy := hid hy
        clear hc hq hx hy
        go_wp2_with ((with_reducible refine (L_letter _ _).mono ?_); rintro e w' ⟨rfl, rfl⟩; rw [Hy.out])
        go_round
        case rel => exact ⟨k + 1, by omega, by omega, by go_num, by have := Hc.out; simp only [List.length_cons] at this; omega⟩
        case measure => simp [intOf]; omega
      | false =>
        rw [if_neg (by simp)] at hc
        have Hc := hid hc
        have Hy := hid hy
        clear hc hq hx hy
        go_wp2_with ((with_reducible refine (L_letter _ _).mono ?_); rintro e w' ⟨rfl, rfl⟩; rw [Hy.out])
        go_ret
        exact Pure.intro (word_extract HW.out (by have := Hc.out; simpa using this))
    · have hk : k = s.size := by omega
      have he : s.data.toList.drop k = [] := List.drop_eq_nil_iff.2 (by rw [← Hsl.out]; omega)
      rw [he] at hc
      have Hc := hid hc
      clear he hc hk
      go_wp2_with fail
      go_ret
      exact Pure.intro (word_extract HW.out (by have := Hc.out; simpa [wordR] using this))
theorem get_toList (s : ByteArray) {k : Nat} (h : k < s.size) : s.data.toList[k]? = some s[k] := by
  have h' : k < s.data.toList.length := by simpa using h
  rw [List.getElem?_eq_getElem h']; rfl
theorem all_drop {p : UInt8 → Bool} {l : Str} {k : Nat} {x : UInt8} (hx : l[k]? = some x) : (l.drop k).all p = (p x && (l.drop (k + 1)).all p) := by
  obtain ⟨h, rfl⟩ := List.getElem?_eq_some_iff.1 hx
  rw [List.drop_eq_getElem_cons h, List.all_cons]
theorem tail_size {s : ByteArray} (h0 : 0 < s.size) : (s.extract 1 s.size).size = s.size - 1 := by
  rw [extract_bs, bs_size]; simp
theorem tail_list {s : ByteArray} : (s.extract 1 s.size).data.toList = s.data.toList.drop 1 := by
  rw [extract_bs]
  show (((s.data.toList.drop 1).take (s.size - 1)).toArray).toList = _
  rw [List.toList_toArray]
  exact List.take_of_length_le (by simp)
theorem pos_list (u : ByteArray) : decide (0 < u.size) = !u.data.toList.isEmpty := by
  rw [show u.size = u.data.toList.length by simp]
  cases u.data.toList <;> simp
set_option maxHeartbeats 4000000 in
theorem L_number (s : ByteArray) (w : World) (hs : s.size ≤ 9223372036854775807) (h0 : 0 < s.size) : Calls Try.prog 68 #[.string s] w (Pure (.bool (numB s.data.toList)) w) := by
  obtain ⟨bv, hbv⟩ : ∃ bv, numB s.data.toList = bv := ⟨_, rfl⟩
  have hg : s.data.toList.getD 0 0 = s[0] := by rw [List.getD_eq_getElem?_getD, get_toList s h0]; rfl
  unfold numB unsign at hbv
  have hv : numB s.data.toList = bv := hbv
  rw [hv]
  clear hv
  rw [hg] at hbv
  have h0I : (0 : Int) < (s.size : Int) := by omega
  by_cases hm : s[0] = 45
  · rw [if_pos hm, ← tail_list] at hbv
    have HV := hid hbv
    have hm1 : ((s[0].toNat : Int) == 45) = true := by rw [hm]; rfl
    have hsz := tail_size h0
    have hgen : ∃ u, s.extract 1 s.size = u := ⟨_, rfl⟩
    clear hbv hm hg
    go_enter Try.func68, Try.ntmps68
    go_wp2_with fail
    generalize s.extract 1 s.size = u at *
    have hus : u.size ≤ 9223372036854775807 := by omega
    clear hsz hgen
    go_loop [3] (fun i => ∃ k : Nat, k ≤ u.size ∧ i = nat k ∧ (u.data.toList.drop k).all digB = u.data.toList.all digB) (fun i => u.size - (intOf i).toNat)
    case atStart => exact ⟨0, Nat.zero_le _, rfl, rfl⟩
    case round =>
      obtain ⟨k, hk, rfl, hc⟩ := hrel
      by_cases hlt : k < u.size
      · rw [all_drop (get_toList u hlt)] at hc
        have hkI : (k : Int) < (u.size : Int) := by omega
        by_cases hlo : (u[k].toNat : Int) < 48
        · have hd : digB u[k] = false := by unfold digB; rw [decide_eq_false (by omega)]; rfl
          rw [hd, Bool.false_and] at hc
          have Hc := hid hc
          clear hc hd
          go_wp2_with fail
          go_ret
          exact Pure.intro (show Value.bool false = Value.bool bv by rw [← HV.out, ← Hc.out]; rfl)
        by_cases hhi : (57 : Int) < (u[k].toNat : Int)
        · have hd : digB u[k] = false := by unfold digB; rw [decide_eq_false (p := (u[k].toNat : Int) ≤ 57) (by omega)]; simp
          rw [hd, Bool.false_and] at hc
          have Hc := hid hc
          clear hc hd
          go_wp2_with fail
          go_ret
          exact Pure.intro (show Value.bool false = Value.bool bv by rw [← HV.out, ← Hc.out]; rfl)
        have hd : digB u[k] = true := by unfold digB; rw [decide_eq_true (by omega), decide_eq_true (by omega)]; rfl
        rw [hd, Bool.true_and] at hc
        have Hc := hid hc
        clear hc hd
        go_wp2_with fail
        go_round
        case rel => exact ⟨k + 1, by omega, by go_num, Hc.out⟩
        case measure => simp [intOf]; omega
      · have he : u.data.toList.drop k = [] := List.drop_eq_nil_iff.2 (by simp; omega)
        rw [he] at hc
        have Hc := hid hc
        clear hc he
        have Hv := hid (show Value.bool (decide (0 < u.size)) = Value.bool bv by rw [← HV.out, ← Hc.out, pos_list]; simp)
        go_wp2_with fail
        go_ret
        exact Pure.intro Hv.out
  · rw [if_neg hm] at hbv
    have HV := hid hbv
    have hm1 : ((s[0].toNat : Int) == 45) = false := by
      rw [beq_eq_false_iff_ne]; intro h; exact hm (UInt8.toNat_inj.1 (by show s[0].toNat = 45; omega))
    clear hbv hm hg
    go_enter Try.func68, Try.ntmps68
    go_wp2_with fail
    go_loop [3] (fun i => ∃ k : Nat, k ≤ s.size ∧ i = nat k ∧ (s.data.toList.drop k).all digB = s.data.toList.all digB) (fun i => s.size - (intOf i).toNat)
    case atStart => exact ⟨0, Nat.zero_le _, rfl, rfl⟩
    case round =>
      obtain ⟨k, hk, rfl, hc⟩ := hrel
      by_cases hlt : k < s.size
      · rw [all_drop (get_toList s hlt)] at hc
        have hkI : (k : Int) < (s.size : Int) := by omega
        by_cases hlo : (s[k].toNat : Int) < 48
        · have hd : digB s[k] = false := by unfold digB; rw [decide_eq_false (by omega)]; rfl
          rw [hd, Bool.false_and] at hc
          have Hc := hid hc
          clear hc hd
          go_wp2_with fail
          go_ret
          exact Pure.intro (show Value.bool false = Value.bool bv by rw [← HV.out, ← Hc.out]; rfl)
        by_cases hhi : (57 : Int) < (s[k].toNat : Int)
        · have hd : digB s[k] = false := by unfold digB; rw [decide_eq_false (p := (s[k].toNat : Int) ≤ 57) (by omega)]; simp
          rw [hd, Bool.false_and] at hc
          have Hc := hid hc
          clear hc hd
          go_wp2_with fail
          go_ret
          exact Pure.intro (show Value.bool false = Value.bool bv by rw [← HV.out, ← Hc.out]; rfl)
        have hd : digB s[k] = true := by unfold digB; rw [decide_eq_true (by omega), decide_eq_true (by omega)]; rfl
        rw [hd, Bool.true_and] at hc
        have Hc := hid hc
        clear hc hd
        go_wp2_with fail
        go_round
        case rel => exact ⟨k + 1, by omega, by go_num, Hc.out⟩
        case measure => simp [intOf]; omega
      · have he : s.data.toList.drop k = [] := List.drop_eq_nil_iff.2 (by simp; omega)
        rw [he] at hc
        have Hc := hid hc
        clear hc he
        have Hv := hid (show Value.bool (decide (0 < s.size)) = Value.bool bv by rw [← HV.out, ← Hc.out, pos_list]; simp)
        go_wp2_with fail
        go_ret
        exact Pure.intro ((show Value.bool true = Value.bool (decide (0 < s.size)) by rw [decide_eq_true h0]).trans Hv.out)
theorem valN_snoc (l : Str) (c : UInt8) : valN (l ++ [c]) = valN l * 10 + ((c.toNat : Int) - 48) := by
  unfold valN; rw [List.foldl_append]; rfl
theorem foldl_bd : ∀ (l : Str) (a : Int), 0 ≤ a → l.all digB = true → 0 ≤ l.foldl (fun n c => n * 10 + ((c.toNat : Int) - 48)) a ∧ l.foldl (fun n c => n * 10 + ((c.toNat : Int) - 48)) a < (a + 1) * 10 ^ l.length
  | [], a, ha, _ => by simp; omega
  | c :: l, a, ha, h => by
    rw [List.all_cons, Bool.and_eq_true] at h
    have h3 : 48 ≤ (c.toNat : Int) ∧ (c.toNat : Int) ≤ 57 := by
      have := h.1
      unfold digB at this
      simpa only [Bool.and_eq_true, decide_eq_true_eq] using this
    obtain ⟨i1, i2⟩ := foldl_bd l (a * 10 + ((c.toNat : Int) - 48)) (by omega) h.2
    refine ⟨i1, Int.lt_of_lt_of_le i2 ?_⟩
    rw [List.length_cons, Int.pow_succ, Int.mul_comm (10 ^ l.length) 10, ← Int.mul_assoc]
    exact Int.mul_le_mul_of_nonneg_right (by omega) (Int.pow_nonneg (by omega))
theorem valN_bd (l : Str) (h : l.all digB = true) (hl : l.length ≤ 14) : 0 ≤ valN l ∧ valN l < 100000000000000 := by
  obtain ⟨h1, h2⟩ := foldl_bd l 0 (Int.le_refl _) h
  refine ⟨h1, Int.lt_of_lt_of_le h2 ?_⟩
  rw [Int.zero_add, Int.one_mul]
  have : (10 : Int) ^ l.length ≤ 10 ^ 14 := by
    have h3 : (10 : Nat) ^ l.length ≤ 10 ^ 14 := Nat.pow_le_pow_right (by omega) hl
    have h4 : (((10 : Nat) ^ l.length : Nat) : Int) ≤ ((10 ^ 14 : Nat) : Int) := by omega
    rwa [Int.natCast_pow, Int.natCast_pow] at h4
  exact this
theorem all_take {l : Str} (h : l.all digB = true) (k : Nat) : (l.take k).all digB = true := by
  rw [List.all_eq_true] at h ⊢
  exact fun x hx => h x (List.mem_of_mem_take hx)
theorem take_snoc {l : Str} {k : Nat} {x : UInt8} (hx : l[k]? = some x) : l.take (k + 1) = l.take k ++ [x] := by
  rw [List.take_add_one, hx]; rfl
theorem dig_at {l : Str} (h : l.all digB = true) {k : Nat} {x : UInt8} (hx : l[k]? = some x) : 48 ≤ (x.toNat : Int) ∧ (x.toNat : Int) ≤ 57 := by
  rw [List.all_eq_true] at h
  have := h x (List.mem_of_getElem? hx)
  unfold digB at this
  simpa only [Bool.and_eq_true, decide_eq_true_eq] using this
set_option maxHeartbeats 4000000 in
theorem L_value0 (s : ByteArray) (w : World) (hs : s.size ≤ 14) (h0 : 0 < s.size) (hd : s.data.toList.all digB = true) : Calls Try.prog 69 #[.string s] w (Pure (int (valN s.data.toList)) w) := by
  obtain ⟨vv, hvv⟩ : ∃ vv, valN s.data.toList = vv := ⟨_, rfl⟩
  rw [hvv]
  have h0I : (0 : Int) < (s.size : Int) := by omega
  have hg := dig_at hd (get_toList s h0)
  have hm1 : ((s[0].toNat : Int) == 45) = false := by rw [beq_eq_false_iff_ne]; omega
  have HV := hid hvv
  have HD := hid hd
  clear hvv hd hg
  go_enter Try.func69, Try.ntmps69
  go_wp2_with fail
  go_loop [3, 4] (fun n i => ∃ k : Nat, k ≤ s.size ∧ i = nat k ∧ n = int (valN (s.data.toList.take k))) (fun _ i => s.size - (intOf i).toNat)
  case atStart => exact ⟨0, Nat.zero_le _, rfl, rfl⟩
  case round =>
    obtain ⟨k, hk, rfl, rfl⟩ := hrel
    by_cases hlt : k < s.size
    · have hkI : (k : Int) < (s.size : Int) := by omega
      obtain ⟨hb1, hb2⟩ := valN_bd _ (all_take HD.out k) (by rw [List.length_take]; omega)
      obtain ⟨hd1, hd2⟩ := dig_at HD.out (get_toList s hlt)
      have Hs := hid (show valN (s.data.toList.take (k + 1)) = valN (s.data.toList.take k) * 10 + ((s[k].toNat : Int) - 48) by rw [take_snoc (get_toList s hlt), valN_snoc])
      generalize valN (s.data.toList.take k) = n at *
      go_wp2_with fail
      go_round
      case rel => exact ⟨k + 1, by omega, by go_num, by rw [Hs.out]⟩
      case measure => simp [intOf]; omega
    · have hk' : s.data.toList.take k = s.data.toList := List.take_of_length_le (by simp; omega)
      rw [hk', HV.out]
      clear hk'
      go_wp2_with fail
      go_ret
      exact Pure.intro rfl
set_option maxHeartbeats 4000000 in
theorem L_value (s : ByteArray) (w : World) (hs : s.size ≤ 14) (h0 : 0 < s.size) (hd : numB s.data.toList = true) : Calls Try.prog 69 #[.string s] w (Pure (int (valI s.data.toList)) w) := by
  have hg : s.data.toList.getD 0 0 = s[0] := by rw [List.getD_eq_getElem?_getD, get_toList s h0]; rfl
  unfold numB unsign at hd
  unfold valI
  rw [hg] at hd ⊢
  have h0I : (0 : Int) < (s.size : Int) := by omega
  rw [Bool.and_eq_true] at hd
  by_cases hm : s[0] = 45
  · rw [if_pos hm, ← tail_list] at hd
    rw [if_pos hm, ← tail_list]
    have hm1 : ((s[0].toNat : Int) == 45) = true := by rw [hm]; rfl
    have hsz := tail_size h0
    have hp := pos_list (s.extract 1 s.size)
    rw [hd.2] at hp
    simp only [decide_eq_true_eq] at hp
    have Hv := fun W => hid (L_value0 (s.extract 1 s.size) W (by omega) hp hd.1)
    obtain ⟨hb1, hb2⟩ := valN_bd _ hd.1 (by simp; omega)
    generalize valN (s.extract 1 s.size).data.toList = vv at *
    clear hd hm hg hsz hp
    go_enter Try.func69, Try.ntmps69
    go_wp2_with fail
    refine (Hv _).out.mono ?_
    rintro e w1 ⟨rfl, rfl⟩
    go_wp2_with fail
    go_ret
    exact Pure.intro (by go_num)
  · rw [if_neg hm] at hd ⊢
    exact L_value0 s w hs h0 hd.1
abbrev tokV (t : Tok) : Value := .agg #[.int .u8 t.kind, nat t.at_, int t.n, str t.s]
def OneRet (S : Seal) (X : Seal → World → Prop) (er : Int) (t : Tok) (e : Ending) (w' : World) : Prop := ∃ t', e = .returned (.tuple #[tokV t', int er]) ∧ (er = 0 → t' = t) ∧ X S w'
theorem str_toList (s : ByteArray) : Value.string s = str s.data.toList := by cases s; simp
set_option maxRecDepth 100000 in
set_option maxHeartbeats 4000000 in
theorem L_one {X : List Atom → Seal → World → Prop} (X1 : Xs X) (L : List Atom) (S : Seal) (s : ByteArray) (at_ : Nat) (w : World) (hX : X L S w) (hs : s.size ≤ 4000) (h0 : 0 < s.size) : Calls Try.prog 43 #[.string s, nat at_] w (OneRet S (X L) (oneE s.data.toList) (oneT s.data.toList at_)) := by
  have hl : s.data.toList.length = s.size := by simp
  have HX := hid hX
  clear hX
  unfold oneE oneT
  rw [hl]
  have Hn := fun W => hid (L_number s W (by omega) h0)
  cases hn : numB s.data.toList with
  | false =>
    rw [hn] at Hn
    rw [if_pos rfl, if_pos rfl]
    by_cases h32 : 32 < s.size
    · have h32I : (32 : Int) < (s.size : Int) := by omega
      rw [if_pos h32]
      clear hn hl
      go_enter Try.func43, Try.ntmps43
      go_wp2_with fail
      refine (Hn _).out.mono ?_
      rintro e w1 ⟨rfl, rfl⟩
      go_wp2_with fail
      exact bodyPost_ret (v := .tuple #[tokV ⟨0, 0, 0, []⟩, int 3]) (by simp [results, Try.results43, go_sem]) rfl ⟨⟨0, 0, 0, []⟩, rfl, fun h => (by cases h), X1.alloc0 HX.out _⟩
    · have h32I : ¬ (32 : Int) < (s.size : Int) := by omega
      rw [if_neg h32]
      clear hn hl
      go_enter Try.func43, Try.ntmps43
      go_wp2_with fail
      refine (Hn _).out.mono ?_
      rintro e w1 ⟨rfl, rfl⟩
      go_wp2_with fail
      exact bodyPost_ret (v := .tuple #[tokV ⟨6, at_, 0, s.data.toList⟩, int 0]) (by simp [results, Try.results43, go_sem]) rfl ⟨⟨6, at_, 0, s.data.toList⟩, rfl, fun h => rfl, X1.alloc0 HX.out _⟩
  | true =>
    rw [hn] at Hn
    simp only [Bool.true_eq_false, if_false]
    by_cases h14 : 14 < s.size
    · have h14I : (14 : Int) < (s.size : Int) := by omega
      rw [if_pos (by omega)]
      clear hn hl
      go_enter Try.func43, Try.ntmps43
      go_wp2_with fail
      refine (Hn _).out.mono ?_
      rintro e w1 ⟨rfl, rfl⟩
      go_wp2_with fail
      exact bodyPost_ret (v := .tuple #[tokV ⟨0, 0, 0, []⟩, int 51]) (by simp [results, Try.results43, go_sem]) rfl ⟨⟨0, 0, 0, []⟩, rfl, fun h => (by cases h), X1.alloc0 HX.out _⟩
    have h14I : ¬ (14 : Int) < (s.size : Int) := by omega
    have Hv := fun W => hid (L_value s W (by omega) h0 hn)
    generalize valI s.data.toList = vv at *
    by_cases h13 : 13 < s.size
    · have h13I : (13 : Int) < (s.size : Int) := by omega
      rw [if_pos h13]
      clear hn hl
      go_enter Try.func43, Try.ntmps43
      go_wp2_with fail
      refine (Hn _).out.mono ?_
      rintro e w1 ⟨rfl, rfl⟩
      go_wp2_with fail
      refine (Hv _).out.mono ?_
      rintro e w2 ⟨rfl, rfl⟩
      go_wp2_with fail
      exact bodyPost_ret (v := .tuple #[tokV ⟨0, 0, 0, []⟩, int 51]) (by simp [results, Try.results43, go_sem]) rfl ⟨⟨0, 0, 0, []⟩, rfl, fun h => (by cases h), X1.alloc0 HX.out _⟩
    have h13I : ¬ (13 : Int) < (s.size : Int) := by omega
    rw [if_neg h13]
    by_cases hlo : vv ≤ -1099511627776
    · rw [if_pos (.inl hlo)]
      clear hn hl
      go_enter Try.func43, Try.ntmps43
      go_wp2_with fail
      refine (Hn _).out.mono ?_
      rintro e w1 ⟨rfl, rfl⟩
      go_wp2_with fail
      refine (Hv _).out.mono ?_
      rintro e w2 ⟨rfl, rfl⟩
      go_wp2_with fail
      exact bodyPost_ret (v := .tuple #[tokV ⟨0, 0, 0, []⟩, int 51]) (by simp [results, Try.results43, go_sem]) rfl ⟨⟨0, 0, 0, []⟩, rfl, fun h => (by cases h), X1.alloc0 HX.out _⟩
    by_cases hhi : (1099511627776 : Int) ≤ vv
    · rw [if_pos (.inr hhi)]
      clear hn hl
      go_enter Try.func43, Try.ntmps43
      go_wp2_with fail
      refine (Hn _).out.mono ?_
      rintro e w1 ⟨rfl, rfl⟩
      go_wp2_with fail
      refine (Hv _).out.mono ?_
      rintro e w2 ⟨rfl, rfl⟩
      go_wp2_with fail
      exact bodyPost_ret (v := .tuple #[tokV ⟨0, 0, 0, []⟩, int 51]) (by simp [results, Try.results43, go_sem]) rfl ⟨⟨0, 0, 0, []⟩, rfl, fun h => (by cases h), X1.alloc0 HX.out _⟩
    · rw [if_neg (by omega)]
      clear hn hl
      go_enter Try.func43, Try.ntmps43
      go_wp2_with fail
      refine (Hn _).out.mono ?_
      rintro e w1 ⟨rfl, rfl⟩
      go_wp2_with fail
      refine (Hv _).out.mono ?_
      rintro e w2 ⟨rfl, rfl⟩
      go_wp2_with fail
      exact bodyPost_ret (v := .tuple #[tokV ⟨4, at_, vv, []⟩, int 0]) (by simp [results, Try.results43, go_sem]) rfl ⟨⟨4, at_, vv, []⟩, rfl, fun h => rfl, X1.alloc0 HX.out _⟩
end Go.Proofs.Ytjjbidajkmodfaa
namespace Go.Proofs.Ytjjbidajkmodfaa
open Go Go.RowKit
theorem tyToks : SliceTy Try.prog 65 74 4 40 := SliceTy.of Try.underlying65 (by kernel_rfl : _ = some (some (.agg #[.int .u8 0, .int .i64 0, .int .i64 0, .string ⟨#[]⟩]), 4, 40)) rfl (by decide)
def tokCells (t : Tok) : List Value := [.int .u8 t.kind, nat t.at_, int t.n, str t.s]
def ToksR (S : Seal) (v : Value) (o : List Tok) : Prop := Sl S 4 v o.length (o.flatMap tokCells)
def LexRet (S : Seal) (X : Seal → World → Prop) (r : LR) (e : Ending) (w' : World) : Prop :=
  ∃ S', S.le S' ∧ X S' w' ∧ ((∃ v l, r = .ok l ∧ e = .returned (.tuple #[v, int 0, int 0]) ∧ ToksR S' v l) ∨ ∃ a er, r = .bad a er ∧ er ≠ 0 ∧ e = .returned (.tuple #[.slice none 0 0, nat a, int er]))
def LexRel (X : List Atom → Seal → World → Prop) (sl : Str) (r : LR) (T : Nat) (L : List Atom) (S : Seal) (v i : Value) (wr : World) : Prop :=
  ∃ (k f : Nat) (o : List Tok) (S1 : Seal), k ≤ sl.length ∧ i = nat k ∧ S.le S1 ∧ X (.row T 4 v o.length (o.flatMap tokCells) :: L) S1 wr ∧ (lexF f k (sl.drop k)).pre o = r ∧ sl.length - k ≤ f ∧ o.length ≤ k
theorem word_le {l : Str} : (wordR l).length ≤ l.length := (List.takeWhile_sublist _).length_le
theorem byte_ne {c x : UInt8} (h : c ≠ x) : ((c.toNat : Int) == (x.toNat : Int)) = false := by
  rw [beq_eq_false_iff_ne]; intro h'; exact h (UInt8.toNat_inj.1 (by omega))
theorem drop_get {l : Str} {k : Nat} {x : UInt8} (hx : l[k]? = some x) : l.drop k = x :: l.drop (k + 1) := by
  obtain ⟨h, rfl⟩ := List.getElem?_eq_some_iff.1 hx
  exact List.drop_eq_getElem_cons h
theorem isNl_tw {l : Str} {k : Nat} {x : UInt8} (hx : l[k]? = some x) : (l.drop k).takeWhile isNl = (if x = 10 then [] else x :: (l.drop (k + 1)).takeWhile isNl) ∧ (l.drop k).dropWhile isNl = (if x = 10 then l.drop k else (l.drop (k + 1)).dropWhile isNl) := by
  rw [drop_get hx, List.takeWhile_cons, List.dropWhile_cons]
  by_cases h : x = 10
  · subst h; exact ⟨rfl, rfl⟩
  · have : isNl x = true := by unfold isNl; simpa using h
    rw [this, if_neg h, if_neg h]; exact ⟨rfl, rfl⟩
theorem dropWhile_drop (p : UInt8 → Bool) : ∀ l : Str, l.dropWhile p = l.drop (l.takeWhile p).length
  | [] => rfl
  | x :: l => by
    rw [List.takeWhile_cons, List.dropWhile_cons]
    split
    · rw [List.length_cons, List.drop_succ_cons, dropWhile_drop p l]
    · rfl
def NlRel (sl : Str) (i n : Nat) (v : Value) : Prop := ∃ j : Nat, i ≤ j ∧ j ≤ sl.length ∧ v = nat j ∧ j + ((sl.drop j).takeWhile isNl).length = n
theorem lex_step {f k : Nat} {c : UInt8} {r : Str} : lexF (f + 1) k (c :: r) =
    if c = 32 ∨ c = 9 ∨ c = 10 then lexF f (k + 1) r
    else if c = 59 then lexF f (k + 1 + (r.takeWhile isNl).length) (r.dropWhile isNl)
    else if markI c ≠ 0 then (lexF f (k + 1) r).pre [{ kind := markI c, at_ := k }]
    else if c = 35 then (if wordR r = [116] ∨ wordR r = [102] then (lexF f (k + 2) (r.drop 1)).pre [{ kind := 5, at_ := k, n := if wordR r = [116] then 1 else 0 }] else .bad k 50)
    else if letterB c = false then .bad k 50
    else if oneE (wordR (c :: r)) ≠ 0 then .bad k (oneE (wordR (c :: r)))
    else (lexF f (k + (wordR (c :: r)).length) ((c :: r).drop (wordR (c :: r)).length)).pre [oneT (wordR (c :: r)) k] := rfl
set_option maxRecDepth 100000 in
set_option maxHeartbeats 40000000 in
theorem L_Lex {X : List Atom → Seal → World → Prop} (X1 : Xs X) (L : List Atom) (S : Seal) (s : ByteArray) (w : World) (hX : X L S w) (hs : s.size ≤ 9223372036854775807) : Calls Try.prog 28 #[.string s] w (LexRet S (X L) (lexS s.data.toList)) := by
  have hl : s.data.toList.length = s.size := by simp
  by_cases hbig : 4000 < s.size
  · have hbI : (4000 : Int) < (s.size : Int) := by omega
    have hr : lexS s.data.toList = .bad 0 3 := by unfold lexS; rw [if_pos (by omega)]
    rw [hr]
    have HX := hid hX
    clear hr hX hl
    go_enter Try.func28, Try.ntmps28
    go_wp2_with fail
    go_ret3
    exact ⟨S, Seal.le.refl S, HX.out, .inr ⟨0, 3, rfl, by simp, rfl⟩⟩
  have hbI : ¬ (4000 : Int) < (s.size : Int) := by omega
  have hr : lexS s.data.toList = lexF s.data.toList.length 0 s.data.toList := by unfold lexS; rw [if_neg (by omega)]
  obtain ⟨R, hR⟩ : ∃ R, lexS s.data.toList = R := ⟨_, rfl⟩
  rw [hR]
  rw [hR] at hr
  have Hr := hid hr
  have HX := hid (X1.rowNil hX 74 4)
  have Hl := hid hl
  clear hR hr hX hl
  go_enter Try.func28, Try.ntmps28
  go_wp2_with fail
  go_loopw [5, 6] (fun v i wr => LexRel X s.data.toList R 74 L S v i wr) (fun _ i _ => s.size - (intOf i).toNat)
  case atStart => exact ⟨0, s.data.toList.length, [], S, Nat.zero_le _, rfl, Seal.le.refl S, HX.out, by rw [List.drop_zero, LR.pre_nil, Hr.out], by omega, Nat.le_refl _⟩
  case round =>
    obtain ⟨k, f, o, S1, hk, rfl, hS1, hX1, hlex, hf, ho⟩ := hrel
    rw [Hl.out] at hk hf
    have HS1 := hid hS1
    have HX1 := hid hX1
    have Ho := hid ho
    have hoL : o.length ≤ 4000 := by omega
    clear hS1 hX1
    by_cases hlt : k < s.size
    case neg =>
      have he : s.data.toList.drop k = [] := List.drop_eq_nil_iff.2 (by rw [Hl.out]; omega)
      rw [he] at hlex
      have hlex : LR.ok o = R := by
        rw [← hlex]
        cases f <;> simp [lexF, LR.pre]
      obtain ⟨A8, c8, rfl, _, _⟩ := X1.rowLen HX1.out
      obtain ⟨S3, k3, hX3, hs3⟩ := X1.sealRow HX1.out
      have Hlex := hid hlex
      have HX3 := hid hX3
      have HS3 := hid hs3
      have HK3 := hid (HS1.out.trans k3)
      clear he hlex hX3 hs3 k3
      go_wp2_with fail
      go_ret3
      exact ⟨S3, HK3.out, HX3.out, .inl ⟨_, o, Hlex.out.symm, rfl, HS3.out⟩⟩
    obtain ⟨f, rfl⟩ : ∃ g, f = g + 1 := ⟨f - 1, by omega⟩
    have hx := get_toList s hlt
    rw [drop_get hx, lex_step] at hlex
    have Hx := hid hx
    have hkI : (k : Int) < (s.size : Int) := by omega
    have Hf := hid hf
    clear hx hf
    by_cases h32 : s[k] = 32
    · rw [if_pos (.inl h32)] at hlex
      have e32 : ((s[k].toNat : Int) == 32) = true := by rw [h32]; rfl
      have Hlex := hid hlex
      clear hlex h32
      go_wp2_with fail
      go_roundw
      case rel => exact ⟨k + 1, f, o, S1, by rw [Hl.out]; omega, by go_num, HS1.out, HX1.out, Hlex.out, by have := Hf.out; rw [Hl.out]; omega, by have := Ho.out; omega⟩
      case measure => simp [intOf]; omega
    have e32 : ((s[k].toNat : Int) == 32) = false := byte_ne (x := 32) h32
    by_cases h9 : s[k] = 9
    · rw [if_pos (.inr (.inl h9))] at hlex
      have e9 : ((s[k].toNat : Int) == 9) = true := by rw [h9]; rfl
      have Hlex := hid hlex
      clear hlex h32 h9
      go_wp2_with fail
      go_roundw
      case rel => exact ⟨k + 1, f, o, S1, by rw [Hl.out]; omega, by go_num, HS1.out, HX1.out, Hlex.out, by have := Hf.out; rw [Hl.out]; omega, by have := Ho.out; omega⟩
      case measure => simp [intOf]; omega
    have e9 : ((s[k].toNat : Int) == 9) = false := byte_ne (x := 9) h9
    by_cases h10 : s[k] = 10
    · rw [if_pos (.inr (.inr h10))] at hlex
      have e10 : ((s[k].toNat : Int) == 10) = true := by rw [h10]; rfl
      have Hlex := hid hlex
      clear hlex h32 h9 h10
      go_wp2_with fail
      go_roundw
      case rel => exact ⟨k + 1, f, o, S1, by rw [Hl.out]; omega, by go_num, HS1.out, HX1.out, Hlex.out, by have := Hf.out; rw [Hl.out]; omega, by have := Ho.out; omega⟩
      case measure => simp [intOf]; omega
    have e10 : ((s[k].toNat : Int) == 10) = false := byte_ne (x := 10) h10
    rw [if_neg (by rintro (h | h | h); exact h32 h; exact h9 h; exact h10 h)] at hlex
    by_cases h59 : s[k] = 59
    · rw [if_pos h59] at hlex
      have e59 : ((s[k].toNat : Int) == 59) = true := by rw [h59]; rfl
      have htw := (isNl_tw Hx.out).1
      rw [if_neg h10] at htw
      rw [dropWhile_drop, List.drop_drop] at hlex
      have hn0 : k + ((s.data.toList.drop k).takeWhile isNl).length = k + 1 + ((s.data.toList.drop (k + 1)).takeWhile isNl).length := by rw [htw, List.length_cons]; omega
      obtain ⟨n, hn⟩ : ∃ n, k + 1 + ((s.data.toList.drop (k + 1)).takeWhile isNl).length = n := ⟨_, rfl⟩
      rw [hn] at hlex hn0
      have hnk : k + 1 ≤ n := by omega
      have hnl : n ≤ s.size := by
        have h1 := (List.takeWhile_sublist isNl (l := s.data.toList.drop (k + 1))).length_le
        rw [List.length_drop, Hl.out] at h1
        omega
      have Hlex := hid hlex
      have Hn0 := hid hn0
      clear hlex h32 h9 h10 h59 htw hn hn0
      go_wp2_with fail
      go_loop [6] (fun v => NlRel s.data.toList k n v) (fun v => s.size - (intOf v).toNat)
      case atStart => exact ⟨k, Nat.le_refl _, by rw [Hl.out]; omega, rfl, Hn0.out⟩
      case round =>
        obtain ⟨j, hj1, hj2, rfl, hjn⟩ := hrel
        rw [Hl.out] at hj2
        by_cases hjl : j < s.size
        · have hxj := get_toList s hjl
          have hjI : (j : Int) < (s.size : Int) := by omega
          have htw := (isNl_tw hxj).1
          by_cases hj10 : s[j] = 10
          · rw [if_pos hj10] at htw
            rw [htw] at hjn
            have q10 : ((s[j].toNat : Int) != 10) = false := by rw [hj10]; rfl
            have hjn' : j = n := by simpa using hjn
            subst hjn'
            clear htw hjn hj10 hxj
            go_wp2_with fail
            go_roundw
            case rel => exact ⟨j, f, o, S1, by rw [Hl.out]; omega, by go_num, HS1.out, HX1.out, by rw [← Hlex.out], by have := Hf.out; rw [Hl.out]; omega, by have := Ho.out; omega⟩
            case measure => simp [intOf]; omega
          · rw [if_neg hj10] at htw
            rw [htw, List.length_cons] at hjn
            have q10 : ((s[j].toNat : Int) != 10) = true := by
              have := byte_ne (c := s[j]) (x := 10) hj10
              rw [bne, show ((s[j].toNat : Int) == 10) = false from this]; rfl
            have Hjn := hid hjn
            clear htw hjn hj10 hxj
            go_wp2_with fail
            go_round
            case rel => exact ⟨j + 1, by omega, by rw [Hl.out]; omega, by go_num, by have := Hjn.out; omega⟩
            case measure => simp [intOf]; omega
        · have he : s.data.toList.drop j = [] := List.drop_eq_nil_iff.2 (by rw [Hl.out]; omega)
          rw [he] at hjn
          have hjn' : j = n := by simpa using hjn
          subst hjn'
          clear he hjn
          go_wp2_with fail
          go_roundw
          case rel => exact ⟨j, f, o, S1, by rw [Hl.out]; omega, by go_num, HS1.out, HX1.out, by rw [← Hlex.out], by have := Hf.out; rw [Hl.out]; omega, by have := Ho.out; omega⟩
          case measure => simp [intOf]; omega
    have e59 : ((s[k].toNat : Int) == 59) = false := byte_ne (x := 59) h59
    rw [if_neg h59] at hlex
    have Hmk := fun W => hid (L_mark s[k] W)
    by_cases hm : markI s[k] = 0
    case neg =>
      rw [if_pos hm] at hlex
      have hmb : (markI s[k] != 0) = true := by simpa using hm
      have Hlex := hid hlex
      clear hlex h32 h9 h10 h59 hm
      generalize markI s[k] = m at *
      go_wp2_with fail
      refine (Hmk _).out.mono ?_
      rintro e w2 ⟨rfl, rfl⟩
      have HA1 := hid (X1.alloc0 HX1.out (.cells (tokCells { kind := m, at_ := k }).toArray 74))
      have HN1 := hid (cells_new wr (wr.heap.size) (by first | rfl | simp) (tokCells { kind := m, at_ := k }) 74)
      have HQ1 := hid (show (tokCells { kind := m, at_ := k }).length = 1 * 4 from rfl)
      have HP1 := hid (show ∀ u ∈ tokCells { kind := m, at_ := k }, u.oneCell' = true by simp [tokCells, Value.oneCell'])
      simp only [tokCells] at HA1 HN1
      go_wp2_with (at_builtin; refine wpList_appendX tyToks X1 rfl (.tmp 54) (.tmp 58) rfl rfl HA1.out ⟨wr.heap.size, 0, none⟩ 1 1 (tokCells { kind := m, at_ := k }) rfl HQ1.out HN1.out HP1.out ?c2_1 ?c3_1 ?c4_1)
      case c2_1 => omega
      case c3_1 => unfold maxLen; omega
      intro v1 u1 hY1
      have HY := hid hY1
      clear HA1 HN1 HQ1 HP1 hY1
      go_wp2_with fail
      go_roundw
      case rel => exact ⟨k + 1, f, o ++ [{ kind := m, at_ := k }], S1, by rw [Hl.out]; omega, by go_num, HS1.out, by rw [List.length_append, List.flatMap_append, List.flatMap_singleton]; exact HY.out, by rw [← LR.pre_pre]; exact Hlex.out, by have := Hf.out; rw [Hl.out]; omega, by have := Ho.out; rw [List.length_append, List.length_singleton]; omega⟩
      case measure => simp [intOf]; omega
    rw [if_neg (fun h => h hm)] at hlex
    have hmb : (markI s[k] != 0) = false := by simpa using hm
    rw [hm] at Hmk
    by_cases h35 : s[k] = 35
    · rw [if_pos h35] at hlex
      have e35 : ((s[k].toNat : Int) == 35) = true := by rw [h35]; rfl
      have Hw := fun W => hid (L_word s (k + 1) W hs (by omega))
      have hvl := word_le (l := s.data.toList.drop (k + 1))
      rw [List.length_drop, Hl.out] at hvl
      rw [List.drop_drop] at hlex
      generalize wordR (s.data.toList.drop (k + 1)) = V at *
      by_cases hV : V = [116]
      · rw [if_pos (.inl hV), if_pos hV] at hlex
        subst hV
        have hvl2 : 1 ≤ s.size - (k + 1) := hvl
        have Hlex := hid hlex
        clear hlex h32 h9 h10 h59 hm h35
        go_wp2_with fail
        refine (Hmk _).out.mono ?_
        rintro e w2 ⟨rfl, rfl⟩
        go_wp2_with fail
        refine (Hw _).out.mono ?_
        rintro e w3 ⟨rfl, rfl⟩
        have HA2 := hid (X1.alloc0 HX1.out (.cells (tokCells { kind := 5, at_ := k, n := 1 }).toArray 74))
        have HN2 := hid (cells_new wr (wr.heap.size) (by first | rfl | simp) (tokCells { kind := 5, at_ := k, n := 1 }) 74)
        have HQ2 := hid (show (tokCells { kind := 5, at_ := k, n := 1 }).length = 1 * 4 from rfl)
        have HP2 := hid (show ∀ u ∈ tokCells { kind := 5, at_ := k, n := 1 }, u.oneCell' = true by simp [tokCells, Value.oneCell'])
        simp only [tokCells] at HA2 HN2
        go_wp2_with (at_builtin; refine wpList_appendX tyToks X1 rfl (.tmp 77) (.tmp 81) rfl rfl HA2.out ⟨wr.heap.size, 0, none⟩ 1 1 (tokCells { kind := 5, at_ := k, n := 1 }) rfl HQ2.out HN2.out HP2.out ?c2_2 ?c3_2 ?c4_2)
        case c2_2 => omega
        case c3_2 => unfold maxLen; omega
        intro v2 u2 hY2
        have HY := hid hY2
        clear HA2 HN2 HQ2 HP2 hY2
        go_wp2_with fail
        go_roundw
        case rel => exact ⟨k + 2, f, o ++ [{ kind := 5, at_ := k, n := 1 }], S1, by rw [Hl.out]; omega, by go_num, HS1.out, by rw [List.length_append, List.flatMap_append, List.flatMap_singleton]; exact HY.out, by rw [← LR.pre_pre]; exact Hlex.out, by have := Hf.out; rw [Hl.out]; omega, by have := Ho.out; rw [List.length_append, List.length_singleton]; omega⟩
        case measure => simp [intOf]; omega
      by_cases hV2 : V = [102]
      · rw [if_pos (.inr hV2), if_neg hV] at hlex
        subst hV2
        have hvl2 : 1 ≤ s.size - (k + 1) := hvl
        have Hlex := hid hlex
        clear hlex h32 h9 h10 h59 hm h35 hV
        go_wp2_with fail
        refine (Hmk _).out.mono ?_
        rintro e w2 ⟨rfl, rfl⟩
        go_wp2_with fail
        refine (Hw _).out.mono ?_
        rintro e w3 ⟨rfl, rfl⟩
        have HA3 := hid (X1.alloc0 HX1.out (.cells (tokCells { kind := 5, at_ := k, n := 0 }).toArray 74))
        have HN3 := hid (cells_new wr (wr.heap.size) (by first | rfl | simp) (tokCells { kind := 5, at_ := k, n := 0 }) 74)
        have HQ3 := hid (show (tokCells { kind := 5, at_ := k, n := 0 }).length = 1 * 4 from rfl)
        have HP3 := hid (show ∀ u ∈ tokCells { kind := 5, at_ := k, n := 0 }, u.oneCell' = true by simp [tokCells, Value.oneCell'])
        simp only [tokCells] at HA3 HN3
        go_wp2_with (at_builtin; refine wpList_appendX tyToks X1 rfl (.tmp 77) (.tmp 81) rfl rfl HA3.out ⟨wr.heap.size, 0, none⟩ 1 1 (tokCells { kind := 5, at_ := k, n := 0 }) rfl HQ3.out HN3.out HP3.out ?c2_3 ?c3_3 ?c4_3)
        case c2_3 => omega
        case c3_3 => unfold maxLen; omega
        intro v3 u3 hY3
        have HY := hid hY3
        clear HA3 HN3 HQ3 HP3 hY3
        go_wp2_with fail
        go_roundw
        case rel => exact ⟨k + 2, f, o ++ [{ kind := 5, at_ := k, n := 0 }], S1, by rw [Hl.out]; omega, by go_num, HS1.out, by rw [List.length_append, List.flatMap_append, List.flatMap_singleton]; exact HY.out, by rw [← LR.pre_pre]; exact Hlex.out, by have := Hf.out; rw [Hl.out]; omega, by have := Ho.out; rw [List.length_append, List.length_singleton]; omega⟩
        case measure => simp [intOf]; omega
      · rw [if_neg (by rintro (h | h); exact hV h; exact hV2 h)] at hlex
        have q1 : (V != [116]) = true := by simpa using hV
        have q2 : (V != [102]) = true := by simpa using hV2
        have q1' : (V == [116]) = false := by simpa using hV
        have q2' : (V == [102]) = false := by simpa using hV2
        have Hlex := hid hlex
        clear hlex h32 h9 h10 h59 hm h35 hV hV2
        go_wp2_with fail
        refine (Hmk _).out.mono ?_
        rintro e w2 ⟨rfl, rfl⟩
        go_wp2_with fail
        refine (Hw _).out.mono ?_
        rintro e w3 ⟨rfl, rfl⟩
        go_wp2_with fail
        go_ret3
        exact ⟨S1, HS1.out, X1.dropAtom HX1.out, .inr ⟨k, 50, Hlex.out.symm, by simp, rfl⟩⟩
    have e35 : ((s[k].toNat : Int) == 35) = false := byte_ne (x := 35) h35
    rw [if_neg h35] at hlex
    have Hlt := fun W => hid (L_letter s[k] W)
    cases hlet : letterB s[k] with
    | false =>
      rw [hlet] at hlex Hlt
      rw [if_pos rfl] at hlex
      have Hlex := hid hlex
      clear hlex h32 h9 h10 h59 hm h35 hlet
      go_wp2_with fail
      refine (Hmk _).out.mono ?_
      rintro e w2 ⟨rfl, rfl⟩
      go_wp2_with fail
      refine (Hlt _).out.mono ?_
      rintro e w3 ⟨rfl, rfl⟩
      go_wp2_with fail
      go_ret3
      exact ⟨S1, HS1.out, X1.dropAtom HX1.out, .inr ⟨k, 50, Hlex.out.symm, by simp, rfl⟩⟩
    | true =>
      rw [hlet] at hlex Hlt
      rw [if_neg (by simp), ← drop_get Hx.out, List.drop_drop] at hlex
      have hw0 : 1 ≤ (wordR (s.data.toList.drop k)).length := by
        unfold wordR
        rw [drop_get Hx.out, List.takeWhile_cons_of_pos hlet]; simp
      have Hw := fun W => hid (L_word s k W hs (by omega))
      have hvl := word_le (l := s.data.toList.drop k)
      rw [List.length_drop, Hl.out] at hvl
      generalize wordR (s.data.toList.drop k) = V at *
      have H1 := hid (L_one (X1.cons _) L S1 (bs V) k wr HX1.out (by rw [bs_size]; omega) (by rw [bs_size]; omega))
      rw [show (bs V).data.toList = V from List.toList_toArray] at H1
      by_cases he : oneE V = 0
      case neg =>
        rw [if_pos he] at hlex
        have hq : (oneE V != 0) = true := by simpa using he
        have He := hid he
        have Hlex := hid hlex
        clear hlex h32 h9 h10 h59 hm h35 hlet he
        generalize oneE V = er at *
        go_wp2_with fail
        refine (Hmk _).out.mono ?_
        rintro e w2 ⟨rfl, rfl⟩
        go_wp2_with fail
        refine (Hlt _).out.mono ?_
        rintro e w3 ⟨rfl, rfl⟩
        go_wp2_with fail
        refine (Hw _).out.mono ?_
        rintro e w4 ⟨rfl, rfl⟩
        go_wp2_with fail
        refine H1.out.mono ?_
        rintro e w5 ⟨t', rfl, ht', hX5⟩
        have HX5 := hid (X1.alloc0 hX5 (.cells (tokCells t').toArray 74))
        clear hX5 ht'
        go_wp2_with fail
        go_ret3
        exact ⟨S1, HS1.out, X1.dropAtom HX5.out, .inr ⟨k, er, Hlex.out.symm, He.out, rfl⟩⟩
      rw [if_neg (fun h => h he)] at hlex
      rw [he] at H1
      have Hlex := hid hlex
      clear hlex h32 h9 h10 h59 hm h35 hlet he
      go_wp2_with fail
      refine (Hmk _).out.mono ?_
      rintro e w2 ⟨rfl, rfl⟩
      go_wp2_with fail
      refine (Hlt _).out.mono ?_
      rintro e w3 ⟨rfl, rfl⟩
      go_wp2_with fail
      refine (Hw _).out.mono ?_
      rintro e w4 ⟨rfl, rfl⟩
      go_wp2_with fail
      refine H1.out.mono ?_
      rintro e w5 ⟨t', rfl, ht', hX5⟩
      obtain rfl := ht' rfl
      have HX6 := hid (X1.alloc0 hX5 (.cells (tokCells (oneT V k)).toArray 74))
      clear hX5 ht'
      generalize oneT V k = t at *
      simp only [tokCells] at HX6
      have HA4 := hid (X1.alloc0 HX6.out (.cells (tokCells t).toArray 74))
      have HN4 := hid (cells_new (w5.alloc (.cells #[.int .u8 t.kind, nat t.at_, int t.n, str t.s] 74)) (w5.heap.size + 1) (by first | rfl | simp) (tokCells t) 74)
      have HQ4 := hid (show (tokCells t).length = 1 * 4 from rfl)
      have HP4 := hid (show ∀ u ∈ tokCells t, u.oneCell' = true by simp [tokCells, Value.oneCell'])
      simp only [tokCells] at HA4 HN4
      go_wp2_with (at_builtin; refine wpList_appendX tyToks X1 rfl (.tmp 102) (.tmp 104) rfl rfl HA4.out ⟨w5.heap.size + 1, 0, none⟩ 1 1 (tokCells t) rfl HQ4.out HN4.out HP4.out ?c2_4 ?c3_4 ?c4_4)
      case c2_4 => omega
      case c3_4 => unfold maxLen; omega
      intro v4 u4 hY4
      have HY := hid hY4
      clear HA4 HN4 HQ4 HP4 hY4
      go_wp2_with fail
      go_roundw
      case rel => exact ⟨k + V.length, f, o ++ [t], S1, by rw [Hl.out]; omega, by go_num, HS1.out, by rw [List.length_append, List.flatMap_append, List.flatMap_singleton]; exact HY.out, by rw [← LR.pre_pre]; exact Hlex.out, by have := Hf.out; rw [Hl.out]; omega, by have := Ho.out; rw [List.length_append, List.length_singleton]; omega⟩
      case measure => simp [intOf]; omega
end Go.Proofs.Ytjjbidajkmodfaa
namespace Go.Proofs.Ytjjbidajkmodfaa
open Go Go.RowKit
theorem tyNodes : SliceTy Try.prog 22 60 5 64 := SliceTy.of Try.underlying22 (by kernel_rfl : _ = some (some (.agg #[.int .u8 0, .int .i64 0, .int .i64 0, .string ⟨#[]⟩, .slice none 0 0]), 5, 64)) rfl (by decide)
theorem tyParts : SliceTy Try.prog 69 76 3 40 := SliceTy.of Try.underlying69 (by kernel_rfl : _ = some (some (.agg #[.int .i64 0, .bool false, .slice none 0 0]), 3, 40)) rfl (by decide)
section
variable {S : Seal} {L : List Atom} {w : World}
theorem Wd.blkM {b : Nat} {c : Array Value} {t : TypeId} (h : Wd S L w) (hm : Atom.blk b c t ∈ L) (i : Nat) : w.cell? ⟨b, i, none⟩ = c[i]? := cell_of_row w b i c t (0, 0) (h.own _ hm)
theorem Wd.freeM {b : Nat} {c : Array Value} {t : TypeId} (h : Wd S L w) (hm : Atom.blk b c t ∈ L) (i : Nat) : w.frozen? ⟨b, i, none⟩ = false := frozen_of_row w b i c t (h.own _ hm)
theorem Wd.rowLenM {e size n : Nat} {v : Value} {xs : List Value} (h : Wd S L w) (hm : Atom.row e size v n xs ∈ L) : ∃ A c, v = .slice A n c ∧ n ≤ c ∧ c ≤ maxLen := by
  have hr : w.ownsRow 0 e size v n xs := h.own _ hm
  rcases hr.2 with ⟨rfl, rfl⟩ | ⟨g, cap, cur, rfl, _, hg, hnc, hcm, _⟩
  · exact ⟨none, 0, rfl, Nat.le_refl _, by unfold maxLen; omega⟩
  · exact ⟨_, cap, rfl, hnc, hcm⟩
theorem Wd.rowM {e size n : Nat} {v : Value} {xs : List Value} (h : Wd S L w) (hm : Atom.row e size v n xs ∈ L) (h0 : 0 < n) : ∃ g c, v = .slice (some ⟨g, 0, none⟩) n c ∧ n ≤ c ∧ c ≤ maxLen := by
  have hr : w.ownsRow 0 e size v n xs := h.own _ hm
  rcases hr.2 with ⟨rfl, rfl⟩ | ⟨g, cap, cur, rfl, _, hg, hnc, hcm, _⟩
  · omega
  · exact ⟨g, cap, rfl, hnc, hcm⟩
theorem Wd.rowCellM {e size n g c : Nat} {xs : List Value} (h : Wd S L w) (hm : Atom.row e size (.slice (some ⟨g, 0, none⟩) n c) n xs ∈ L) {j : Nat} {u : Value} (hu : xs[j]? = some u) : w.cell? ⟨g, j, none⟩ = some u := by
  have hr : w.ownsRow 0 e size _ n xs := h.own _ hm
  rw [hr.cellAt j (by rw [← hr.1]; exact (List.getElem?_eq_some_iff.1 hu).1)]; exact hu
theorem Wd.rowFreeM {e size n g c : Nat} {xs : List Value} (h : Wd S L w) (hm : Atom.row e size (.slice (some ⟨g, 0, none⟩) n c) n xs ∈ L) (j : Nat) : w.frozen? ⟨g, j, none⟩ = false := (h.own _ hm : w.ownsRow 0 e size _ n xs).frozenAt j
theorem Wd.allocNil (h : Wd S L w) (e size : Nat) : Wd S (.row e size (.slice (some ⟨w.heap.size, 0, none⟩) 0 0) 0 [] :: L) (w.alloc (.cells #[] e)) := by
  have k := h.allocOwn #[] e
  refine ⟨k.os, k.tape, k.output, k.kept, fun a ha => ?_, fun a ha b hb => ?_, k.apart⟩
  · rcases List.mem_cons.1 ha with rfl | ha
    · exact World.ownsRow_lit (base := 0) (size := size) w #[] 0 (Nat.zero_le _) (by unfold maxLen; omega) (by simp)
    · exact k.own a (List.mem_cons_of_mem _ ha)
  · rcases List.mem_cons.1 ha with rfl | ha
    · cases hb; exact k.free _ List.mem_cons_self _ rfl
    · exact k.free a (List.mem_cons_of_mem _ ha) b hb
end
theorem Wd.head_ne {S : Seal} {L : List Atom} {w : World} {a x : Atom} {b b' : Nat} (h : Wd S (a :: L) w) (hb : a.block = some b) (hm : x ∈ L) (hx : x.block = some b') : b' ≠ b := by
  rintro rfl
  have := h.apart
  rw [List.filterMap_cons, hb] at this
  exact (List.nodup_cons.1 this).1 (List.mem_filterMap.2 ⟨x, hm, hx⟩)
abbrev PV := Part × Value
def partCells (z : PV) : List Value := [int z.1.at_, .bool z.1.quote, z.2]
def partAtom (z : PV) : Atom := .row 3 1 z.2 z.1.l.length (z.1.l.map nat)
abbrev rdAtoms (p : Nat) (r : RS) (Rv Tv Ov : Value) (cells : List Value) (zs : List PV) : List Atom :=
  .row 60 5 Rv r.row.length cells :: .blk p #[Rv, Tv, Ov] 71 :: .row 3 1 Tv r.tops.length (r.tops.map nat) :: .row 76 3 Ov zs.length (zs.flatMap partCells) :: zs.map partAtom
def RdX (p : Nat) (r : RS) (L : List Atom) (S : Seal) (w : World) : Prop :=
  Glob S ∧ ∃ Rv Tv Ov cells zs, Wd S (rdAtoms p r Rv Tv Ov cells zs ++ L) w ∧ NodesC S cells r.row ∧ r.op = (zs.map Prod.fst).reverse
theorem RdX.xs (p : Nat) (r : RS) : Xs (RdX p r) := by
  intro L S w h
  obtain ⟨g, Rv, Tv, Ov, cells, zs, h1, h2, h3⟩ := h
  exact ⟨_, h1, fun L' S' w' k hw => ⟨g.mono k, Rv, Tv, Ov, cells, zs, hw, h2.mono k, h3⟩⟩
def RdRet (S : Seal) (X : Seal → World → Prop) (e : Ending) (w' : World) : Prop := e = .returned (.tuple #[]) ∧ ∃ S', S.le S' ∧ X S' w'
structure Few (r : RS) : Prop where
  n : r.row.length + r.op.length ≤ 1000000
  parts : ∀ q ∈ r.op, q.l.length ≤ r.row.length
  tops : r.tops.length ≤ r.row.length
theorem flatMap_get (zs : List PV) (z : PV) (j : Nat) (hj : j < 3) : ((zs ++ [z]).flatMap partCells)[3 * zs.length + j]? = (partCells z)[j]? := by
  have hl : (zs.flatMap partCells).length = 3 * zs.length := by
    induction zs with
    | nil => rfl
    | cons a t ih => rw [List.flatMap_cons, List.length_append, ih, List.length_cons]; simp [partCells]; omega
  rw [List.flatMap_append, List.getElem?_append_right (by omega), hl, Nat.add_sub_cancel_left, List.flatMap_singleton]
theorem flatMap_set (zs : List PV) (q : Part) (v u : Value) : ((zs ++ [(q, v)]).flatMap partCells).set (3 * zs.length + 2) u = (zs.flatMap partCells) ++ [int q.at_, .bool q.quote, u] := by
  have hl : (zs.flatMap partCells).length = 3 * zs.length := by
    induction zs with
    | nil => rfl
    | cons a t ih => rw [List.flatMap_cons, List.length_append, ih, List.length_cons]; simp [partCells]; omega
  rw [List.flatMap_append, List.set_append_right _ _ (by omega), hl, Nat.add_sub_cancel_left, List.flatMap_singleton]; rfl
theorem perm_last {α : Type} (a b c d z : α) (M L : List α) : (a :: b :: c :: d :: ((M ++ [z]) ++ L)).Perm (z :: a :: b :: c :: d :: (M ++ L)) := by
  have h : (a :: b :: c :: d :: ((M ++ [z]) ++ L)) = ([a, b, c, d] ++ M) ++ z :: L := by simp
  rw [h]
  exact List.perm_middle (l₁ := [a, b, c, d] ++ M) (a := z) (l₂ := L)
theorem perm_5 {α : Type} (z a b c d : α) (M : List α) : (z :: a :: b :: c :: d :: M).Perm (d :: z :: a :: b :: c :: M) := List.perm_middle (l₁ := [z, a, b, c]) (a := d) (l₂ := M)
theorem flatMap_at (zs : List PV) (z : PV) (j : Nat) (u : Value) (hu : (partCells z)[j]? = some u) (hj : j < 3) : ((zs ++ [z]).flatMap partCells)[zs.length * 3 + j]? = some u := by
  rw [Nat.mul_comm, flatMap_get zs z j hj]; exact hu
set_option maxRecDepth 100000 in
set_option maxHeartbeats 8000000 in
theorem D_put (p : Nat) (n : Nat) (HC : ∀ (r : RS) (L : List Atom) (S : Seal) (w : World) (q : Part) (ps : List Part), r.op = q :: ps → r.op.length ≤ n → Few r → RdX p r L S w → Calls Try.prog 45 #[ptr p] w (RdRet S (RdX p r.close L)))
    (r : RS) (L : List Atom) (S : Seal) (w : World) (x : Node) (lv : Value) (hn : r.op.length ≤ n) (hF : Few r) (hX : RdX p r L S w) (hl : NatsR S lv x.l) (hxl : x.l.length ≤ 1000001) (hf : r.row.length + r.op.length + 1 ≤ 1000000) :
    Calls Try.prog 44 #[ptr p, .agg #[.int .u8 x.kind, int x.at_, int x.n, str x.s, lv]] w (RdRet S (RdX p (r.put x) L)) := by
  obtain ⟨g, Rv, Tv, Ov, cells, zs, hw, hc, hop⟩ := hX
  obtain ⟨A2, c2, rfl, _, _⟩ := Sl.shape hl
  have hrl : r.row.length ≤ 1000000 := by omega
  have Hl := hid hl
  have Hc := hid hc
  have Hg := hid g
  have Hop := hid hop
  have HF := hid hF
  have Hle := hid (hw.le_alloc (.cells #[.int .u8 x.kind, int x.at_, int x.n, str x.s, .slice A2 x.l.length c2] 60))
  have Hf : Hid (w.cell? ⟨p, 0, none⟩ = some Rv) := hw.blk2 0
  have Hw1 := hid (hw.alloc (.cells #[.int .u8 x.kind, int x.at_, int x.n, str x.s, .slice A2 x.l.length c2] 60))
  have Hw2 := hid (Hw1.out.alloc0 (.cells #[.int .u8 x.kind, int x.at_, int x.n, str x.s, .slice A2 x.l.length c2] 60)).drew
  have Hn := hid (cells_new (w.alloc (.cells #[.int .u8 x.kind, int x.at_, int x.n, str x.s, .slice A2 x.l.length c2] 60)) (w.heap.size + 1) (by simp)
    [.int .u8 x.kind, int x.at_, int x.n, str x.s, .slice A2 x.l.length c2] 60)
  clear hw hc hl g hop hF
  go_enter Try.func44, Try.ntmps44
  go_wp2_with fail
  refine wp_plan 8 (.take 0 (.take 1 (.take 2 (.take 3 (.take 4 (.take 5 (.one 6 (.one 7 .fin)))))))) (fun w' => w'.cell? ⟨p, 0, none⟩ = some Rv ∧ w'.cell? ⟨w.heap.size, 0, none⟩ = some (.int .u8 x.kind) ∧ w'.cell? ⟨w.heap.size, 1, none⟩ = some (int x.at_) ∧ w'.cell? ⟨w.heap.size, 2, none⟩ = some (int x.n) ∧ w'.cell? ⟨w.heap.size, 3, none⟩ = some (str x.s) ∧ w'.cell? ⟨w.heap.size, 4, none⟩ = some (.slice A2 x.l.length c2)) (by kernel_rfl) (by kernel_rfl) (fun _ _ d_ _ _ h_ => by cases d_ <;> exact h_) (by have h := Hw1.out; exact ⟨h.blk2 0, h.cell (Sc.new rfl), h.cell (Sc.new rfl), h.cell (Sc.new rfl), h.cell (Sc.new rfl), h.cell (Sc.new rfl)⟩) ?_
  refine Pl.takeW rfl rfl ?v1 ?hy1 ?rest1
  case hy1 => intro w_ _; first | (go_simp; done) | (go_simp; with_reducible rfl)
  simp only [Act.put, List.setIfInBounds_toArray, List.set_cons_zero, List.set_cons_succ]
  refine Pl.takeW rfl rfl ?v2 ?hy2 ?rest2
  case hy2 => intro w_ _; first | (go_simp; done) | (go_simp; with_reducible rfl)
  simp only [Act.put, List.setIfInBounds_toArray, List.set_cons_zero, List.set_cons_succ]
  refine Pl.takeW rfl rfl ?v3 ?hy3 ?rest3
  case hy3 => intro w_ _; first | (go_simp; done) | (go_simp; with_reducible rfl)
  simp only [Act.put, List.setIfInBounds_toArray, List.set_cons_zero, List.set_cons_succ]
  refine Pl.takeW rfl rfl ?v4 ?hy4 ?rest4
  case hy4 => intro w_ _; first | (go_simp; done) | (go_simp; with_reducible rfl)
  simp only [Act.put, List.setIfInBounds_toArray, List.set_cons_zero, List.set_cons_succ]
  refine Pl.takeW rfl rfl ?v5 ?hy5 ?rest5
  case hy5 => intro w_ hS_; obtain ⟨f1, d0, d1, d2, d3, d4⟩ := hS_; first | (go_simp; done) | (go_simp; with_reducible rfl)
  simp only [Act.put, List.setIfInBounds_toArray, List.set_cons_zero, List.set_cons_succ]
  refine Pl.takeW rfl rfl ?v6 ?hy6 ?rest6
  case hy6 => intro w_ hS_; obtain ⟨f1, d0, d1, d2, d3, d4⟩ := hS_; first | (go_simp; done) | (go_simp; with_reducible rfl)
  simp only [Act.put, List.setIfInBounds_toArray, List.set_cons_zero, List.set_cons_succ]
  refine Pl.oneW rfl rfl (fun K_ hK_ => ?_)
  go_simp
  refine hK_ _ _ ?_ ?_
  · have h := Hw2.out; exact ⟨h.blk2 0, h.cell (Sc.new rfl), h.cell (Sc.new rfl), h.cell (Sc.new rfl), h.cell (Sc.new rfl), h.cell (Sc.new rfl)⟩
  refine Pl.oneW rfl rfl (fun K_ hK_ => ?_)
  refine wp_append tyNodes (.tmp 10) (.tmp 12) rfl rfl Hw2.out ⟨w.heap.size + 1, 0, none⟩ 1 1 [.int .u8 x.kind, int x.at_, int x.n, str x.s, .slice A2 x.l.length c2] rfl rfl Hn.out (by simp [Value.oneCell']) (by omega) (by unfold maxLen; omega) (fun v' w' hW' => hK_ _ _ ?_ ?_)
  · have h := hW'; exact ⟨h.blk2 0, h.cell (Sc.new rfl), h.cell (Sc.new rfl), h.cell (Sc.new rfl), h.cell (Sc.new rfl), h.cell (Sc.new rfl)⟩
  show wpList _ _ _ _ _ _
  simp only [List.drop_succ_cons, List.drop_zero]
  obtain ⟨A3, c3, rfl, _, _⟩ := hW'.rowLenM List.mem_cons_self
  have e1 : w'.cell? ⟨p, 0, none⟩ = some Rv := hW'.blk2 0
  have e2 : w'.frozen? ⟨p, 0, none⟩ = false := hW'.free2 0
  have hY := (hW'.swap.store 0 (.slice A3 (r.row.length + 1) c3)).swap
  have e3 : w'.cell? ⟨p, 1, none⟩ = some Tv := hW'.blk2 1
  have e4 : w'.cell? ⟨p, 2, none⟩ = some Ov := hW'.blk2 2
  have hc2 := (Hc.out.mono Hle.out).snoc x (Hl.out.mono Hle.out)
  have Hg2 := hid (Hg.out.mono Hle.out)
  generalize S.put w.heap.size _ = S2 at hY hc2 Hle Hg2
  generalize cells ++ [Value.int .u8 x.kind, int x.at_, int x.n, str x.s, .slice A2 x.l.length c2] = cells2 at hY hc2
  have hrd : rput r.op r.row r.tops x = r.put x := rfl
  have hlz : r.op.length = zs.length := by rw [Hop.out]; simp
  rcases (show zs = [] ∨ ∃ a b, zs = a ++ [b] by rcases List.eq_nil_or_concat zs with h | ⟨a, b, h⟩; exact .inl h; exact .inr ⟨a, b, by rw [h, List.concat_eq_append]⟩) with rfl | ⟨zs', z, rfl⟩
  ·
    have hop : r.op = [] := by rw [Hop.out]; rfl
    rw [hop] at hrd
    have hput : r.put x = ⟨r.row ++ [x], r.tops ++ [r.row.length], []⟩ := hrd.symm
    have Hput := hid hput
    obtain ⟨A5, c5, rfl, _, _⟩ := hW'.rowLenM (e := 76) (size := 3) (v := Ov) (n := 0) (xs := []) (by simp)
    obtain ⟨A6, c6, rfl, _, _⟩ := hW'.rowLenM (e := 3) (size := 1) (v := Tv) (n := r.tops.length) (xs := r.tops.map nat) (by simp)
    have htl : r.tops.length ≤ 1000000 := by have := HF.out.tops; omega
    have HY := hid hY
    have Hc2 := hid hc2
    have hA := (HY.out.perm (List.Perm.trans (List.Perm.swap _ _ _) (List.perm_middle (l₁ := [_, _]) (a := _)))).alloc0 (.cells #[nat r.row.length] 3)
    have HA := hid hA
    have HN := hid (cells_new (w'.setCell ⟨p, 0, none⟩ (.slice A3 (r.row.length + 1) c3)) w'.heap.size (by simp) [nat r.row.length] 3)
    clear hY hc2 hA hput hrd hlz hop hW'
    go_wp2_with (at_builtin; refine wpList_append tyInts rfl (.tmp 32) (.tmp 34) rfl rfl HA.out ⟨w'.heap.size, 0, none⟩ 1 1 [nat r.row.length] rfl rfl HN.out ?c1 ?c2 ?c3 ?c4)
    case c1 => simp [Value.oneCell']
    case c2 => omega
    case c3 => unfold maxLen; omega
    clear HA HN
    intro v4 w4 hY4
    obtain ⟨A7, c7, rfl, _, _⟩ := hY4.rowLen
    have q1 : w4.cell? ⟨p, 1, none⟩ = some (.slice A6 r.tops.length c6) := hY4.blk2 1
    have q2 : w4.frozen? ⟨p, 1, none⟩ = false := hY4.free2 1
    have HZ := hid ((hY4.swap.store 1 (.slice A7 (r.tops.length + 1) c7)).swap)
    clear hY4 e1 e2 e3 e4
    go_wp2_with fail
    first | go_end0 | (simp only [Exit.inBlock, Exit.then]; refine bodyPost_ret (results_none rfl _ _ _) rfl ?_) | refine bodyPost_ret (results_none rfl _ _ _) rfl ?_
    rw [Hput.out]
    refine ⟨rfl, S2, Hle.out, Hg2.out, .slice A3 (r.row.length + 1) c3, .slice A7 (r.tops.length + 1) c7, .slice A5 0 c5, cells2, [], ?_, Hc2.out, rfl⟩
    have h := HZ.out.perm (List.Perm.trans (List.perm_middle (l₁ := [_, _]) (a := _)).symm (List.Perm.swap _ _ _)).symm
    simpa [rdAtoms] using h
  ·
    obtain ⟨q, v⟩ := z
    have hop : r.op = q :: (zs'.map Prod.fst).reverse := by rw [Hop.out]; simp
    rw [hop] at hrd
    have hzl : zs'.length + 1 ≤ 1000000 := by have := HF.out.n; rw [hlz] at this; simp at this; omega
    have hql : q.l.length ≤ 1000000 := by have := HF.out.parts q (by rw [hop]; simp); omega
    have hlO : (zs' ++ [(q, v)]).length = zs'.length + 1 := by simp
    obtain ⟨O, cO, rfl, _, _⟩ := hW'.rowM (e := 76) (size := 3) (v := Ov) (n := (zs' ++ [(q, v)]).length) (xs := (zs' ++ [(q, v)]).flatMap partCells) (by simp) (by simp)
    rw [hlO] at e4 hY
    obtain ⟨A8, c8, rfl, _, _⟩ := hW'.rowLenM (e := 3) (size := 1) (v := v) (n := q.l.length) (xs := q.l.map nat) (by simp [partAtom])
    have hZ := hY.perm (by
      simp only [List.map_append, List.map_singleton, List.cons_append]
      exact perm_last _ _ _ _ _ _ _)
    replace hZ : Wd S2 (.row 3 1 (.slice A8 q.l.length c8) q.l.length (q.l.map nat) :: _) _ := hZ
    have hzI : (zs'.length : Int) < (zs'.length : Int) + 1 := by omega
    have HZ := hid hZ
    have HA := hid (hZ.drew.alloc0 (.cells #[nat r.row.length] 3))
    have HN := hid (cells_new (w'.setCell ⟨p, 0, none⟩ (.slice A3 (r.row.length + 1) c3)).drew w'.heap.size (by simp) [nat r.row.length] 3)
    have Hc2 := hid hc2
    have Hrd := hid hrd
    have Hop2 := hid hop
    clear hY hc2 hZ hrd hop hW' hlO
    go_wp2_with fail
    refine wp_plan 16 (.take 0 (.take 1 (.take 2 (.take 3 (.take 4 (.take 5 (.take 6 (.take 7 (.take 8 (.take 9 (.take 10 (.take 11 (.take 12 (.take 13 (.one 14 (.one 15 .fin)))))))))))))))) (fun w' => w'.cell? ⟨p, 2, none⟩ = some (.slice (some ⟨O, 0, none⟩) (zs'.length + 1) cO) ∧ w'.cell? ⟨O, zs'.length * 3 + 2, none⟩ = some (.slice A8 q.l.length c8)) (by kernel_rfl) (by kernel_rfl) (fun _ _ d_ _ _ h_ => by cases d_ <;> exact h_) (by have h := HZ.out.drew; exact ⟨h.blkM (List.mem_cons_of_mem _ (List.mem_cons_of_mem _ List.mem_cons_self)) 2, h.rowCellM (List.mem_cons_of_mem _ (List.mem_cons_of_mem _ (List.mem_cons_of_mem _ (List.mem_cons_of_mem _ List.mem_cons_self)))) (flatMap_at zs' (q, .slice A8 q.l.length c8) 2 _ rfl (by omega))⟩) ?_
    refine Pl.takeW rfl rfl ?v7 ?hy7 ?rest7
    case hy7 => intro w_ _; first | (go_simp; done) | (go_simp; with_reducible rfl)
    simp only [Act.put, List.setIfInBounds_toArray, List.set_cons_zero, List.set_cons_succ]
    refine Pl.takeW rfl rfl ?v8 ?hy8 ?rest8
    case hy8 => intro w_ _; first | (go_simp; done) | (go_simp; with_reducible rfl)
    simp only [Act.put, List.setIfInBounds_toArray, List.set_cons_zero, List.set_cons_succ]
    refine Pl.takeW rfl rfl ?v9 ?hy9 ?rest9
    case hy9 => intro w_ _; first | (go_simp; done) | (go_simp; with_reducible rfl)
    simp only [Act.put, List.setIfInBounds_toArray, List.set_cons_zero, List.set_cons_succ]
    refine Pl.takeW rfl rfl ?v10 ?hy10 ?rest10
    case hy10 => intro w_ hS_; obtain ⟨f2, fv⟩ := hS_; first | (go_simp; done) | (go_simp; with_reducible rfl)
    simp only [Act.put, List.setIfInBounds_toArray, List.set_cons_zero, List.set_cons_succ]
    refine Pl.takeW rfl rfl ?v11 ?hy11 ?rest11
    case hy11 => intro w_ _; first | (go_simp; done) | (go_simp; with_reducible rfl)
    simp only [Act.put, List.setIfInBounds_toArray, List.set_cons_zero, List.set_cons_succ]
    refine Pl.takeW rfl rfl ?v12 ?hy12 ?rest12
    case hy12 => intro w_ _; first | (go_simp; done) | (go_simp; with_reducible rfl)
    simp only [Act.put, List.setIfInBounds_toArray, List.set_cons_zero, List.set_cons_succ]
    refine Pl.takeW rfl rfl ?v13 ?hy13 ?rest13
    case hy13 => intro w_ _; first | (go_simp; done) | (go_simp; with_reducible rfl)
    simp only [Act.put, List.setIfInBounds_toArray, List.set_cons_zero, List.set_cons_succ]
    refine Pl.takeW rfl rfl ?v14 ?hy14 ?rest14
    case hy14 => intro w_ _; first | (go_simp; done) | (go_simp; with_reducible rfl)
    simp only [Act.put, List.setIfInBounds_toArray, List.set_cons_zero, List.set_cons_succ]
    refine Pl.takeW rfl rfl ?v15 ?hy15 ?rest15
    case hy15 => intro w_ hS_; obtain ⟨f2, fv⟩ := hS_; first | (go_simp; done) | (go_simp; with_reducible rfl)
    simp only [Act.put, List.setIfInBounds_toArray, List.set_cons_zero, List.set_cons_succ]
    refine Pl.takeW rfl rfl ?v16 ?hy16 ?rest16
    case hy16 => intro w_ _; first | (go_simp; done) | (go_simp; with_reducible rfl)
    simp only [Act.put, List.setIfInBounds_toArray, List.set_cons_zero, List.set_cons_succ]
    refine Pl.takeW rfl rfl ?v17 ?hy17 ?rest17
    case hy17 => intro w_ _; first | (go_simp; done) | (go_simp; with_reducible rfl)
    simp only [Act.put, List.setIfInBounds_toArray, List.set_cons_zero, List.set_cons_succ]
    refine Pl.takeW rfl rfl ?v18 ?hy18 ?rest18
    case hy18 => intro w_ _; first | (go_simp; done) | (go_simp; with_reducible rfl)
    simp only [Act.put, List.setIfInBounds_toArray, List.set_cons_zero, List.set_cons_succ]
    refine Pl.takeW rfl rfl ?v19 ?hy19 ?rest19
    case hy19 => intro w_ hS_; obtain ⟨f2, fv⟩ := hS_; first | (go_simp; done) | (go_simp; with_reducible rfl)
    simp only [Act.put, List.setIfInBounds_toArray, List.set_cons_zero, List.set_cons_succ]
    refine Pl.takeW rfl rfl ?v20 ?hy20 ?rest20
    case hy20 => intro w_ _; first | (go_simp; done) | (go_simp; with_reducible rfl)
    simp only [Act.put, List.setIfInBounds_toArray, List.set_cons_zero, List.set_cons_succ]
    refine Pl.oneW rfl rfl (fun K_ hK_ => ?_)
    go_simp
    refine hK_ _ _ ?_ ?_
    · have h := HA.out; exact ⟨h.blkM (List.mem_cons_of_mem _ (List.mem_cons_of_mem _ List.mem_cons_self)) 2, h.rowCellM (List.mem_cons_of_mem _ (List.mem_cons_of_mem _ (List.mem_cons_of_mem _ (List.mem_cons_of_mem _ List.mem_cons_self)))) (flatMap_at zs' (q, .slice A8 q.l.length c8) 2 _ rfl (by omega))⟩
    refine Pl.oneW rfl rfl (fun K_ hK_ => ?_)
    refine wp_append tyInts (.tmp 56) (.tmp 58) rfl rfl HA.out ⟨w'.heap.size, 0, none⟩ 1 1 [nat r.row.length] rfl rfl HN.out (by simp [Value.oneCell']) (by omega) (by unfold maxLen; omega) (fun v4 w4 hY4 => hK_ _ _ ?_ ?_)
    · have h := hY4; exact ⟨h.blkM (List.mem_cons_of_mem _ (List.mem_cons_of_mem _ List.mem_cons_self)) 2, h.rowCellM (List.mem_cons_of_mem _ (List.mem_cons_of_mem _ (List.mem_cons_of_mem _ (List.mem_cons_of_mem _ List.mem_cons_self)))) (flatMap_at zs' (q, .slice A8 q.l.length c8) 2 _ rfl (by omega))⟩
    show wpList _ _ _ _ _ _
    simp only [List.drop_succ_cons, List.drop_zero]
    obtain ⟨A9, c9, rfl, _, _⟩ := hY4.rowLen
    have q2 : w4.cell? ⟨p, 2, none⟩ = some (.slice (some ⟨O, 0, none⟩) (zs'.length + 1) cO) := hY4.blkM (List.mem_cons_of_mem _ (List.mem_cons_of_mem _ List.mem_cons_self)) 2
    have q3 : w4.cell? ⟨O, zs'.length * 3 + 2, none⟩ = some (.slice A8 q.l.length c8) := hY4.rowCellM (List.mem_cons_of_mem _ (List.mem_cons_of_mem _ (List.mem_cons_of_mem _ (List.mem_cons_of_mem _ List.mem_cons_self)))) (flatMap_at zs' (q, .slice A8 q.l.length c8) 2 _ rfl (by omega))
    have q4 : w4.cell? ⟨O, zs'.length * 3 + 1, none⟩ = some (.bool q.quote) := hY4.rowCellM (List.mem_cons_of_mem _ (List.mem_cons_of_mem _ (List.mem_cons_of_mem _ (List.mem_cons_of_mem _ List.mem_cons_self)))) (flatMap_at zs' (q, .slice A8 q.l.length c8) 1 _ rfl (by omega))
    have q5 : w4.frozen? ⟨O, zs'.length * 3 + 2, none⟩ = false := hY4.rowFreeM (List.mem_cons_of_mem _ (List.mem_cons_of_mem _ (List.mem_cons_of_mem _ (List.mem_cons_of_mem _ List.mem_cons_self)))) _
    have hB := (hY4.perm (perm_5 _ _ _ _ _ _)).rowStore (zs'.length * 3 + 2) (.slice A9 (q.l.length + 1) c9)
    have hOp : p ≠ O := hB.head_ne rfl (x := .blk p _ _) (List.mem_cons_of_mem _ (List.mem_cons_of_mem _ List.mem_cons_self)) rfl
    have hpO : ¬ O = p := fun h => hOp h.symm
    rw [Nat.mul_comm, flatMap_set] at hB
    rw [Nat.mul_comm] at hB
    have hX2 : RdX p ⟨r.row ++ [x], r.tops, ⟨q.at_, q.quote, q.l ++ [r.row.length]⟩ :: (zs'.map Prod.fst).reverse⟩ L S2 (w4.setCell ⟨O, zs'.length * 3 + 2, none⟩ (.slice A9 (q.l.length + 1) c9)) := by
      refine ⟨Hg2.out, .slice A3 (r.row.length + 1) c3, Tv, .slice (some ⟨O, 0, none⟩) (zs'.length + 1) cO, cells2, zs' ++ [(⟨q.at_, q.quote, q.l ++ [r.row.length]⟩, .slice A9 (q.l.length + 1) c9)], ?_, Hc2.out, by simp⟩
      have h := hB.perm (List.Perm.trans (perm_last _ _ _ _ _ (zs'.map partAtom) L) (perm_5 _ _ _ _ _ _)).symm
      simpa [rdAtoms, partAtom, partCells] using h
    rw [show (zs'.flatMap partCells) ++ [int q.at_, .bool q.quote, .slice A9 (q.l.length + 1) c9] = (zs' ++ [((⟨q.at_, q.quote, q.l ++ [r.row.length]⟩, .slice A9 (q.l.length + 1) c9) : PV)]).flatMap partCells by simp [partCells]] at hB
    have g2 : (w4.setCell ⟨O, zs'.length * 3 + 2, none⟩ (.slice A9 (q.l.length + 1) c9)).cell? ⟨p, 2, none⟩ = some (.slice (some ⟨O, 0, none⟩) (zs'.length + 1) cO) := hB.blkM (List.mem_cons_of_mem _ (List.mem_cons_of_mem _ (List.mem_cons_of_mem _ List.mem_cons_self))) 2
    have g3 : (w4.setCell ⟨O, zs'.length * 3 + 2, none⟩ (.slice A9 (q.l.length + 1) c9)).cell? ⟨O, zs'.length * 3 + 1, none⟩ = some (.bool q.quote) := hB.rowCellM List.mem_cons_self (flatMap_at zs' (⟨q.at_, q.quote, q.l ++ [r.row.length]⟩, .slice A9 (q.l.length + 1) c9) 1 _ rfl (by omega))
    have g4 : (w4.setCell ⟨O, zs'.length * 3 + 2, none⟩ (.slice A9 (q.l.length + 1) c9)).cell? ⟨O, zs'.length * 3 + 2, none⟩ = some (.slice A9 (q.l.length + 1) c9) := hB.rowCellM List.mem_cons_self (flatMap_at zs' (⟨q.at_, q.quote, q.l ++ [r.row.length]⟩, .slice A9 (q.l.length + 1) c9) 2 _ rfl (by omega))
    clear hB hY4
    have HX2 := hid hX2
    have hrl2 : r.op.length ≤ n := hn
    have Hlen := hid (show r.op.length = (zs'.map Prod.fst).reverse.length + 1 by rw [Hop2.out]; rfl)
    clear hX2
    have hrd := Hrd.out
    rw [rput] at hrd
    cases hq : q.quote with
    | false =>
      rw [if_neg (by rw [hq]; simp)] at hrd
      rw [hq] at q4 g3
      have Hput := hid hrd
      clear hrd
      go_wp2_with fail
      first | go_end0 | (simp only [Exit.inBlock, Exit.then]; refine bodyPost_ret (results_none rfl _ _ _) rfl ?_) | refine bodyPost_ret (results_none rfl _ _ _) rfl ?_
      rw [← Hput.out]
      exact ⟨rfl, S2, Hle.out, HX2.out⟩
    | true =>
      rw [hq] at q4 g3
      by_cases hq1 : q.l.length = 1
      · rw [if_pos ⟨hq, hq1⟩] at hrd
        have hqI : ((q.l.length : Int) + 1 == 2) = true := by rw [hq1]; rfl
        have hc := HC ⟨r.row ++ [x], r.tops, ⟨q.at_, q.quote, q.l ++ [r.row.length]⟩ :: (zs'.map Prod.fst).reverse⟩ L S2 _ ⟨q.at_, q.quote, q.l ++ [r.row.length]⟩ _ rfl (by have := Hlen.out; simp at this ⊢; omega)
          ⟨by have := Hlen.out; simp at this ⊢; omega, fun q' hq' => by
            rcases List.mem_cons.1 hq' with rfl | hq'
            · have := HF.out.parts q (by rw [Hop2.out]; simp); simp; omega
            · have := HF.out.parts q' (by rw [Hop2.out]; exact List.mem_cons_of_mem _ hq'); simp; omega, by have := HF.out.tops; simp; omega⟩ HX2.out
        have HC2 := hid hc
        have Hput := hid hrd
        clear hrd hc hq1 hq
        go_wp2_with fail
        refine HC2.out.mono ?_
        rintro e w6 ⟨rfl, S6, k6, hX6⟩
        go_wp2_with fail
        first | go_end0 | (simp only [Exit.inBlock, Exit.then]; refine bodyPost_ret (results_none rfl _ _ _) rfl ?_) | refine bodyPost_ret (results_none rfl _ _ _) rfl ?_
        rw [← Hput.out]
        exact ⟨rfl, S6, Hle.out.trans k6, hX6⟩
      · rw [if_neg (fun h => hq1 h.2)] at hrd
        have hqI : ((q.l.length : Int) + 1 == 2) = false := by rw [beq_eq_false_iff_ne]; omega
        clear hq1
        have Hput := hid hrd
        clear hrd
        go_wp2_with fail
        first | go_end0 | (simp only [Exit.inBlock, Exit.then]; refine bodyPost_ret (results_none rfl _ _ _) rfl ?_) | refine bodyPost_ret (results_none rfl _ _ _) rfl ?_
        rw [← Hput.out]
        exact ⟨rfl, S2, Hle.out, HX2.out⟩
end Go.Proofs.Ytjjbidajkmodfaa
namespace Go.Proofs.Ytjjbidajkmodfaa
open Go Go.RowKit
theorem flatMap_len3 (zs : List PV) : (zs.flatMap partCells).length = zs.length * 3 := by
  induction zs with
  | nil => rfl
  | cons a t ih => rw [List.flatMap_cons, List.length_append, ih, List.length_cons]; simp [partCells]; omega
theorem flatMap_left (zs : List PV) (z : PV) {j : Nat} {u : Value} (hu : (zs.flatMap partCells)[j]? = some u) : ((zs ++ [z]).flatMap partCells)[j]? = some u := by
  rw [List.flatMap_append, List.getElem?_append_left (List.getElem?_eq_some_iff.1 hu).1]; exact hu
theorem perm_4 {α : Type} (b n r t : α) (L : List α) : (b :: n :: r :: t :: L).Perm (r :: b :: t :: n :: L) :=
  (List.perm_middle (l₁ := [b, n]) (a := r) (l₂ := t :: L)).trans (List.Perm.cons r (List.Perm.cons b (List.Perm.swap t n L)))
theorem add_zero (b j : Nat) : (⟨b, 0, none⟩ : Addr).add j = ⟨b, j, none⟩ := by unfold Addr.add; split <;> simp_all
theorem partCells_one (zs : List PV) : ∀ u ∈ zs.flatMap partCells, u.oneCell' = true → u.oneCell' = true := fun _ _ h => h
set_option maxRecDepth 100000 in
set_option maxHeartbeats 8000000 in
theorem D_close (p : Nat) (n : Nat) (HP : ∀ (r : RS) (L : List Atom) (S : Seal) (w : World) (x : Node) (lv : Value), r.op.length ≤ n → Few r → RdX p r L S w → NatsR S lv x.l → x.l.length ≤ 1000001 → r.row.length + r.op.length + 1 ≤ 1000000 →
      Calls Try.prog 44 #[ptr p, .agg #[.int .u8 x.kind, int x.at_, int x.n, str x.s, lv]] w (RdRet S (RdX p (r.put x) L)))
    (r : RS) (L : List Atom) (S : Seal) (w : World) (q : Part) (ps : List Part) (ho : r.op = q :: ps) (hn : r.op.length ≤ n + 1) (hF : Few r) (hX : RdX p r L S w) :
    Calls Try.prog 45 #[ptr p] w (RdRet S (RdX p r.close L)) := by
  obtain ⟨g, Rv, Tv, Ov, cells, zs, hw, hc, hop⟩ := hX
  rcases (show zs = [] ∨ ∃ a b, zs = a ++ [b] by rcases List.eq_nil_or_concat zs with h | ⟨a, b, h⟩; exact .inl h; exact .inr ⟨a, b, by rw [h, List.concat_eq_append]⟩) with rfl | ⟨zs', z, rfl⟩
  · rw [ho] at hop; cases hop
  obtain ⟨q', v⟩ := z
  have hop2 : q :: ps = q' :: (zs'.map Prod.fst).reverse := by rw [← ho, hop]; simp
  simp only [List.cons.injEq] at hop2
  obtain ⟨rfl, rfl⟩ := hop2
  have hcl : r.close = rput (zs'.map Prod.fst).reverse r.row r.tops ⟨4, q.at_, 0, [], q.l⟩ := by unfold RS.close; rw [ho]
  have hql : q.l.length ≤ 1000000 := by have := hF.parts q (by rw [ho]; simp); have := hF.n; omega
  have hzl : zs'.length ≤ 1000000 := by have := hF.n; rw [ho] at this; simp at this; omega
  have hlO : (zs' ++ [(q, v)]).length = zs'.length + 1 := by simp
  obtain ⟨O, cO, rfl, hO1, hO2⟩ := hw.rowM (e := 76) (size := 3) (v := Ov) (n := (zs' ++ [(q, v)]).length) (xs := (zs' ++ [(q, v)]).flatMap partCells) (by simp [rdAtoms]) (by simp)
  rw [hlO] at hw hO1
  obtain ⟨A8, c8, rfl, _, _⟩ := hw.rowLenM (e := 3) (size := 1) (v := v) (n := q.l.length) (xs := q.l.map nat) (by simp [rdAtoms, partAtom])
  have hw2 : Wd S (.row 60 5 Rv r.row.length cells :: .blk p #[Rv, Tv, .slice (some ⟨O, 0, none⟩) (zs'.length + 1) cO] 71 :: .row 3 1 Tv r.tops.length (r.tops.map nat) ::
      .row 76 3 (.slice (some ⟨O, 0, none⟩) (zs'.length + 1) cO) (zs'.length + 1) ((zs' ++ [((q, .slice A8 q.l.length c8) : PV)]).flatMap partCells) :: ((zs'.map partAtom ++ [partAtom (q, .slice A8 q.l.length c8)]) ++ L)) w := by
    simpa [rdAtoms] using hw
  have hZ := hw2.perm (perm_last _ _ _ _ _ _ _)
  replace hZ : Wd S (.row 3 1 (.slice A8 q.l.length c8) q.l.length (q.l.map nat) :: _) _ := hZ
  have hzI : (zs'.length : Int) < (zs'.length : Int) + 1 := by omega
  have hzJ : (zs'.length : Int) ≤ (cO : Int) := by omega
  have hwr : IntKind.i64.wrap (zs'.length : Int) = (zs'.length : Int) := by rw [IntKind.wrap_i64]; omega
  have HZ := hid hZ
  have Hg := hid g
  have Hc := hid hc
  have HF := hid hF
  have Hcl := hid hcl
  have Ho := hid ho
  have Hn := hid hn
  have q0 := hZ.rowCellM (List.mem_cons_of_mem _ (List.mem_cons_of_mem _ (List.mem_cons_of_mem _ (List.mem_cons_of_mem _ List.mem_cons_self)))) (flatMap_at zs' (q, .slice A8 q.l.length c8) 0 _ rfl (by omega))
  rw [Nat.add_zero] at q0
  clear hw hw2 hc g hop hZ hcl hF ho hlO q0 hn
  go_enter Try.func45, Try.ntmps45
  go_wp2_with fail
  refine wp_plan 13 (.take 0 (.take 1 (.take 2 (.take 3 (.take 4 (.take 5 (.take 6 (.take 7 (.take 8 (.take 9 (.take 10 (.take 11 (.one 12 .fin))))))))))))) (fun w' => w'.cell? ⟨p, 2, none⟩ = some (.slice (some ⟨O, 0, none⟩) (zs'.length + 1) cO) ∧ w'.cell? ⟨O, zs'.length * 3, none⟩ = some (int q.at_) ∧ w'.cell? ⟨O, zs'.length * 3 + 1, none⟩ = some (.bool q.quote) ∧ w'.cell? ⟨O, zs'.length * 3 + 2, none⟩ = some (.slice A8 q.l.length c8)) (by kernel_rfl) (by kernel_rfl) (fun _ _ d_ _ _ h_ => by cases d_ <;> exact h_) (by have h := HZ.out.drew; exact ⟨h.blkM (List.mem_cons_of_mem _ (List.mem_cons_of_mem _ List.mem_cons_self)) 2, by have := h.rowCellM (List.mem_cons_of_mem _ (List.mem_cons_of_mem _ (List.mem_cons_of_mem _ (List.mem_cons_of_mem _ List.mem_cons_self)))) (flatMap_at zs' (q, .slice A8 q.l.length c8) 0 _ rfl (by omega)); exact this, h.rowCellM (List.mem_cons_of_mem _ (List.mem_cons_of_mem _ (List.mem_cons_of_mem _ (List.mem_cons_of_mem _ List.mem_cons_self)))) (flatMap_at zs' (q, .slice A8 q.l.length c8) 1 _ rfl (by omega)), h.rowCellM (List.mem_cons_of_mem _ (List.mem_cons_of_mem _ (List.mem_cons_of_mem _ (List.mem_cons_of_mem _ List.mem_cons_self)))) (flatMap_at zs' (q, .slice A8 q.l.length c8) 2 _ rfl (by omega))⟩) ?_
  refine Pl.takeW rfl rfl ?v1 ?hy1 ?rest1
  case hy1 => intro w_ _; first | (go_simp; done) | (go_simp; with_reducible rfl)
  simp only [Act.put, List.setIfInBounds_toArray, List.set_cons_zero, List.set_cons_succ]
  refine Pl.takeW rfl rfl ?v2 ?hy2 ?rest2
  case hy2 => intro w_ _; first | (go_simp; done) | (go_simp; with_reducible rfl)
  simp only [Act.put, List.setIfInBounds_toArray, List.set_cons_zero, List.set_cons_succ]
  refine Pl.takeW rfl rfl ?v3 ?hy3 ?rest3
  case hy3 => intro w_ _; first | (go_simp; done) | (go_simp; with_reducible rfl)
  simp only [Act.put, List.setIfInBounds_toArray, List.set_cons_zero, List.set_cons_succ]
  refine Pl.takeW rfl rfl ?v4 ?hy4 ?rest4
  case hy4 => intro w_ hS_; obtain ⟨f2, a0, a1, a2⟩ := hS_; first | (go_simp; done) | (go_simp; with_reducible rfl)
  simp only [Act.put, List.setIfInBounds_toArray, List.set_cons_zero, List.set_cons_succ]
  refine Pl.takeW rfl rfl ?v5 ?hy5 ?rest5
  case hy5 => intro w_ _; first | (go_simp; done) | (go_simp; with_reducible rfl)
  simp only [Act.put, List.setIfInBounds_toArray, List.set_cons_zero, List.set_cons_succ]
  refine Pl.takeW rfl rfl ?v6 ?hy6 ?rest6
  case hy6 => intro w_ _; first | (go_simp; done) | (go_simp; with_reducible rfl)
  simp only [Act.put, List.setIfInBounds_toArray, List.set_cons_zero, List.set_cons_succ]
  refine Pl.takeW rfl rfl ?v7 ?hy7 ?rest7
  case hy7 => intro w_ _; first | (go_simp; done) | (go_simp; with_reducible rfl)
  simp only [Act.put, List.setIfInBounds_toArray, List.set_cons_zero, List.set_cons_succ]
  refine Pl.takeW rfl rfl ?v8 ?hy8 ?rest8
  case hy8 => intro w_ hS_; obtain ⟨f2, a0, a1, a2⟩ := hS_; first | (go_simp; done) | (go_simp; with_reducible rfl)
  simp only [Act.put, List.setIfInBounds_toArray, List.set_cons_zero, List.set_cons_succ]
  refine Pl.takeW rfl rfl ?v9 ?hy9 ?rest9
  case hy9 => intro w_ _; first | (go_simp; done) | (go_simp; with_reducible rfl)
  simp only [Act.put, List.setIfInBounds_toArray, List.set_cons_zero, List.set_cons_succ]
  refine Pl.takeW rfl rfl ?v10 ?hy10 ?rest10
  case hy10 => intro w_ _; first | (go_simp; done) | (go_simp; with_reducible rfl)
  simp only [Act.put, List.setIfInBounds_toArray, List.set_cons_zero, List.set_cons_succ]
  refine Pl.takeW rfl rfl ?v11 ?hy11 ?rest11
  case hy11 => intro w_ _; first | (go_simp; done) | (go_simp; with_reducible rfl)
  simp only [Act.put, List.setIfInBounds_toArray, List.set_cons_zero, List.set_cons_succ]
  refine Pl.takeW rfl rfl ?v12 ?hy12 ?rest12
  case hy12 => intro w_ hS_; obtain ⟨f2, a0, a1, a2⟩ := hS_; first | (go_simp; done) | (go_simp; with_reducible rfl)
  simp only [Act.put, List.setIfInBounds_toArray, List.set_cons_zero, List.set_cons_succ]
  refine Pl.oneW rfl rfl (fun K_ hK_ => ?_)
  go_simp
  refine hK_ _ _ (by have h := (HZ.out.alloc0 (.cells #[int 0, .bool false, .slice none 0 0] 76)).drew; exact ⟨h.blkM (List.mem_cons_of_mem _ (List.mem_cons_of_mem _ List.mem_cons_self)) 2, by have := h.rowCellM (List.mem_cons_of_mem _ (List.mem_cons_of_mem _ (List.mem_cons_of_mem _ (List.mem_cons_of_mem _ List.mem_cons_self)))) (flatMap_at zs' (q, .slice A8 q.l.length c8) 0 _ rfl (by omega)); exact this, h.rowCellM (List.mem_cons_of_mem _ (List.mem_cons_of_mem _ (List.mem_cons_of_mem _ (List.mem_cons_of_mem _ List.mem_cons_self)))) (flatMap_at zs' (q, .slice A8 q.l.length c8) 1 _ rfl (by omega)), h.rowCellM (List.mem_cons_of_mem _ (List.mem_cons_of_mem _ (List.mem_cons_of_mem _ (List.mem_cons_of_mem _ List.mem_cons_self)))) (flatMap_at zs' (q, .slice A8 q.l.length c8) 2 _ rfl (by omega))⟩) ?_
  show wpList _ _ _ _ _ _
  simp only [List.drop_succ_cons, List.drop_zero]
  have hone : ∀ u ∈ zs'.flatMap partCells, u.oneCell' = true := by
    intro u hu
    obtain ⟨z, hz, hu⟩ := List.mem_flatMap.1 hu
    obtain ⟨A, c, hv, _⟩ := HZ.out.rowLenM (e := 3) (size := 1) (v := z.2) (n := z.1.l.length) (xs := z.1.l.map nat) (by
      refine List.mem_cons_of_mem _ (List.mem_cons_of_mem _ (List.mem_cons_of_mem _ (List.mem_cons_of_mem _ (List.mem_cons_of_mem _ (List.mem_append.2 (.inl ?_))))))
      exact List.mem_map.2 ⟨z, hz, rfl⟩)
    simp only [partCells, List.mem_cons, List.not_mem_nil, or_false] at hu
    rcases hu with rfl | rfl | rfl
    · rfl
    · rfl
    · rw [hv]; rfl
  have HOne := hid hone
  have HZ1 := hid (HZ.out.alloc (.cells #[int q.at_, .bool q.quote, .slice A8 q.l.length c8] 76))
  have HK1 := hid (HZ.out.le_alloc (.cells #[int q.at_, .bool q.quote, .slice A8 q.l.length c8] 76))
  have Hb0 := hid (Sc.new rfl : Sc (S.put w.heap.size (.cells #[int q.at_, .bool q.quote, .slice A8 q.l.length c8] 76)) w.heap.size 0 (int q.at_))
  have Hb2 := hid (Sc.new rfl : Sc (S.put w.heap.size (.cells #[int q.at_, .bool q.quote, .slice A8 q.l.length c8] 76)) w.heap.size 2 (.slice A8 q.l.length c8))
  generalize S.put w.heap.size _ = S1 at HZ1 HK1 Hb0 Hb2
  have hB := (HZ1.out.allocNil 76 3).drew.drew
  rw [World.size_alloc] at hB
  have HB := hid hB
  clear hone hB
  go_wp2_with fail
  refine wp_plan 14 (.take 0 (.take 2 (.take 3 (.take 4 (.take 5 (.take 6 (.take 7 (.take 8 (.take 9 (.take 10 (.take 11 (.take 12 (.one 1 (.one 13 .fin)))))))))))))) (fun w' => w'.cell? ⟨p, 2, none⟩ = some (.slice (some ⟨O, 0, none⟩) (zs'.length + 1) cO)) (by kernel_rfl) (by kernel_rfl) (fun _ _ d_ _ _ h_ => by cases d_ <;> exact h_) (by have h := HZ1.out.drew.drew; exact h.blkM (List.mem_cons_of_mem _ (List.mem_cons_of_mem _ List.mem_cons_self)) 2) ?_
  refine Pl.takeW rfl rfl ?v13 ?hy13 ?rest13
  case hy13 => intro w_ _; first | (go_simp; done) | (go_simp; with_reducible rfl)
  simp only [Act.put, List.setIfInBounds_toArray, List.set_cons_zero, List.set_cons_succ]
  refine Pl.takeW rfl rfl ?v14 ?hy14 ?rest14
  case hy14 => intro w_ _; first | (go_simp; done) | (go_simp; with_reducible rfl)
  simp only [Act.put, List.setIfInBounds_toArray, List.set_cons_zero, List.set_cons_succ]
  refine Pl.takeW rfl rfl ?v15 ?hy15 ?rest15
  case hy15 => intro w_ _; first | (go_simp; done) | (go_simp; with_reducible rfl)
  simp only [Act.put, List.setIfInBounds_toArray, List.set_cons_zero, List.set_cons_succ]
  refine Pl.takeW rfl rfl ?v16 ?hy16 ?rest16
  case hy16 => intro w_ _; first | (go_simp; done) | (go_simp; with_reducible rfl)
  simp only [Act.put, List.setIfInBounds_toArray, List.set_cons_zero, List.set_cons_succ]
  refine Pl.takeW rfl rfl ?v17 ?hy17 ?rest17
  case hy17 => intro w_ hS_; obtain f2 := hS_; first | (go_simp; done) | (go_simp; with_reducible rfl)
  simp only [Act.put, List.setIfInBounds_toArray, List.set_cons_zero, List.set_cons_succ]
  refine Pl.takeW rfl rfl ?v18 ?hy18 ?rest18
  case hy18 => intro w_ _; first | (go_simp; done) | (go_simp; with_reducible rfl)
  simp only [Act.put, List.setIfInBounds_toArray, List.set_cons_zero, List.set_cons_succ]
  refine Pl.takeW rfl rfl ?v19 ?hy19 ?rest19
  case hy19 => intro w_ _; first | (go_simp; done) | (go_simp; with_reducible rfl)
  simp only [Act.put, List.setIfInBounds_toArray, List.set_cons_zero, List.set_cons_succ]
  refine Pl.takeW rfl rfl ?v20 ?hy20 ?rest20
  case hy20 => intro w_ _; first | (go_simp; done) | (go_simp; with_reducible rfl)
  simp only [Act.put, List.setIfInBounds_toArray, List.set_cons_zero, List.set_cons_succ]
  refine Pl.takeW rfl rfl ?v21 ?hy21 ?rest21
  case hy21 => intro w_ hS_; obtain f2 := hS_; first | (go_simp; done) | (go_simp; with_reducible rfl)
  simp only [Act.put, List.setIfInBounds_toArray, List.set_cons_zero, List.set_cons_succ]
  refine Pl.takeW rfl rfl ?v22 ?hy22 ?rest22
  case hy22 => intro w_ _; first | (go_simp; done) | (go_simp; with_reducible rfl)
  simp only [Act.put, List.setIfInBounds_toArray, List.set_cons_zero, List.set_cons_succ]
  refine Pl.takeW rfl rfl ?v23 ?hy23 ?rest23
  case hy23 => intro w_ _; first | (go_simp; done) | (go_simp; with_reducible rfl)
  simp only [Act.put, List.setIfInBounds_toArray, List.set_cons_zero, List.set_cons_succ]
  refine Pl.takeW rfl rfl ?v24 ?hy24 ?rest24
  case hy24 => intro w_ _; first | (go_simp; done) | (go_simp; with_reducible rfl)
  simp only [Act.put, List.setIfInBounds_toArray, List.set_cons_zero, List.set_cons_succ]
  refine Pl.oneW rfl rfl (fun K_ hK_ => ?_)
  go_simp
  refine hK_ _ _ (HB.out.blkM (List.mem_cons_of_mem _ (List.mem_cons_of_mem _ (List.mem_cons_of_mem _ List.mem_cons_self))) 2) ?_
  refine Pl.oneW rfl rfl (fun K_ hK_ => ?_)
  refine wp_append tyParts (.tmp 16) (.tmp 27) rfl rfl HB.out ⟨O, 0, none⟩ zs'.length cO (zs'.flatMap partCells) rfl (flatMap_len3 _) (fun j u hu => by rw [add_zero]; exact HB.out.rowCellM (List.mem_cons_of_mem _ (List.mem_cons_of_mem _ (List.mem_cons_of_mem _ (List.mem_cons_of_mem _ (List.mem_cons_of_mem _ List.mem_cons_self))))) (flatMap_left zs' _ hu)) HOne.out (by omega) (by unfold maxLen; omega) (fun v4 w4 hY4 => hK_ _ _ ?_ ?_)
  · exact hY4.blkM (List.mem_cons_of_mem _ (List.mem_cons_of_mem _ (List.mem_cons_of_mem _ List.mem_cons_self))) 2
  show wpList _ _ _ _ _ _
  simp only [List.drop_succ_cons, List.drop_zero]
  obtain ⟨A9, c9, rfl, _, _⟩ := hY4.rowLen
  have hZ5 := (hY4.perm (List.perm_middle (l₁ := [_, _, _]) (a := _))).store 2 (.slice A9 (0 + zs'.length) c9)
  have e2 : w4.cell? ⟨p, 2, none⟩ = some (.slice (some ⟨O, 0, none⟩) (zs'.length + 1) cO) := hY4.blkM (List.mem_cons_of_mem _ (List.mem_cons_of_mem _ (List.mem_cons_of_mem _ List.mem_cons_self))) 2
  have e3 : w4.frozen? ⟨p, 2, none⟩ = false := hY4.freeM (List.mem_cons_of_mem _ (List.mem_cons_of_mem _ (List.mem_cons_of_mem _ List.mem_cons_self))) 2
  have hZ6 := (hZ5.perm (List.perm_middle (l₁ := [_, _, _, _, _]) (a := _))).tail
  obtain ⟨S5, k5, hZ7, hs7⟩ := (hZ6.perm (List.perm_middle (l₁ := [_, _]) (a := _))).sealRow
  have hZ8 := hZ7.perm (perm_4 _ _ _ _ _)
  have b0 := hZ8.cell (Hb0.out.mono k5)
  have b2 := hZ8.cell (Hb2.out.mono k5)
  rw [Nat.zero_add, List.nil_append] at hZ8
  have HX8 : Hid (RdX p ⟨r.row, r.tops, (zs'.map Prod.fst).reverse⟩ L S5 _) := hid ⟨(Hg.out.mono HK1.out).mono k5, Rv, Tv, .slice A9 zs'.length c9, cells, zs', by simpa [rdAtoms] using hZ8, (Hc.out.mono HK1.out).mono k5, rfl⟩
  have HK5 := hid (HK1.out.trans k5)
  have Hs7 := hid (show NatsR S5 (.slice A8 q.l.length c8) q.l from hs7)
  clear hY4 hZ5 hZ6 hZ7 hZ8 hs7 k5
  rw [Nat.zero_add] at *
  go_wp2_with fail
  refine (HP ⟨r.row, r.tops, (zs'.map Prod.fst).reverse⟩ L S5 _ ⟨4, q.at_, 0, [], q.l⟩ _ (by have := Hn.out; rw [Ho.out] at this; simp at this ⊢; omega) ⟨by have := HF.out.n; rw [Ho.out] at this; simp at this ⊢; omega, fun q' hq' => HF.out.parts q' (by rw [Ho.out]; exact List.mem_cons_of_mem _ hq'), HF.out.tops⟩ HX8.out Hs7.out (by dsimp only; omega) (by have := HF.out.n; rw [Ho.out] at this; simp at this ⊢; omega)).mono ?_
  rintro e w6 ⟨rfl, S6, k6, hX6⟩
  go_wp2_with fail
  first | go_end0 | (simp only [Exit.inBlock, Exit.then]; refine bodyPost_ret (results_none rfl _ _ _) rfl ?_) | refine bodyPost_ret (results_none rfl _ _ _) rfl ?_
  rw [Hcl.out]
  exact ⟨rfl, S6, HK5.out.trans k6, hX6⟩
theorem D_both (p : Nat) : ∀ (n : Nat),
    (∀ (r : RS) (L : List Atom) (S : Seal) (w : World) (q : Part) (ps : List Part), r.op = q :: ps → r.op.length ≤ n → Few r → RdX p r L S w → Calls Try.prog 45 #[ptr p] w (RdRet S (RdX p r.close L))) ∧
    (∀ (r : RS) (L : List Atom) (S : Seal) (w : World) (x : Node) (lv : Value), r.op.length ≤ n → Few r → RdX p r L S w → NatsR S lv x.l → x.l.length ≤ 1000001 → r.row.length + r.op.length + 1 ≤ 1000000 →
      Calls Try.prog 44 #[ptr p, .agg #[.int .u8 x.kind, int x.at_, int x.n, str x.s, lv]] w (RdRet S (RdX p (r.put x) L)))
  | 0 => by
    have h0 : ∀ (r : RS) (L : List Atom) (S : Seal) (w : World) (q : Part) (ps : List Part), r.op = q :: ps → r.op.length ≤ 0 → Few r → RdX p r L S w → Calls Try.prog 45 #[ptr p] w (RdRet S (RdX p r.close L)) := fun r _ _ _ q ps h h' => by rw [h] at h'; simp at h'
    exact ⟨h0, fun r L S w x lv a b c d e f => D_put p 0 h0 r L S w x lv a b c d e f⟩
  | n + 1 => by
    have hc : ∀ (r : RS) (L : List Atom) (S : Seal) (w : World) (q : Part) (ps : List Part), r.op = q :: ps → r.op.length ≤ n + 1 → Few r → RdX p r L S w → Calls Try.prog 45 #[ptr p] w (RdRet S (RdX p r.close L)) := fun r L S w q ps h h' hF hX => D_close p n (D_both p n).2 r L S w q ps h h' hF hX
    exact ⟨hc, fun r L S w x lv a b c d e f => D_put p (n + 1) hc r L S w x lv a b c d e f⟩
end Go.Proofs.Ytjjbidajkmodfaa
