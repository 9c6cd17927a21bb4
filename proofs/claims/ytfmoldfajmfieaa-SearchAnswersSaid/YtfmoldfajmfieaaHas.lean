/-
  Is a number in a row of numbers; is one of a row such that ..
-/
import Derived.Test.YtfmoldfajmfieaaKeep
namespace Go.Proofs.Ytfmoldfajmfieaa
open Go.RowKit
/-- Numbers that can be read from an address on. -/
def IntsAt (w : World) (a : Option Addr) (l : List Int) : Prop := l = [] ∨ ∃ b o, a = some ⟨b, o, none⟩ ∧ b < w.heap.size ∧ ∀ j x, l[j]? = some x → w.cell? ⟨b, o + j, none⟩ = some (.int .i64 x)
theorem IntsAt.of_row {w : World} {v : Value} {l : List Int} {g : Option Nat} {a : Option Addr} {n c : Nat} (h : RowG w 3 1 v l.length (l.map vI) g) (hv : v = .slice a n c) : IntsAt w a l := by
  cases g with
  | none => obtain ⟨_, hl, _⟩ := h; exact .inl (List.eq_nil_of_length_eq_zero hl)
  | some g =>
    have h2 := h
    obtain ⟨cap, cur, hv', _⟩ := h
    rw [hv] at hv'
    injection hv' with e1 _ _
    subst e1
    exact .inr ⟨g, 0, rfl, h2.lt, fun j x hx => by rw [Nat.zero_add]; exact h2.cellAt (by rw [List.getElem?_map, hx]; rfl)⟩
theorem IntsAt.below {w w' : World} {a : Option Addr} {l : List Int} (h : IntsAt w a l) (hb : Below w.heap.size w w') : IntsAt w' a l := by
  rcases h with h | ⟨b, o, ha, hlt, h⟩
  · exact .inl h
  · exact .inr ⟨b, o, ha, Nat.lt_of_lt_of_le hlt hb.size, fun j x hx => bcell hb (h j x hx) hlt⟩

theorem ret_bool {a b : Bool} (h : a = b) : Ending.returned (.bool a) = .returned (.bool b) := by rw [h]
/-- An index that tells whether there is one. -/
def Idx (p : Int → Bool) (l : List Int) (w : World) (e : Ending) (w' : World) : Prop := ∃ i : Int, e = .returned (.int .i64 i) ∧ -1 ≤ i ∧ (0 ≤ i ↔ l.any p = true) ∧ w' = w
theorem idx_none {p : Int → Bool} {l : List Int} {w : World} (h : ∀ (j : Nat) (x : Int), l[j]? = some x → p x = false) : Idx p l w (.returned (.int .i64 (-1))) w :=
  ⟨-1, rfl, by omega, ⟨fun h => absurd h (by omega), fun h2 => (by
      rw [List.any_eq_true] at h2
      obtain ⟨x, hx, hp⟩ := h2
      obtain ⟨j, hj⟩ := List.getElem?_of_mem hx
      have := h j x hj
      rw [hp] at this
      exact absurd this (by simp))⟩, rfl⟩
theorem idx_some {p : Int → Bool} {l : List Int} {w : World} {k : Nat} {x : Int} (hk : l[k]? = some x) (hp : p x = true) : Idx p l w (.returned (.int .i64 k)) w :=
  ⟨k, rfl, by omega, ⟨fun _ => List.any_eq_true.2 ⟨x, List.mem_of_getElem? hk, hp⟩, fun _ => by omega⟩, rfl⟩

set_option maxHeartbeats 400000 in
theorem index78 (w : World) (a : Option Addr) (l : List Int) (c : Nat) (v : Int) (h : IntsAt w a l) (hn : l.length ≤ 9223372036854775807) :
    Calls Try.prog 78 #[.slice a l.length c, .int .i64 v] w (Idx (fun x => v == x) l w) := by
  rcases h with rfl | ⟨b, o, rfl, hlt, hc⟩
  · go_enter Try.func78, Try.ntmps78
    go_wp2
    refine wp_loop_rounds 1 ?_
    rw [rounds_succ]
    go_wp2
    go_ret
    exact idx_none (fun j x h => by simp at h)
  · have hcell := fun (j : Nat) (x : Int) (h : Hid (l[j]? = some x)) => hc j x h.out
    clear hc
    go_enter Try.func78, Try.ntmps78
    go_wp2
    go_loop [8] (fun i => ∃ k : Nat, i = .int .i64 k ∧ k ≤ l.length ∧ Hid (∀ j x, j < k → l[j]? = some x → (v == x) = false)) (fun i => l.length - (intOf i).toNat)
    case atStart => exact ⟨0, rfl, Nat.zero_le _, Lib.hid fun j x h => by omega⟩
    case round =>
      obtain ⟨k, rfl, hk, hno⟩ := hrel
      by_cases hkl : k < l.length
      · obtain ⟨x, hx⟩ : ∃ x, l[k]? = some x := ⟨_, List.getElem?_eq_getElem hkl⟩
        have cx := hcell k x (Lib.hid hx)
        have HX := Lib.hid hx
        clear hx hcell
        by_cases hv : (v == x) = true
        · go_wp2
          go_ret
          exact idx_some HX.out hv
        · have hv' : (v == x) = false := by simpa using hv
          clear hv
          go_wp2
          go_round
          case rel => exact ⟨k + 1, by go_num, by omega, Lib.hid fun j y hj hy => by
            by_cases e : j = k
            · subst e; rw [HX.out] at hy; cases hy; exact hv'
            · exact hno.out j y (by omega) hy⟩
          case measure => simp [intOf]; omega
      · clear hcell
        go_wp2
        go_ret
        exact idx_none (fun j x h => hno.out j x (by have := (List.getElem?_eq_some_iff.1 h).1; omega) h)

set_option maxHeartbeats 400000 in
theorem contains59 (w : World) (a : Option Addr) (l : List Int) (c : Nat) (v : Int) (h : IntsAt w a l) (hn : l.length ≤ 9223372036854775807) :
    Calls Try.prog 59 #[.slice a l.length c, .int .i64 v] w fun e w' => e = .returned (.bool (l.any fun x => v == x)) ∧ w' = w := by
  go_enter Try.func59, Try.ntmps59
  go_wp2_with fail
  refine (index78 w a l c v h hn).mono ?_
  rintro e w' ⟨i, rfl, h1, h2, rfl⟩
  have h2' := Lib.hid h2
  clear h2
  by_cases h0 : 0 ≤ i
  · have e : l.any (fun x => v == x) = true := h2'.out.1 h0
    have e' := Lib.hid e
    clear e
    go_wp2
    go_ret
    exact ⟨ret_bool e'.out.symm, rfl⟩
  · have e : l.any (fun x => v == x) = false := by
      cases h3 : l.any (fun x => v == x) with
      | true => exact absurd (h2'.out.2 h3) h0
      | false => rfl
    have e' := Lib.hid e
    clear e
    go_wp2
    go_ret
    exact ⟨ret_bool (by rw [e'.out]; simp; omega), rfl⟩

/-- The clause's own look: does it hold the opposite? -/
theorem closure58 (w : World) (g : Nat) (a : Option Addr) (l : List Int) (c : Nat) (x : Int) (h1 : -1099511627776 < x) (h2 : x < 1099511627776) (hg : w.cell? ⟨g, 0, none⟩ = some (.slice a l.length c)) (h : IntsAt w a l) (hn : l.length ≤ 9223372036854775807) :
    Calls Try.prog 58 #[.int .i64 x, .pointer (some ⟨g, 0, none⟩)] w fun e w' => e = .returned (.bool (l.any fun y => -x == y)) ∧ w' = w := by
  go_enter Try.func58, Try.ntmps58
  go_wp2_with (go_at_call 59; refine (contains59 w a l c (-x) h hn).mono ?_; rintro e w' ⟨rfl, rfl⟩)
  go_ret
  exact ⟨rfl, rfl⟩

set_option maxHeartbeats 400000 in
theorem indexFunc54_58 (w : World) (g : Nat) (a : Option Addr) (l : List Int) (c : Nat) (hx : ∀ x ∈ l, -1099511627776 < x ∧ x < 1099511627776) (hg : w.cell? ⟨g, 0, none⟩ = some (.slice a l.length c)) (h : IntsAt w a l) (hn : l.length ≤ 9223372036854775807) :
    Calls Try.prog 54 #[.slice a l.length c, .func (.func 58) #[] #[.pointer (some ⟨g, 0, none⟩)]] w (Idx (fun x => l.any fun y => -x == y) l w) := by
  have h0 := h
  rcases h with rfl | ⟨b, o, rfl, hlt, hc⟩
  · go_enter Try.func54, Try.ntmps54
    go_wp2
    refine wp_loop_rounds 1 ?_
    rw [rounds_succ]
    go_wp2
    go_ret
    exact idx_none (fun j x h => by simp at h)
  · have hcell := fun (j : Nat) (x : Int) (h : Hid (l[j]? = some x)) => hc j x h.out
    clear hc
    go_enter Try.func54, Try.ntmps54
    go_wp2
    go_loop [8] (fun i => ∃ k : Nat, i = .int .i64 k ∧ k ≤ l.length ∧ Hid (∀ j x, j < k → l[j]? = some x → (l.any fun y => -x == y) = false)) (fun i => l.length - (intOf i).toNat)
    case atStart => exact ⟨0, rfl, Nat.zero_le _, Lib.hid fun j x h => by omega⟩
    case round =>
      obtain ⟨k, rfl, hk, hno⟩ := hrel
      by_cases hkl : k < l.length
      · obtain ⟨x, hx'⟩ : ∃ x, l[k]? = some x := ⟨_, List.getElem?_eq_getElem hkl⟩
        have cx := hcell k x (Lib.hid hx')
        have hb := hx x (List.mem_of_getElem? hx')
        have HX := Lib.hid hx'
        have hb1 := hb.1
        have hb2 := hb.2
        clear hx' hcell hb hx
        cases hv : (l.any fun y => -x == y) with
        | true =>
          have hv' := Lib.hid hv
          clear hv
          go_wp2_with (go_at_call 58; refine (closure58 w g _ l c x hb1 hb2 hg h0 hn).mono ?_; rw [hv'.out]; rintro e w' ⟨rfl, rfl⟩)
          go_ret
          exact idx_some HX.out hv'.out
        | false =>
          have hv' := Lib.hid hv
          clear hv
          go_wp2_with (go_at_call 58; refine (closure58 w g _ l c x hb1 hb2 hg h0 hn).mono ?_; rw [hv'.out]; rintro e w' ⟨rfl, rfl⟩)
          go_round
          case rel => exact ⟨k + 1, by go_num, by omega, Lib.hid fun j y hj hy => by
            by_cases e : j = k
            · subst e; rw [HX.out] at hy; cases hy; exact hv'.out
            · exact hno.out j y (by omega) hy⟩
          case measure => simp [intOf]; omega
      · clear hcell hx
        go_wp2
        go_ret
        exact idx_none (fun j x h => hno.out j x (by have := (List.getElem?_eq_some_iff.1 h).1; omega) h)

/-- Has a clause two opposite literals? -/
def taut (l : List Int) : Bool := l.any fun x => l.any fun y => -x == y
set_option maxHeartbeats 400000 in
theorem containsFunc34_58 (w : World) (g : Nat) (a : Option Addr) (l : List Int) (c : Nat) (hx : ∀ x ∈ l, -1099511627776 < x ∧ x < 1099511627776) (hg : w.cell? ⟨g, 0, none⟩ = some (.slice a l.length c)) (h : IntsAt w a l) (hn : l.length ≤ 9223372036854775807) :
    Calls Try.prog 34 #[.slice a l.length c, .func (.func 58) #[] #[.pointer (some ⟨g, 0, none⟩)]] w fun e w' => e = .returned (.bool (taut l)) ∧ w' = w := by
  go_enter Try.func34, Try.ntmps34
  go_wp2_with fail
  refine (indexFunc54_58 w g a l c hx hg h hn).mono ?_
  rintro e w' ⟨i, rfl, h1, h2, rfl⟩
  have h2' : Hid (0 ≤ i ↔ taut l = true) := Lib.hid h2
  clear h2
  by_cases h0 : 0 ≤ i
  · have e' := Lib.hid (h2'.out.1 h0)
    go_wp2
    go_ret
    exact ⟨ret_bool e'.out.symm, rfl⟩
  · have e : taut l = false := by
      cases h3 : taut l with
      | true => exact absurd (h2'.out.2 h3) h0
      | false => rfl
    have e' := Lib.hid e
    clear e
    go_wp2
    go_ret
    exact ⟨ret_bool (by rw [e'.out]; simp; omega), rfl⟩
end Go.Proofs.Ytfmoldfajmfieaa
