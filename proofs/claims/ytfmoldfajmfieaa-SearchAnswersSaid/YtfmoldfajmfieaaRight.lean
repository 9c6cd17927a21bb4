/-
  Clauses that came in: as they lie in memory; are they right, and which variable is the greatest.
-/
import Derived.Test.YtfmoldfajmfieaaHas
namespace Go.Proofs.Ytfmoldfajmfieaa
open Go.RowKit
/-- A list of clauses from an address on. -/
def ClsAt (w : World) (a : Option Addr) (l : List (List Int)) : Prop :=
  l = [] ∨ ∃ b o, a = some ⟨b, o, none⟩ ∧ b < w.heap.size ∧ ∀ j c, l[j]? = some c → ∃ ac cc, w.cell? ⟨b, o + j, none⟩ = some (.slice ac c.length cc) ∧ IntsAt w ac c ∧ c.length ≤ 9223372036854775807
/-- May it be a literal? -/
def okLit (x : Int) : Bool := decide (x ≠ 0 ∧ -1048576 ≤ x ∧ x ≤ 1048576)
def okAll (l : List (List Int)) : Bool := l.all fun c => c.all okLit
def errOf (l : List (List Int)) : Int := if okAll l = true then 0 else 3
theorem literal41 (w : World) (x : Int) : Calls Try.prog 41 #[.int .i64 x] w fun e w' => e = .returned (.bool (okLit x)) ∧ w' = w := by
  unfold okLit
  by_cases h0 : x = 0
  · have h1 : (x != 0) = false := by simp [h0]
    go_enter Try.func41, Try.ntmps41
    go_wp2
    go_ret
    exact ⟨ret_bool (by simp [h0]), rfl⟩
  · have h1 : (x != 0) = true := by simp [h0]
    by_cases h2 : -1048576 ≤ x
    · go_enter Try.func41, Try.ntmps41
      go_wp2
      go_ret
      exact ⟨ret_bool (by simp [h0, h2]), rfl⟩
    · go_enter Try.func41, Try.ntmps41
      go_wp2
      go_ret
      exact ⟨ret_bool (by simp; omega), rfl⟩
/-- What is known of a clause at its place. -/
theorem ClsAt.some {w : World} {a : Option Addr} {l : List (List Int)} (h : ClsAt w a l) (hl : 0 < l.length) :
    ∃ b o, a = Option.some ⟨b, o, none⟩ ∧ ∀ (j : Nat) (c : List Int), Hid (l[j]? = Option.some c) → ∃ ac cc, w.cell? ⟨b, o + j, none⟩ = Option.some (.slice ac c.length cc) ∧ IntsAt w ac c ∧ c.length ≤ 9223372036854775807 := by
  rcases h with rfl | ⟨b, o, rfl, _, h⟩
  · simp at hl
  · exact ⟨b, o, rfl, fun j c hc => h j c hc.out⟩
theorem take_all {α : Type} {p : α → Bool} {l : List α} {k : Nat} {x : α} (h : (l.take k).all p = true) (hx : l[k]? = some x) : (l.take (k + 1)).all p = p x := by
  rw [List.take_add_one, hx, List.all_append, h]; simp
theorem all_false {α : Type} {p : α → Bool} {l : List α} {x : α} (hx : x ∈ l) (h : p x = false) : l.all p = false := by
  rw [List.all_eq_false]; exact ⟨x, hx, by simp [h]⟩
set_option maxHeartbeats 1000000 in
theorem right25 (w : World) (a : Option Addr) (l : List (List Int)) (c : Nat) (h : ClsAt w a l) (hn : l.length ≤ 9223372036854775807) :
    Calls Try.prog 25 #[.slice a l.length c] w fun e w' => e = .returned (.int .i64 (errOf l)) ∧ w' = w := by
  rcases Nat.eq_zero_or_pos l.length with h0 | h0
  · have hl := List.eq_nil_of_length_eq_zero h0
    subst hl
    go_enter Try.func25, Try.ntmps25
    go_wp2
    refine wp_loop_rounds 1 ?_
    rw [rounds_succ]
    go_wp2
    go_ret
    exact ⟨ret_int rfl, rfl⟩
  · obtain ⟨b, o, rfl, hc⟩ := h.some h0
    clear h h0
    go_enter Try.func25, Try.ntmps25
    go_wp2
    go_loopg [9] l.length (fun kq v9 w' => ∃ i : Nat, v9 = .int .i64 i ∧ i ≤ l.length ∧ l.length ≤ kq + i ∧ w' = w ∧ Hid (okAll (l.take i) = true))
    case atStart => exact ⟨0, rfl, Nat.zero_le _, by omega, rfl, Lib.hid rfl⟩
    case round =>
      obtain ⟨i, rfl, hi, hkq, rfl, HA⟩ := hrel
      by_cases hil : i < l.length
      · obtain ⟨x, hx⟩ : ∃ x, l[i]? = some x := ⟨_, List.getElem?_eq_getElem hil⟩
        have HX := Lib.hid hx
        obtain ⟨ac, cc, cx, hI, hxl⟩ := hc i x HX
        clear hx
        rcases hI with rfl | ⟨b2, o2, rfl, hb2, hI⟩
        · go_wp2
          refine wp_loop_rounds 1 ?_
          rw [rounds_succ]
          go_wp2
          go_roundg (gk - 1)
          case measure => omega
          case rel => exact ⟨i + 1, by go_num, by omega, by omega, rfl, Lib.hid (by unfold okAll; rw [take_all HA.out HX.out]; rfl)⟩
        · have hI2 := fun (j : Nat) (y : Int) (h : Hid (x[j]? = some y)) => hI j y h.out
          clear hI hc
          obtain ⟨g0, hg0⟩ : ∃ g, g = gk := ⟨_, rfl⟩
          go_wp2
          go_loopg [15] x.length (fun kr v15 w' => ∃ j : Nat, v15 = .int .i64 j ∧ j ≤ x.length ∧ x.length ≤ kr + j ∧ w' = wr ∧ Hid ((x.take j).all okLit = true))
          case atStart => exact ⟨0, rfl, Nat.zero_le _, by omega, rfl, Lib.hid rfl⟩
          case round =>
            obtain ⟨j, rfl, hj, hkr, rfl, HB⟩ := hrel
            by_cases hjl : j < x.length
            · obtain ⟨y, hy⟩ : ∃ y, x[j]? = some y := ⟨_, List.getElem?_eq_getElem hjl⟩
              have HY := Lib.hid hy
              have cy := hI2 j y HY
              clear hy
              by_cases hok : okLit y = true
              · go_wp2_with (refine (literal41 _ y).mono ?_; rintro e w' ⟨rfl, rfl⟩)
                go_roundg (gk - 1)
                case measure => omega
                case rel => exact ⟨j + 1, by go_num, by omega, by omega, rfl, Lib.hid (by rw [take_all HB.out HY.out]; exact hok)⟩
              · have hok' : okLit y = false := by simpa using hok
                clear hok
                go_wp2_with (refine (literal41 _ y).mono ?_; rintro e w' ⟨rfl, rfl⟩)
                go_ret
                refine ⟨ret_int ?_, rfl⟩
                have e : okAll l = false := all_false (List.mem_of_getElem? HX.out) (all_false (List.mem_of_getElem? HY.out) hok')
                unfold errOf; rw [e]; rfl
            · have hall : Hid (okAll (l.take (i + 1)) = true) := Lib.hid (by
                unfold okAll; rw [take_all HA.out HX.out]; have := HB.out; rwa [List.take_of_length_le (by omega)] at this)
              clear HB
              go_wp2
              go_roundg (g0 - 1)
              case measure => omega
              case rel => exact ⟨i + 1, by go_num, by omega, by omega, rfl, hall⟩
      · have hall : okAll l = true := by have := HA.out; rwa [List.take_of_length_le (by omega)] at this
        have HALL := Lib.hid hall
        clear hall
        go_wp2
        go_ret
        exact ⟨ret_int (by unfold errOf; rw [HALL.out]; rfl), rfl⟩
theorem literal28 (w : World) (x : Int) : Calls Try.prog 28 #[.int .i64 x] w fun e w' => e = .returned (.bool (okLit x)) ∧ w' = w := by
  unfold okLit
  by_cases h0 : x = 0
  · have h1 : (x != 0) = false := by simp [h0]
    go_enter Try.func28, Try.ntmps28
    go_wp2
    go_ret
    exact ⟨ret_bool (by simp [h0]), rfl⟩
  · have h1 : (x != 0) = true := by simp [h0]
    by_cases h2 : -1048576 ≤ x
    · go_enter Try.func28, Try.ntmps28
      go_wp2
      go_ret
      exact ⟨ret_bool (by simp [h0, h2]), rfl⟩
    · go_enter Try.func28, Try.ntmps28
      go_wp2
      go_ret
      exact ⟨ret_bool (by simp; omega), rfl⟩
set_option maxHeartbeats 1000000 in
theorem right12 (w : World) (a : Option Addr) (l : List (List Int)) (c : Nat) (h : ClsAt w a l) (hn : l.length ≤ 9223372036854775807) :
    Calls Try.prog 12 #[.slice a l.length c] w fun e w' => e = .returned (.bool (okAll l)) ∧ w' = w := by
  rcases Nat.eq_zero_or_pos l.length with h0 | h0
  · have hl := List.eq_nil_of_length_eq_zero h0
    subst hl
    go_enter Try.func12, Try.ntmps12
    go_wp2
    refine wp_loop_rounds 1 ?_
    rw [rounds_succ]
    go_wp2
    go_ret
    exact ⟨ret_bool rfl, rfl⟩
  · obtain ⟨b, o, rfl, hc⟩ := h.some h0
    clear h h0
    go_enter Try.func12, Try.ntmps12
    go_wp2
    go_loopg [3] l.length (fun kq v3 w' => ∃ i : Nat, v3 = .int .i64 i ∧ i ≤ l.length ∧ l.length ≤ kq + i ∧ w' = w ∧ Hid (okAll (l.take i) = true))
    case atStart => exact ⟨0, rfl, Nat.zero_le _, by omega, rfl, Lib.hid rfl⟩
    case round =>
      obtain ⟨i, rfl, hi, hkq, rfl, HA⟩ := hrel
      by_cases hil : i < l.length
      · obtain ⟨x, hx⟩ : ∃ x, l[i]? = some x := ⟨_, List.getElem?_eq_getElem hil⟩
        have HX := Lib.hid hx
        obtain ⟨ac, cc, cx, hI, hxl⟩ := hc i x HX
        clear hx
        rcases hI with rfl | ⟨b2, o2, rfl, hb2, hI⟩
        · go_wp2
          refine wp_loop_rounds 1 ?_
          rw [rounds_succ]
          go_wp2
          go_roundg (gk - 1)
          case measure => omega
          case rel => exact ⟨i + 1, by go_num, by omega, by omega, rfl, Lib.hid (by unfold okAll; rw [take_all HA.out HX.out]; rfl)⟩
        · have hI2 := fun (j : Nat) (y : Int) (h : Hid (x[j]? = some y)) => hI j y h.out
          clear hI hc
          obtain ⟨g0, hg0⟩ : ∃ g, g = gk := ⟨_, rfl⟩
          go_wp2
          go_loopg [4] x.length (fun kr v4 w' => ∃ j : Nat, v4 = .int .i64 j ∧ j ≤ x.length ∧ x.length ≤ kr + j ∧ w' = wr ∧ Hid ((x.take j).all okLit = true))
          case atStart => exact ⟨0, rfl, Nat.zero_le _, by omega, rfl, Lib.hid rfl⟩
          case round =>
            obtain ⟨j, rfl, hj, hkr, rfl, HB⟩ := hrel
            by_cases hjl : j < x.length
            · obtain ⟨y, hy⟩ : ∃ y, x[j]? = some y := ⟨_, List.getElem?_eq_getElem hjl⟩
              have HY := Lib.hid hy
              have cy := hI2 j y HY
              clear hy
              by_cases hok : okLit y = true
              · go_wp2_with (refine (literal28 _ y).mono ?_; rintro e w' ⟨rfl, rfl⟩)
                go_roundg (gk - 1)
                case measure => omega
                case rel => exact ⟨j + 1, by go_num, by omega, by omega, rfl, Lib.hid (by rw [take_all HB.out HY.out]; exact hok)⟩
              · have hok' : okLit y = false := by simpa using hok
                clear hok
                go_wp2_with (refine (literal28 _ y).mono ?_; rintro e w' ⟨rfl, rfl⟩)
                go_ret
                exact ⟨ret_bool (all_false (List.mem_of_getElem? HX.out) (all_false (List.mem_of_getElem? HY.out) hok')).symm, rfl⟩
            · have hall : Hid (okAll (l.take (i + 1)) = true) := Lib.hid (by
                unfold okAll; rw [take_all HA.out HX.out]; have := HB.out; rwa [List.take_of_length_le (by omega)] at this)
              clear HB
              go_wp2
              go_roundg (g0 - 1)
              case measure => omega
              case rel => exact ⟨i + 1, by go_num, by omega, by omega, rfl, hall⟩
      · have hall : okAll l = true := by have := HA.out; rwa [List.take_of_length_le (by omega)] at this
        have HALL := Lib.hid hall
        clear hall
        go_wp2
        go_ret
        exact ⟨ret_bool HALL.out.symm, rfl⟩
theorem variable36 (x : Int) (w : World) (h1 : -1099511627776 < x) (h2 : x < 1099511627776) :
    Calls Try.prog 36 #[.int .i64 x] w fun e w' => e = .returned (.int .i64 (vr x)) ∧ w' = w := by
  go_enter Try.func36, Try.ntmps36
  go_wp2
  all_goals go_ret
  · exact ⟨ret_int (by unfold vr; rw [if_pos (by omega)]), rfl⟩
  · exact ⟨ret_int (by unfold vr; split <;> omega), rfl⟩
theorem var29 (x : Int) (w : World) (h1 : -1099511627776 < x) (h2 : x < 1099511627776) :
    Calls Try.prog 29 #[.int .i64 x] w fun e w' => e = .returned (.int .i64 (vr x)) ∧ w' = w := by
  by_cases h : x < 0
  · go_enter Try.func29, Try.ntmps29
    go_wp2
    go_ret
    exact ⟨ret_int (by unfold vr; rw [if_pos (by omega)]), rfl⟩
  · go_enter Try.func29, Try.ntmps29
    go_wp2
    go_ret
    exact ⟨ret_int (by unfold vr; rw [if_neg (by omega)]), rfl⟩
/-- The greatest variable. -/
def mostC (n : Int) (c : List Int) : Int := c.foldl (fun n x => max n (vr x)) n
def mostOf (l : List (List Int)) : Int := l.foldl mostC 0
theorem foldl_take {α β : Type} (f : β → α → β) (b : β) {l : List α} {k : Nat} {x : α} (hx : l[k]? = some x) : (l.take (k + 1)).foldl f b = f ((l.take k).foldl f b) x := by
  rw [List.take_add_one, hx, List.foldl_append]; rfl
theorem vr_le {x : Int} (h : okLit x = true) : 1 ≤ vr x ∧ vr x ≤ 1048576 := by
  unfold okLit at h
  simp at h
  unfold vr; split <;> omega
theorem okAll_at {l : List (List Int)} (h : okAll l = true) {x : List Int} (hx : x ∈ l) {y : Int} (hy : y ∈ x) : okLit y = true := by
  unfold okAll at h
  rw [List.all_eq_true] at h
  have := h x hx
  rw [List.all_eq_true] at this
  exact this y hy
theorem mostC_le {n : Int} {c : List Int} (hc : ∀ x ∈ c, okLit x = true) (h0 : 0 ≤ n) (h1 : n ≤ 1048576) : 0 ≤ mostC n c ∧ mostC n c ≤ 1048576 := by
  induction c generalizing n with
  | nil => exact ⟨h0, h1⟩
  | cons x c ih =>
    have := vr_le (hc x (by simp))
    exact ih (n := max n (vr x)) (fun y hy => hc y (by simp [hy])) (by omega) (by omega)
theorem mostOf_le {l : List (List Int)} (hl : okAll l = true) : 0 ≤ mostOf l ∧ mostOf l ≤ 1048576 := by
  have : ∀ (l : List (List Int)) (n : Int), (∀ c ∈ l, ∀ x ∈ c, okLit x = true) → 0 ≤ n → n ≤ 1048576 → 0 ≤ l.foldl mostC n ∧ l.foldl mostC n ≤ 1048576 := fun l => by
    induction l with
    | nil => exact fun n _ h0 h1 => ⟨h0, h1⟩
    | cons c l ih =>
      intro n hc h0 h1
      have := mostC_le (hc c (by simp)) h0 h1
      exact ih _ (fun d hd => hc d (by simp [hd])) this.1 this.2
  exact this l 0 (fun c hc x hx => okAll_at hl hc hx) (Int.le_refl _) (by omega)
set_option maxHeartbeats 1000000 in
theorem most42 (w : World) (a : Option Addr) (l : List (List Int)) (c : Nat) (h : ClsAt w a l) (hn : l.length ≤ 9223372036854775807) (hok : okAll l = true) :
    Calls Try.prog 42 #[.slice a l.length c] w fun e w' => e = .returned (.int .i64 (mostOf l)) ∧ w' = w := by
  have HOK := Lib.hid hok
  clear hok
  rcases Nat.eq_zero_or_pos l.length with h0 | h0
  · have hl := List.eq_nil_of_length_eq_zero h0
    subst hl
    go_enter Try.func42, Try.ntmps42
    go_wp2
    refine wp_loop_rounds 1 ?_
    rw [rounds_succ]
    go_wp2
    go_ret
    exact ⟨ret_int rfl, rfl⟩
  · obtain ⟨b, o, rfl, hc⟩ := h.some h0
    clear h h0
    go_enter Try.func42, Try.ntmps42
    go_wp2
    go_loopg [3, 10] l.length (fun kq v3 v10 w' => ∃ (i : Nat) (n : Int), v3 = .int .i64 n ∧ v10 = .int .i64 i ∧ i ≤ l.length ∧ l.length ≤ kq + i ∧ w' = w ∧ Hid ((l.take i).foldl mostC 0 = n))
    case atStart => exact ⟨0, 0, rfl, rfl, Nat.zero_le _, by omega, rfl, Lib.hid rfl⟩
    case round =>
      obtain ⟨i, n, rfl, rfl, hi, hkq, rfl, HA⟩ := hrel
      by_cases hil : i < l.length
      · obtain ⟨x, hx⟩ : ∃ x, l[i]? = some x := ⟨_, List.getElem?_eq_getElem hil⟩
        have HX := Lib.hid hx
        obtain ⟨ac, cc, cx, hI, hxl⟩ := hc i x HX
        clear hx
        rcases hI with rfl | ⟨b2, o2, rfl, hb2, hI⟩
        · go_wp2
          refine wp_loop_rounds 1 ?_
          rw [rounds_succ]
          go_wp2
          go_roundg (gk - 1)
          case measure => omega
          case rel => exact ⟨i + 1, n, rfl, by go_num, by omega, by omega, rfl, Lib.hid (by rw [foldl_take _ _ HX.out, HA.out]; rfl)⟩
        · have hI2 := fun (j : Nat) (y : Int) (h : Hid (x[j]? = some y)) => hI j y h.out
          clear hI hc
          obtain ⟨g0, hg0⟩ : ∃ g, g = gk := ⟨_, rfl⟩
          go_wp2
          go_loopg [3, 16] x.length (fun kr v3 v16 w' => ∃ (j : Nat) (n2 : Int), v3 = .int .i64 n2 ∧ v16 = .int .i64 j ∧ j ≤ x.length ∧ x.length ≤ kr + j ∧ w' = wr ∧ Hid (mostC n (x.take j) = n2))
          case atStart => exact ⟨0, n, rfl, rfl, Nat.zero_le _, by omega, rfl, Lib.hid rfl⟩
          case round =>
            obtain ⟨j, n2, rfl, rfl, hj, hkr, rfl, HB⟩ := hrel
            by_cases hjl : j < x.length
            · obtain ⟨y, hy⟩ : ∃ y, x[j]? = some y := ⟨_, List.getElem?_eq_getElem hjl⟩
              have HY := Lib.hid hy
              have cy := hI2 j y HY
              have hyo := okAll_at HOK.out (List.mem_of_getElem? HX.out) (List.mem_of_getElem? hy)
              have hyb : -1099511627776 < y ∧ y < 1099511627776 := by unfold okLit at hyo; simp at hyo; omega
              obtain ⟨hy1, hy2⟩ := hyb
              clear hy hyo
              by_cases hgt : n2 < vr y
              · go_wp2_with (refine (variable36 y _ hy1 hy2).mono ?_; rintro e w' ⟨rfl, rfl⟩)
                go_roundg (gk - 1)
                case measure => omega
                case rel => exact ⟨j + 1, vr y, by go_num, by go_num, by omega, by omega, rfl, Lib.hid (by unfold mostC; rw [foldl_take _ _ HY.out]; have := HB.out; unfold mostC at this; rw [this]; omega)⟩
              · go_wp2_with (refine (variable36 y _ hy1 hy2).mono ?_; rintro e w' ⟨rfl, rfl⟩)
                go_roundg (gk - 1)
                case measure => omega
                case rel => exact ⟨j + 1, n2, by go_num, by go_num, by omega, by omega, rfl, Lib.hid (by unfold mostC; rw [foldl_take _ _ HY.out]; have := HB.out; unfold mostC at this; rw [this]; omega)⟩
            · have hall : Hid ((l.take (i + 1)).foldl mostC 0 = n2) := Lib.hid (by
                rw [foldl_take _ _ HX.out, HA.out]; have := HB.out; rwa [List.take_of_length_le (by omega)] at this)
              clear HB
              go_wp2
              go_roundg (g0 - 1)
              case measure => omega
              case rel => exact ⟨i + 1, n2, rfl, by go_num, by omega, by omega, rfl, hall⟩
      · have hall : mostOf l = n := by have := HA.out; rwa [List.take_of_length_le (by omega)] at this
        have HALL := Lib.hid hall
        clear hall HA
        go_wp2
        go_ret
        exact ⟨ret_int HALL.out.symm, rfl⟩
end Go.Proofs.Ytfmoldfajmfieaa
