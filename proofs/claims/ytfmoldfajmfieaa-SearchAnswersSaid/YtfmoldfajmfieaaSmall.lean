/-
  Are clauses few; do they hold in a model: the walks.
-/
import Derived.Test.YtfmoldfajmfieaaRight
namespace Go.Proofs.Ytfmoldfajmfieaa
open Go.RowKit
set_option maxHeartbeats 1000000 in
theorem most13 (w : World) (a : Option Addr) (l : List (List Int)) (c : Nat) (h : ClsAt w a l) (hn : l.length ≤ 9223372036854775807) (hok : okAll l = true) :
    Calls Try.prog 13 #[.slice a l.length c] w fun e w' => e = .returned (.int .i64 (mostOf l)) ∧ w' = w := by
  have HOK := Lib.hid hok
  clear hok
  rcases Nat.eq_zero_or_pos l.length with h0 | h0
  · have hl := List.eq_nil_of_length_eq_zero h0
    subst hl
    go_enter Try.func13, Try.ntmps13
    go_wp2
    refine wp_loop_rounds 1 ?_
    rw [rounds_succ]
    go_wp2
    go_ret
    exact ⟨ret_int rfl, rfl⟩
  · obtain ⟨b, o, rfl, hc⟩ := h.some h0
    clear h h0
    go_enter Try.func13, Try.ntmps13
    go_wp2
    go_loopg [3, 4] l.length (fun kq v3 v4 w' => ∃ (i : Nat) (n : Int), v3 = .int .i64 n ∧ v4 = .int .i64 i ∧ i ≤ l.length ∧ l.length ≤ kq + i ∧ w' = w ∧ Hid ((l.take i).foldl mostC 0 = n))
    case atStart => exact ⟨0, 0, rfl, rfl, Nat.zero_le _, by omega, rfl, Lib.hid rfl⟩
    case round =>
      obtain ⟨i, n, rfl, rfl, hi, hkq, rfl, HA⟩ := hrel
      by_cases hil : i < l.length
      · obtain ⟨x, hx⟩ : ∃ x, l[i]? = some x := ⟨_, List.getElem?_eq_getElem hil⟩
        have HX := Lib.hid hx
        obtain ⟨ac, cc, cx, hI, hxl⟩ := hc i x HX
        clear hx
        rcases hI with rfl | ⟨b2, o2, rfl, hb2, hI⟩
        · go_wp2
          refine wp_loop_rounds 1 ?_
          rw [rounds_succ]
          go_wp2
          go_roundg (gk - 1)
          case measure => omega
          case rel => exact ⟨i + 1, n, rfl, by go_num, by omega, by omega, rfl, Lib.hid (by rw [foldl_take _ _ HX.out, HA.out]; rfl)⟩
        · have hI2 := fun (j : Nat) (y : Int) (h : Hid (x[j]? = some y)) => hI j y h.out
          clear hI hc
          obtain ⟨g0, hg0⟩ : ∃ g, g = gk := ⟨_, rfl⟩
          go_wp2
          go_loopg [3, 5] x.length (fun kr v3 v5 w' => ∃ (j : Nat) (n2 : Int), v3 = .int .i64 n2 ∧ v5 = .int .i64 j ∧ j ≤ x.length ∧ x.length ≤ kr + j ∧ w' = wr ∧ Hid (mostC n (x.take j) = n2))
          case atStart => exact ⟨0, n, rfl, rfl, Nat.zero_le _, by omega, rfl, Lib.hid rfl⟩
          case round =>
            obtain ⟨j, n2, rfl, rfl, hj, hkr, rfl, HB⟩ := hrel
            by_cases hjl : j < x.length
            · obtain ⟨y, hy⟩ : ∃ y, x[j]? = some y := ⟨_, List.getElem?_eq_getElem hjl⟩
              have HY := Lib.hid hy
              have cy := hI2 j y HY
              have hyo := okAll_at HOK.out (List.mem_of_getElem? HX.out) (List.mem_of_getElem? hy)
              have hyb : -1099511627776 < y ∧ y < 1099511627776 := by unfold okLit at hyo; simp at hyo; omega
              obtain ⟨hy1, hy2⟩ := hyb
              clear hy hyo
              by_cases hgt : n2 < vr y
              · go_wp2_with (refine (var29 y _ hy1 hy2).mono ?_; rintro e w' ⟨rfl, rfl⟩)
                go_roundg (gk - 1)
                case measure => omega
                case rel => exact ⟨j + 1, vr y, by go_num, by go_num, by omega, by omega, rfl, Lib.hid (by unfold mostC; rw [foldl_take _ _ HY.out]; have := HB.out; unfold mostC at this; rw [this]; omega)⟩
              · go_wp2_with (refine (var29 y _ hy1 hy2).mono ?_; rintro e w' ⟨rfl, rfl⟩)
                go_roundg (gk - 1)
                case measure => omega
                case rel => exact ⟨j + 1, n2, by go_num, by go_num, by omega, by omega, rfl, Lib.hid (by unfold mostC; rw [foldl_take _ _ HY.out]; have := HB.out; unfold mostC at this; rw [this]; omega)⟩
            · have hall : Hid ((l.take (i + 1)).foldl mostC 0 = n2) := Lib.hid (by
                rw [foldl_take _ _ HX.out, HA.out]; have := HB.out; rwa [List.take_of_length_le (by omega)] at this)
              clear HB
              go_wp2
              go_roundg (g0 - 1)
              case measure => omega
              case rel => exact ⟨i + 1, n2, rfl, by go_num, by omega, by omega, rfl, hall⟩
      · have hall : mostOf l = n := by have := HA.out; rwa [List.take_of_length_le (by omega)] at this
        have HALL := Lib.hid hall
        clear hall HA
        go_wp2
        go_ret
        exact ⟨ret_int HALL.out.symm, rfl⟩
/-- Are there few, and few variables? -/
def smallOf (l : List (List Int)) (a b c : Int) : Bool := decide ((l.length : Int) ≤ a) && (l.all fun x => decide ((x.length : Int) ≤ b)) && (!okAll l || decide (mostOf l ≤ c))
set_option maxHeartbeats 1000000 in
theorem small24 (w : World) (a : Option Addr) (l : List (List Int)) (c : Nat) (h : ClsAt w a l) (hn : l.length ≤ 9223372036854775807) (n1 n2 n3 : Int) (hn1 : n1 ≤ 1000000) :
    Calls Try.prog 24 #[.slice a l.length c, .int .i64 n1, .int .i64 n2, .int .i64 n3] w fun e w' => e = .returned (.bool (smallOf l n1 n2 n3)) ∧ w' = w := by
  have h0 := h
  have fin : (l.length : Int) ≤ n1 → l.all (fun x => decide ((x.length : Int) ≤ n2)) = true → smallOf l n1 n2 n3 = (!okAll l || decide (mostOf l ≤ n3)) := fun h1 h2 => by unfold smallOf; rw [h2]; simp [h1]
  have FIN := Lib.hid fin
  clear fin
  by_cases hl1 : (l.length : Int) ≤ n1
  · rcases Nat.eq_zero_or_pos l.length with hz | hz
    · have hl := List.eq_nil_of_length_eq_zero hz
      subst hl
      have HE : Hid (smallOf [] n1 n2 n3 = decide (0 ≤ n3)) := Lib.hid (by rw [FIN.out hl1 rfl]; rfl)
      go_enter Try.func24, Try.ntmps24
      go_wp2_with fail
      refine wp_loop_rounds 1 ?_
      rw [rounds_succ]
      go_wp2_with (first | (go_at_call 12; refine (right12 w a [] c h0 (by simp)).mono ?_; rintro e w' ⟨rfl, rfl⟩; rw [show okAll [] = true from rfl]) | (go_at_call 13; refine (most13 _ a [] c h0 (by simp) rfl).mono ?_; rintro e w' ⟨rfl, rfl⟩; rw [show mostOf [] = 0 from rfl]))
      go_ret
      exact ⟨ret_bool HE.out.symm, rfl⟩
    · obtain ⟨b, o, rfl, hc⟩ := h.some hz
      clear h hz
      go_enter Try.func24, Try.ntmps24
      go_wp2_with fail
      go_loopg [9] l.length (fun kq v9 w' => ∃ i : Nat, v9 = .int .i64 i ∧ i ≤ l.length ∧ l.length ≤ kq + i ∧ w' = w ∧ Hid ((l.take i).all (fun x => decide ((x.length : Int) ≤ n2)) = true))
      case atStart => exact ⟨0, rfl, Nat.zero_le _, by omega, rfl, Lib.hid rfl⟩
      case round =>
        obtain ⟨i, rfl, hi, hkq, rfl, HA⟩ := hrel
        by_cases hil : i < l.length
        · obtain ⟨x, hx⟩ : ∃ x, l[i]? = some x := ⟨_, List.getElem?_eq_getElem hil⟩
          have HX := Lib.hid hx
          obtain ⟨ac, cc, cx, _, hxl⟩ := hc i x HX
          clear hx
          by_cases hn2 : (x.length : Int) ≤ n2
          · go_wp2_with fail
            go_roundg (gk - 1)
            case measure => omega
            case rel => exact ⟨i + 1, by go_num, by omega, by omega, rfl, Lib.hid (by rw [take_all HA.out HX.out]; simpa using hn2)⟩
          · go_wp2_with fail
            go_ret
            refine ⟨ret_bool ?_, rfl⟩
            unfold smallOf
            rw [all_false (List.mem_of_getElem? HX.out) (by simpa using hn2)]; simp
        · have hall := HA.out
          rw [List.take_of_length_le (by omega)] at hall
          have HE := Lib.hid (FIN.out hl1 hall)
          clear hall hc
          cases hok : okAll l with
          | true =>
            have HOK := Lib.hid hok
            clear hok
            go_wp2_with (first | (go_at_call 12; refine (right12 _ _ l c h0 hn).mono ?_; rintro e w' ⟨rfl, rfl⟩; rw [HOK.out]) | (go_at_call 13; refine (most13 _ _ l c h0 hn HOK.out).mono ?_; rintro e w' ⟨rfl, rfl⟩))
            go_ret
            exact ⟨ret_bool (by rw [HE.out, HOK.out]; simp), rfl⟩
          | false =>
            have HOK := Lib.hid hok
            clear hok
            go_wp2_with (first | (go_at_call 12; refine (right12 _ _ l c h0 hn).mono ?_; rintro e w' ⟨rfl, rfl⟩; rw [HOK.out]) | (go_at_call 13; refine (most13 _ _ l c h0 hn HOK.out).mono ?_; rintro e w' ⟨rfl, rfl⟩))
            go_ret
            exact ⟨ret_bool (by rw [HE.out, HOK.out]; simp), rfl⟩
  · go_enter Try.func24, Try.ntmps24
    go_wp2
    go_ret
    exact ⟨ret_bool (by unfold smallOf; rw [show decide ((l.length : Int) ≤ n1) = false by simpa using hl1]; rfl), rfl⟩
theorem few10 (w : World) (a : Option Addr) (l : List (List Int)) (c : Nat) (h : ClsAt w a l) (hn : l.length ≤ 9223372036854775807) :
    Calls Try.prog 10 #[.slice a l.length c] w fun e w' => e = .returned (.bool (smallOf l 120 12 40)) ∧ w' = w := by
  go_enter Try.func10, Try.ntmps10
  go_wp2_with fail
  refine (small24 w a l c h hn 120 12 40 (by omega)).mono ?_
  rintro e w' ⟨rfl, rfl⟩
  go_wp2
  go_ret
  exact ⟨rfl, rfl⟩
/-- A model in memory. -/
def BoolsAt (w : World) (a : Option Addr) (m : List Bool) : Prop := m = [] ∨ ∃ b o, a = some ⟨b, o, none⟩ ∧ b < w.heap.size ∧ ∀ j x, m[j]? = some x → w.cell? ⟨b, o + j, none⟩ = some (.bool x)
theorem BoolsAt.below {w w' : World} {a : Option Addr} {m : List Bool} (h : BoolsAt w a m) (hb : Below w.heap.size w w') : BoolsAt w' a m := by
  rcases h with h | ⟨b, o, ha, hlt, h⟩
  · exact .inl h
  · exact .inr ⟨b, o, ha, Nat.lt_of_lt_of_le hlt hb.size, fun j x hx => bcell hb (h j x hx) hlt⟩
/-- Is a literal true in a model? -/
def litB (m : List Bool) (x : Int) : Bool := ((m[(vr x).toNat]?).getD false) == decide (0 < x)
theorem closure35 (w : World) (g : Nat) (a : Option Addr) (m : List Bool) (c : Nat) (x : Int) (hx : okLit x = true) (hg : w.cell? ⟨g, 0, none⟩ = some (.slice a m.length c)) (h : BoolsAt w a m) (hn : m.length ≤ 9223372036854775807) :
    Calls Try.prog 35 #[.int .i64 x, .pointer (some ⟨g, 0, none⟩)] w fun e w' => e = .returned (.bool (litB m x)) ∧ w' = w := by
  have hv := vr_le hx
  have hx2 : -1099511627776 < x ∧ x < 1099511627776 := by unfold okLit at hx; simp at hx; omega
  obtain ⟨hx3, hx4⟩ := hx2
  obtain ⟨hv1, hv2⟩ := hv
  have hv0 : 0 ≤ vr x := by omega
  clear hx
  by_cases hlt : vr x < (m.length : Int)
  · obtain ⟨t, ht⟩ : ∃ t, m[(vr x).toNat]? = some t := ⟨_, List.getElem?_eq_getElem (by omega)⟩
    rcases h with rfl | ⟨b, o, rfl, hb, hc⟩
    · simp at ht
    · have ct := hc _ _ ht
      have HT := Lib.hid ht
      clear ht hc
      go_enter Try.func35, Try.ntmps35
      go_wp2_with (go_at_call 36; refine (variable36 x _ hx3 hx4).mono ?_; rintro e w' ⟨rfl, rfl⟩)
      go_ret
      exact ⟨ret_bool (by unfold litB; rw [HT.out]; rfl), rfl⟩
  · have hnone : Hid (m[(vr x).toNat]? = none) := Lib.hid (List.getElem?_eq_none (by omega))
    go_enter Try.func35, Try.ntmps35
    go_wp2_with (go_at_call 36; refine (variable36 x _ hx3 hx4).mono ?_; rintro e w' ⟨rfl, rfl⟩)
    go_ret
    exact ⟨ret_bool (by unfold litB; rw [hnone.out]; simp), rfl⟩
set_option maxHeartbeats 400000 in
theorem indexFunc54_35 (w : World) (g : Nat) (a : Option Addr) (l : List Int) (c : Nat) (am : Option Addr) (m : List Bool) (cm : Nat) (hx : ∀ x ∈ l, okLit x = true) (hg : w.cell? ⟨g, 0, none⟩ = some (.slice am m.length cm)) (hm : BoolsAt w am m) (hmn : m.length ≤ 9223372036854775807) (h : IntsAt w a l) (hn : l.length ≤ 9223372036854775807) :
    Calls Try.prog 54 #[.slice a l.length c, .func (.func 35) #[] #[.pointer (some ⟨g, 0, none⟩)]] w (Idx (litB m) l w) := by
  rcases h with rfl | ⟨b, o, rfl, hlt, hc⟩
  · go_enter Try.func54, Try.ntmps54
    go_wp2
    refine wp_loop_rounds 1 ?_
    rw [rounds_succ]
    go_wp2
    go_ret
    exact idx_none (fun j x h => by simp at h)
  · have hcell := fun (j : Nat) (x : Int) (h : Hid (l[j]? = some x)) => hc j x h.out
    clear hc
    go_enter Try.func54, Try.ntmps54
    go_wp2
    go_loop [8] (fun i => ∃ k : Nat, i = .int .i64 k ∧ k ≤ l.length ∧ Hid (∀ j x, j < k → l[j]? = some x → litB m x = false)) (fun i => l.length - (intOf i).toNat)
    case atStart => exact ⟨0, rfl, Nat.zero_le _, Lib.hid fun j x h => by omega⟩
    case round =>
      obtain ⟨k, rfl, hk, hno⟩ := hrel
      by_cases hkl : k < l.length
      · obtain ⟨x, hx'⟩ : ∃ x, l[k]? = some x := ⟨_, List.getElem?_eq_getElem hkl⟩
        have cx := hcell k x (Lib.hid hx')
        have hb := Lib.hid (hx x (List.mem_of_getElem? hx'))
        have HX := Lib.hid hx'
        clear hx' hcell hx
        cases hv : litB m x with
        | true =>
          have hv' := Lib.hid hv
          clear hv
          go_wp2_with (go_at_call 35; refine (closure35 w g am m cm x hb.out hg hm hmn).mono ?_; rw [hv'.out]; rintro e w' ⟨rfl, rfl⟩)
          go_ret
          exact idx_some HX.out hv'.out
        | false =>
          have hv' := Lib.hid hv
          clear hv
          go_wp2_with (go_at_call 35; refine (closure35 w g am m cm x hb.out hg hm hmn).mono ?_; rw [hv'.out]; rintro e w' ⟨rfl, rfl⟩)
          go_round
          case rel => exact ⟨k + 1, by go_num, by omega, Lib.hid fun j y hj hy => by
            by_cases e : j = k
            · subst e; rw [HX.out] at hy; cases hy; exact hv'.out
            · exact hno.out j y (by omega) hy⟩
          case measure => simp [intOf]; omega
      · clear hcell hx
        go_wp2
        go_ret
        exact idx_none (fun j x h => hno.out j x (by have := (List.getElem?_eq_some_iff.1 h).1; omega) h)
set_option maxHeartbeats 400000 in
theorem containsFunc34_35 (w : World) (g : Nat) (a : Option Addr) (l : List Int) (c : Nat) (am : Option Addr) (m : List Bool) (cm : Nat) (hx : ∀ x ∈ l, okLit x = true) (hg : w.cell? ⟨g, 0, none⟩ = some (.slice am m.length cm)) (hm : BoolsAt w am m) (hmn : m.length ≤ 9223372036854775807) (h : IntsAt w a l) (hn : l.length ≤ 9223372036854775807) :
    Calls Try.prog 34 #[.slice a l.length c, .func (.func 35) #[] #[.pointer (some ⟨g, 0, none⟩)]] w fun e w' => e = .returned (.bool (l.any (litB m))) ∧ w' = w := by
  go_enter Try.func34, Try.ntmps34
  go_wp2_with fail
  refine (indexFunc54_35 w g a l c am m cm hx hg hm hmn h hn).mono ?_
  rintro e w' ⟨i, rfl, h1, h2, rfl⟩
  have h2' : Hid (0 ≤ i ↔ l.any (litB m) = true) := Lib.hid h2
  clear h2
  by_cases h0 : 0 ≤ i
  · have e' := Lib.hid (h2'.out.1 h0)
    go_wp2
    go_ret
    exact ⟨ret_bool e'.out.symm, rfl⟩
  · have e : l.any (litB m) = false := by
      cases h3 : l.any (litB m) with
      | true => exact absurd (h2'.out.2 h3) h0
      | false => rfl
    have e' := Lib.hid e
    clear e
    go_wp2
    go_ret
    exact ⟨ret_bool (by rw [e'.out]; simp; omega), rfl⟩
/-- Do all clauses hold? -/
def holdsOf (l : List (List Int)) (m : List Bool) : Bool := okAll l && l.all fun c => c.any (litB m)
set_option maxHeartbeats 1000000 in
theorem holds19 (w : World) (a : Option Addr) (l : List (List Int)) (c : Nat) (am : Option Addr) (m : List Bool) (cm : Nat) (h : ClsAt w a l) (hn : l.length ≤ 9223372036854775807) (hm : BoolsAt w am m) (hmn : m.length ≤ 9223372036854775807) :
    Calls Try.prog 19 #[.slice a l.length c, .slice am m.length cm] w fun e w' => e = .returned (.bool (holdsOf l m)) ∧ Below w.heap.size w w' := by
  have hb1 : Below w.heap.size w (w.alloc (.cells #[.slice am m.length cm] 25)) := (Below.refl _ _).alloc (Nat.le_refl _) _
  have hcl : ClsAt (w.alloc (.cells #[.slice am m.length cm] 25)) a l := by
    rcases h with h | ⟨b, o, ha, hlt, h⟩
    · exact .inl h
    · refine .inr ⟨b, o, ha, Nat.lt_of_lt_of_le hlt hb1.size, fun j c hc => ?_⟩
      obtain ⟨ac, cc, h1, h2, h3⟩ := h j c hc
      exact ⟨ac, cc, bcell hb1 h1 hlt, h2.below hb1, h3⟩
  have hm1 := hm.below hb1
  have hg1 : (w.alloc (.cells #[.slice am m.length cm] 25)).cell? ⟨w.heap.size, 0, none⟩ = some (.slice am m.length cm) := cell_of_row _ _ 0 _ 25 (0, 0) (heap_alloc_new w _)
  go_enter Try.func19, Try.ntmps19
  go_wp2_with fail
  generalize w.alloc (.cells #[.slice am m.length cm] 25) = w1 at *
  generalize w.heap.size = g at hg1 ⊢
  refine (right25 _ a l c hcl hn).mono ?_
  rintro e w' ⟨rfl, rfl⟩
  cases hok : okAll l with
  | false =>
    rw [show errOf l = 3 by unfold errOf; rw [hok]; rfl]
    have HE : Hid (holdsOf l m = false) := Lib.hid (by unfold holdsOf; rw [hok]; rfl)
    go_wp2_with fail
    go_ret
    exact ⟨ret_bool HE.out.symm, hb1⟩
  | true =>
    rw [show errOf l = 0 by unfold errOf; rw [hok]; rfl]
    have HOK := Lib.hid hok
    have HH : Hid (holdsOf l m = l.all fun c => c.any (litB m)) := Lib.hid (by unfold holdsOf; rw [hok]; rfl)
    clear hok h hm
    rcases Nat.eq_zero_or_pos l.length with hz | hz
    · have hl := List.eq_nil_of_length_eq_zero hz
      subst hl
      go_wp2_with fail
      refine wp_loop_rounds 1 ?_
      rw [rounds_succ]
      go_wp2_with fail
      go_ret
      exact ⟨ret_bool rfl, hb1⟩
    · obtain ⟨b, o, rfl, hc⟩ := hcl.some hz
      clear hcl hz
      go_wp2_with fail
      go_loopg [12] l.length (fun kq v12 w2 => ∃ i : Nat, v12 = .int .i64 i ∧ i ≤ l.length ∧ l.length ≤ kq + i ∧ w2 = w' ∧ Hid ((l.take i).all (fun c => c.any (litB m)) = true))
      case atStart => exact ⟨0, rfl, Nat.zero_le _, by omega, rfl, Lib.hid rfl⟩
      case round =>
        obtain ⟨i, rfl, hi, hkq, rfl, HA⟩ := hrel
        by_cases hil : i < l.length
        · obtain ⟨x, hx⟩ : ∃ x, l[i]? = some x := ⟨_, List.getElem?_eq_getElem hil⟩
          have HX := Lib.hid hx
          obtain ⟨ac, cc, cx, hI, hxl⟩ := hc i x HX
          have hokx := Lib.hid fun y hy => okAll_at HOK.out (List.mem_of_getElem? hx) (y := y) hy
          clear hx
          cases hv : x.any (litB m) with
          | true =>
            have HV := Lib.hid hv
            clear hv
            go_wp2_with (go_at_call 34; refine (containsFunc34_35 _ g ac x cc am m cm hokx.out hg1 hm1 hmn hI (by omega)).mono ?_; rw [HV.out]; rintro e w2 ⟨rfl, rfl⟩)
            go_roundg (gk - 1)
            case measure => omega
            case rel => exact ⟨i + 1, by go_num, by omega, by omega, rfl, Lib.hid (by rw [take_all HA.out HX.out]; exact HV.out)⟩
          | false =>
            have HV := Lib.hid hv
            clear hv
            go_wp2_with (go_at_call 34; refine (containsFunc34_35 _ g ac x cc am m cm hokx.out hg1 hm1 hmn hI (by omega)).mono ?_; rw [HV.out]; rintro e w2 ⟨rfl, rfl⟩)
            go_ret
            exact ⟨ret_bool (by rw [HH.out]; exact (all_false (List.mem_of_getElem? HX.out) HV.out).symm), hb1⟩
        · have hall := HA.out
          rw [List.take_of_length_le (by omega)] at hall
          have HALL := Lib.hid hall
          clear hall hc
          go_wp2_with fail
          go_ret
          exact ⟨ret_bool (by rw [HH.out]; exact HALL.out.symm), hb1⟩
end Go.Proofs.Ytfmoldfajmfieaa
