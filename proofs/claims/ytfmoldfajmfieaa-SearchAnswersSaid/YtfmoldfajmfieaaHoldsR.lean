/-
  Do clauses hold in a model, by definition: the walk.
-/
import Derived.Test.YtfmoldfajmfieaaSmall
namespace Go.Proofs.Ytfmoldfajmfieaa
open Go.RowKit
theorem true30 (w : World) (a : Option Addr) (m : List Bool) (c : Nat) (x : Int) (hx : okLit x = true) (h : BoolsAt w a m) (hn : m.length ≤ 9223372036854775807) :
    Calls Try.prog 30 #[.slice a m.length c, .int .i64 x] w fun e w' => e = .returned (.bool (litB m x)) ∧ w' = w := by
  have hv := vr_le hx
  have hx2 : -1099511627776 < x ∧ x < 1099511627776 := by unfold okLit at hx; simp at hx; omega
  obtain ⟨hx3, hx4⟩ := hx2
  obtain ⟨hv1, hv2⟩ := hv
  have hv0 : 0 ≤ vr x := by omega
  clear hx
  by_cases hlt : vr x < (m.length : Int)
  · obtain ⟨t, ht⟩ : ∃ t, m[(vr x).toNat]? = some t := ⟨_, List.getElem?_eq_getElem (by omega)⟩
    rcases h with rfl | ⟨b, o, rfl, hb, hc⟩
    · simp at ht
    · have ct := hc _ _ ht
      have HT := Lib.hid ht
      clear ht hc
      go_enter Try.func30, Try.ntmps30
      go_wp2_with (go_at_call 29; refine (var29 x _ hx3 hx4).mono ?_; rintro e w' ⟨rfl, rfl⟩)
      go_ret
      exact ⟨ret_bool (by unfold litB; rw [HT.out]; rfl), rfl⟩
  · have hnone : Hid (m[(vr x).toNat]? = none) := Lib.hid (List.getElem?_eq_none (by omega))
    go_enter Try.func30, Try.ntmps30
    go_wp2_with (go_at_call 29; refine (var29 x _ hx3 hx4).mono ?_; rintro e w' ⟨rfl, rfl⟩)
    go_ret
    exact ⟨ret_bool (by unfold litB; rw [hnone.out]; simp), rfl⟩
set_option maxHeartbeats 1000000 in
theorem holds14 (w : World) (a : Option Addr) (l : List (List Int)) (c : Nat) (am : Option Addr) (m : List Bool) (cm : Nat) (h : ClsAt w a l) (hn : l.length ≤ 9223372036854775807) (hm : BoolsAt w am m) (hmn : m.length ≤ 9223372036854775807) :
    Calls Try.prog 14 #[.slice a l.length c, .slice am m.length cm] w fun e w' => e = .returned (.bool (holdsOf l m)) ∧ w' = w := by
  go_enter Try.func14, Try.ntmps14
  go_wp2_with fail
  refine (right12 w a l c h hn).mono ?_
  rintro e w' ⟨rfl, rfl⟩
  cases hok : okAll l with
  | false =>
    have HE : Hid (holdsOf l m = false) := Lib.hid (by unfold holdsOf; rw [hok]; rfl)
    go_wp2_with fail
    go_ret
    exact ⟨ret_bool HE.out.symm, rfl⟩
  | true =>
    have HOK := Lib.hid hok
    have HH : Hid (holdsOf l m = l.all fun c => c.any (litB m)) := Lib.hid (by unfold holdsOf; rw [hok]; rfl)
    clear hok
    rcases Nat.eq_zero_or_pos l.length with hz | hz
    · have hl := List.eq_nil_of_length_eq_zero hz
      subst hl
      go_wp2_with fail
      refine wp_loop_rounds 1 ?_
      rw [rounds_succ]
      go_wp2_with fail
      go_ret
      exact ⟨ret_bool rfl, rfl⟩
    · obtain ⟨b, o, rfl, hc⟩ := h.some hz
      clear h hz
      go_wp2_with fail
      go_loopg [5] l.length (fun kq v5 w2 => ∃ i : Nat, v5 = .int .i64 i ∧ i ≤ l.length ∧ l.length ≤ kq + i ∧ w2 = w' ∧ Hid ((l.take i).all (fun c => c.any (litB m)) = true))
      case atStart => exact ⟨0, rfl, Nat.zero_le _, by omega, rfl, Lib.hid rfl⟩
      case round =>
        obtain ⟨i, rfl, hi, hkq, rfl, HA⟩ := hrel
        by_cases hil : i < l.length
        · obtain ⟨x, hx⟩ : ∃ x, l[i]? = some x := ⟨_, List.getElem?_eq_getElem hil⟩
          have HX := Lib.hid hx
          obtain ⟨ac, cc, cx, hI, hxl⟩ := hc i x HX
          have hokx := Lib.hid fun y hy => okAll_at HOK.out (List.mem_of_getElem? hx) (y := y) hy
          clear hx
          have hfin : Hid (x.any (litB m) = false → holdsOf l m = false) := Lib.hid fun hf => by rw [HH.out]; exact all_false (List.mem_of_getElem? HX.out) hf
          rcases hI with rfl | ⟨b2, o2, rfl, hb2, hI⟩
          · go_wp2_with fail
            refine wp_loop_rounds 1 ?_
            rw [rounds_succ]
            go_wp2_with fail
            go_ret
            exact ⟨ret_bool (hfin.out rfl).symm, rfl⟩
          · have hI2 := fun (j : Nat) (y : Int) (h : Hid (x[j]? = some y)) => hI j y h.out
            clear hI
            obtain ⟨g0, hg0⟩ : ∃ g, g = gk := ⟨_, rfl⟩
            go_wp2_with fail
            go_loopg [6, 7] x.length (fun kr v6 v7 w2 => ∃ (j : Nat) (t : Bool), v6 = .bool t ∧ v7 = .int .i64 j ∧ j ≤ x.length ∧ x.length ≤ kr + j ∧ w2 = wr ∧ Hid (t = (x.take j).any (litB m)))
            case atStart => exact ⟨0, false, rfl, rfl, Nat.zero_le _, by omega, rfl, Lib.hid rfl⟩
            case round =>
              obtain ⟨j, t, rfl, rfl, hj, hkr, rfl, HB⟩ := hrel
              by_cases hjl : j < x.length
              · obtain ⟨y, hy⟩ : ∃ y, x[j]? = some y := ⟨_, List.getElem?_eq_getElem hjl⟩
                have HY := Lib.hid hy
                have cy := hI2 j y HY
                have hyo := hokx.out y (List.mem_of_getElem? hy)
                have HN : Hid ((x.take (j + 1)).any (litB m) = (t || litB m y)) := Lib.hid (by rw [List.take_add_one, hy, List.any_append, HB.out]; simp)
                have HYO := Lib.hid hyo
                clear hy hyo
                cases t with
                | true =>
                  go_wp2_with (go_at_call 30; refine (true30 _ am m cm y HYO.out hm hmn).mono ?_; rintro e w2 ⟨rfl, rfl⟩)
                  go_roundg (gk - 1)
                  case measure => omega
                  case rel => exact ⟨j + 1, true, rfl, by go_num, by omega, by omega, rfl, Lib.hid (by rw [HN.out]; rfl)⟩
                | false =>
                  go_wp2_with (go_at_call 30; refine (true30 _ am m cm y HYO.out hm hmn).mono ?_; rintro e w2 ⟨rfl, rfl⟩)
                  go_roundg (gk - 1)
                  case measure => omega
                  case rel => exact ⟨j + 1, litB m y, rfl, by go_num, by omega, by omega, rfl, Lib.hid (by rw [HN.out]; rfl)⟩
              · have hall : t = x.any (litB m) := by have := HB.out; rwa [List.take_of_length_le (by omega)] at this
                have HALL := Lib.hid hall
                clear hall HB
                cases t with
                | true =>
                  go_wp2_with fail
                  go_roundg (g0 - 1)
                  case measure => omega
                  case rel => exact ⟨i + 1, by go_num, by omega, by omega, rfl, Lib.hid (by rw [take_all HA.out HX.out]; exact HALL.out.symm)⟩
                | false =>
                  go_wp2_with fail
                  go_ret
                  exact ⟨ret_bool (hfin.out HALL.out.symm).symm, rfl⟩
        · have hall := HA.out
          rw [List.take_of_length_le (by omega)] at hall
          have HALL := Lib.hid hall
          clear hall hc
          go_wp2_with fail
          go_ret
          exact ⟨ret_bool (by rw [HH.out]; exact HALL.out.symm), rfl⟩
end Go.Proofs.Ytfmoldfajmfieaa
