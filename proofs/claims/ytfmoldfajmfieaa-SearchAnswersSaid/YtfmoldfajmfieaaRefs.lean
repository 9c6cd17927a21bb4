/-
  What follows clause by clause, by definition: the walks of its parts.
-/
import Derived.Test.YtfmoldfajmfieaaSmall
import Derived.Test.YtfmoldfajmfieaaSolve
namespace Go.Proofs.Ytfmoldfajmfieaa
open Go.RowKit
theorem sign71 (x : Int) (w : World) : Calls Try.prog 71 #[.int .i64 x] w fun e w' => e = .returned (.int .i64 (if x < 0 then -1 else 1)) ∧ w' = w := by
  by_cases h : x < 0
  · rw [if_pos h]
    go_enter Try.func71, Try.ntmps71
    go_wp2
    go_ret
    exact ⟨rfl, rfl⟩
  · rw [if_neg h]
    go_enter Try.func71, Try.ntmps71
    go_wp2
    go_ret
    exact ⟨rfl, rfl⟩
set_option maxHeartbeats 1000000 in
theorem in81 (w : World) (a : Option Addr) (l : List Int) (c : Nat) (v : Int) (h : IntsAt w a l) (hn : l.length ≤ 9223372036854775807) :
    Calls Try.prog 81 #[.slice a l.length c, .int .i64 v] w fun e w' => e = .returned (.bool (l.contains v)) ∧ w' = w := by
  rcases h with rfl | ⟨b, o, rfl, hlt, hc⟩
  · go_enter Try.func81, Try.ntmps81
    go_wp2
    refine wp_loop_rounds 1 ?_
    rw [rounds_succ]
    go_wp2
    go_ret
    exact ⟨ret_bool rfl, rfl⟩
  · have hcell := fun (j : Nat) (x : Int) (h : Hid (l[j]? = some x)) => hc j x h.out
    clear hc
    go_enter Try.func81, Try.ntmps81
    go_wp2
    go_loopg [5] l.length (fun kq v5 w' => ∃ i : Nat, v5 = .int .i64 i ∧ i ≤ l.length ∧ l.length ≤ kq + i ∧ w' = w ∧ Hid (∀ j x, j < i → l[j]? = some x → x ≠ v))
    case atStart => exact ⟨0, rfl, Nat.zero_le _, by omega, rfl, Lib.hid fun j x h => by omega⟩
    case round =>
      obtain ⟨i, rfl, hi, hkq, rfl, HA⟩ := hrel
      by_cases hil : i < l.length
      · obtain ⟨x, hx⟩ : ∃ x, l[i]? = some x := ⟨_, List.getElem?_eq_getElem hil⟩
        have HX := Lib.hid hx
        have cx := hcell i x HX
        clear hx
        by_cases he : x = v
        · have hb : (x == v) = true := by simp [he]
          go_wp2
          go_ret
          exact ⟨ret_bool (by have := List.mem_of_getElem? HX.out; rw [he] at this; simpa using this), rfl⟩
        · have hb : (x == v) = false := by simp [he]
          have HE := Lib.hid he
          clear he
          go_wp2
          go_roundg (gk - 1)
          case measure => omega
          case rel => exact ⟨i + 1, by go_num, by omega, by omega, rfl, Lib.hid fun j y hj hy => by
            by_cases e : j = i
            · subst e; rw [HX.out] at hy; cases hy; exact HE.out
            · exact HA.out j y (by omega) hy⟩
      · go_wp2
        go_ret
        refine ⟨ret_bool ?_, rfl⟩
        symm
        rw [← Bool.not_eq_true, List.contains_iff_mem]
        intro hm
        obtain ⟨j, hj⟩ := List.mem_iff_getElem?.1 hm
        exact HA.out j v (by have := (List.getElem?_eq_some_iff.1 hj).1; omega) hj rfl
set_option maxHeartbeats 1000000 in
/-- The opposites of literals, in new memory. -/
theorem turned51 (w : World) (a : Option Addr) (l : List Int) (c : Nat) (h : IntsAt w a l) (hn : l.length ≤ 1000000) (hw : ∀ x ∈ l, -1099511627776 < x ∧ x < 1099511627776) :
    Calls Try.prog 51 #[.slice a l.length c] w fun e w' => ∃ v g, e = .returned v ∧ RowG w' 3 1 v l.length ((l.map fun x => -x).map vI) g ∧ (∀ k, g = some k → w.heap.size ≤ k) ∧ Below w.heap.size w w' := by
  have HW := Lib.hid hw
  clear hw
  have hC : ∀ (j : Nat) (x : Int), Hid (l[j]? = some x) → ∃ b o, a = some ⟨b, o, none⟩ ∧ b < w.heap.size ∧ w.cell? ⟨b, o + j, none⟩ = some (.int .i64 x) := fun j x hx => by
    rcases h with h | ⟨b, o, ha, hb, hc⟩
    · have := hx.out; rw [h] at this; simp at this
    · exact ⟨b, o, ha, hb, hc j x hx.out⟩
  clear h
  go_enter Try.func51, Try.ntmps51
  go_wp2
  go_loopg [3, 4] l.length (fun kq v3 v4 w' => ∃ (i : Nat) (g : Option Nat), v4 = .int .i64 i ∧ i ≤ l.length ∧ l.length ≤ kq + i ∧ RowG w' 3 1 v3 ((l.take i).map fun x => -x).length (((l.take i).map fun x => -x).map vI) g ∧ (∀ k, g = some k → w.heap.size ≤ k) ∧ Below w.heap.size w w')
  case atStart => exact ⟨0, none, rfl, Nat.zero_le _, by omega, ⟨⟨_, rfl⟩, rfl, rfl⟩, fun _ h => (by cases h), Below.refl _ _⟩
  case round =>
    obtain ⟨i, g, rfl, hi, hkq, hG, hg, hb⟩ := hrel
    by_cases hil : i < l.length
    · obtain ⟨x, hx⟩ : ∃ x, l[i]? = some x := ⟨_, List.getElem?_eq_getElem hil⟩
      have HX := Lib.hid hx
      obtain ⟨b, o, rfl, hbl, cx⟩ := hC i x HX
      have hxb := HW.out x (List.mem_of_getElem? hx)
      obtain ⟨hx1, hx2⟩ := hxb
      clear hx
      have cx' := bcell hb cx hbl
      have hneg : wrap64 (-x) = -x := by unfold wrap64; omega
      have hlen : ((l.take i).map fun x => -x).length < 1099511627776 := by simp; omega
      go_wp2_with (at_builtin; refine append_int rfl _ _ rfl _ rfl rfl (by simp) hG hlen ?_; intro c7 w7 g7 hG7 ha7)
      have e7 : ((l.take (i + 1)).map fun x => -x) = ((l.take i).map fun x => -x) ++ [-x] := by rw [List.take_add_one, HX.out]; simp
      have hw7 : ∀ k, some g7 = some k → w.heap.size ≤ k := fun k e => by
        cases e
        rcases ha7.who with h | h
        · exact hg _ h
        · have := hb.size; omega
      have hb7 := hb.trans (ha7.keep.below hb.size fun k _ e => by have := hw7 g7 rfl; omega)
      have HG7 := Lib.hid hG7
      clear hG7 ha7 hG cx cx' hb
      go_wp2
      go_roundg (gk - 1)
      case measure => omega
      case rel => exact ⟨i + 1, some g7, by go_num, by omega, by omega, (by
            have hm : ((l.take i).map fun x => -x).length = i := by simp; omega
            have h7 := HG7.out; rw [hm] at h7; rw [e7, List.length_append, hm]; exact h7), hw7, hb7⟩
    · have e : (l.take i) = l := List.take_of_length_le (by omega)
      rw [e] at hG
      go_wp2
      go_ret
      exact ⟨_, g, rfl, by rw [List.length_map] at hG; exact hG, hg, hb⟩
/-- Is a literal false, by what is true of each variable? -/
def falseI (I : List Int) (x : Int) : Bool := (I.getD (vr x).toNat 0 != 0) && (decide (0 < I.getD (vr x).toNat 0) != decide (0 < x))
/-- The literals that aren't false, each once. -/
def leftOf (I : List Int) (acc : List Int) (x : Int) : List Int := if falseI I x = true ∨ x ∈ acc then acc else acc ++ [x]
def leftL (I : List Int) (c : List Int) : List Int := c.foldl (leftOf I) []
theorem RowG.intsAt {w : World} {v : Value} {l : List Int} {g : Option Nat} (h : RowG w 3 1 v l.length (l.map vI) g) : ∃ a c, v = .slice a l.length c ∧ IntsAt w a l := by
  obtain ⟨a, c, rfl, _, ha⟩ := h.val
  refine ⟨a, c, rfl, ?_⟩
  cases g with
  | none =>
    obtain ⟨_, hl, _⟩ := h
    exact .inl (List.eq_nil_of_length_eq_zero hl)
  | some g =>
    rw [ha g rfl]
    exact .inr ⟨g, 0, rfl, h.lt, fun j x hx => by rw [Nat.zero_add]; exact h.cellAt (by rw [List.getElem?_map, hx]; rfl)⟩
theorem leftOf_len (I acc : List Int) (x : Int) : (leftOf I acc x).length ≤ acc.length + 1 := by
  unfold leftOf; split <;> simp
theorem leftL_len (I c : List Int) : (leftL I c).length ≤ c.length := by
  have : ∀ (c acc : List Int), (c.foldl (leftOf I) acc).length ≤ acc.length + c.length := fun c => by
    induction c with
    | nil => intro acc; simp
    | cons x c ih =>
      intro acc
      have h1 := ih (leftOf I acc x)
      have h2 := leftOf_len I acc x
      simp only [List.foldl_cons, List.length_cons]
      omega
  have := this c []
  simpa [leftL] using this
set_option maxHeartbeats 4000000 in
theorem left72 (w : World) (a : Option Addr) (l : List Int) (c : Nat) (h : IntsAt w a l) (hn : l.length ≤ 1000000) (hok : ∀ x ∈ l, okLit x = true) (bi : Nat) (I : List Int) (cI : Nat) (hbi : bi < w.heap.size)
    (hI : ∀ (j : Nat) (y : Int), I[j]? = some y → w.cell? ⟨bi, j, none⟩ = some (.int .i64 y)) (_hIn : I.length ≤ 10000000) (hv : ∀ x ∈ l, vr x < (I.length : Int)) :
    Calls Try.prog 72 #[.slice a l.length c, .slice (some ⟨bi, 0, none⟩) I.length cI] w fun e w' => ∃ v g, e = .returned v ∧ RowG w' 3 1 v (leftL I l).length ((leftL I l).map vI) g ∧ (∀ k, g = some k → w.heap.size ≤ k) ∧ Below w.heap.size w w' := by
  have HOK := Lib.hid hok
  have HV := Lib.hid hv
  have HI := fun (j : Nat) (y : Int) (h : Hid (I[j]? = some y)) => hI j y h.out
  have hC : ∀ (j : Nat) (x : Int), Hid (l[j]? = some x) → ∃ b o, a = some ⟨b, o, none⟩ ∧ b < w.heap.size ∧ w.cell? ⟨b, o + j, none⟩ = some (.int .i64 x) := fun j x hx => by
    rcases h with h | ⟨b, o, ha, hb, hc⟩
    · have := hx.out; rw [h] at this; simp at this
    · exact ⟨b, o, ha, hb, hc j x hx.out⟩
  clear h hok hv hI
  go_enter Try.func72, Try.ntmps72
  go_wp2
  go_loopg [5, 6] l.length (fun kq v5 v6 w' => ∃ (i : Nat) (g : Option Nat), v6 = .int .i64 i ∧ i ≤ l.length ∧ l.length ≤ kq + i ∧ RowG w' 3 1 v5 (leftL I (l.take i)).length ((leftL I (l.take i)).map vI) g ∧ (∀ k, g = some k → w.heap.size ≤ k) ∧ Below w.heap.size w w')
  case atStart => exact ⟨0, none, rfl, Nat.zero_le _, by omega, ⟨⟨_, rfl⟩, rfl, rfl⟩, fun _ h => (by cases h), Below.refl _ _⟩
  case round =>
    obtain ⟨i, g, rfl, hi, hkq, hG, hg, hb⟩ := hrel
    by_cases hil : i < l.length
    · obtain ⟨x, hx⟩ : ∃ x, l[i]? = some x := ⟨_, List.getElem?_eq_getElem hil⟩
      have HX := Lib.hid hx
      obtain ⟨b, o, rfl, hbl, cx⟩ := hC i x HX
      have hok := HOK.out x (List.mem_of_getElem? hx)
      have hvl := HV.out x (List.mem_of_getElem? hx)
      obtain ⟨hv1, hv2⟩ := vr_le hok
      have hx2 : -1099511627776 < x ∧ x < 1099511627776 := by unfold okLit at hok; simp at hok; omega
      obtain ⟨hx3, hx4⟩ := hx2
      have hv0 : 0 ≤ vr x := by omega
      clear hx hok
      obtain ⟨y, hy⟩ : ∃ y, I[(vr x).toNat]? = some y := ⟨_, List.getElem?_eq_getElem (by omega)⟩
      have cy := HI _ y (Lib.hid hy)
      have HY := Lib.hid hy
      have hstep : Hid (leftL I (l.take (i + 1)) = leftOf I (leftL I (l.take i)) x) := Lib.hid (foldl_take _ _ HX.out)
      have hlen : (leftL I (l.take i)).length ≤ i := by have := leftL_len I (l.take i); simp at this; omega
      have hFI : Hid (falseI I x = ((y != 0) && (decide (0 < y) != decide (0 < x)))) := Lib.hid (by
        unfold falseI; rw [List.getD_eq_getElem?_getD, hy]; rfl)
      clear hy
      generalize leftL I (l.take i) = acc at *
      have cx' := bcell hb cx hbl
      have cy' := bcell hb cy hbi
      have hbl' := Nat.lt_of_lt_of_le hbl hb.size
      have hbi' := Nat.lt_of_lt_of_le hbi hb.size
      have fx := fun u : Bel wr => u.cell cx' hbl'
      have fy := fun u : Bel wr => u.cell cy' hbi'
      clear cx cy cx' cy'
      have hs : (y = 0 ∨ y ≠ 0 ∧ 0 < y ∧ 0 < x ∨ y ≠ 0 ∧ ¬ 0 < y ∧ ¬ 0 < x) ∨ (y ≠ 0 ∧ ¬ 0 < y ∧ 0 < x ∨ y ≠ 0 ∧ 0 < y ∧ ¬ 0 < x) := by omega
      rcases hs with hs | hs
      · have hF : Hid (falseI I x = false) := Lib.hid (by
          rw [hFI.out]
          rcases hs with rfl | ⟨_, p, q⟩ | ⟨_, p, q⟩
          · rfl
          · simp [p, q]
          · simp [p, q])
        clear hFI
        obtain ⟨a5, c5, rfl, hint⟩ := hG.intsAt
        have hs2 : ((y != 0) = false ∧ y = 0 ∧ y = 0) ∨ ((y != 0) = true ∧ 0 < y ∧ 0 < x) ∨ ((y != 0) = true ∧ ¬ 0 < y ∧ ¬ 0 < x) := by
          rcases hs with hs | ⟨e1, p, q⟩ | ⟨e1, p, q⟩
          · exact .inl ⟨by rw [hs]; rfl, hs, hs⟩
          · exact .inr (.inl ⟨by simpa using e1, p, q⟩)
          · exact .inr (.inr ⟨by simpa using e1, p, q⟩)
        clear hs
        rcases hs2 with ⟨e1, p, q⟩ | ⟨e1, p, q⟩ | ⟨e1, p, q⟩
        all_goals
          go_wp2_with fail
          refine region_quiet (by kernel_rfl) (by kernel_rfl) ?_
          repeat (first | go_big_quiet_step (exact quiet_same (var29 _ _ hx3 hx4)) | quiet_step (exact quiet_same (var29 _ _ hx3 hx4)))
          refine wpQuiet_nil ?_
          rintro w' ⟨u, rfl⟩
          have fx2 := fx u
          have hb2 := hb.trans (u.2.mono hb.size)
          have hG2 : RowG u.1 3 1 (.slice a5 acc.length c5) acc.length (acc.map vI) g := hG.same fun k e => by subst e; exact u.2.block k hG.lt
          have hint2 := hint.below u.2
          clear fx fy hG hb hbl' hbi' e1 hint
          generalize u.1 = w2 at *
          clear u
          cases hct : acc.contains x with
          | true =>
            have e9 : Hid (leftOf I acc x = acc) := Lib.hid (by unfold leftOf; rw [if_pos (.inr (by simpa using hct))])
            have HCT := Lib.hid hct
            clear hct
            go_wp2_with (go_at_call 81; refine (in81 _ a5 acc c5 x hint2 (by omega)).mono ?_; rw [HCT.out]; rintro e w3 ⟨rfl, rfl⟩)
            go_roundg (gk - 1)
            case measure => omega
            case rel => exact ⟨i + 1, g, by go_num, by omega, by omega, (by rw [hstep.out, e9.out]; exact hG2), hg, hb2⟩
          | false =>
            have e9 : Hid (leftOf I acc x = acc ++ [x]) := Lib.hid (by
              unfold leftOf
              rw [if_neg]
              rintro (h | h)
              · rw [hF.out] at h; cases h
              · rw [← List.contains_iff_mem, hct] at h; cases h)
            have HCT := Lib.hid hct
            have hal : acc.length < 1099511627776 := by omega
            clear hct
            go_wp2_with (first | (go_at_call 81; refine (in81 _ a5 acc c5 x hint2 (by omega)).mono ?_; rw [HCT.out]; rintro e w3 ⟨rfl, rfl⟩) | (at_builtin; refine append_int rfl _ _ rfl _ rfl rfl (by simp) hG2 hal ?_; intro c7 w7 g7 hG7 ha7))
            have hw7 : ∀ k, some g7 = some k → w.heap.size ≤ k := fun k e => by
              cases e
              rcases ha7.who with h | h
              · exact hg _ h
              · have := hb2.size; omega
            have hb7 := hb2.trans (ha7.keep.below hb2.size fun k _ e => by have := hw7 g7 rfl; omega)
            have HG7 := Lib.hid hG7
            clear hG7 ha7 hG2 fx2 hint2
            go_wp2_with fail
            go_roundg (gk - 1)
            case measure => omega
            case rel => exact ⟨i + 1, some g7, by go_num, by omega, by omega, (by rw [hstep.out, e9.out, List.length_append]; exact HG7.out), hw7, hb7⟩
      · have hF : Hid (falseI I x = true) := Lib.hid (by
          rw [hFI.out]
          rcases hs with ⟨r, p, q⟩ | ⟨r, p, q⟩
          · simp [p, q, r]
          · simp [p, q, r])
        have e1 : (y != 0) = true := by simp; omega
        clear hFI
        rcases hs with ⟨_, p, q⟩ | ⟨_, p, q⟩
        all_goals
          go_wp2_with fail
          refine region_quiet (by kernel_rfl) (by kernel_rfl) ?_
          repeat (first | go_big_quiet_step (exact quiet_same (var29 _ _ hx3 hx4)) | quiet_step (exact quiet_same (var29 _ _ hx3 hx4)))
          refine wpQuiet_nil ?_
          rintro w' ⟨u, rfl⟩
          have hb2 := hb.trans (u.2.mono hb.size)
          have hG2 : RowG u.1 3 1 u5 acc.length (acc.map vI) g := hG.same fun k e => by subst e; exact u.2.block k hG.lt
          clear fx fy hG hb hbl' hbi' e1
          generalize u.1 = w2 at *
          clear u
          go_wp2_with fail
          go_roundg (gk - 1)
          case measure => omega
          case rel =>
            exact ⟨i + 1, g, by go_num, by omega, by omega, (by
              have e9 : leftOf I acc x = acc := by unfold leftOf; rw [if_pos (.inl hF.out)]
              rw [hstep.out, e9]; exact hG2), hg, hb2⟩
    · have e : (l.take i) = l := List.take_of_length_le (by omega)
      rw [e] at hG
      go_wp2
      go_ret
      exact ⟨_, g, rfl, hG, hg, hb⟩
end Go.Proofs.Ytfmoldfajmfieaa
