/-
  What follows clause by clause, by definition: the walk.
-/
import Derived.Test.YtfmoldfajmfieaaSpreadR
import Derived.Test.YtfmoldfajmfieaaFresh
namespace Go.Proofs.Ytfmoldfajmfieaa
open Go.RowKit
theorem sg71 (x : Int) (w : World) : Calls Try.prog 71 #[.int .i64 x] w fun e w' => e = .returned (.int .i64 (sg x)) ∧ w' = w := sign71 x w
theorem ClsAt.single {w : World} {a : Option Addr} {f : List Int} {c : Nat} (h : IntsAt w a f) (hn : f.length ≤ 9223372036854775807) : ClsAt (w.alloc (.cells #[.slice a f.length c] 35)) (Option.some ⟨w.heap.size, 0, Option.none⟩) [f] := by
  have hb : Below w.heap.size w (w.alloc (.cells #[.slice a f.length c] 35)) := (Below.refl _ _).alloc (Nat.le_refl _) _
  have hc := heap_alloc_new w (.cells #[.slice a f.length c] 35)
  refine .inr ⟨_, _, rfl, heap_lt hc, fun j x hx => ?_⟩
  match j, hx with
  | 0, hx => cases hx; exact ⟨a, c, cell_of_row _ _ 0 _ 35 (0, 0) hc, h.below hb, hn⟩
  | j + 1, hx => simp at hx
theorem okAll_one {f : List Int} (h : ∀ x ∈ f, okLit x = true) : okAll [f] = true := by
  unfold okAll; simp only [List.all_cons, List.all_nil, Bool.and_true, List.all_eq_true]; exact h
theorem okAll_append {l r : List (List Int)} (h : okAll l = true) (h' : okAll r = true) : okAll (l ++ r) = true := by
  unfold okAll at *; rw [List.all_append, h, h']; rfl
set_option maxHeartbeats 4000000 in
set_option maxRecDepth 100000 in
theorem spread50 (w : World) (a : Option Addr) (l : List (List Int)) (c : Nat) (h : ClsAt w a l) (hn : l.length ≤ 1000000) (hok : okAll l = true) (hll : ∀ x ∈ l, x.length ≤ 1000000)
    (a' : Option Addr) (f : List Int) (c' : Nat) (h' : IntsAt w a' f) (hn' : f.length ≤ 1000000) (hok' : ∀ x ∈ f, okLit x = true) :
    Calls Try.prog 50 #[.slice a l.length c, .slice a' f.length c'] w fun e w' => ∃ v ok, e = .returned (.tuple #[v, .bool ok]) ∧ Below w.heap.size w w' ∧ (ok = true → ∃ A, Closed l A ∧ ∀ x ∈ f, A x) := by
  have HOK := Lib.hid hok
  have HOF := Lib.hid hok'
  have HLL := Lib.hid hll
  clear hok hok' hll
  go_enter Try.func50, Try.ntmps50
  go_wp2_with fail
  refine (right12 w a l c h (by omega)).mono ?_
  rw [HOK.out]
  rintro e w1 ⟨rfl, rfl⟩
  go_wp2_with fail
  refine (right12 _ _ [f] 1 (ClsAt.single h' (by omega)) (by simp)).mono ?_
  rw [okAll_one HOF.out]
  rintro e w2 ⟨rfl, rfl⟩
  have hb2 : Below w1.heap.size w1 (w1.alloc (.cells #[.slice a' f.length c'] 35)) := (Below.refl _ _).alloc (Nat.le_refl _) _
  generalize w1.alloc (.cells #[.slice a' f.length c'] 35) = w2 at *
  have HM1 : Hid (l = [] ++ l) := Lib.hid rfl
  obtain ⟨m, hm⟩ : ∃ m, m = l ++ [f] := ⟨_, rfl⟩
  have HM := Lib.hid hm
  have hb3 : Below w1.heap.size w1 (w2.alloc (.cells #[] 35)) := hb2.trans (((Below.refl _ _).alloc (Nat.le_refl _) _).mono hb2.size)
  have hG3 := ClsG.empty w1 (w2.alloc (.cells #[] 35)) (some ⟨w2.heap.size, 0, none⟩) hb3
  clear hm hb2
  go_wp2_with (first | (at_builtin; refine append_cls (w0 := w1) (m := l) rfl _ _ rfl _ rfl rfl rfl HM1.out hG3 (by simp; omega) h ?_; intro a4 c4 w4 g4 hG4; clear hG3 HM1) | (at_builtin; refine append_cls_one (w0 := w1) (m := m) rfl _ _ rfl _ rfl rfl rfl HM.out hG4 (by omega) rfl h' (by omega) ?_; intro a5 c5 w5 g5 hG5))
  obtain ⟨_, _, hv5, hC5⟩ := hG5.cls
  injection hv5 with e1 e2 e3
  subst e1 e3
  clear e2
  have hb5 := hG5.below
  have hokm : okAll m = true := by rw [HM.out]; exact okAll_append HOK.out (okAll_one HOF.out)
  have hmn : m.length ≤ 1000001 := by rw [HM.out]; simp; omega
  obtain ⟨hm0, hm1⟩ := mostOf_le hokm
  obtain ⟨n, hnm⟩ : ∃ n : Nat, mostOf m = n := ⟨(mostOf m).toNat, by omega⟩
  have hlf : Hid (∀ x ∈ f, x ≠ 0 ∧ 0 ≤ vr x ∧ vr x ≤ n) := Lib.hid fun x hx => by
    have h1 := vr_le_most (l := m) (c := f) (by rw [HM.out]; simp) hx
    have h2 := vr_le (HOF.out x hx)
    have h3 := HOF.out x hx
    unfold okLit at h3
    simp at h3
    exact ⟨h3.1, by omega, by omega⟩
  have hll2 : Hid (∀ d ∈ l, ∀ x ∈ d, x ≠ 0 ∧ 0 ≤ vr x ∧ vr x ≤ n) := Lib.hid fun d hd x hx => by
    have h1 := vr_le_most (l := m) (c := d) (by rw [HM.out]; simp [hd]) hx
    have h2 := vr_le (okAll_at HOK.out hd hx)
    have h3 := okAll_at HOK.out hd hx
    unfold okLit at h3
    simp at h3
    exact ⟨h3.1, by omega, by omega⟩
  refine (most13 w5 _ m _ hC5 (by omega) hokm).mono ?_
  rw [hnm]
  rintro e w6 ⟨rfl, rfl⟩
  have hn1 : n ≤ 1048576 := by omega
  have hn2 : (n : Int) + 1 = ((n + 1 : Nat) : Int) := by omega
  have HN := Lib.hid hn2
  have hC : ∀ (j : Nat) (x : Int), Hid (f[j]? = some x) → ∃ b o, a' = some ⟨b, o, none⟩ ∧ b < w1.heap.size ∧ w1.cell? ⟨b, o + j, none⟩ = some (.int .i64 x) := fun j x hx => by
    rcases h' with h | ⟨b, o, ha, hb, hc⟩
    · have := hx.out; rw [h] at this; simp at this
    · exact ⟨b, o, ha, hb, hc j x hx.out⟩
  clear hG5 hG4 hb3 hmn hm0 hm1 hnm hokm HM hC5 hn2 h'
  go_wp2_with (at_make; refine make_law rfl _ _ _ rfl Try.underlying35 Try.inf3 _ (n + 1) rfl rfl HN.out (by omega) (by omega) ?_; intro C g HC hg)
  subst hg
  have hgw : w1.heap.size ≤ w6.heap.size := hb5.size
  have hT0 : Tab n (List.replicate (n + 1) 0) := ⟨by simp, fun j y hj => by rw [List.getElem?_replicate] at hj; split at hj <;> simp at hj; exact .inl hj.symm⟩
  have hR0 : RowG (w6.alloc (.cells C 3)) 3 1 (.slice (some ⟨w6.heap.size, 0, none⟩) (n + 1) (n + 1)) (n + 1) ((List.replicate (n + 1) (0 : Int)).map vI) (some w6.heap.size) := by
    refine rowOf (heap_alloc_new _ _) (by rw [HC.out, mc_one (.int .i64 0) rfl]; simp [vI]) (by simp) (by unfold maxLen; omega) rfl
  have hb7 : Below w1.heap.size w1 (w6.alloc (.cells C 3)) := hb5.trans (((Below.refl _ _).alloc (Nat.le_refl _) _).mono hb5.size)
  generalize w6.alloc (.cells C 3) = w7 at *
  generalize w6.heap.size = g at *
  clear HC hb5
  go_loopg [8] f.length (fun kq v8 w' => ∃ (i : Nat) (I : List Int), v8 = .int .i64 i ∧ i ≤ f.length ∧ f.length ≤ kq + i ∧ RowG w' 3 1 (.slice (some ⟨g, 0, none⟩) (n + 1) (n + 1)) (n + 1) (I.map vI) (some g) ∧ Below w1.heap.size w1 w' ∧ Hid (Tab n I ∧ ∀ x ∈ f.take i, Tru I x))
  case atStart => exact ⟨0, _, rfl, Nat.zero_le _, by omega, hR0, hb7, Lib.hid ⟨hT0, fun x hx => by simp at hx⟩⟩
  case round =>
    obtain ⟨i, I, rfl, hi, hkq, hR, hb, HI⟩ := hrel
    by_cases hil : i < f.length
    · obtain ⟨x, hx⟩ : ∃ x, f[i]? = some x := ⟨_, List.getElem?_eq_getElem hil⟩
      have HX := Lib.hid hx
      obtain ⟨b, o, rfl, hbl, cx⟩ := hC i x HX
      have hxf := List.mem_of_getElem? hx
      have hok := HOF.out x hxf
      obtain ⟨hx0, hv0, hvn⟩ := hlf.out x hxf
      have hx2 : -1099511627776 < x ∧ x < 1099511627776 := by unfold okLit at hok; simp at hok; omega
      obtain ⟨hx3, hx4⟩ := hx2
      have hvl : (vr x).toNat < I.length := by rw [HI.out.1.len]; omega
      obtain ⟨y, hy⟩ : ∃ y, I[(vr x).toNat]? = some y := ⟨_, List.getElem?_eq_getElem hvl⟩
      have hyD : Hid (I.getD (vr x).toNat 0 = y) := Lib.hid (by rw [List.getD_eq_getElem?_getD, hy]; rfl)
      have hvlH := Lib.hid hvl
      have cx' := bcell hb cx hbl
      have cy' : wr.cell? ⟨g, (vr x).toNat, none⟩ = some (.int .i64 y) := hR.cellAt (by rw [List.getElem?_map, hy]; rfl)
      have hbl' := Nat.lt_of_lt_of_le hbl hb.size
      have hbg := hR.lt
      have fx := fun u : Bel wr => u.cell cx' hbl'
      have fy := fun u : Bel wr => u.cell cy' hbg
      clear cx hx hy hok hvl hR0 hb7 hT0 hxf
      have go : ∀ w2 : World, Below wr.heap.size wr w2 → RowG w2 3 1 (.slice (some ⟨g, 0, none⟩) (n + 1) (n + 1)) (n + 1) (I.map vI) (some g) ∧ Below w1.heap.size w1 w2 := fun w2 hb2 => ⟨hR.same fun k e => by cases e; exact hb2.block _ hbg, hb.trans (hb2.mono hb.size)⟩
      have fin : ∀ w2 : World, RowG w2 3 1 (.slice (some ⟨g, 0, none⟩) (n + 1) (n + 1)) (n + 1) (I.map vI) (some g) → Below w1.heap.size w1 w2 → (y = 0 ∨ y = sg x) →
          ∃ I2 : List Int, RowG (w2.setCell ⟨g, (vr x).toNat, none⟩ (.int .i64 (sg x))) 3 1 (.slice (some ⟨g, 0, none⟩) (n + 1) (n + 1)) (n + 1) (I2.map vI) (some g) ∧ Below w1.heap.size w1 (w2.setCell ⟨g, (vr x).toNat, none⟩ (.int .i64 (sg x))) ∧ Hid (Tab n I2 ∧ ∀ x ∈ f.take (i + 1), Tru I2 x) := fun w2 hR2 hb2 hy => by
        obtain ⟨t1, t2, t3⟩ := HI.out.1.set hx0 hvlH.out (by rw [hyD.out]; exact hy)
        refine ⟨I.set (vr x).toNat (sg x), ?_, ?_, Lib.hid ⟨t1, fun z hz => ?_⟩⟩
        · rw [List.map_set]; exact hR2.set _ _
        · exact hb2.trans ((Keep.setCell (D := fun k => k = g) w2 ⟨g, (vr x).toNat, none⟩ _ rfl).below hb2.size fun k _ e => by omega)
        · rw [List.take_add_one, HX.out] at hz
          rcases List.mem_append.1 hz with hz | hz
          · exact t2 z (HI.out.2 z hz)
          · simp at hz; rw [hz]; exact t3
      have FIN := Lib.hid fin
      have GO := Lib.hid go
      clear fin go hyD hR hb
      have hs : ((y != 0) = false ∧ (y = 0 ∨ y = sg x)) ∨ ((y != 0) = true ∧ (y != sg x) = false ∧ (y = 0 ∨ y = sg x)) ∨ ((y != 0) = true ∧ (y != sg x) = true) := by
        by_cases h1 : y = 0
        · exact .inl ⟨by simp [h1], .inl h1⟩
        · by_cases h2 : y = sg x
          · exact .inr (.inl ⟨by simp [h1], by simp [h2], .inr h2⟩)
          · exact .inr (.inr ⟨by simp [h1], by simp [h2]⟩)
      rcases hs with ⟨e1, hor⟩ | ⟨e1, e2, hor⟩ | ⟨e1, e2⟩
      · have HOR := Lib.hid hor
        clear hor
        go_wp2_with (go_at_call 29; refine (var29 x _ hx3 hx4).mono ?_; rintro e w2 ⟨rfl, rfl⟩)
        refine region_quiet (by kernel_rfl) (by kernel_rfl) ?_
        repeat (first | go_big_quiet_step (exact quiet_same (sg71 _ _)) | quiet_step (exact quiet_same (sg71 _ _)))
        refine wpQuiet_nil ?_
        rintro w' ⟨u, rfl⟩
        have fx2 := fx u
        obtain ⟨hR2, hb2⟩ := GO.out u.1 u.2
        have ff := hR2.free (vr x).toNat none
        have cf := fy u
        obtain ⟨I2, hR3, hb3, HI3⟩ := FIN.out u.1 hR2 hb2 HOR.out
        clear fx fy hR2 hb2 e1
        generalize u.1 = w2 at *
        clear u
        go_wp2_with (go_at_call 71; refine (sg71 x _).mono ?_; rintro e w3 ⟨rfl, rfl⟩)
        go_roundg (gk - 1)
        case measure => omega
        case rel => exact ⟨i + 1, I2, by go_num, by omega, by omega, hR3, hb3, HI3⟩
      · have HOR := Lib.hid hor
        clear hor
        go_wp2_with (go_at_call 29; refine (var29 x _ hx3 hx4).mono ?_; rintro e w2 ⟨rfl, rfl⟩)
        refine region_quiet (by kernel_rfl) (by kernel_rfl) ?_
        repeat (first | go_big_quiet_step (exact quiet_same (sg71 _ _)) | quiet_step (exact quiet_same (sg71 _ _)))
        refine wpQuiet_nil ?_
        rintro w' ⟨u, rfl⟩
        have fx2 := fx u
        obtain ⟨hR2, hb2⟩ := GO.out u.1 u.2
        have ff := hR2.free (vr x).toNat none
        have cf := fy u
        obtain ⟨I2, hR3, hb3, HI3⟩ := FIN.out u.1 hR2 hb2 HOR.out
        clear fx fy hR2 hb2 e1 e2
        generalize u.1 = w2 at *
        clear u
        go_wp2_with (go_at_call 71; refine (sg71 x _).mono ?_; rintro e w3 ⟨rfl, rfl⟩)
        go_roundg (gk - 1)
        case measure => omega
        case rel => exact ⟨i + 1, I2, by go_num, by omega, by omega, hR3, hb3, HI3⟩
      · go_wp2_with (go_at_call 29; refine (var29 x _ hx3 hx4).mono ?_; rintro e w2 ⟨rfl, rfl⟩)
        refine region_quiet (by kernel_rfl) (by kernel_rfl) ?_
        repeat (first | go_big_quiet_step (exact quiet_same (sg71 _ _)) | quiet_step (exact quiet_same (sg71 _ _)))
        refine wpQuiet_nil ?_
        rintro w' ⟨u, rfl⟩
        obtain ⟨hR2, hb2⟩ := GO.out u.1 u.2
        clear fx fy hR2 e1 e2
        go_wp2_with fail
        exact bodyPost_ret (results_tmp2 rfl _ _ _) rfl ⟨_, false, rfl, hb2, fun h => by cases h⟩
    · have hT1 : Hid (Tab n I ∧ ∀ x ∈ f, Tru I x) := by have := HI.out; rw [List.take_of_length_le (by omega)] at this; exact Lib.hid this
      clear HI hC hi hkq hT0 hR0 hb7
      go_wp2_with fail
      go_loopg [10] (n + 3) (fun kq v10 w' => ∃ (ag : Bool) (I : List Int), v10 = .bool ag ∧ zeros I + (if ag = true then 1 else 0) ≤ kq ∧ RowG w' 3 1 (.slice (some ⟨g, 0, none⟩) (n + 1) (n + 1)) (n + 1) (I.map vI) (some g) ∧ Below w1.heap.size w1 w' ∧ Hid ((Tab n I ∧ ∀ x ∈ f, Tru I x) ∧ (ag = false → ∀ d ∈ l, Done I d)))
      case atStart => exact ⟨true, I, rfl, by have := zeros_le I; have := hT1.out.1.len; simp; omega, hR, hb, Lib.hid ⟨hT1.out, fun h => by cases h⟩⟩
      case round =>
        clear hR hb hT1 hil
        obtain ⟨ag, I0, rfl, hkq0, hR, hb, HI0⟩ := hrel
        cases ag with
        | true =>
          obtain ⟨g0, hg0⟩ : ∃ x, x = gk := ⟨_, rfl⟩
          have hz0 : zeros I0 + 1 ≤ g0 := by rw [hg0]; simpa using hkq0
          clear hkq0
          go_wp2_with fail
          go_loopg [10, 11] l.length (fun kr v10 v11 w' => ∃ (i : Nat) (ag : Bool) (I : List Int), v10 = .bool ag ∧ v11 = .int .i64 i ∧ i ≤ l.length ∧ l.length ≤ kr + i ∧ RowG w' 3 1 (.slice (some ⟨g, 0, none⟩) (n + 1) (n + 1)) (n + 1) (I.map vI) (some g) ∧ Below w1.heap.size w1 w' ∧ Hid ((Tab n I ∧ ∀ x ∈ f, Tru I x) ∧ zeros I + (if ag = true then 1 else 0) ≤ zeros I0 ∧ (ag = false → I = I0 ∧ ∀ d ∈ l.take i, Done I0 d)))
          case atStart => exact ⟨0, false, I0, rfl, rfl, Nat.zero_le _, by omega, hR, hb, Lib.hid ⟨HI0.out.1, by simp, fun _ => ⟨rfl, fun d hd => by simp at hd⟩⟩⟩
          case round =>
            clear hR hb
            obtain ⟨i, ag, I, rfl, rfl, hi, hkr, hR, hb, HI⟩ := hrel
            by_cases hil : i < l.length
            · obtain ⟨d, hd⟩ : ∃ d, l[i]? = some d := ⟨_, List.getElem?_eq_getElem hil⟩
              have HD := Lib.hid hd
              have hdl := List.mem_of_getElem? hd
              rcases h with hl0 | ⟨b, o, rfl, hbl, hc⟩
              · rw [hl0] at hil; simp at hil
              · obtain ⟨ad, cd, c1, hId, _⟩ := hc i d hd
                have c1' := bcell hb c1 hbl
                have hbl' := Nat.lt_of_lt_of_le hbl hb.size
                have hbg := hR.lt
                have hle : I.length = n + 1 := HI.out.1.1.len
                have H72 : Calls Try.prog 72 #[.slice ad d.length cd, .slice (some ⟨g, 0, none⟩) (n + 1) (n + 1)] wr fun e w' => ∃ v gL, e = .returned v ∧ RowG w' 3 1 v (leftL I d).length ((leftL I d).map vI) gL ∧ (∀ k, gL = some k → wr.heap.size ≤ k) ∧ Below wr.heap.size wr w' := by
                  have := left72 wr ad d cd (hId.below hb) (HLL.out d hdl) (fun x hx => okAll_at HOK.out hdl hx) g I (n + 1) hbg (fun j y hj => hR.cellAt (by rw [List.getElem?_map, hj]; rfl)) (by omega) (fun x hx => by have := hll2.out d hdl x hx; omega)
                  rwa [hle] at this
                have H72' := Lib.hid H72
                have hmd : Hid (∀ y ∈ leftL I d, y ≠ 0 ∧ 0 ≤ vr y ∧ vr y ≤ n ∧ -1099511627776 < y ∧ y < 1099511627776) := Lib.hid fun y hy => by
                  have hyd := (mem_left.1 hy).1
                  have h1 := hll2.out d hdl y hyd
                  have h3 := okAll_at HOK.out hdl hyd
                  unfold okLit at h3
                  simp at h3
                  exact ⟨h1.1, h1.2.1, h1.2.2, by omega, by omega⟩
                clear hd hc c1 hId H72 hdl
                go_wp2_with fail
                refine H72'.out.mono ?_
                rintro e w2 ⟨v2, gL, rfl, hL, hLn, hb2⟩
                have hR2 := hR.same (w' := w2) fun k e => by cases e; exact hb2.block _ hbg
                have hB2 := hb.trans (hb2.mono hb.size)
                obtain ⟨aL, cL, rfl, _, haL⟩ := hL.val
                have hDn : Hid (leftL I d ≠ [] → (∀ y, leftL I d = [y] → I.getD (vr y).toNat 0 ≠ 0) → Done I d) := Lib.hid fun h1 h2 => ⟨h1, h2⟩
                have hnext : Hid (Done I d → ag = false → I = I0 ∧ ∀ d ∈ l.take (i + 1), Done I0 d) := Lib.hid fun hdn ha => by
                  obtain ⟨e, hA⟩ := HI.out.2.2 ha
                  refine ⟨e, fun d' hd' => ?_⟩
                  rw [List.take_add_one, HD.out] at hd'
                  rcases List.mem_append.1 hd' with hd' | hd'
                  · exact hA d' hd'
                  · simp at hd'; rw [hd', ← e]; exact hdn
                clear H72' hR hb hbl' c1' hLn hb2
                generalize leftL I d = L at *
                obtain ⟨q, hq⟩ : ∃ q, L.length = q := ⟨_, rfl⟩
                rw [hq] at hL
                have HQ := Lib.hid hq
                clear hq
                simp only [HQ.out]
                rcases Nat.lt_or_ge q 2 with h2 | h2
                · obtain rfl | rfl : q = 0 ∨ q = 1 := by omega
                  · go_wp2_with fail
                    exact bodyPost_ret (results_tmp2 rfl _ _ _) rfl ⟨_, false, rfl, hB2, fun h => by cases h⟩
                  · obtain ⟨y, hLy⟩ : ∃ y, L = [y] := by
                      have := HQ.out
                      match L, this with
                      | [y], _ => exact ⟨y, rfl⟩
                    subst hLy
                    obtain ⟨hy0, hv0, hvn, hy3, hy4⟩ := hmd.out y (by simp)
                    obtain ⟨k, rfl⟩ := hL.some_of_pos (by omega)
                    obtain rfl := haL k rfl
                    have cy : w2.cell? ⟨k, 0, none⟩ = some (.int .i64 y) := hL.cellAt rfl
                    have hkl := hL.lt
                    have hbg2 := hR2.lt
                    have hvl : (vr y).toNat < I.length := by omega
                    obtain ⟨z, hz⟩ : ∃ z, I[(vr y).toNat]? = some z := ⟨_, List.getElem?_eq_getElem hvl⟩
                    have hzD : Hid (I.getD (vr y).toNat 0 = z) := Lib.hid (by rw [List.getD_eq_getElem?_getD, hz]; rfl)
                    have cz : w2.cell? ⟨g, (vr y).toNat, none⟩ = some (.int .i64 z) := hR2.cellAt (by rw [List.getElem?_map, hz]; rfl)
                    have hvlH := Lib.hid hvl
                    clear hz hvl hL haL
                    by_cases hz0' : z = 0
                    · have e1 : (z == 0) = true := by simp [hz0']
                      have HZ := Lib.hid hz0'
                      clear hz0'
                      go_wp2_with (go_at_call 29; refine (var29 y _ hy3 hy4).mono ?_; rintro e w3 ⟨rfl, rfl⟩)
                      refine region_tail 10 (by kernel_rfl) (by kernel_rfl) (fun w5 hw5 => ?_)
                      simp only [List.take_succ_cons, List.take_zero, List.drop_succ_cons, List.drop_zero]
                      have hb5 : Below w3.heap.size w3 w5 := hw5.below
                      have cy5 := bcell hb5 cy hkl
                      have cz5 := bcell hb5 cz hbg2
                      have hR5 := hR2.same (w' := w5) fun k e => by cases e; exact hb5.block _ hbg2
                      have hB5 := hB2.trans (hb5.mono hB2.size)
                      have ff := hR5.free (vr y).toNat none
                      have hq1 : vr y < (n : Int) + 1 := by omega
                      have hq2 : (vr y).toNat < n + 1 := by omega
                      clear cy cz hR2 hB2 hb5 hw5 hkl hbg2
                      repeat still_step
                      still_call (var29 y _ hy3 hy4)
                      repeat still_step
                      still_call (sg71 y _)
                      repeat still_step
                      refine wpStill_nil ?_
                      go_wp2_with fail
                      go_roundg (gk - 1)
                      case measure => omega
                      case rel =>
                        obtain ⟨t1, t2, t3⟩ := HI.out.1.1.set hy0 hvlH.out (by rw [hzD.out]; exact .inl HZ.out)
                        have hzz := zeros_set hvlH.out (by rw [hzD.out]; exact HZ.out) y
                        refine ⟨i + 1, true, I.set (vr y).toNat (sg y), rfl, by go_num, by omega, by omega, (by rw [List.map_set]; exact hR5.set _ _), ?_, Lib.hid ⟨⟨t1, fun x hx => t2 x (HI.out.1.2 x hx)⟩, ?_, fun h => by cases h⟩⟩
                        · exact hB5.trans ((Keep.setCell (D := fun k => k = g) w5 ⟨g, (vr y).toNat, none⟩ _ rfl).below hB5.size fun k _ e => by omega)
                        · have := HI.out.2.1; simp; omega
                    · have e1 : (z == 0) = false := by simp [hz0']
                      have hdn : Hid (Done I d) := Lib.hid (hDn.out (by simp) fun y' hy' => by cases hy'; rw [hzD.out]; exact hz0')
                      clear hz0'
                      go_wp2_with (go_at_call 29; refine (var29 y _ hy3 hy4).mono ?_; rintro e w3 ⟨rfl, rfl⟩)
                      go_roundg (gk - 1)
                      case measure => omega
                      case rel => exact ⟨i + 1, ag, I, rfl, by go_num, by omega, by omega, hR2, hB2, Lib.hid ⟨HI.out.1, HI.out.2.1, hnext.out hdn.out⟩⟩
                · have e0 : ((q : Int) == 0) = false := by simp; omega
                  have e1 : ((q : Int) == 1) = false := by simp; omega
                  have hdn : Hid (Done I d) := Lib.hid (hDn.out (fun e => by have := HQ.out; rw [e] at this; simp at this; omega) fun y' hy' => by have := HQ.out; rw [hy'] at this; simp at this; omega)
                  go_wp2_with fail
                  go_roundg (gk - 1)
                  case measure => omega
                  case rel => exact ⟨i + 1, ag, I, rfl, by go_num, by omega, by omega, hR2, hB2, Lib.hid ⟨HI.out.1, HI.out.2.1, hnext.out hdn.out⟩⟩
            · have hall := HI.out
              rw [List.take_of_length_le (by omega)] at hall
              have HALL := Lib.hid hall
              clear hall HI
              go_wp2_with fail
              go_roundg (g0 - 1)
              case measure => omega
              case rel => exact ⟨ag, I, rfl, by have := HALL.out.2.1; omega, hR, hb, Lib.hid ⟨HALL.out.1, fun h => by obtain ⟨e, hd⟩ := HALL.out.2.2 h; rw [e]; exact hd⟩⟩
        | false =>
          have hdone := HI0.out.2 rfl
          have hfin : Hid (∃ A, Closed l A ∧ ∀ x ∈ f, A x) := Lib.hid ⟨Tru I0, closed_of_done HI0.out.1.1 (fun d hd x hx => (hll2.out d hd x hx).1) hdone, HI0.out.1.2⟩
          clear hdone hkq0
          go_wp2_with fail
          have HT := Lib.hid HI0.out.1.1
          clear HI0
          go_loopg [13, 14] (n + 1) (fun kq v13 v14 w' => ∃ (i : Nat) (L : List Int) (gr : Option Nat), v14 = .int .i64 i ∧ i ≤ n + 1 ∧ 1 ≤ i ∧ n + 1 ≤ kq + i ∧ L.length ≤ i ∧ RowG w' 3 1 v13 L.length (L.map vI) gr ∧ (∀ k, gr = some k → w1.heap.size ≤ k ∧ k ≠ g) ∧ RowG w' 3 1 (.slice (some ⟨g, 0, none⟩) (n + 1) (n + 1)) (n + 1) (I0.map vI) (some g) ∧ Below w1.heap.size w1 w')
          case atStart => exact ⟨1, [], none, rfl, by omega, Nat.le_refl _, by omega, by simp, ⟨⟨_, rfl⟩, rfl, rfl⟩, fun k h => (by cases h), hR, hb⟩
          case round =>
            clear hR hb
            obtain ⟨i, L, gr, rfl, hi, hi1, hkq, hLl, hL, hgr, hR, hb⟩ := hrel
            by_cases hin : i ≤ n
            · obtain ⟨y, hy⟩ : ∃ y, I0[i]? = some y := ⟨_, List.getElem?_eq_getElem (by have := HT.out.len; omega)⟩
              have cy : wr.cell? ⟨g, i, none⟩ = some (.int .i64 y) := hR.cellAt (by rw [List.getElem?_map, hy]; rfl)
              have hgl := hR.lt
              have hin' : (i : Int) ≤ n := by omega
              have hLL : L.length < 1099511627776 := by omega
              rcases HT.out.val i y hy with rfl | rfl | rfl
              · clear hy
                go_wp2_with fail
                go_roundg (gk - 1)
                case measure => omega
                case rel => exact ⟨i + 1, L, gr, by go_num, by omega, by omega, by omega, by omega, hL, hgr, hR, hb⟩
              · clear hy
                go_wp2_with (at_builtin; refine append_int rfl _ _ rfl _ rfl rfl (by simp) hL hLL ?_; intro c7 w7 g7 hG7 ha7)
                have hg7 : ∀ k, some g7 = some k → w1.heap.size ≤ k ∧ k ≠ g := fun k e => by
                  cases e
                  rcases ha7.who with h | h
                  · exact hgr _ h
                  · have := hb.size; exact ⟨by omega, by omega⟩
                have hR7 := hR.keep (w' := w7) ha7.keep fun k e h => by cases e; exact (hg7 g7 rfl).2 h.symm
                have hb7 := hb.trans (ha7.keep.below hb.size fun k _ e => by have := (hg7 g7 rfl).1; omega)
                go_roundg (gk - 1)
                case measure => omega
                case rel => exact ⟨i + 1, L ++ [(i : Int)], some g7, by go_num, by omega, by omega, by omega, by simp; omega, by rw [List.length_append]; exact hG7, hg7, hR7, hb7⟩
              · clear hy
                have hneg : wrap64 (-(i : Int)) = -(i : Int) := by unfold wrap64; omega
                go_wp2_with (at_builtin; refine append_int rfl _ _ rfl _ rfl rfl (by simp) hL hLL ?_; intro c7 w7 g7 hG7 ha7)
                have hg7 : ∀ k, some g7 = some k → w1.heap.size ≤ k ∧ k ≠ g := fun k e => by
                  cases e
                  rcases ha7.who with h | h
                  · exact hgr _ h
                  · have := hb.size; exact ⟨by omega, by omega⟩
                have hR7 := hR.keep (w' := w7) ha7.keep fun k e h => by cases e; exact (hg7 g7 rfl).2 h.symm
                have hb7 := hb.trans (ha7.keep.below hb.size fun k _ e => by have := (hg7 g7 rfl).1; omega)
                go_roundg (gk - 1)
                case measure => omega
                case rel => exact ⟨i + 1, L ++ [-(i : Int)], some g7, by go_num, by omega, by omega, by omega, by simp; omega, by rw [List.length_append]; exact hG7, hg7, hR7, hb7⟩
            · have hin' : ¬ (i : Int) ≤ n := by omega
              go_wp2_with fail
              refine bodyPost_ret (results_tmp2 rfl _ _ _) rfl ?_
              exact ⟨_, .inr ⟨rfl, hb, hfin.out⟩⟩
end Go.Proofs.Ytfmoldfajmfieaa
