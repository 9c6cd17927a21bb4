/-
  Which variable is supposed next, at which level a literal has its value.
-/
import Derived.Test.YtfmoldfajmfieaaHold
import Derived.Deep.LoopGhost
namespace Go.Proofs.Ytfmoldfajmfieaa
open Go.RowKit
/-- At which level a literal has its value. -/
def Sol.level (S : Sol) (x : Int) : Option Int := if -1099511627776 < x ∧ x < 1099511627776 then (S.why[(vr x).toNat]?).map (·.2) else none

set_option maxHeartbeats 1000000 in
theorem level68 {B : Nat} {w : World} {ρ : Nat → Option Role} {b : Nat} {S : Sol} {V : Vals} (h : Rep B w ρ b S V) (x r : Int) (hx : S.level x = some r) :
    Calls Try.prog 68 #[.pointer (some ⟨b, 0, none⟩), .int .i64 x] w fun e w' => e = .returned (.int .i64 r) ∧ Below w.heap.size w w' := by
  unfold Sol.level at hx
  split at hx
  · next hx' =>
    obtain ⟨h1, h2⟩ := hx'
    rw [Option.map_eq_some_iff] at hx
    obtain ⟨p, hp, rfl⟩ := hx
    have hlt := (List.getElem?_eq_some_iff.1 hp).1
    have hv0 : 0 ≤ vr x := by unfold vr; split <;> omega
    obtain ⟨gY, cY, hvY, _, hrY, hGY⟩ := h.hy.at (by omega)
    have cy := h.cell 4 V.y rfl
    rw [hvY] at cy
    have hlt' : vr x < S.why.length := by omega
    have cp : w.cell? ⟨gY, (vr x).toNat * 2 + 1, none⟩ = some (.int .i64 p.2) := hGY.cellAt (vY_at S.why _ p hp).2
    have cy' := fun u : Bel w => u.cell cy (heap_lt h.hb)
    have cp' := fun u : Bel w => u.cell cp hGY.lt
    clear cy cp hp hlt hvY hGY h
    go_enter Try.func68, Try.ntmps68
    go_wp2_with fail
    refine region_quiet (by kernel_rfl) (by kernel_rfl) ?_
    repeat (quiet_step ((exact quiet_same (variable70 x _ h1 h2))))
    repeat (quiet_step ((exact quiet_same (variable70 x _ h1 h2))))
    refine wpQuiet_nil ?_
    rintro w' ⟨u, rfl⟩
    go_wp2
    go_ret
    exact ⟨rfl, u.2⟩
  · cases hx

/-- Has a variable no value? -/
def Sol.open (S : Sol) (v : Int) : Option Bool := (S.lit v).bind fun p => if p = true then some false else (S.lit (-v)).map (!·)

set_option maxHeartbeats 1000000 in
theorem open69 {B : Nat} {w : World} {ρ : Nat → Option Role} {b : Nat} {S : Sol} {V : Vals} (h : Rep B w ρ b S V) (x : Int) (r : Bool) (hx : S.open x = some r) :
    Calls Try.prog 69 #[.pointer (some ⟨b, 0, none⟩), .int .i64 x] w fun e w' => e = .returned (.bool r) ∧ Below w.heap.size w w' := by
  unfold Sol.open at hx
  rw [Option.bind_eq_some_iff] at hx
  obtain ⟨p, hp, hx⟩ := hx
  obtain ⟨h1, h2, _, hn⟩ := lit_some hp
  obtain ⟨g, cap, hv, hr, hG, hc⟩ := h.litAt hp
  have c3 := h.cell 3 V.i rfl
  rw [hv] at c3
  have hgl := hG.lt
  have hbl := heap_lt h.hb
  cases p with
  | true =>
    simp at hx; subst hx
    go_enter Try.func69, Try.ntmps69
    go_wp2_with fail
    refine (at65 _ _ _ _ _ hn h1 h2).mono ?_
    rintro e w1 ⟨rfl, hb1⟩
    have d1 := bcell hb1 hc hgl
    clear c3 hc hv
    go_wp2
    go_ret
    exact ⟨rfl, hb1⟩
  | false =>
    simp only [Bool.false_eq_true, if_false] at hx
    rw [Option.map_eq_some_iff] at hx
    obtain ⟨q, hq, rfl⟩ := hx
    obtain ⟨h1', h2', _, hn'⟩ := lit_some hq
    go_enter Try.func69, Try.ntmps69
    go_wp2_with fail
    refine (at65 _ _ _ _ _ hn h1 h2).mono ?_
    rintro e w1 ⟨rfl, hb1⟩
    have d1 := bcell hb1 hc hgl
    have c3' := bcell hb1 c3 hbl
    have r1 := h.quiet hb1
    obtain ⟨g2, cap2, hv2, hr2, hG2, hc2⟩ := r1.litAt hq
    rw [hv] at hv2
    injection hv2 with e1 e2 e3
    injection e1 with e1
    injection e1 with e1 e4
    subst e1
    subst e3
    clear e2 e4
    clear c3 hc hv
    go_wp2_with fail
    refine (at65 _ _ _ _ _ hn' h1' h2').mono ?_
    rintro e w2 ⟨rfl, hb2⟩
    have d2 := bcell hb2 hc2 hG2.lt
    clear d1 c3' hc2
    go_wp2
    go_ret
    exact ⟨rfl, hb1.trans (hb2.mono hb1.size)⟩

/-- The first variables: which was met most. -/
def Sol.next0 (S : Sol) : Nat → Int → Int → Option Int
  | 0, _, _ => none
  | k + 1, v, best => if v ≤ min S.vars 128 then (S.open v).bind fun o =>
      if o = true then
        if best = 0 then S.next0 k (v + 1) v
        else (S.bump[v.toNat]?).bind fun x => (S.bump[best.toNat]?).bind fun y => if y < x then S.next0 k (v + 1) v else S.next0 k (v + 1) best
      else S.next0 k (v + 1) best
    else some best
/-- The other ones: the first that is open. -/
def Sol.next1 (S : Sol) : Nat → Int → Int → Option Int
  | 0, _, _ => none
  | k + 1, v, best => if best = 0 ∧ v ≤ S.vars then (S.open v).bind fun o => if o = true then S.next1 k (v + 1) v else S.next1 k (v + 1) best
    else some best
def Sol.next (S : Sol) (k : Nat) : Option Int := if S.vars < 1099511627776 then (S.next0 k 1 0).bind fun best => S.next1 k 129 best else none
set_option maxHeartbeats 1000000 in
set_option maxRecDepth 100000 in
theorem next47 {B : Nat} {w : World} {ρ : Nat → Option Role} {b : Nat} {S : Sol} {V : Vals} (h : Rep B w ρ b S V) (k : Nat) (r : Int) (hn : S.next k = some r) :
    Calls Try.prog 47 #[.pointer (some ⟨b, 0, none⟩)] w fun e w' => e = .returned (.int .i64 r) ∧ Below w.heap.size w w' := by
  unfold Sol.next at hn
  obtain ⟨hvars, hn⟩ : S.vars < 1099511627776 ∧ (S.next0 k 1 0).bind (fun best => S.next1 k 129 best) = some r := by
    split at hn
    · next hv => exact ⟨hv, hn⟩
    · cases hn
  rw [Option.bind_eq_some_iff] at hn
  obtain ⟨b0, hn0, hn1⟩ := hn
  have H0 := Lib.hid hn0
  have H1 := Lib.hid hn1
  clear hn0 hn1 hn
  go_enter Try.func47, Try.ntmps47
  go_wp2
  go_loopg [3, 4] k (fun kq v3 v4 w' => ∃ best v : Int, v3 = .int .i64 best ∧ v4 = .int .i64 v ∧ Hid (S.next0 kq v best = some b0) ∧ 1 ≤ v ∧ 0 ≤ best ∧ v ≤ 200 ∧ Below w.heap.size w w')
  case atStart => exact ⟨0, 1, rfl, rfl, H0, by omega, by omega, by omega, Below.refl _ _⟩
  case round =>
    obtain ⟨best, v, rfl, rfl, HA, hv1, hb1, hv2, hb⟩ := hrel
    have r1 := h.quiet hb
    cases gk with
    | zero => exact absurd HA.out (by simp [Sol.next0])
    | succ k1 =>
      have H := HA.out
      clear HA
      simp only [Sol.next0] at H
      have c0 : wr.cell? ⟨b, 0, none⟩ = some (.int .i64 S.vars) := r1.cell 0 _ rfl
      by_cases hc : v ≤ min S.vars 128
      · rw [if_pos hc] at H
        rw [Option.bind_eq_some_iff] at H
        obtain ⟨o, ho, H⟩ := H
        have ho' := Lib.hid ho
        have H' := Lib.hid H
        clear ho H
        have hc1 : v ≤ S.vars := by omega
        have hc2 : v ≤ 128 := by omega
        clear hc
        have hbl := heap_lt r1.hb
        obtain ⟨aU, cU, hvU, _⟩ := r1.hu.val
        have cu := r1.cell 8 V.u rfl
        rw [hvU] at cu
        have cu' := fun u : Bel wr => u.cell cu hbl
        clear cu
        by_cases h128 : 128 < S.vars
        all_goals
          cases o with
          | false =>
            have H'' : Hid (S.next0 k1 (v + 1) best = some b0) := by have := H'.out; simp only [Bool.false_eq_true, if_false] at this; exact this
            clear H'
            go_wp2_with fail
            refine region_quiet (by kernel_rfl) (by kernel_rfl) ?_
            repeat (first | go_big_quiet_step (exact quiet_below (open69 (r1.quiet (Bel.below _)) v _ ho'.out)) | quiet_step ((exact quiet_below (open69 (r1.quiet (Bel.below _)) v _ ho'.out))))
            refine wpQuiet_nil ?_
            rintro w' ⟨u, rfl⟩
            go_wp2
            go_roundg k1
            case measure => omega
            case rel => exact ⟨best, v + 1, rfl, rfl, H'', by omega, by omega, by omega, hb.trans (u.2.mono hb.size)⟩
          | true =>
            have H3 : Hid ((if best = 0 then S.next0 k1 (v + 1) v else (S.bump[v.toNat]?).bind fun x => (S.bump[best.toNat]?).bind fun y => if y < x then S.next0 k1 (v + 1) v else S.next0 k1 (v + 1) best) = some b0) := by have := H'.out; rw [if_pos rfl] at this; exact this
            clear H'
            by_cases hb0 : best = 0
            · have H'' : Hid (S.next0 k1 (v + 1) v = some b0) := by have := H3.out; rw [if_pos hb0] at this; exact this
              clear H3
              have hb0' : (best == 0) = true := by simpa using hb0
              clear hb0
              go_wp2_with fail
              refine region_quiet (by kernel_rfl) (by kernel_rfl) ?_
              repeat (first | go_big_quiet_step (exact quiet_below (open69 (r1.quiet (Bel.below _)) v _ ho'.out)) | quiet_step ((exact quiet_below (open69 (r1.quiet (Bel.below _)) v _ ho'.out))))
              refine wpQuiet_nil ?_
              rintro w' ⟨u, rfl⟩
              go_wp2
              go_roundg k1
              case measure => omega
              case rel => exact ⟨v, v + 1, rfl, rfl, H'', by omega, by omega, by omega, hb.trans (u.2.mono hb.size)⟩
            · have H4 := H3.out
              clear H3
              rw [if_neg hb0, Option.bind_eq_some_iff] at H4
              obtain ⟨x, hx, H4⟩ := H4
              rw [Option.bind_eq_some_iff] at H4
              obtain ⟨y, hy, H4⟩ := H4
              have hb0' : (best == 0) = false := by simpa using hb0
              clear hb0
              obtain ⟨gU, cU2, hvU2, _, hrU, hGU⟩ := r1.hu.at (show 0 < S.bump.length from Nat.lt_of_le_of_lt (Nat.zero_le _) (List.getElem?_eq_some_iff.1 hx).1)
              rw [hvU] at hvU2
              injection hvU2 with e1 e2 e3
              subst e1
              subst e3
              clear e2
              have cx : wr.cell? ⟨gU, v.toNat, none⟩ = some (.int .i64 x) := hGU.cellAt (by rw [List.getElem?_map, hx]; rfl)
              have cy : wr.cell? ⟨gU, best.toNat, none⟩ = some (.int .i64 y) := hGU.cellAt (by rw [List.getElem?_map, hy]; rfl)
              have cx' := fun u : Bel wr => u.cell cx hGU.lt
              have cy' := fun u : Bel wr => u.cell cy hGU.lt
              have hlx : v < S.bump.length := by have := (List.getElem?_eq_some_iff.1 hx).1; omega
              have hly : best.toNat < S.bump.length := (List.getElem?_eq_some_iff.1 hy).1
              have hly' : best < S.bump.length := by omega
              clear cx cy hx hy
              by_cases hxy : y < x
              · have H'' : Hid (S.next0 k1 (v + 1) v = some b0) := by rw [if_pos hxy] at H4; exact H4
                clear H4
                go_wp2_with fail
                refine region_quiet (by kernel_rfl) (by kernel_rfl) ?_
                repeat (first | go_big_quiet_step (exact quiet_below (open69 (r1.quiet (Bel.below _)) v _ ho'.out)) | quiet_step ((exact quiet_below (open69 (r1.quiet (Bel.below _)) v _ ho'.out))))
                refine wpQuiet_nil ?_
                rintro w' ⟨u, rfl⟩
                go_wp2
                go_roundg k1
                case measure => omega
                case rel => exact ⟨v, v + 1, rfl, rfl, H'', by omega, by omega, by omega, hb.trans (u.2.mono hb.size)⟩
              · have H'' : Hid (S.next0 k1 (v + 1) best = some b0) := by rw [if_neg hxy] at H4; exact H4
                clear H4
                go_wp2_with fail
                refine region_quiet (by kernel_rfl) (by kernel_rfl) ?_
                repeat (first | go_big_quiet_step (exact quiet_below (open69 (r1.quiet (Bel.below _)) v _ ho'.out)) | quiet_step ((exact quiet_below (open69 (r1.quiet (Bel.below _)) v _ ho'.out))))
                refine wpQuiet_nil ?_
                rintro w' ⟨u, rfl⟩
                go_wp2
                go_roundg k1
                case measure => omega
                case rel => exact ⟨best, v + 1, rfl, rfl, H'', by omega, by omega, by omega, hb.trans (u.2.mono hb.size)⟩
      · rw [if_neg hc] at H
        have H1' : Hid (S.next1 k 129 best = some r) := by have e := Option.some.inj H; rw [e]; exact H1.out
        have hc' : min S.vars 128 < v := by omega
        clear H hc H0 H1
        by_cases h128 : 128 < S.vars
        all_goals
          have hcv : ¬ v ≤ min S.vars 128 := by omega
          have hcv1 : ¬ v ≤ (if 128 < S.vars then 128 else S.vars) := by split <;> omega
          clear hc' hcv
          go_wp2_with fail
          go_loopg [3, 5] k (fun kq v3 v5 w' => ∃ best v : Int, v3 = .int .i64 best ∧ v5 = .int .i64 v ∧ Hid (S.next1 kq v best = some r) ∧ 129 ≤ v ∧ v ≤ 1099511627800 ∧ Below w.heap.size w w')
          case atStart => exact ⟨best, 129, rfl, rfl, H1', by omega, by omega, hb⟩
          case round =>
            clear H1' c0 r1 hb h128
            obtain ⟨best, v, rfl, rfl, HA, hv1, hv2, hb⟩ := hrel
            have r1 := h.quiet hb
            cases gk with
            | zero => exact absurd HA.out (by simp [Sol.next1])
            | succ k1 =>
              have H := HA.out
              clear HA
              simp only [Sol.next1] at H
              have c0 : wr.cell? ⟨b, 0, none⟩ = some (.int .i64 S.vars) := r1.cell 0 _ rfl
              by_cases hb0 : best = 0
              · have hb0' : (best == 0) = true := by simpa using hb0
                by_cases hc : v ≤ S.vars
                · rw [if_pos ⟨hb0, hc⟩, Option.bind_eq_some_iff] at H
                  obtain ⟨o, ho, H⟩ := H
                  have ho' := Lib.hid ho
                  clear ho hb0
                  cases o with
                  | true =>
                    have H'' : Hid (S.next1 k1 (v + 1) v = some r) := by rw [if_pos rfl] at H; exact H
                    clear H
                    go_wp2_with (go_at_call 69; refine (open69 r1 v _ ho'.out).mono ?_; rintro e w2 ⟨rfl, hb2⟩)
                    go_roundg k1
                    case measure => omega
                    case rel => exact ⟨v, v + 1, rfl, rfl, H'', by omega, by omega, hb.trans (hb2.mono hb.size)⟩
                  | false =>
                    have H'' : Hid (S.next1 k1 (v + 1) best = some r) := by simp only [Bool.false_eq_true, if_false] at H; exact H
                    clear H
                    go_wp2_with (go_at_call 69; refine (open69 r1 v _ ho'.out).mono ?_; rintro e w2 ⟨rfl, hb2⟩)
                    go_roundg k1
                    case measure => omega
                    case rel => exact ⟨best, v + 1, rfl, rfl, H'', by omega, by omega, hb.trans (hb2.mono hb.size)⟩
                · rw [if_neg (fun h => hc h.2)] at H
                  obtain rfl := Option.some.inj H
                  clear hb0 H
                  go_wp2
                  go_ret
                  exact ⟨rfl, hb⟩
              · have hb0' : (best == 0) = false := by simpa using hb0
                rw [if_neg (fun h => hb0 h.1)] at H
                obtain rfl := Option.some.inj H
                clear hb0 H
                go_wp2
                go_ret
                exact ⟨rfl, hb⟩
/-- What is true of the variables from 1 on. -/
def Sol.modelFrom (S : Sol) : Nat → Int → Option (List Bool)
  | 0, _ => some []
  | n + 1, v => (S.lit (v + 1)).bind fun t => (S.modelFrom n (v + 1)).map (t :: ·)
def Sol.model (S : Sol) : Option (List Bool) := if 0 ≤ S.vars ∧ S.vars < 1099511627776 then (S.modelFrom S.vars.toNat 0).map (false :: ·) else none

theorem model_step {S : Sol} {done : List Bool} {n i : Nat} {t : Bool} {m : List Bool} (h : ((Option.map fun x => done ++ x) ∘ fun t => Option.map (fun x => t :: x) (S.modelFrom n ((i : Int) + 1))) t = some m) :
    (S.modelFrom n ((i + 1 : Nat) : Int)).map ((done ++ [t]) ++ ·) = some m := by
  rw [show ((i + 1 : Nat) : Int) = (i : Int) + 1 from by omega]
  rw [← h, Function.comp_apply]
  cases S.modelFrom n ((i : Int) + 1) with
  | none => rfl
  | some l => simp
theorem model_cells {done rest : List Bool} {t t' : Bool} {i : Nat} (hd : done.length = i + 1) :
    some (Obj.cells (((done ++ t :: rest).map vB).toArray.setIfInBounds (i + 1) (.bool t')) 4 (0, 0)) = some (Obj.cells (((done ++ [t']) ++ rest).map vB).toArray 4 (0, 0)) := by
  have e : ((done ++ t :: rest).map vB).toArray.setIfInBounds (i + 1) (.bool t') = (((done ++ [t']) ++ rest).map vB).toArray := by
    apply Array.ext'
    simp only [Array.toList_setIfInBounds, List.map_append, List.map_cons, List.map_nil]
    rw [List.set_append_right _ _ (by rw [List.length_map, hd]; omega)]
    simp [hd, vB]
  rw [e]
theorem made_false (n : Nat) : madeCells (Value.bool false).cells (n * 1) = ((List.replicate n false).map vB).toArray := by
  apply Array.ext'
  rw [Nat.mul_one, show (Value.bool false).cells = #[Value.bool false] from rfl, toList_madeCells_one]
  simp [vB]
theorem ret_slice {a : Option Addr} {n m : Nat} (h : n = m) : Ending.returned (.slice a n n) = .returned (.slice a m m) := by rw [h]
set_option maxHeartbeats 1000000 in
set_option maxRecDepth 100000 in
theorem model48 {B : Nat} {w : World} {ρ : Nat → Option Role} {b : Nat} {S : Sol} {V : Vals} (hRep : Rep B w ρ b S V) (m : List Bool) (hm : S.model = some m) :
    Calls Try.prog 48 #[.pointer (some ⟨b, 0, none⟩)] w fun e w' => ∃ g, e = .returned (.slice (some ⟨g, 0, none⟩) m.length m.length) ∧ Below w.heap.size w w' ∧ w.heap.size ≤ g ∧ w'.heap[g]? = some (.cells (m.map vB).toArray 4 (0, 0)) := by
  unfold Sol.model at hm
  obtain ⟨hv0, hv1, hm⟩ : 0 ≤ S.vars ∧ S.vars < 1099511627776 ∧ (S.modelFrom S.vars.toNat 0).map (false :: ·) = some m := by
    split at hm
    · next hv => exact ⟨hv.1, hv.2, hm⟩
    · cases hm
  obtain ⟨n, hnv⟩ := Int.eq_ofNat_of_zero_le hv0
  have c0 : w.cell? ⟨b, 0, none⟩ = some (.int .i64 S.vars) := hRep.cell 0 _ rfl
  rw [hnv] at hm c0 hv1
  rcases Nat.eq_zero_or_pos n with rfl | hpos
  · have HM := Lib.hid hm
    clear hm hnv hv1 hv0
    go_enter Try.func48, Try.ntmps48
    go_wp2_with (at_make; refine make_law rfl _ _ _ rfl Try.underlying25 Try.inf4 _ 1 rfl rfl rfl (by omega) (by omega) ?_; intro C g HC hg)
    refine wp_loop_rounds 1 ?_
    rw [rounds_succ]
    go_wp2
    go_ret
    have e : [false] = m := by have := HM.out; simpa [Sol.modelFrom] using this
    refine ⟨w.heap.size, ?_, (Below.refl _ _).alloc (Nat.le_refl _) _, Nat.le_refl _, ?_⟩
    · rw [← e]; rfl
    · rw [heap_alloc_new, ← e, HC.out, made_false 1]; rfl
  · have hn1 : n < 1099511627776 := by omega
    have hn2 : (n : Int) + 1 = ((n + 1 : Nat) : Int) := by omega
    have hn0 : ¬ n = 0 := by omega
    have HN := Lib.hid hn2
    have HM := Lib.hid hm
    clear hm hnv hv1 hn2 hv0
    go_enter Try.func48, Try.ntmps48
    go_wp2_with (at_make; refine make_law rfl _ _ _ rfl Try.underlying25 Try.inf4 _ (n + 1) rfl rfl HN.out (by omega) (by omega) ?_; intro C g HC hg)
    clear hg hn0
    go_loopg [14] (n + 1) (fun kq v14 w' => ∃ (done rest : List Bool) (i : Nat), v14 = .int .i64 i ∧ Hid (done.length = i + 1) ∧ Hid (rest.length + i = n) ∧ rest.length < kq ∧ Hid ((S.modelFrom rest.length i).map (done ++ ·) = some m) ∧ Below w.heap.size w w' ∧ w'.heap[w.heap.size]? = some (.cells ((done ++ rest).map vB).toArray 4 (0, 0)))
    case atStart =>
      refine ⟨[false], List.replicate n false, 0, rfl, rfl, Lib.hid (by simp), by simp, Lib.hid (by simpa using HM.out), (Below.refl _ _).alloc (Nat.le_refl _) _, ?_⟩
      rw [heap_alloc_new]
      congr 2
      apply Array.ext'
      rw [HC.out, Nat.mul_one, show (Value.bool false).cells = #[Value.bool false] from rfl, toList_madeCells_one]
      simp [vB, List.replicate_succ]
    case round =>
      obtain ⟨done, rest, i, rfl, hd, hr, hk, HA, hb, hg⟩ := hrel
      have r1 := hRep.quiet hb
      clear HM HC
      cases rest with
      | nil =>
        have hi : ¬ i < n := by have := hr.out; simp at this; omega
        go_wp2
        go_ret
        have e : done = m := by have := HA.out; simpa [Sol.modelFrom] using this
        have e2 : n + 1 = m.length := by rw [← e, hd.out]; have := hr.out; simp at this; omega
        refine ⟨w.heap.size, ?_, hb, Nat.le_refl _, ?_⟩
        · exact ret_slice e2
        · rw [hg, List.append_nil, e]
      | cons t rest =>
        have hi : i < n := by have := hr.out; simp at this; omega
        have HA' := HA.out
        simp only [List.length_cons, Sol.modelFrom, Option.map_bind, Option.bind_eq_some_iff] at HA'
        obtain ⟨t', ht', HA'⟩ := HA'
        clear HA
        obtain ⟨h1', h2', _, hn'⟩ := lit_some ht'
        obtain ⟨gI, cap, hvI, hrI, hGI, hcI⟩ := r1.litAt ht'
        have c3 := r1.cell 3 V.i rfl
        rw [hvI] at c3
        have hgl := hGI.lt
        have hne : gI ≠ w.heap.size := fun e => by have := (hRep.dom _ _ hrI).2; omega
        have cg : wr.cell? ⟨w.heap.size, i + 1, none⟩ = some (.bool t) := by
          rw [cell_of_row wr w.heap.size (i + 1) _ 4 (0, 0) hg, List.getElem?_toArray, List.getElem?_map, List.getElem?_append_right (by rw [hd.out]; omega)]
          rw [hd.out, Nat.sub_self]; rfl
        have hgs := heap_lt hg
        have fg : ∀ o, wr.frozen? ⟨w.heap.size, o, none⟩ = false := fun o => by simp [World.frozen?, hg]
        have HA2 := Lib.hid HA'
        have Hd2 := Lib.hid hg
        clear HA' hg
        go_wp2_with (go_at_call 65; refine (at65 _ _ _ _ _ hn' h1' h2').mono ?_; rintro e w2 ⟨rfl, hb2⟩; have d1 := bcell hb2 hcI hgl; have d2 := bcell hb2 cg hgs; have d3 := (hb2.frozen (p := ⟨w.heap.size, i + 1, none⟩) hgs).trans (fg _))
        go_roundg (gk - 1)
        case measure => simp only [List.length_cons] at hk; omega
        case rel =>
          simp only [List.length_cons] at hk
          refine ⟨done ++ [t'], rest, i + 1, by go_num, Lib.hid (by rw [List.length_append, hd.out]; rfl), Lib.hid (by have := hr.out; simp only [List.length_cons] at this; omega), by omega, Lib.hid ?_, ?_, ?_⟩
          · exact model_step HA2.out
          · exact hb.trans ((hb2.mono hb.size).trans (Below.setCell (p := ⟨w.heap.size, i + 1, none⟩) (Below.refl _ _) (Nat.le_refl _) _))
          · rw [setCell_heap ((hb2.block _ hgs).trans Hd2.out)]
            exact model_cells hd.out
end Go.Proofs.Ytfmoldfajmfieaa
