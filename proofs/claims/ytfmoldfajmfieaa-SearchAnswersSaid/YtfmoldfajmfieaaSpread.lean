/-
  What spreads: the walk over the clauses that are watched at each literal that has become true.
-/
import Derived.Test.YtfmoldfajmfieaaAppRest
import Derived.RegionTactic
import Derived.Deep.DeepCutAuto
import Derived.Deep.RegionLaw
import Derived.Deep.CutBlock
namespace Go.Proofs.Ytfmoldfajmfieaa
open Go.RowKit
theorem hold_watch {S S' : Sol} {x k : Int} {r : Bool} (h : S.hold x k = some (S', r)) : S'.watch.length = S.watch.length := by
  rcases hold_some h with ⟨_, rfl, _⟩ | ⟨_, _, rfl, _⟩ | ⟨_, _, _, _, rfl, _⟩ <;> rfl
set_option maxHeartbeats 4000000 in
set_option maxRecDepth 100000 in
theorem spread45 {B : Nat} {w : World} {ρ : Nat → Option Role} {b : Nat} {S S' : Sol} {V : Vals} (hRep : Rep B w ρ b S V) (n : Nat) (r : Int) (hs : S.spread n = some (S', r)) :
    Calls Try.prog 45 #[.pointer (some ⟨b, 0, none⟩)] w fun e w' => e = .returned (.int .i64 r) ∧ StepTo B w ρ b S' w' := by
  have HS := Lib.hid hs
  clear hs
  go_enter Try.func45, Try.ntmps45
  go_wp2
  go_loopg [3] n (fun kq v3 w' => ∃ (ρ1 : Nat → Option Role) (V1 : Vals) (S1 : Sol), Rep B w' ρ1 b S1 V1 ∧ Path w ρ w' ρ1 ∧ Hid (S1.spread kq = some (S', r)))
  case atStart => exact ⟨ρ, V, S, hRep, Path.refl, HS⟩
  case round =>
    clear HS
    obtain ⟨ρ1, V1, S1, r1, p1, HA⟩ := hrel
    have hbl := heap_lt r1.hb
    obtain ⟨aT, cT, hvT, _⟩ := r1.ht.val
    have cd : wr.cell? ⟨b, 7, none⟩ = some (.int .i64 S1.done) := r1.cell 7 _ rfl
    have ct := r1.cell 5 V1.t rfl
    rw [hvT] at ct
    have cd' := fun u : Bel wr => u.cell cd hbl
    have ct' := fun u : Bel wr => u.cell ct hbl
    clear cd ct
    cases gk with
    | zero => exact absurd HA.out (by simp [Sol.spread])
    | succ k1 =>
      have H := HA.out
      clear HA
      simp only [Sol.spread] at H
      by_cases hd : S1.done < S1.trail.length
      · rw [if_pos hd] at H
        obtain ⟨hd0, htl, H⟩ : 0 ≤ S1.done ∧ S1.trail.length < 1099511627776 ∧ _ := by
          split at H
          · next h => exact ⟨h.1, h.2, H⟩
          · cases H
        rw [Option.bind_eq_some_iff] at H
        obtain ⟨y, hy, H⟩ := H
        obtain ⟨hy1, hy2, H⟩ : -1099511627776 < y ∧ y < 1099511627776 ∧ _ := by
          split at H
          · next h => exact ⟨h.1, h.2, H⟩
          · cases H
        rw [Option.bind_eq_some_iff] at H
        obtain ⟨old, hold, H⟩ := H
        rw [Option.bind_eq_some_iff] at H
        obtain ⟨p, hp, H⟩ := H
        obtain ⟨gT, cT2, hvT2, _, hrT, hGT⟩ := r1.ht.at (by omega)
        rw [hvT] at hvT2
        injection hvT2 with e1 e2 e3
        subst e1
        subst e3
        clear e2
        have cy : wr.cell? ⟨gT, S1.done.toNat, none⟩ = some (.int .i64 y) := hGT.cellAt (by rw [List.getElem?_map, hy]; rfl)
        have cy' := fun u : Bel wr => u.cell cy hGT.lt
        obtain ⟨h1, h2, _, hlw⟩ := watchAt_some hold
        have Hold := Lib.hid hold
        have HP := Lib.hid hp
        have HH := Lib.hid H
        clear hold hp H cy hvT hy
        go_wp2_with fail
        refine region_quiet (by kernel_rfl) (by kernel_rfl) ?_
        repeat (first | go_big_quiet_step (fail) | quiet_step (fail))
        refine wpQuiet_nil ?_
        rintro w' ⟨u, rfl⟩
        obtain ⟨r2, p2⟩ := r1.below u.2
        replace p2 := p1.trans p2
        have cd2 := cd' u
        have ct2 := ct' u
        have cy2 := cy' u
        have hbl2 := heap_lt r2.hb
        have hgT2 : gT < u.1.heap.size := Nat.lt_of_lt_of_le hGT.lt u.2.size
        clear cd' ct' cy'
        generalize u.1 = w2 at r2 p2 cd2 ct2 cy2 hbl2 hgT2 ⊢
        clear u r1 p1 hGT hbl
        have cd' := fun u : Bel w2 => u.cell cd2 hbl2
        have ct' := fun u : Bel w2 => u.cell ct2 hbl2
        have cy' := fun u : Bel w2 => u.cell cy2 hgT2
        clear cd2 ct2 cy2
        go_wp2_with fail
        go_step3
        go_wp2_with fail
        refine region_quiet (by kernel_rfl) (by kernel_rfl) ?_
        repeat (first | go_big_quiet_step (fail) | quiet_step (fail))
        refine wpQuiet_nil ?_
        rintro w' ⟨u, rfl⟩
        obtain ⟨r3, p3⟩ := r2.below u.2
        replace p3 := p2.trans p3
        have cd3 := cd' u
        clear cd' ct' cy'
        generalize u.1 = w3 at r3 p3 cd3 ⊢
        clear u r2 p2 hbl2 hgT2
        have f3 := r3.free 7
        obtain ⟨r4, p4⟩ : Rep B (w3.setCell ⟨b, 7, none⟩ (.int .i64 (S1.done + 1))) ρ1 b { S1 with done := S1.done + 1 } V1 ∧ Path w3 ρ1 (w3.setCell ⟨b, 7, none⟩ (.int .i64 (S1.done + 1))) ρ1 := r3.setDone (S1.done + 1)
        replace p4 := p3.trans p4
        obtain ⟨gW, cW, vL, hvW, hrW, hGW, hcW, hws, hrow⟩ := r4.watchAt' (x := -y) (l := old) Hold.out
        have c2 := r4.cell 2 V1.w rfl
        rw [hvW] at c2
        obtain ⟨aL, cL, hvL, hcL⟩ := hrow.val
        subst hvL
        dsimp only at c2
        have hgW := hGW.lt
        have HvW := Lib.hid hvW
        have Hws := Lib.hid hws
        clear hvW hws
        go_wp2_with fail
        refine (at64 _ _ _ _ _ hlw h1 h2).mono ?_
        rintro e w5 ⟨rfl, hb5⟩
        obtain ⟨r5, p5⟩ := r4.below hb5
        replace p5 := p4.trans p5
        have c5 := bcell hb5 hcW hgW
        have hGW5 : RowG w5 35 1 V1.w S1.watch.length V1.ws (some gW) := hGW.same fun k e => by cases e; exact hb5.block _ hgW
        have f5 := fun o => hGW5.free o none
        have hb5' := hb5
        have hGT' := hd
        clear hcW c2 hb5 hGW r4 p4 r3 p3 cd3 f3
        obtain ⟨gL, hGL, hrL⟩ := hrow
        have hGL5 : RowG w5 3 1 (.slice aL old.length cL) old.length (old.map vI) gL := hGL.same fun k e => hb5'.block _ (by subst e; exact hGL.lt)
        go_wp2_with fail
        go_step3
        go_wp2_with fail
        have hneL : ∀ k, gL = some k → k ≠ gW := fun k e e2 => by have := hrL k e; rw [e2, hrW] at this; cases this
        obtain ⟨r6, p6⟩ := r5.dropL (j := lc (-y)) (a := aL) (gL := gL) hrW hGW5 hrL
        replace p6 := p5.trans p6
        have hGL6 : RowG (w5.setCell ⟨gW, lc (-y), none⟩ (.slice aL 0 0)) 3 1 (.slice aL old.length cL) old.length (old.map vI) gL := hGL5.same fun k e => Below.heap_setCell _ _ _ _ (hneL k e)
        have hrX : ∀ k, gL = some k → dropRole ρ1 gL k = some (.X 0) := fun k e => by subst e; exact dropRole_self
        have hrW6 : dropRole ρ1 gL gW = some .W := by rw [dropRole_ne (show gL ≠ some gW from fun e => hneL gW e rfl)]; exact hrW
        generalize w5.setCell ⟨gW, lc (-y), none⟩ (Value.slice aL 0 0) = w6 at r6 p6 hGL6 ⊢
        generalize dropRole ρ1 gL = ρ6 at r6 p6 hrX hrW6
        clear hGL5 hGL hrL hb5' c5 hGW5 f5 r5 p5 hneL hgW hrW hGT' hd hy1 hy2 Hold Hws
        go_loopg [54] (old.length + 1) (fun kq v54 w' => ∃ (i : Nat) (ρ7 : Nat → Option Role) (V7 : Vals) (S7 : Sol), v54 = .int .i64 i ∧ i ≤ old.length ∧ old.length - i < kq ∧ Rep B w' ρ7 b S7 V7 ∧ Path w ρ w' ρ7 ∧
          Hid (S7.visits (-y) (old.drop i) = some p) ∧ RowG w' 3 1 (.slice aL old.length cL) old.length (old.map vI) gL ∧ Hid (∀ k, gL = some k → ρ7 k = some (.X 0)) ∧ ρ7 gW = some .W ∧ Hid (V7.w = .slice (some ⟨gW, 0, none⟩) S1.watch.length cW ∧ S7.watch.length = S1.watch.length))
        case atStart => exact ⟨0, _, _, _, rfl, by omega, by omega, r6, p6, Lib.hid (by rw [List.drop_zero]; exact HP.out), hGL6, Lib.hid hrX, hrW6, Lib.hid ⟨HvW.out, by simp⟩⟩
        case round =>
          clear r6 p6 hGL6 hrX hrW6 HP HvW
          obtain ⟨i, ρ7, V7, S7, rfl, hi, hk7, r7, p7, HV, hGL7, HX, hrW7, HW⟩ := hrel
          obtain ⟨gki, rfl⟩ : ∃ x, x = gk := ⟨gk, rfl⟩
          have hosz := hGL7.size_le
          unfold maxLen at hosz
          by_cases hil : i < old.length
          · obtain ⟨k, rest, hkr⟩ : ∃ k rest, old.drop i = k :: rest := ⟨_, _, List.drop_eq_getElem_cons hil⟩
            have hrest : old.drop (i + 1) = rest := by
              have := congrArg List.tail hkr
              rw [List.tail_drop] at this; simpa using this
            have hki : old[i]? = some k := by
              have := congrArg (fun l => l[0]?) hkr
              simpa using this
            have HV' := HV.out
            rw [hkr, Sol.visits] at HV'
            obtain ⟨hk0, HV'⟩ : 0 ≤ k ∧ _ := by
              split at HV'
              · next h => exact ⟨h, HV'⟩
              · cases HV'
            rw [Option.bind_eq_some_iff] at HV'
            obtain ⟨c0, hc0, HV'⟩ := HV'
            obtain ⟨hc2, HV'⟩ : 2 ≤ c0.length ∧ _ := by
              split at HV'
              · next h => exact ⟨h, HV'⟩
              · cases HV'
            obtain ⟨gO, hgO⟩ := hGL7.some_of_pos (by omega)
            subst hgO
            obtain ⟨capO, curO, haL, _⟩ := id hGL7
            injection haL with haL _ hcapO
            subst haL
            subst hcapO
            have ck : wr.cell? ⟨gO, i, none⟩ = some (.int .i64 k) := hGL7.cellAt (by rw [List.getElem?_map, hki]; rfl)
            obtain ⟨gC, cC, hvC, _, hrC, hGC⟩ := r7.hc.at (show 0 < S7.cls.length by have := (List.getElem?_eq_some_iff.1 hc0).1; omega)
            have c1 := r7.cell 1 V7.c rfl
            rw [hvC] at c1
            have hkl : k.toNat < S7.cls.length := (List.getElem?_eq_some_iff.1 hc0).1
            have hkl' : k < S7.cls.length := by omega
            obtain ⟨vK, hvK⟩ : ∃ vK, V7.cs[k.toNat]? = some vK := ⟨_, List.getElem?_eq_getElem (by rw [r7.hk.1]; exact hkl)⟩
            have cK : wr.cell? ⟨gC, k.toNat, none⟩ = some vK := hGC.cellAt hvK
            obtain ⟨gK, capK, hvK2, hcapK, hrK, hGK⟩ := (r7.hk.2 _ _ _ hvK hc0).at (by omega)
            subst hvK2
            have hsz := hGK.size_le
            unfold maxLen at hsz
            obtain ⟨a0, ha0⟩ : ∃ a0, c0[0]? = some a0 := ⟨_, List.getElem?_eq_getElem (by omega)⟩
            obtain ⟨a1, ha1⟩ : ∃ a1, c0[1]? = some a1 := ⟨_, List.getElem?_eq_getElem (by omega)⟩
            have e0 : c0.getD 0 0 = a0 := by rw [List.getD_eq_getElem?_getD, ha0]; rfl
            have e1 : c0.getD 1 0 = a1 := by rw [List.getD_eq_getElem?_getD, ha1]; rfl
            rw [e0] at HV'
            obtain ⟨C, hC⟩ : ∃ C, (if a0 = -y then swapAt c0 0 1 else c0) = C := ⟨_, rfl⟩
            rw [hC] at HV'
            have k0 : wr.cell? ⟨gK, 0, none⟩ = some (.int .i64 a0) := hGK.cellAt (by rw [List.getElem?_map, ha0]; rfl)
            have k1 : wr.cell? ⟨gK, 1, none⟩ = some (.int .i64 a1) := hGK.cellAt (by rw [List.getElem?_map, ha1]; rfl)
            have fK : ∀ o, wr.frozen? ⟨gK, o, none⟩ = false := fun o => hGK.free o none
            have HV2 := Lib.hid HV'
            have Hkr := Lib.hid hrest
            have HvK := Lib.hid hvK
            have Hc0 := Lib.hid hc0
            have HvC := Lib.hid hvC
            have HC := Lib.hid hC
            have HE := Lib.hid (And.intro e0 (And.intro e1 (And.intro ha0 ha1)))
            have h1c : 1 < c0.length := by omega
            have h0c : 0 < c0.length := by omega
            have hClen : C.length = c0.length := by rw [← hC]; split <;> simp [swapAt]
            have HClen := Lib.hid hClen
            clear HV HV' hkr hrest hki hvK hc0 hvC e0 e1 ha0 ha1 hC hClen
            go_upto_if 70 with (fail)
            go_cut [] (fun w' => Rep B w' ρ7 b { S7 with cls := S7.cls.set k.toNat C } V7 ∧ Path w ρ w' ρ7 ∧ RowG w' 3 1 (.slice (some ⟨gO, 0, none⟩) old.length cL) old.length (old.map vI) (some gO))
            case first =>
              by_cases hax : a0 = -y
              · have hax' : (a0 == -y) = true := by simpa using hax
                have hC' : C = swapAt c0 0 1 := by rw [← HC.out, if_pos hax]
                have HC' := Lib.hid hC'
                clear hax hC'
                go_wp2_with fail
                obtain ⟨r8, p8⟩ : Rep B (wr.setCell ⟨gK, 0, none⟩ (.int .i64 a1)) ρ7 b { S7 with cls := S7.cls.set k.toNat (c0.set 0 a1) } V7 ∧ Path wr ρ7 (wr.setCell ⟨gK, 0, none⟩ (.int .i64 a1)) ρ7 := r7.setK hrK HvK.out Hc0.out hGK 0 a1
                have hGK8 : RowG (wr.setCell ⟨gK, 0, none⟩ (.int .i64 a1)) 3 1 (.slice (some ⟨gK, 0, none⟩) c0.length capK) (c0.set 0 a1).length ((c0.set 0 a1).map vI) (some gK) := by
                  have := hGK.set 0 (vI a1)
                  rw [map_set' vI] at this
                  rw [List.length_set]
                  exact this
                obtain ⟨r9, p9⟩ : Rep B ((wr.setCell ⟨gK, 0, none⟩ (.int .i64 a1)).setCell ⟨gK, 1, none⟩ (.int .i64 a0)) ρ7 b { S7 with cls := S7.cls.set k.toNat C } V7 ∧ Path (wr.setCell ⟨gK, 0, none⟩ (.int .i64 a1)) ρ7 ((wr.setCell ⟨gK, 0, none⟩ (.int .i64 a1)).setCell ⟨gK, 1, none⟩ (.int .i64 a0)) ρ7 := by
                  have := r8.setK (c := c0.set 0 a1) hrK HvK.out (by show (S7.cls.set k.toNat (c0.set 0 a1))[k.toNat]? = _; rw [List.getElem?_set_self (by omega)]) hGK8 1 a0
                  have e : (S7.cls.set k.toNat (c0.set 0 a1)).set k.toNat ((c0.set 0 a1).set 1 a0) = S7.cls.set k.toNat C := by
                    rw [List.set_set, HC'.out, swapAt, HE.out.1, HE.out.2.1]
                  dsimp only at this
                  rw [e] at this
                  exact this
                have p9' := p8.trans p9
                go_region
                all_goals
                  go_wp2_with fail
                  go_meet
                  obtain ⟨r10, p10⟩ := r9.below ((Below.refl _ ((wr.setCell ⟨gK, 0, none⟩ (.int .i64 a1)).setCell ⟨gK, 1, none⟩ (.int .i64 a0))).drew)
                  exact ⟨r10, p7.trans (p9'.trans p10), (Path.row (p9'.trans p10) hGL7 HX.out).1⟩
              · have hax' : (a0 == -y) = false := by simpa using hax
                have hC' : C = c0 := by rw [← HC.out, if_neg hax]
                have HC' := Lib.hid hC'
                clear hax hC'
                go_wp2_with fail
                go_meet
                case rel =>
                  refine ⟨?_, p7, hGL7⟩
                  have e : S7.cls.set k.toNat C = S7.cls := by
                    rw [HC'.out]
                    obtain ⟨h, e⟩ := List.getElem?_eq_some_iff.1 Hc0.out
                    rw [← e, List.set_getElem_self]
                  rw [e]; exact r7
            case rest =>
              clear r7 p7 hGL7 hGK k0 k1 fK ck cK c1 hGC
              obtain ⟨r7, p7, hGL7⟩ := hcut
              obtain ⟨z, hz⟩ : ∃ z, C[0]? = some z := ⟨_, List.getElem?_eq_getElem (by rw [HClen.out]; omega)⟩
              have ez : C.getD 0 0 = z := by rw [List.getD_eq_getElem?_getD, hz]; rfl
              have HV3 := HV2.out
              rw [ez, Option.bind_eq_some_iff] at HV3
              obtain ⟨t, ht, HV3⟩ := HV3
              rw [Option.bind_eq_some_iff] at HV3
              obtain ⟨f, hf, HV3⟩ := HV3
              obtain ⟨hz1, hz2, _, hzn⟩ := lit_some ht
              obtain ⟨gI, capI, hvI, hrI, hGI, hcI⟩ := r7.litAt (x := z) (t := t) ht
              have hCk : (S7.cls.set k.toNat C)[k.toNat]? = some C := by rw [List.getElem?_set_self (by omega)]
              obtain ⟨hGK, _⟩ := (r7.hk.2 _ _ _ HvK.out hCk).atOf (by rw [HClen.out]) (by rw [HClen.out]; omega)
              have k0 : wc.cell? ⟨gK, 0, none⟩ = some (.int .i64 z) := hGK.cellAt (by rw [List.getElem?_map, hz]; rfl)
              have c3 := r7.cell 3 V7.i rfl
              rw [hvI] at c3
              have k0' := fun u : Bel wc => u.cell k0 hGK.lt
              have c3' := fun u : Bel wc => u.cell c3 (heap_lt r7.hb)
              have cI' := fun u : Bel wc => u.cell hcI hGI.lt
              have HZ := Lib.hid (And.intro hz ez)
              have HF := Lib.hid hf
              have HV4 := Lib.hid HV3
              clear HV2 HV3 hf hz ez k0 c3 hcI hvI hGK hGI ht
              go_wp2_with fail
              refine region_quiet (by kernel_rfl) (by kernel_rfl) ?_
              repeat (first | go_big_quiet_step (exact quiet_below (at65 _ _ _ _ _ hzn hz1 hz2)) | quiet_step ((exact quiet_below (at65 _ _ _ _ _ hzn hz1 hz2))))
              refine wpQuiet_nil ?_
              rintro w' ⟨u, rfl⟩
              obtain ⟨r8, p8⟩ := r7.below u.2
              have hGL8 := (Path.row p8 hGL7 HX.out).1
              replace p8 := p7.trans p8
              clear k0' c3' cI'
              generalize u.1 = w8 at r8 p8 hGL8 ⊢
              clear u r7 p7 hGL7
              go_upto_if 91 with (fail)
              go_cut [] (fun w' => Rep B w' ρ7 b { S7 with cls := S7.cls.set k.toNat C } V7 ∧ Path w ρ w' ρ7 ∧ RowG w' 3 1 (.slice (some ⟨gO, 0, none⟩) old.length cL) old.length (old.map vI) (some gO) ∧ Hid (f = none))
              case first =>
                cases t with
                | true =>
                  have hf : f = none := by have := HF.out; rw [if_pos rfl] at this; exact (Option.some.inj this).symm
                  have HF' := Lib.hid hf
                  clear hf HF HV4
                  go_wp2_with fail
                  go_meet
                  exact ⟨r8, p8, hGL8, HF'⟩
                | false =>
                  have HF' : Hid (S7.findJ (C.drop 2) 2 = some f) := Lib.hid (by have := HF.out; simp only [Bool.false_eq_true, if_false] at this; exact this)
                  clear HF
                  go_wp2_with fail
                  have hnot : (!false) = true := rfl
                  go_loopg [9] (C.length + 1) (fun kq v9 w' => ∃ (j : Nat), v9 = .int .i64 j ∧ 2 ≤ j ∧ Hid (j ≤ C.length) ∧ C.length - j < kq ∧ Hid (S7.findJ (C.drop j) j = some f) ∧ Rep B w' ρ7 b { S7 with cls := S7.cls.set k.toNat C } V7 ∧ Path w ρ w' ρ7 ∧ RowG w' 3 1 (.slice (some ⟨gO, 0, none⟩) old.length cL) old.length (old.map vI) (some gO))
                  case atStart => exact ⟨2, rfl, by omega, Lib.hid (by rw [HClen.out]; omega), by omega, HF', r8, p8, hGL8⟩
                  case round =>
                    clear r8 p8 hGL8 HF'
                    obtain ⟨j, rfl, hj2, hjl, hjk, HFJ, r8, p8, hGL8⟩ := hrel
                    by_cases hjc : j < c0.length
                    · obtain ⟨q, hq⟩ : ∃ q, C[j]? = some q := ⟨_, List.getElem?_eq_getElem (by rw [HClen.out]; omega)⟩
                      have hdj : C.drop j = q :: C.drop (j + 1) := by
                        obtain ⟨h, e⟩ := List.getElem?_eq_some_iff.1 hq
                        rw [List.drop_eq_getElem_cons h, e]
                      have HFJ' := HFJ.out
                      rw [hdj, Sol.findJ, Option.bind_eq_some_iff] at HFJ'
                      obtain ⟨t2, ht2, HFJ'⟩ := HFJ'
                      obtain ⟨hq1, hq2, _, hqn⟩ := lit_some ht2
                      obtain ⟨gI2, capI2, hvI2, hrI2, hGI2, hcI2⟩ := r8.litAt (x := -q) (t := t2) ht2
                      obtain ⟨hGK8, _⟩ := (r8.hk.2 _ _ _ HvK.out hCk).atOf (by rw [HClen.out]) (by rw [HClen.out]; omega)
                      have kj : wr.cell? ⟨gK, j, none⟩ = some (.int .i64 q) := hGK8.cellAt (by rw [List.getElem?_map, hq]; rfl)
                      have c3 := r8.cell 3 V7.i rfl
                      rw [hvI2] at c3
                      have kj' := fun u : Bel wr => u.cell kj hGK8.lt
                      have c3' := fun u : Bel wr => u.cell c3 (heap_lt r8.hb)
                      have cI2' := fun u : Bel wr => u.cell hcI2 hGI2.lt
                      have HQ := Lib.hid hq
                      have HJ := Lib.hid (And.intro hj2 (And.intro hjc hjk))
                      have HFJ2 := Lib.hid HFJ'
                      clear kj c3 hcI2 hvI2 hGK8 hGI2 hq hdj HFJ' HFJ ht2
                      go_wp2_with fail
                      refine region_quiet (by kernel_rfl) (by kernel_rfl) ?_
                      repeat (first | go_big_quiet_step (exact quiet_below (at65 _ _ _ _ _ hqn hq1 hq2)) | quiet_step ((exact quiet_below (at65 _ _ _ _ _ hqn hq1 hq2))))
                      refine wpQuiet_nil ?_
                      rintro w' ⟨u, rfl⟩
                      obtain ⟨r9, p9⟩ := r8.below u.2
                      have hGL9 := (Path.row p9 hGL8 HX.out).1
                      replace p9 := p8.trans p9
                      clear kj' c3' cI2'
                      generalize u.1 = w9 at r9 p9 hGL9 ⊢
                      clear u r8 p8 hGL8
                      cases t2 with
                      | true =>
                        have HFJ3 : Hid (S7.findJ (C.drop (j + 1)) (j + 1) = some f) := Lib.hid (by have := HFJ2.out; rw [if_pos rfl] at this; exact this)
                        clear HFJ2
                        go_wp2_with fail
                        go_roundg (gk - 1)
                        case measure => have := HJ.out; omega
                        case rel => exact ⟨j + 1, by go_num, by have := HJ.out; omega, Lib.hid (by have := HJ.out; rw [HClen.out]; omega), by have h1 := HJ.out; have h2 := HClen.out; omega, HFJ3, r9, p9, hGL9⟩
                      | false =>
                        have hfj : f = some j := by have := HFJ2.out; simp only [Bool.false_eq_true, if_false] at this; exact (Option.some.inj this).symm
                        subst hfj
                        have HV5 := HV4.out
                        clear HFJ2 HV4
                        go_wp2_with fail
                        have hGK9 : RowG w9 3 1 (.slice (some ⟨gK, 0, none⟩) c0.length capK) C.length (C.map vI) (some gK) := ((r9.hk.2 _ _ _ HvK.out hCk).atOf (by rw [HClen.out]) (by rw [HClen.out]; omega)).1
                        obtain ⟨b1, hb1⟩ : ∃ b1, C[1]? = some b1 := ⟨_, List.getElem?_eq_getElem (by rw [HClen.out]; omega)⟩
                        have kj : w9.cell? ⟨gK, j, none⟩ = some (.int .i64 q) := hGK9.cellAt (by rw [List.getElem?_map, HQ.out]; rfl)
                        have k1 : w9.cell? ⟨gK, 1, none⟩ = some (.int .i64 b1) := hGK9.cellAt (by rw [List.getElem?_map, hb1]; rfl)
                        have fK : ∀ o, w9.frozen? ⟨gK, o, none⟩ = false := fun o => hGK9.free o none
                        have hne1 : ¬ j = 1 := by omega
                        have hne2 : ¬ 1 = j := by omega
                        obtain ⟨r10, p10⟩ : Rep B (w9.setCell ⟨gK, 1, none⟩ (.int .i64 q)) ρ7 b { S7 with cls := (S7.cls.set k.toNat C).set k.toNat (C.set 1 q) } V7 ∧ Path w9 ρ7 (w9.setCell ⟨gK, 1, none⟩ (.int .i64 q)) ρ7 := r9.setK hrK HvK.out hCk hGK9 1 q
                        have hGK10 : RowG (w9.setCell ⟨gK, 1, none⟩ (.int .i64 q)) 3 1 (.slice (some ⟨gK, 0, none⟩) c0.length capK) (C.set 1 q).length ((C.set 1 q).map vI) (some gK) := by
                          have := hGK9.set 1 (vI q)
                          rw [map_set' vI] at this
                          rw [List.length_set]
                          exact this
                        obtain ⟨r11, p11⟩ : Rep B ((w9.setCell ⟨gK, 1, none⟩ (.int .i64 q)).setCell ⟨gK, j, none⟩ (.int .i64 b1)) ρ7 b { S7 with cls := S7.cls.set k.toNat (swapAt C 1 j) } V7 ∧ Path (w9.setCell ⟨gK, 1, none⟩ (.int .i64 q)) ρ7 ((w9.setCell ⟨gK, 1, none⟩ (.int .i64 q)).setCell ⟨gK, j, none⟩ (.int .i64 b1)) ρ7 := by
                          have := r10.setK (c := C.set 1 q) hrK HvK.out (by show ((S7.cls.set k.toNat C).set k.toNat (C.set 1 q))[k.toNat]? = _; rw [List.set_set, List.getElem?_set_self (by omega)]) hGK10 j b1
                          have e : ((S7.cls.set k.toNat C).set k.toNat (C.set 1 q)).set k.toNat ((C.set 1 q).set j b1) = S7.cls.set k.toNat (swapAt C 1 j) := by
                            rw [List.set_set, List.set_set, swapAt, List.getD_eq_getElem?_getD, HQ.out, List.getD_eq_getElem?_getD, hb1]; rfl
                          dsimp only at this
                          rw [e] at this
                          exact this
                        have p11' := p9.trans (p10.trans p11)
                        have HB1 := Lib.hid hb1
                        clear hb1 r10 hGK9
                        go_region
                        have eq1 : (swapAt C 1 j).getD 1 0 = q := by
                          rw [swapAt, List.getD_eq_getElem?_getD, List.getElem?_set_ne (by omega), List.getElem?_set_self (by rw [HClen.out]; omega), List.getD_eq_getElem?_getD, HQ.out]; rfl
                        simp only [eq1] at HV5
                        rw [Option.bind_eq_some_iff] at HV5
                        obtain ⟨S9, hS9, HV5⟩ := HV5
                        unfold Sol.watchAdd at hS9
                        rw [Option.bind_eq_some_iff] at hS9
                        obtain ⟨l2, hl2, hS9⟩ := hS9
                        obtain ⟨hll2, hS9⟩ : l2.length < 1099511627776 ∧ ({ S7 with cls := S7.cls.set k.toNat (swapAt C 1 j), watch := S7.watch.set (lc q) (l2 ++ [k]) } : Sol) = S9 := by
                          split at hS9
                          · next h => exact ⟨h, Option.some.inj hS9⟩
                          · cases hS9
                        have HV6 := Lib.hid HV5
                        have HS9 := Lib.hid hS9
                        have Hl2 := Lib.hid hl2
                        clear HV5 hS9 hl2 eq1
                        obtain ⟨r12, p12⟩ := r11.below ((Below.refl _ ((w9.setCell ⟨gK, 1, none⟩ (.int .i64 q)).setCell ⟨gK, j, none⟩ (.int .i64 b1))).drew)
                        have p12' := p11'.trans p12
                        have hGL12 := (Path.row (p10.trans (p11.trans p12)) hGL9 HX.out).1
                        go_wp2_with fail
                        generalize ((w9.setCell ⟨gK, 1, none⟩ (.int .i64 q)).setCell ⟨gK, j, none⟩ (.int .i64 b1)).drew = w12 at r12 p12' hGL12 ⊢
                        clear p12 r11 p11 p11' p10 hGK10 k1 kj fK r9 p9 hGL9
                        obtain ⟨hq3, hq4, _, hqw⟩ := watchAt_some Hl2.out
                        obtain ⟨gW2, cW2, vL2, hvW2, hrW2, hGW2, hcW2, hws2, hrow2⟩ := r12.watchAt' (x := q) (l := l2) Hl2.out
                        obtain ⟨aL2, cL2, hvL2, hcL2⟩ := hrow2.val
                        subst hvL2
                        have c2 := r12.cell 2 V7.w rfl
                        rw [hvW2] at c2
                        have hCk2 : (S7.cls.set k.toNat (swapAt C 1 j))[k.toNat]? = some (swapAt C 1 j) := by rw [List.getElem?_set_self (by omega)]
                        have hlen2 : (swapAt C 1 j).length = c0.length := by rw [← HClen.out]; simp [swapAt]
                        obtain ⟨hGK12, _⟩ := (r12.hk.2 _ _ _ HvK.out hCk2).atOf (by rw [hlen2]) (by rw [hlen2]; omega)
                        have kq : w12.cell? ⟨gK, 1, none⟩ = some (.int .i64 q) := hGK12.cellAt (by rw [List.getElem?_map, swapAt, List.getElem?_set_ne (by omega), List.getElem?_set_self (by rw [HClen.out]; omega), List.getD_eq_getElem?_getD, HQ.out]; rfl)
                        have kq' := fun u : Bel w12 => u.cell kq hGK12.lt
                        have c2' := fun u : Bel w12 => u.cell c2 (heap_lt r12.hb)
                        have hgW2 := hGW2.lt
                        have Hrow2 := Lib.hid hrow2
                        have HcW2 := Lib.hid hcW2
                        have HGW2 := Lib.hid hGW2
                        clear kq c2 hvW2 hGK12 hcW2 hGW2 hrow2 hws2 hCk2 hlen2
                        refine region_quiet (by kernel_rfl) (by kernel_rfl) ?_
                        repeat (first | go_big_quiet_step (exact quiet_below (at64 _ _ _ _ _ hqw hq3 hq4)) | quiet_step ((exact quiet_below (at64 _ _ _ _ _ hqw hq3 hq4))))
                        refine wpQuiet_nil ?_
                        rintro w' ⟨u, rfl⟩
                        obtain ⟨r13, p13⟩ := r12.below u.2
                        have hGL13 := (Path.row p13 hGL12 HX.out).1
                        replace p13 := p12'.trans p13
                        have d13 := bcell u.2 HcW2.out hgW2
                        obtain ⟨gL2, hGL2, hrL2⟩ := Hrow2.out
                        have hGL2' : RowG u.1 3 1 (.slice aL2 l2.length cL2) l2.length (l2.map vI) gL2 := hGL2.same fun k e => u.2.block _ (by subst e; exact hGL2.lt)
                        have hGW13 : RowG u.1 35 1 V7.w S7.watch.length V7.ws (some gW2) := HGW2.out.same fun k e => by cases e; exact u.2.block _ hgW2
                        clear kq' c2' Hrow2 HcW2 HGW2 hGL2 r12 p12' hGL12 hgW2
                        generalize u.1 = w13 at r13 p13 hGL13 d13 hGL2' hGW13 ⊢
                        clear u
                        go_wp2_with (at_builtin; refine append_int rfl _ _ rfl _ rfl rfl (by simp) hGL2' hll2 ?_; intro c14 w14 g14 hG14 ha14; have hne := ha14.ne_of hrW2 hrL2 (by simp) hGW13.lt; have q7 := (ha14.keep.cell (p := ⟨gW2, lc q, none⟩) hGW13.lt hne).trans d13; have q8 := (ha14.keep.frozen (p := ⟨gW2, lc q, none⟩) hGW13.lt hne).trans (hGW13.free _ _))
                        obtain ⟨r15, p15⟩ := r13.setL (l := l2 ++ [k]) hrW2 hGW13 ha14.keep ha14.lt (ha14.role hrL2) (by rw [List.length_append]; exact hG14)
                        have hX15 := Path.row p15 hGL13 HX.out
                        have hneW : gW ≠ g14 := ha14.ne_of hrW7 hrL2 (by simp) (r13.dom gW _ hrW7).2
                        go_roundg (gki - 1)
                        case measure => omega
                        case rel =>
                          refine ⟨i + 1, _, { V7 with ws := V7.ws.set (lc q) (.slice (some ⟨g14, 0, none⟩) (l2.length + 1) c14) }, S9, by go_num, by omega, by omega, by rw [← HS9.out]; exact r15, p13.trans p15, Lib.hid (by rw [Hkr.out]; exact HV6.out), hX15.1, Lib.hid hX15.2, by rw [turnRole_ne hneW]; exact hrW7, Lib.hid ⟨HW.out.1, by rw [← HS9.out]; simp [HW.out.2]⟩⟩
                    · have hf : f = none := by
                        have := HFJ.out
                        rw [List.drop_eq_nil_of_le (by rw [HClen.out]; omega), Sol.findJ] at this
                        exact (Option.some.inj this).symm
                      have HF' := Lib.hid hf
                      clear hf HFJ HV4
                      go_wp2_with fail
                      go_meet
                      exact ⟨r8, p8, hGL8, HF'⟩
              case rest =>
                clear r8 p8 hGL8 HF
                obtain ⟨r8, p8, hGL8, HF'⟩ := hcut
                have HV5 := HV4.out
                rw [HF'.out] at HV5
                dsimp only at HV5
                rw [Option.bind_eq_some_iff] at HV5
                obtain ⟨S9, hS9, HV5⟩ := HV5
                rw [Option.bind_eq_some_iff] at HV5
                obtain ⟨⟨S10, ok⟩, hS10, HV5⟩ := HV5
                unfold Sol.watchAdd at hS9
                rw [Option.bind_eq_some_iff] at hS9
                obtain ⟨l3, hl3, hS9⟩ := hS9
                obtain ⟨hll3, hS9⟩ : l3.length < 1099511627776 ∧ ({ S7 with cls := S7.cls.set k.toNat C, watch := S7.watch.set (lc (-y)) (l3 ++ [k]) } : Sol) = S9 := by
                  split at hS9
                  · next h => exact ⟨h, Option.some.inj hS9⟩
                  · cases hS9
                obtain ⟨gW3, cW3, vL3, hvW3, hrW3, hGW3, hcW3, hws3, hrow3⟩ := r8.watchAt' (x := -y) (l := l3) hl3
                have egW : gW3 = gW := by
                  have h2 := HW.out.1
                  rw [hvW3] at h2
                  injection h2 with h2 _ _
                  injection h2 with h2
                  injection h2
                subst egW
                obtain ⟨aL3, cL3, hvL3, hcL3⟩ := hrow3.val
                subst hvL3
                obtain ⟨gL3, hGL3, hrL3⟩ := hrow3
                have HV6 := Lib.hid HV5
                have HS9 := Lib.hid hS9
                have HS10 := Lib.hid hS10
                clear HV5 HV4 hS9 hS10 hl3 hws3 hvW3 hrW3
                have hlen3 : C.length = c0.length := HClen.out
                have HL3 := Lib.hid hlen3
                clear hlen3
                go_wp2_with (at_builtin; refine append_int rfl _ _ rfl _ rfl rfl (by simp) hGL3 hll3 ?_; intro c14 w14 g14 hG14 ha14; have hne := ha14.ne_of hrW7 hrL3 (by simp) hGW3.lt; have q7 := (ha14.keep.cell (p := ⟨gW3, lc (-y), none⟩) hGW3.lt hne).trans hcW3; have q8 := (ha14.keep.frozen (p := ⟨gW3, lc (-y), none⟩) hGW3.lt hne).trans (hGW3.free _ _); have R15 := r8.setL (l := l3 ++ [k]) hrW7 hGW3 ha14.keep ha14.lt (ha14.role hrL3) (by rw [List.length_append]; exact hG14); have k0 := ((R15.1.hk.2 _ _ _ HvK.out hCk).atOf (by rw [HL3.out]) (by rw [HL3.out]; omega)).1.cellAt (j := 0) (u := .int .i64 z) (by rw [List.getElem?_map, HZ.out.1]; rfl))
                obtain ⟨r15, p15⟩ := R15
                rw [HS9.out] at r15
                have hX15 := Path.row p15 hGL8 HX.out
                refine (hold49w r15 z k ok HS10.out).mono ?_
                rintro e w16 ⟨rfl, ρ16, V16, r16, p16, hV16, hW16⟩
                have hrW15 : turnRole ρ7 g14 (.L (lc (-y))) gW3 = some .W := by rw [turnRole_ne (ha14.ne_of hrW7 hrL3 (by simp) hGW3.lt)]; exact hrW7
                have hrW16 := hW16 _ hrW15
                have hX16 := Path.row p16 hX15.1 hX15.2
                have hvW16 : V16.w = .slice (some ⟨gW3, 0, none⟩) S1.watch.length cW := hV16.trans HW.out.1
                have hlW16 : S10.watch.length = S1.watch.length := (hold_watch HS10.out).trans (by rw [← HS9.out]; simp [HW.out.2])
                have p16' := p8.trans (p15.trans p16)
                have HW16 := Lib.hid (And.intro hvW16 hlW16)
                clear hW16 hrW15 hV16 p15 p16 r15 hX15 hvW16 hlW16 hne q7 q8 k0 hG14 ha14 hGL3 hGW3 hcW3 r8 p8 hGL8
                cases ok with
                | true =>
                  have HV7 : Hid (Sol.visits (-y) S10 rest = some p) := Lib.hid (by have := HV6.out; simpa using this)
                  clear HV6
                  go_wp2_with fail
                  go_roundg (gki - 1)
                  case measure => omega
                  case rel =>
                    exact ⟨i + 1, ρ16, V16, S10, by go_num, by omega, by omega, r16, p16', Lib.hid (by rw [Hkr.out]; exact HV7.out), hX16.1, Lib.hid hX16.2, hrW16, HW16⟩
                | false =>
                  have HV7 : (S10.watchRest (-y) rest).map (fun S4 => (S4, k)) = some p := by have := HV6.out; simpa using this
                  rw [Option.map_eq_some_iff] at HV7
                  obtain ⟨S11, hS11, hp⟩ := HV7
                  subst hp
                  unfold Sol.watchRest at hS11
                  rw [Option.bind_eq_some_iff] at hS11
                  obtain ⟨l4, hl4, hS11⟩ := hS11
                  obtain ⟨hll4, hS11⟩ : l4.length + rest.length < 1099511627776 ∧ ({ S10 with watch := S10.watch.set (lc (-y)) (l4 ++ rest) } : Sol) = S11 := by
                    split at hS11
                    · next h => exact ⟨h, Option.some.inj hS11⟩
                    · cases hS11
                  have hfin : S11 = S' ∧ k = r := by
                    have := HH.out
                    rw [if_neg (by omega)] at this
                    simpa using this
                  obtain ⟨rfl, rfl⟩ := hfin
                  have HS11 := Lib.hid hS11
                  clear HV6 HH hS11
                  obtain ⟨gW4, cW4, vL4, hvW4, hrW4, hGW4, hcW4, hws4, hrow4⟩ := r16.watchAt' (x := -y) (l := l4) hl4
                  have egW : gW4 = gW3 := by
                    have h2 := HW16.out.1
                    rw [hvW4] at h2
                    injection h2 with h2 _ _
                    injection h2 with h2
                    injection h2
                  subst egW
                  obtain ⟨aL4, cL4, hvL4, hcL4⟩ := hrow4.val
                  subst hvL4
                  have Hrow4 := Lib.hid hrow4
                  have HGW4 := Lib.hid hGW4
                  have HcW4 := Lib.hid hcW4
                  have Hl4 := Lib.hid hl4
                  clear hrow4 hGW4 hcW4 hvW4 hws4 hl4 hrW4
                  have hole : i + 1 ≤ old.length := by omega
                  have hole2 : i + 1 ≤ cL := by omega
                  have hrestlen : old.length - (i + 1) = rest.length := by rw [← Hkr.out]; simp
                  have HRL := Lib.hid hrestlen
                  obtain ⟨gL4, hGL4, hrL4⟩ := Hrow4.out
                  have hbelow : Below w16.heap.size w16 w16.drew := (Below.refl _ _).drew
                  have hGL17 : RowG w16.drew 3 1 (.slice aL4 l4.length cL4) l4.length (l4.map vI) gL4 := hGL4.same fun k e => rfl
                  have hGW17 : RowG w16.drew 35 1 V16.w S10.watch.length V16.ws (some gW4) := HGW4.out.same fun k e => rfl
                  have c16 := HcW4.out
                  have f16 : w16.frozen? ⟨gW4, lc (-y), none⟩ = false := HGW4.out.free _ _
                  clear hrestlen
                  have hw1 : IntKind.i64.wrap ((i : Int) + 1) = (i : Int) + 1 := by rw [IntKind.wrap_i64]; omega
                  have hw2 : 0 ≤ (i : Int) + 1 := by omega
                  have hw3 : ((i : Int) + 1).toNat = i + 1 := by omega
                  have hw4 : (i : Int) + 1 ≤ (old.length : Int) := by omega
                  by_cases hre : rest = []
                  · have hsum : old.length - (i + 1) = 0 := by have := HRL.out; rw [hre] at this; simpa using this
                    have hsum' := Lib.hid hsum
                    clear hre hsum
                    go_wp2_with fail
                    go_region_law (refine step_append_zero rfl _ _ rfl _ rfl rfl hsum'.out hGL17 ?_)
                    all_goals go_wp2_with fail
                    all_goals
                      go_ret
                      have e16 : w16.drew.setCell ⟨gW4, lc (-y), none⟩ (.slice aL4 l4.length cL4) = w16.drew := setCell_self c16
                      obtain ⟨r17, p17⟩ := r16.below hbelow
                      have eS : S10 = S11 := by
                        rw [← HS11.out]
                        have hr : rest = [] := by
                          have h1 := HRL.out
                          have h2 := hsum'.out
                          exact List.eq_nil_of_length_eq_zero (by omega)
                        have e := (watchAt_some Hl4.out).2.2.1
                        rw [hr, List.append_nil]
                        have : S10.watch.set (lc (-y)) l4 = S10.watch := by
                          obtain ⟨h, e⟩ := List.getElem?_eq_some_iff.1 e
                          rw [← e, List.set_getElem_self]
                        rw [this]
                      refine ⟨rfl, ?_⟩
                      first
                        | (rw [e16]; exact .of (by rw [← eS]; exact r17) (p16'.trans p17))
                        | (exact .of (ρ' := ρ16) (V' := V16) (by rw [← eS]; rw [← e16] at r17; exact r17) (by rw [← e16] at p17; exact p16'.trans p17))
                  · have hcl : ¬ cL = i + 1 := by
                      intro e
                      have := HRL.out
                      exact hre (List.eq_nil_of_length_eq_zero (by omega))
                    have HRE := Lib.hid hre
                    have holdc : ∀ j x, rest[j]? = some x → w16.drew.cell? ⟨gO, i + 1 + j, none⟩ = some (.int .i64 x) := fun j x hx => hX16.1.cellAt (by
                      rw [List.getElem?_map]
                      have : old[i + 1 + j]? = some x := by rw [← hx, ← Hkr.out, List.getElem?_drop]
                      rw [this]; rfl)
                    have HOC := Lib.hid holdc
                    clear hre holdc
                    go_wp2_with fail
                    go_region_law (refine step_append_more rfl _ _ rfl _ rfl rfl HRL.out HRE.out hGL17 hll4 HOC.out ?_; intro g18 c18 w18 hG18 ha18; have hne := ha18.ne_of hrW16 hrL4 (by simp) hGW17.lt; have q7 := (ha18.keep.cell (p := ⟨gW4, lc (-y), none⟩) hGW17.lt hne).trans c16; have q8 := (ha18.keep.frozen (p := ⟨gW4, lc (-y), none⟩) hGW17.lt hne).trans f16)
                    all_goals go_wp2_with fail
                    all_goals (rw [Exit.noGoto_ret]; go_wp2_with fail)
                    all_goals
                      go_ret
                      obtain ⟨r17, p17⟩ := r16.below hbelow
                      obtain ⟨r19, p19⟩ := r17.setL (l := l4 ++ rest) hrW16 hGW17 ha18.keep ha18.lt (ha18.role hrL4) (by rw [List.length_append]; exact hG18)
                      rw [HS11.out] at r19
                      exact ⟨rfl, .of r19 (p16'.trans (p17.trans p19))⟩
          · have hp : p = (S7, -1) := by
              have := HV.out
              rw [List.drop_eq_nil_of_le (by omega), Sol.visits] at this
              exact (Option.some.inj this).symm
            subst hp
            have HH' : Hid (S7.spread k1 = some (S', r)) := Lib.hid (by have := HH.out; rw [if_pos rfl] at this; exact this)
            clear HH HV
            go_wp2_with fail
            rw [Exit.noGoto_normal]
            go_wp2_with fail
            go_roundg k1
            case measure => omega
            case rel => exact ⟨ρ7, V7, S7, r7, p7, HH'⟩
      · rw [if_neg hd] at H
        have hfin := Option.some.inj H
        simp only [Prod.mk.injEq] at hfin
        obtain ⟨rfl, rfl⟩ := hfin
        clear H
        go_wp2_with fail
        refine region_quiet (by kernel_rfl) (by kernel_rfl) ?_
        repeat (first | go_big_quiet_step (fail) | quiet_step (fail))
        refine wpQuiet_nil ?_
        rintro w' ⟨u, rfl⟩
        obtain ⟨r2, p2⟩ := r1.below u.2
        go_wp2_with fail
        go_ret
        exact ⟨rfl, .of r2 (p1.trans p2)⟩
end Go.Proofs.Ytfmoldfajmfieaa
