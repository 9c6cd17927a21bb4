import Derived.Test.YtfmoldfajmfieaaStep
import Derived.Test.YtfmoldfajmfieaaClean
import Derived.Deep.RegionLaw
import Derived.Deep.RegionWith
namespace Go.Proofs.Ytfmoldfajmfieaa
open Go.RowKit Go.Maps
theorem enter60 : ∀ args w, (callFunc 60 args).run Try.prog w = .ok (.enter 60 args) w := fun _ _ => by go_simp
theorem enter49 : ∀ args w, (callFunc 49 args).run Try.prog w = .ok (.enter 49 args) w := fun _ _ => by go_simp
set_option maxHeartbeats 4000000 in
set_option maxRecDepth 100000 in
theorem turn46 {B : Nat} {w : World} {ρ : Nat → Option Role} {b : Nat} {S S' : Sol} {V : Vals} (hRep : Rep B w ρ b S V) (n : Nat) (k : Int) (hs : S.turn n k = some S') :
    Calls Try.prog 46 #[.pointer (some ⟨b, 0, none⟩), .int .i64 k] w fun e w' => e = .returned (.tuple #[]) ∧ StepTo B w ρ b S' w' := by
  unfold Sol.turn at hs
  rw [Option.bind_eq_some_iff] at hs
  obtain ⟨⟨S1, out, back⟩, hl, hs⟩ := hs
  dsimp only at hs
  obtain ⟨hol, hpl, hs⟩ : out.length < 1099511627776 ∧ S1.proof.length < 1099511627776 ∧ _ := by
    split at hs
    · next h => exact ⟨h.1, h.2, hs⟩
    · cases hs
  rw [Option.bind_eq_some_iff] at hs
  obtain ⟨S3, hu, hs⟩ := hs
  rw [Option.bind_eq_some_iff] at hs
  obtain ⟨x0, hx0, hs⟩ := hs
  have h0 : 0 < out.length := (List.getElem?_eq_some_iff.1 hx0).1
  have HL := Lib.hid hl
  have HU := Lib.hid hu
  have HX0 := Lib.hid hx0
  have HS := Lib.hid hs
  clear hl hu hs hx0
  go_enter Try.func46, Try.ntmps46
  go_wp2_with fail
  refine (learn66 hRep n k back out HL.out).mono ?_
  rintro e w1 ⟨vo, go, ρ1, V1, rfl, r1, p1, hGo, hro, hgo⟩
  obtain ⟨co, cur, rfl, hcur⟩ := hGo
  have hGo : RowG w1 3 1 (.slice (some ⟨go, 0, none⟩) out.length co) out.length (out.map vI) (some go) := ⟨co, cur, rfl, hcur⟩
  clear hcur
  have hro1 := hro
  go_wp2_with fail
  have hgo1 := hGo.lt
  go_cut [] (fun w' => ∃ (ρ2 : Nat → Option Role) (V2 : Vals), Rep B w' ρ2 b { S1 with proof := S1.proof ++ [out] } V2 ∧ Path w ρ w' ρ2 ∧ RowG w' 3 1 (.slice (some ⟨go, 0, none⟩) out.length co) out.length (out.map vI) (some go) ∧ ρ2 go = some (.X 1))
  case first =>
    obtain ⟨aF, cF, hvF, _⟩ := r1.hf.val
    obtain ⟨gF, hGF, hrF⟩ := r1.hf
    have cf := r1.cell 10 V1.f rfl
    rw [hvF] at cf hGF
    have hbl := heap_lt r1.hb
    have hI1 : IntsAt w1 (some ⟨go, 0, none⟩) out := IntsAt.of_row hGo rfl
    have HC : Calls Try.prog 61 #[.slice (some ⟨go, 0, none⟩) out.length co] w1.drew fun e w' => ∃ v, e = .returned v ∧ ∃ g cc, v = .slice (some ⟨g, 0, none⟩) out.length cc ∧ RowG w' 3 1 v out.length (out.map vI) (some g) ∧ w1.heap.size ≤ g ∧ Below w1.heap.size w1 w' ∧ w'.cell? ⟨b, 10, none⟩ = some (.slice aF S1.proof.length cF) ∧ Hid (∀ blk, (w'.alloc blk).cell? ⟨b, 10, none⟩ = some (.slice aF S1.proof.length cF)) := by
      refine (clone61 w1.drew (some ⟨go, 0, none⟩) out co (hI1.below ((Below.refl _ _).drew)) (by omega)).mono ?_
      rintro e w' ⟨v, g, rfl, hG, hg, hb⟩
      obtain ⟨g', rfl⟩ := hG.some_of_pos h0
      have hb' : Below w1.heap.size w1 w' := ((Below.refl _ w1).drew).trans hb
      have hG' := hG
      obtain ⟨cc, _, rfl, _⟩ := hG'
      exact ⟨_, rfl, g', cc, rfl, hG, hg _ rfl, hb', bcell hb' cf hbl, Lib.hid fun blk => bcell (hb'.alloc hb'.size blk) cf hbl⟩
    have hol' := Lib.hid hol
    go_region_law (first | (refine step_call rfl 61 enter61 _ _ rfl (by go_simp) HC ?_; rintro _ w2 ⟨gc, cc, rfl, hGc, hgc, hb2, cf2, HA⟩; have cf3 := HA.out (.cells #[.slice (some ⟨gc, 0, none⟩) out.length cc] 35); clear HA) | (refine step_append_one rfl _ _ Try.underlying22 Try.inf35 rfl (by omega) rfl rfl _ rfl rfl rfl (hGF.same fun k e => hb2.block _ (by subst e; exact hGF.lt)) hpl ?_; intro c7 w7 g7 hG7 ha7; have q7 := ((r1.below hb2).1.appCell ha7 hrF (by simp) 10 V1.f rfl).1; have q8 := ((r1.below hb2).1.appCell ha7 hrF (by simp) 10 V1.f rfl).2))
    all_goals
      go_wp2_with fail
      go_meet
      obtain ⟨r2, p2⟩ := r1.below hb2
      have hfr : ∀ k r, ρ1 k = some r → k ≠ gc := fun k r hk e => by have := (r1.dom k r hk).2; omega
      have r3 := r2.turn (g := gc) (fun r hr => absurd rfl (hfr _ _ hr)) (.G S1.proof.length) (by have := r1.hB; omega) hGc.lt
      have p3 := (p1.trans p2).local hRep.dom' (Keep.refl (· = gc) w2) (by have := p1.only.size; omega) (.G S1.proof.length)
      have hrF' : ∀ k, gF = some k → turnRole ρ1 gc (.G S1.proof.length) k = some .F := fun k hk => by rw [turnRole_ne (hfr _ _ (hrF k hk))]; exact hrF k hk
      obtain ⟨r4, p4⟩ := r3.pushF (c := out) hGc (turnRole_self _ _ _) ha7.keep ha7.lt (ha7.role hrF') (by rw [List.length_append]; exact hG7)
      have p5 := p3.trans p4
      have hrg : turnRole ρ1 gc (.G S1.proof.length) go = some (.X 1) := by rw [turnRole_ne (hfr _ _ hro)]; exact hro
      have hG2 := hGo.same (w' := w2) fun k e => by cases e; exact hb2.block _ hgo1
      have hG4 := Path.row p4 hG2 (fun k e => by cases e; exact hrg)
      exact ⟨_, _, r4, p5, hG4.1, hG4.2 _ rfl⟩
  case rest =>
    obtain ⟨ρ2, V2, r2, p2, hG2, hro2⟩ := hcut
    clear hro1 hgo1 hGo hro r1 p1
    go_wp2_with fail
    refine (undo67 r2 back HU.out).mono ?_
    rintro e w3 ⟨rfl, ρ3, V3, r3, p3⟩
    obtain ⟨hG3, hro3⟩ := Path.row p3 hG2 (fun k e => by cases e; exact hro2)
    replace hro3 := hro3 _ rfl
    replace p3 := p2.trans p3
    clear r2 p2 hG2 hro2
    have c0 : w3.cell? ⟨go, 0, none⟩ = some (.int .i64 x0) := hG3.cellAt (by rw [List.getElem?_map, HX0.out]; rfl)
    have hs := HS.out
    clear HS
    by_cases h1 : out.length = 1
    · rw [if_pos h1, Option.map_eq_some_iff] at hs
      obtain ⟨⟨S4, r⟩, hh, rfl⟩ := hs
      have HH := Lib.hid hh
      have h1' : ((out.length : Int) == 1) = true := by rw [h1]; rfl
      clear hh
      go_wp2_with (go_at_call 49; refine (hold49 r3 x0 (-1) r HH.out).mono ?_; rintro e w4 ⟨rfl, ρ4, V4, r4, p4⟩)
      exact bodyPost_ret (results_none rfl _ _ _) rfl ⟨rfl, .of r4 (p3.trans p4)⟩
    · rw [if_neg h1, Option.bind_eq_some_iff] at hs
      obtain ⟨far, hfar, hs⟩ := hs
      rw [Option.bind_eq_some_iff] at hs
      obtain ⟨⟨S4, ki⟩, hk, hs⟩ := hs
      rw [Option.map_eq_some_iff] at hs
      obtain ⟨⟨S5, r⟩, hh, rfl⟩ := hs
      have h1' : ((out.length : Int) == 1) = false := by simp; omega
      have HF := Lib.hid hfar
      have HK := Lib.hid hk
      have HH := Lib.hid hh
      have hcap : ¬ co = 1 := by
        obtain ⟨_, _, e, _, hle, _⟩ := hG3
        cases e
        omega
      have h2 : 2 ≤ out.length := by omega
      clear hfar hk hh h1
      go_wp2_with fail
      go_loopg [6, 39] out.length (fun kq v6 v39 w' => ∃ (i f : Nat), v6 = .int .i64 f ∧ v39 = .int .i64 i ∧ i + 1 ≤ out.length ∧ f < out.length ∧ 1 ≤ f ∧ out.length ≤ kq + i ∧ Hid (S3.farAt out (out.length - 1 - i) i f = some far) ∧ Below w3.heap.size w3 w')
      case atStart => exact ⟨0, 1, rfl, rfl, by omega, by omega, by omega, by omega, HF, Below.refl _ _⟩
      case round =>
        obtain ⟨i, f, rfl, rfl, hi, hf, hf1, hkq, HF2, hb⟩ := hrel
        obtain ⟨rr, pr⟩ := r3.below hb
        have hGr := (Path.row pr hG3 (fun k e => by cases e; exact hro3)).1
        rcases Nat.lt_or_ge (i + 1) out.length with hi1 | hi1
        · have e : out.length - 1 - i = (out.length - 1 - (i + 1)) + 1 := by omega
          have hF2 := HF2.out
          rw [e] at hF2
          simp only [Sol.farAt, Option.bind_eq_some_iff] at hF2
          obtain ⟨x, hx, a, ha, y, hy, bq, hbq, hF3⟩ := hF2
          have cx : wr.cell? ⟨go, i + 1, none⟩ = some (.int .i64 x) := hGr.cellAt (by rw [List.getElem?_map, hx]; rfl)
          have cy : wr.cell? ⟨go, f, none⟩ = some (.int .i64 y) := hGr.cellAt (by rw [List.getElem?_map, hy]; rfl)
          have cx' := fun u : Bel wr => u.cell cx hGr.lt
          have cy' := fun u : Bel wr => u.cell cy hGr.lt
          have HA := Lib.hid ha
          have HB := Lib.hid hbq
          have hw1 : IntKind.i64.wrap ((i : Int) + 1) = (i : Int) + 1 := by rw [IntKind.wrap_i64]; omega
          have hw2 : 0 ≤ (i : Int) + 1 := by omega
          have hw3 : ((i : Int) + 1).toNat = i + 1 := by omega
          have hw4 : (i : Int) + 1 < (out.length : Int) := by omega
          have hw5 : (f : Int) < (out.length : Int) := by omega
          have hcl : (i : Int) < ((out.length - 1 : Nat) : Int) := by omega
          by_cases hd : bq < a
          · have HF3 : Hid (S3.farAt out (out.length - 1 - (i + 1)) (i + 1) (i + 1) = some far) := Lib.hid (by rw [if_pos hd] at hF3; exact hF3)
            clear ha hbq hF3 hx hy HF2 e
            go_wp2_with fail
            refine region_quiet (by kernel_rfl) (by kernel_rfl) ?_
            repeat (first | go_big_quiet_step (first | (go_at_call_of 68 (Value.int IntKind.i64 x); exact quiet_below (level68 (rr.quiet (Bel.below _)) x a HA.out)) | (go_at_call_of 68 (Value.int IntKind.i64 y); exact quiet_below (level68 (rr.quiet (Bel.below _)) y bq HB.out))) | quiet_step ((first | (go_at_call_of 68 (Value.int IntKind.i64 x); exact quiet_below (level68 (rr.quiet (Bel.below _)) x a HA.out)) | (go_at_call_of 68 (Value.int IntKind.i64 y); exact quiet_below (level68 (rr.quiet (Bel.below _)) y bq HB.out)))))
            refine wpQuiet_nil ?_
            rintro w' ⟨u, rfl⟩
            go_wp2_with fail
            go_roundg (gk - 1)
            case measure => omega
            case rel => exact ⟨i + 1, i + 1, by go_num, by go_num, by omega, by omega, by omega, by omega, HF3, hb.trans (u.2.mono hb.size)⟩
          · have HF3 : Hid (S3.farAt out (out.length - 1 - (i + 1)) (i + 1) f = some far) := Lib.hid (by rw [if_neg hd] at hF3; exact hF3)
            clear ha hbq hF3 hx hy HF2 e
            go_wp2_with fail
            refine region_quiet (by kernel_rfl) (by kernel_rfl) ?_
            repeat (first | go_big_quiet_step (first | (go_at_call_of 68 (Value.int IntKind.i64 x); exact quiet_below (level68 (rr.quiet (Bel.below _)) x a HA.out)) | (go_at_call_of 68 (Value.int IntKind.i64 y); exact quiet_below (level68 (rr.quiet (Bel.below _)) y bq HB.out))) | quiet_step ((first | (go_at_call_of 68 (Value.int IntKind.i64 x); exact quiet_below (level68 (rr.quiet (Bel.below _)) x a HA.out)) | (go_at_call_of 68 (Value.int IntKind.i64 y); exact quiet_below (level68 (rr.quiet (Bel.below _)) y bq HB.out)))))
            refine wpQuiet_nil ?_
            rintro w' ⟨u, rfl⟩
            go_wp2_with fail
            go_roundg (gk - 1)
            case measure => omega
            case rel => exact ⟨i + 1, f, by go_num, by go_num, by omega, by omega, by omega, by omega, HF3, hb.trans (u.2.mono hb.size)⟩
        · have e : out.length - 1 - i = 0 := by omega
          have hF2 := HF2.out
          rw [e] at hF2
          simp only [Sol.farAt, Option.some.injEq] at hF2
          subst hF2
          clear HF2
          obtain ⟨v1, hv1⟩ : ∃ v, out[1]? = some v := ⟨_, List.getElem?_eq_getElem (by omega)⟩
          obtain ⟨vf, hvf⟩ : ∃ v, out[f]? = some v := ⟨_, List.getElem?_eq_getElem hf⟩
          have cv1 : wr.cell? ⟨go, 1, none⟩ = some (.int .i64 v1) := hGr.cellAt (by rw [List.getElem?_map, hv1]; rfl)
          have cvf : wr.cell? ⟨go, f, none⟩ = some (.int .i64 vf) := hGr.cellAt (by rw [List.getElem?_map, hvf]; rfl)
          have f1 : wr.frozen? ⟨go, 1, none⟩ = false := hGr.free _ _
          have ff : wr.frozen? ⟨go, f, none⟩ = false := hGr.free _ _
          have hw5 : (f : Int) < (out.length : Int) := by omega
          have hw6 : (1 : Int) < (out.length : Int) := by omega
          have hG1 := hGr.set 1 (vI vf)
          rw [map_set' vI] at hG1
          have hset : (out.set 1 vf)[f]? = some vf := by
            rw [List.getElem?_set]
            by_cases e1 : 1 = f
            · rw [if_pos e1, if_pos (by omega)]
            · rw [if_neg e1, hvf]
          have cvf1 : (wr.setCell ⟨go, 1, none⟩ (.int .i64 vf)).cell? ⟨go, f, none⟩ = some (.int .i64 vf) := hG1.cellAt (by rw [List.getElem?_map, hset]; rfl)
          clear hset
          have ff1 : (wr.setCell ⟨go, 1, none⟩ (.int .i64 vf)).frozen? ⟨go, f, none⟩ = false := hG1.free _ _
          go_wp2_with fail
          go_region
          have hG5 := hG1.set f (vI v1)
          rw [map_set' vI] at hG5
          have hsw : swapAt out 1 f = (out.set 1 vf).set f v1 := by rw [swapAt, List.getD_eq_getElem?_getD, hvf, List.getD_eq_getElem?_getD, hv1]; rfl
          rw [← hsw] at hG5
          have hk : Keep (· = go) wr ((wr.setCell ⟨go, 1, none⟩ (.int .i64 vf)).setCell ⟨go, f, none⟩ (.int .i64 v1)) := Keep.trans (b := wr.setCell ⟨go, 1, none⟩ (.int .i64 vf)) (Keep.setCell (D := (· = go)) wr ⟨go, 1, none⟩ _ rfl) (Keep.setCell (D := (· = go)) _ ⟨go, f, none⟩ _ rfl)
          have r5 := rr.localX hk hro3
          have p5 := (p3.trans pr).localX hk hgo
          have hgo5 : go < ((wr.setCell ⟨go, 1, none⟩ (.int .i64 vf)).setCell ⟨go, f, none⟩ (.int .i64 v1)).heap.size := by simpa [World.setCell] using hGr.lt
          have hSw : (swapAt out 1 f).length = out.length := by rw [hsw]; simp
          have hsw0 : (swapAt out 1 f)[0]? = some x0 := by
            rw [hsw, List.getElem?_set, if_neg (by have := hf1; omega), List.getElem?_set, if_neg (by omega)]; exact HX0.out
          replace hG5 : RowG ((wr.setCell ⟨go, 1, none⟩ (.int .i64 vf)).setCell ⟨go, f, none⟩ (.int .i64 v1)) 3 1 (.slice (some ⟨go, 0, none⟩) out.length co) out.length ((swapAt out 1 f).map vI) (some go) := hG5
          generalize hWS : (wr.setCell ⟨go, 1, none⟩ (.int .i64 vf)).setCell ⟨go, f, none⟩ (.int .i64 v1) = WS at *
          clear hWS hk cvf1 ff1 hG1 cv1 cvf f1 ff hsw
          have hB6 : Below WS.heap.size WS WS.drew.drew := ((Below.refl _ _).drew).drew
          obtain ⟨r6, p6⟩ := r5.below hB6
          have r7 := r6.turn (g := go) (fun r hr => by rw [hro3] at hr; cases hr; exact ⟨1, rfl⟩) (.K S3.cls.length) (r6.dom go _ hro3).1 (r6.dom go _ hro3).2
          have p7 := (p5.trans p6).local hRep.dom' (Keep.refl (· = go) WS.drew.drew) hgo (.K S3.cls.length)
          have hG7 : RowG WS.drew.drew 3 1 (.slice (some ⟨go, 0, none⟩) (swapAt out 1 f).length co) (swapAt out 1 f).length ((swapAt out 1 f).map vI) (some go) := by rw [hSw]; exact hG5.same fun k e => by cases e; exact hB6.block _ hgo5
          have cgo : WS.drew.cell? ⟨go, 0, none⟩ = some (.int .i64 x0) := hG5.cellAt (by rw [List.getElem?_map, hsw0]; rfl)
          have HC : Calls Try.prog 60 #[.pointer (some ⟨b, 0, none⟩), .slice (some ⟨go, 0, none⟩) out.length co] WS.drew.drew fun e w' => ∃ v, e = .returned v ∧ v = .int .i64 ki ∧ ∃ ρ' V', Rep B w' ρ' b S4 V' ∧ Path w ρ w' ρ' ∧ w'.cell? ⟨go, 0, none⟩ = some (.int .i64 x0) := by
            have h60 := keep60w r7 hG7 (turnRole_self _ _ _) HK.out
            rw [hSw] at h60
            refine h60.mono ?_
            rintro e w' ⟨rfl, ρ', V', r8, p8, hv8, hc8⟩
            refine ⟨_, rfl, rfl, ρ', V', r8, p7.trans p8, ?_⟩
            rw [← hSw] at hv8
            obtain ⟨hGc, _⟩ := (r8.hk.2 _ _ _ hv8 hc8).atOf rfl (by omega)
            exact hGc.cellAt (by rw [List.getElem?_map, hsw0]; rfl)
          have HC2 : ∀ {w9 : World} {ρ9 : Nat → Option Role} {V9 : Vals}, Rep B w9 ρ9 b S4 V9 → Calls Try.prog 49 #[.pointer (some ⟨b, 0, none⟩), .int .i64 x0, .int .i64 ki] w9 fun e w' => ∃ v, e = .returned v ∧ v = .bool r ∧ StepTo B w9 ρ9 b S5 w' := by
            intro w9 ρ9 V9 r9
            refine (hold49 r9 x0 ki r HH.out).mono ?_
            rintro e w' ⟨h1, h2⟩
            exact ⟨_, h1, rfl, h2⟩
          go_wp2_with fail
          go_region_law (first | (refine step_call rfl 60 enter60 _ _ rfl (by go_simp) HC ?_; rintro _ w9 ⟨rfl, ρ9, V9, r9, p9, c9⟩) | (refine step_call rfl 49 enter49 _ _ rfl (by go_simp) (HC2 r9) ?_; rintro _ w10 ⟨rfl, ρ10, V10, r10, p10⟩))
          all_goals
            go_end0
            exact ⟨rfl, .of r10 (p9.trans p10)⟩
end Go.Proofs.Ytfmoldfajmfieaa
