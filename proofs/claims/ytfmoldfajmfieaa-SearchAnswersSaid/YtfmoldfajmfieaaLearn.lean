/-
  What is learned from a clause that fails: the walk.
-/
import Derived.Test.YtfmoldfajmfieaaSeen
import Derived.RegionTactic
import Derived.Deep.DeepCutAuto
import Derived.Deep.CutBlock
namespace Go.Proofs.Ytfmoldfajmfieaa
open Go.RowKit Go.Maps
theorem lrnLit_some {S : Sol} {L L1 : Lrn} {x : Int} (h : S.lrnLit L x = some L1) : -1099511627776 < x ∧ x < 1099511627776 ∧
    (vr x ∈ L.seen ∧ L1 = L ∨ vr x ∉ L.seen ∧ S.lit x = some true ∧ L1 = L ∨ vr x ∉ L.seen ∧ S.lit x = some false ∧ S.level x = some 0 ∧ L1 = L ∨
     vr x ∉ L.seen ∧ S.lit x = some false ∧ ∃ lv bv, S.level x = some lv ∧ lv ≠ 0 ∧ L.bump[(vr x).toNat]? = some bv ∧ L.seen.length < 1099511627776 ∧
      (lv = (S.marks.length : Int) ∧ L.opn < 1099511627776 ∧ L1 = { L with seen := vr x :: L.seen, bump := L.bump.set (vr x).toNat (wrap64 (bv + 1)), opn := L.opn + 1 } ∨
       lv ≠ (S.marks.length : Int) ∧ L.out.length < 1099511627776 ∧ L1 = { L with seen := vr x :: L.seen, bump := L.bump.set (vr x).toNat (wrap64 (bv + 1)), out := L.out ++ [x], back := max L.back lv })) := by
  unfold Sol.lrnLit at h
  split at h
  · next hx =>
    refine ⟨hx.1, hx.2, ?_⟩
    split at h
    · next hs => cases h; exact .inl ⟨hs, rfl⟩
    · next hs =>
      rw [Option.bind_eq_some_iff] at h
      obtain ⟨t, ht, h⟩ := h
      split at h
      · next h1 => cases h; subst h1; exact .inr (.inl ⟨hs, ht, rfl⟩)
      · next h1 =>
        have ht' : t = false := by simpa using h1
        subst ht'
        rw [Option.bind_eq_some_iff] at h
        obtain ⟨lv, hlv, h⟩ := h
        split at h
        · next h2 => cases h; subst h2; exact .inr (.inr (.inl ⟨hs, ht, hlv, rfl⟩))
        · next h2 =>
          rw [Option.bind_eq_some_iff] at h
          obtain ⟨bv, hbv, h⟩ := h
          split at h
          · next h3 =>
            split at h
            · next h4 => cases h; exact .inr (.inr (.inr ⟨hs, ht, lv, bv, hlv, h2, hbv, h4.2, .inl ⟨h3, h4.1, rfl⟩⟩))
            · cases h
          · next h3 =>
            split at h
            · next h4 => cases h; exact .inr (.inr (.inr ⟨hs, ht, lv, bv, hlv, h2, hbv, h4.2, .inr ⟨h3, h4.1, rfl⟩⟩))
            · cases h
  · cases h

/-- What learn keeps: the solver but for its counts, the clause so far, the map. -/
structure LrnAt (B : Nat) (w : World) (ρ : Nat → Option Role) (b : Nat) (S : Sol) (V : Vals) (L : Lrn) (vo : Value) (go gM : Nat) : Prop where
  rep : Rep B w ρ b { S with bump := L.bump } V
  out : RowG w 3 1 vo L.out.length (L.out.map vI) (some go)
  rout : ρ go = some (.X 1)
  seen : SeenAt w gM L.seen
  rseen : ρ gM = some (.X 2)
theorem LrnAt.path {B : Nat} {w w' : World} {ρ ρ' : Nat → Option Role} {b : Nat} {S : Sol} {V : Vals} {L : Lrn} {vo : Value} {go gM : Nat} (h : LrnAt B w ρ b S V L vo go gM) (hp : Path w ρ w' ρ') (hr : Rep B w' ρ' b { S with bump := L.bump } V) : LrnAt B w' ρ' b S V L vo go gM :=
  ⟨hr, (Path.row hp h.out (fun k e => by cases e; exact h.rout)).1, hp.x _ _ h.rout, (h.seen.path h.rseen hp).1, hp.x _ _ h.rseen⟩
theorem LrnAt.below {B : Nat} {w w' : World} {ρ : Nat → Option Role} {b : Nat} {S : Sol} {V : Vals} {L : Lrn} {vo : Value} {go gM : Nat} (h : LrnAt B w ρ b S V L vo go gM) (hb : Below w.heap.size w w') : LrnAt B w' ρ b S V L vo go gM ∧ Path w ρ w' ρ := by
  obtain ⟨r, p⟩ := h.rep.below hb
  exact ⟨h.path p r, p⟩

set_option maxHeartbeats 4000000 in
set_option maxRecDepth 100000 in
theorem learn66 {B : Nat} {w : World} {ρ : Nat → Option Role} {b : Nat} {S S' : Sol} {V : Vals} (hRep : Rep B w ρ b S V) (n : Nat) (k back : Int) (out : List Int) (hs : S.learn n k = some (S', out, back)) :
    Calls Try.prog 66 #[.pointer (some ⟨b, 0, none⟩), .int .i64 k] w fun e w' => ∃ vo go ρ' V', e = .returned (.tuple #[vo, .int .i64 back]) ∧ Rep B w' ρ' b S' V' ∧ Path w ρ w' ρ' ∧ RowG w' 3 1 vo out.length (out.map vI) (some go) ∧ ρ' go = some (.X 1) ∧ w.heap.size ≤ go := by
  unfold Sol.learn at hs
  obtain ⟨hk0, htl, hs⟩ : 0 ≤ k ∧ S.trail.length < 1099511627776 ∧ _ := by
    split at hs
    · next h => exact ⟨h.1, h.2, hs⟩
    · cases hs
  rw [Option.bind_eq_some_iff] at hs
  obtain ⟨c, hc, hs⟩ := hs
  rw [Option.map_eq_some_iff] at hs
  obtain ⟨⟨bump', out', back'⟩, hl, hs⟩ := hs
  simp only [Prod.mk.injEq] at hs
  obtain ⟨rfl, rfl, rfl⟩ := hs
  have HL := Lib.hid hl
  have Hc := Lib.hid hc
  have hkl : k.toNat < S.cls.length := (List.getElem?_eq_some_iff.1 hc).1
  have hkl' : k < S.cls.length := by omega
  clear hl hc
  have hmm := @run_makeMap Try.prog
  obtain ⟨w1, hw1⟩ : ∃ w1, w1 = w.alloc (.map #[] 0) := ⟨_, rfl⟩
  obtain ⟨w2, hw2⟩ : ∃ w2, w2 = (w.alloc (.map #[] 0)).alloc (.cells #[.int .i64 0] 3) := ⟨_, rfl⟩
  have hs1 : w1.heap.size = w.heap.size + 1 := by rw [hw1]; simp
  have k1 : Keep (· = w.heap.size) w w1 := by rw [hw1]; exact Keep.alloc _ _ _
  have k2 : Keep (· = w.heap.size + 1) w1 w2 := by rw [hw2, ← hw1]; exact Keep.alloc _ _ _
  have hs2 : w2.heap.size = w.heap.size + 2 := by rw [hw2]; simp
  have R1 := hRep.local k1 (by omega) (.inr (Nat.le_refl _)) 2
  have P1 := (Path.refl (w := w) (ρ := ρ)).local hRep.dom' k1 (Nat.le_refl _) (.X 2)
  have R2 := R1.local k2 (by omega) (.inr (by omega)) 1
  have P2 := P1.local hRep.dom' k2 (by omega) (.X 1)
  have LA : LrnAt B w2 (turnRole (turnRole ρ w.heap.size (.X 2)) (w.heap.size + 1) (.X 1)) b S V ⟨[], [0], 0, 0, S.bump⟩ (.slice (some ⟨w.heap.size + 1, 0, none⟩) 1 1) (w.heap.size + 1) w.heap.size := by
    refine ⟨R2, ?_, turnRole_self _ _ _, ?_, ?_⟩
    · have := RowG.made (w := w.alloc (.map #[] 0)) (e := 3) (size := 1) (n := 1) (cur := #[.int .i64 0]) rfl (by unfold maxLen; omega)
      rw [← hw2] at this
      simp at this
      exact this
    · have h1 := SeenAt.made w
      rw [← hw1] at h1
      exact h1.same (k2.block _ (by omega) (by omega))
    · rw [turnRole_ne (by omega), turnRole_self]
  obtain ⟨gM, hgM⟩ : ∃ gM, gM = w.heap.size := ⟨_, rfl⟩
  obtain ⟨go, hgo⟩ : ∃ go, go = w.heap.size + 1 := ⟨_, rfl⟩
  have hle : w.heap.size ≤ gM ∧ w.heap.size ≤ go := by omega
  rw [← hgo, ← hgM] at LA P2
  generalize turnRole (turnRole ρ gM (.X 2)) go (.X 1) = ρ2 at LA P2
  clear R1 R2 P1 k1 k2 hs1 hs2
  go_enter Try.func66, Try.ntmps66
  go_wp2_with fail
  rw [← hw2, ← hgo, ← hgM]
  clear hw2 hw1 w1 hgM hgo hmm
  obtain ⟨aT, cT, hvT, _⟩ := LA.rep.ht.val
  have ct := LA.rep.cell 5 V.t rfl
  rw [hvT] at ct
  have ct' := fun u : Bel w2 => u.cell ct (heap_lt LA.rep.hb)
  dsimp only at ct'
  clear ct hvT
  refine region_quiet (by kernel_rfl) (by kernel_rfl) ?_
  repeat (first | go_big_quiet_step (fail) | quiet_step (fail))
  refine wpQuiet_nil ?_
  rintro w' ⟨u, rfl⟩
  obtain ⟨LA3, p3⟩ := LA.below u.2
  replace p3 := P2.trans p3
  clear ct' LA P2
  generalize u.1 = w3 at LA3 p3 ⊢
  clear u
  obtain ⟨gC, cC, hvC, _, hrC, hGC⟩ := LA3.rep.hc.at (show 0 < S.cls.length by omega)
  have c1 := LA3.rep.cell 1 V.c rfl
  rw [hvC] at c1
  dsimp only at c1
  obtain ⟨vK, hvK⟩ : ∃ vK, V.cs[k.toNat]? = some vK := ⟨_, List.getElem?_eq_getElem (by rw [LA3.rep.hk.1]; exact hkl)⟩
  have cK : w3.cell? ⟨gC, k.toNat, none⟩ = some vK := hGC.cellAt hvK
  have HvK := Lib.hid hvK
  clear hvC hvK hGC
  go_wp2_with fail
  go_loopg [7, 8, 9, 10, 11] n (fun kq v7 v8 v9 v10 v11 w' => ∃ (L : Lrn) (reason : List Int) (at_ : Nat) (go : Nat) (co : Nat) (ρ1 : Nat → Option Role) (kk : Nat),
    v7 = .slice (some ⟨go, 0, none⟩) L.out.length co ∧ v8 = .int .i64 L.opn ∧ v9 = .int .i64 at_ ∧ v10 = .int .i64 L.back ∧ Hid (S.cls[kk]? = some reason ∧ V.cs[kk]? = some v11) ∧ Hid (S.lrn kq reason L at_ = some (bump', out', back')) ∧
    LrnAt B w' ρ1 b S V L (.slice (some ⟨go, 0, none⟩) L.out.length co) go gM ∧ Path w ρ w' ρ1 ∧ w.heap.size ≤ go ∧ 0 ≤ L.opn)
  case atStart => exact ⟨⟨[], [0], 0, 0, S.bump⟩, c, S.trail.length, go, 1, ρ2, k.toNat, rfl, rfl, rfl, rfl, Lib.hid ⟨Hc.out, HvK.out⟩, HL, LA3, p3, hle.2, by simp⟩
  case round =>
    clear HL LA3 p3 cK c1 hrC Hc HvK
    obtain ⟨L, reason, at_, go, co, ρ1, kk, rfl, rfl, rfl, rfl, HK, HA, LA, p1, hgo, hopn⟩ := hrel
    cases gk with
    | zero => exact absurd HA.out (by simp [Sol.lrn])
    | succ k1 =>
      have H := HA.out
      rw [Sol.lrn, Option.bind_eq_some_iff] at H
      obtain ⟨L2, hL2, H⟩ := H
      obtain ⟨aK, cK, hvK, hcK⟩ := (LA.rep.hk.2 _ _ _ HK.out.2 HK.out.1).val
      subst hvK
      have hrsz : reason.length ≤ 9223372036854775807 := by
        obtain ⟨g, h1, _⟩ := LA.rep.hk.2 _ _ _ HK.out.2 HK.out.1
        have := h1.size_le; unfold maxLen at this; omega
      have HL2 := Lib.hid hL2
      have HH := Lib.hid H
      clear HA H hL2
      go_wp2_with fail
      go_loopg [7, 8, 10, 31] (reason.length + 1) (fun kq v7 v8 v10 v31 w' => ∃ (L1 : Lrn) (i go1 co1 : Nat) (ρ1 : Nat → Option Role),
        v7 = .slice (some ⟨go1, 0, none⟩) L1.out.length co1 ∧ v8 = .int .i64 L1.opn ∧ v10 = .int .i64 L1.back ∧ v31 = .int .i64 i ∧ i ≤ reason.length ∧ reason.length - i < kq ∧ Hid (S.lrnClause L1 (reason.drop i) = some L2) ∧
        LrnAt B w' ρ1 b S V L1 (.slice (some ⟨go1, 0, none⟩) L1.out.length co1) go1 gM ∧ Path w ρ w' ρ1 ∧ w.heap.size ≤ go1 ∧ 0 ≤ L1.opn)
      case atStart => exact ⟨L, 0, go, co, ρ1, rfl, rfl, rfl, rfl, by omega, by omega, by rw [List.drop_zero]; exact HL2, LA, p1, hgo, hopn⟩
      case round =>
        clear HL2 LA p1 hgo hopn
        obtain ⟨L1, i, go1, co1, ρ1, rfl, rfl, rfl, rfl, hi, hik, HC, LA, p1, hgo1, hopn⟩ := hrel
        by_cases hil : i < reason.length
        · obtain ⟨x, hx⟩ : ∃ x, reason[i]? = some x := ⟨_, List.getElem?_eq_getElem hil⟩
          have hdi : reason.drop i = x :: reason.drop (i + 1) := by
            obtain ⟨h, e⟩ := List.getElem?_eq_some_iff.1 hx
            rw [List.drop_eq_getElem_cons h, e]
          have HC' := HC.out
          rw [hdi, Sol.lrnClause, Option.bind_eq_some_iff] at HC'
          obtain ⟨L3, hL3, HC'⟩ := HC'
          obtain ⟨hx1, hx2, hcase⟩ := lrnLit_some hL3
          have HC2 := Lib.hid HC'
          obtain ⟨gK, capK, haK, _, hrK, hGK⟩ := (LA.rep.hk.2 _ _ _ HK.out.2 HK.out.1).at (by omega)
          injection haK with haK _ hcapK
          subst haK
          subst hcapK
          have cx : wr.cell? ⟨gK, i, none⟩ = some (.int .i64 x) := hGK.cellAt (by rw [List.getElem?_map, hx]; rfl)
          have hv0 : 0 ≤ vr x := by unfold vr; split <;> omega
          have hvb : -9223372036854775808 ≤ vr x ∧ vr x ≤ 9223372036854775807 := by unfold vr; split <;> omega
          clear HC HC' hdi hL3 hx
          rcases hcase with ⟨hs, rfl⟩ | ⟨hs, ht, rfl⟩ | ⟨hs, ht, hlv, rfl⟩ | ⟨hs, ht, lv, bv, hlv, hlv0, hbv, hsl, hcase⟩
          · have HS := Lib.hid (if_pos hs : (if vr x ∈ L3.seen then (1 : Int) else 0) = 1)
            clear hs
            go_wp2_with (first | (go_at_call 70; refine (variable70 x _ hx1 hx2).mono ?_; rintro e w' ⟨rfl, rfl⟩) | (at_lookup; refine lookup_seen rfl _ _ rfl rfl LA.seen rfl hvb 1 HS.out ?_))
            go_roundg (gk - 1)
            case measure => omega
            case rel => exact ⟨L3, i + 1, go1, co1, ρ1, rfl, rfl, rfl, by go_num, by omega, by omega, HC2, LA, p1, hgo1, hopn⟩
          · have HS := Lib.hid (if_neg hs : (if vr x ∈ L3.seen then (1 : Int) else 0) = 0)
            have HT := Lib.hid ht
            obtain ⟨_, _, _, hn⟩ := lit_some ht
            obtain ⟨gI, capI, hvI, hrI, hGI, hcI⟩ := LA.rep.litAt (x := x) (t := true) ht
            have c3 := LA.rep.cell 3 V.i rfl
            rw [hvI] at c3
            have hgI := hGI.lt
            dsimp only at c3
            clear hs ht hvI hGI
            go_wp2_with (first | (go_at_call 70; refine (variable70 x _ hx1 hx2).mono ?_; rintro e w' ⟨rfl, rfl⟩) | (at_lookup; refine lookup_seen rfl _ _ rfl rfl LA.seen rfl hvb 0 HS.out ?_) | (go_at_call 65; refine (at65 _ _ _ _ _ hn hx1 hx2).mono ?_; rintro e w2 ⟨rfl, hb2⟩; have d1 := bcell hb2 hcI hgI))
            obtain ⟨LA2, p2⟩ := LA.below hb2
            go_roundg (gk - 1)
            case measure => omega
            case rel => exact ⟨L3, i + 1, go1, co1, ρ1, rfl, rfl, rfl, by go_num, by omega, by omega, HC2, LA2, p1.trans p2, hgo1, hopn⟩
          · have HS := Lib.hid (if_neg hs : (if vr x ∈ L3.seen then (1 : Int) else 0) = 0)
            have HLv := Lib.hid hlv
            obtain ⟨_, _, _, hn⟩ := lit_some ht
            obtain ⟨gI, capI, hvI, hrI, hGI, hcI⟩ := LA.rep.litAt (x := x) (t := false) ht
            have c3 := LA.rep.cell 3 V.i rfl
            rw [hvI] at c3
            have hgI := hGI.lt
            dsimp only at c3
            clear hs ht hvI hGI hlv
            go_wp2_with (first | (go_at_call 70; refine (variable70 x _ hx1 hx2).mono ?_; rintro e w' ⟨rfl, rfl⟩) | (at_lookup; refine lookup_seen rfl _ _ rfl rfl LA.seen rfl hvb 0 HS.out ?_) | (go_at_call 65; refine (at65 _ _ _ _ _ hn hx1 hx2).mono ?_; rintro e w2 ⟨rfl, hb2⟩; have d1 := bcell hb2 hcI hgI) | (go_at_call 68; refine (level68 (LA.below hb2).1.rep x 0 HLv.out).mono ?_; rintro e w3 ⟨rfl, hb3⟩))
            obtain ⟨LA2, p2⟩ := LA.below hb2
            obtain ⟨LA3, p3⟩ := LA2.below hb3
            go_roundg (gk - 1)
            case measure => omega
            case rel => exact ⟨L3, i + 1, go1, co1, ρ1, rfl, rfl, rfl, by go_num, by omega, by omega, HC2, LA3, p1.trans (p2.trans p3), hgo1, hopn⟩
          · have HS := Lib.hid (if_neg hs : (if vr x ∈ L1.seen then (1 : Int) else 0) = 0)
            have HLv := Lib.hid hlv
            obtain ⟨_, _, _, hn⟩ := lit_some ht
            obtain ⟨gI, capI, hvI, hrI, hGI, hcI⟩ := LA.rep.litAt (x := x) (t := false) ht
            have c3 := LA.rep.cell 3 V.i rfl
            rw [hvI] at c3
            have hgI := hGI.lt
            dsimp only at c3
            have hlv' : (lv == 0) = false := by simpa using hlv0
            have hsn := Lib.hid hs
            have Hcase := Lib.hid hcase
            have hbl : (vr x).toNat < L1.bump.length := (List.getElem?_eq_some_iff.1 hbv).1
            have hbl' : vr x < L1.bump.length := by omega
            have HBV := Lib.hid hbv
            clear hs ht hvI hGI hlv hlv0 hcase hbv
            go_upto_region 10 with (first | (go_at_call 70; refine (variable70 x _ hx1 hx2).mono ?_; rintro e w' ⟨rfl, rfl⟩) | (at_lookup; refine lookup_seen rfl _ _ rfl rfl LA.seen rfl hvb 0 HS.out ?_) | (go_at_call 65; refine (at65 _ _ _ _ _ hn hx1 hx2).mono ?_; rintro e w2 ⟨rfl, hb2⟩; have d1 := bcell hb2 hcI hgI) | (go_at_call 68; refine (level68 (LA.below hb2).1.rep x lv HLv.out).mono ?_; rintro e w3 ⟨rfl, hb3⟩))
            obtain ⟨LA2, p2⟩ := LA.below hb2
            obtain ⟨LA3, p3⟩ := LA2.below hb3
            replace p3 := p1.trans (p2.trans p3)
            clear LA2 p2 hb2 hb3 LA p1 c3 hcI hgI cx hGK d1 hrI
            go_upto_region 11 with (first | (at_lookup; refine lookup_seen rfl _ _ rfl rfl LA3.seen rfl hvb 0 HS.out ?_) | (at_mapUpdate; refine store_seen rfl _ _ _ rfl rfl LA3.seen hsl rfl rfl hvb ?_; intro w4 hS4 hk4))
            have hneo : go1 ≠ gM := fun e => by have h1 := LA3.rout; rw [e, LA3.rseen] at h1; cases h1
            have r4 := LA3.rep.localX hk4 LA3.rseen
            have p4 := p3.localX hk4 hle.1
            have hG4 : RowG w4 3 1 (.slice (some ⟨go1, 0, none⟩) L1.out.length co1) L1.out.length (L1.out.map vI) (some go1) := LA3.out.same fun k e => by cases e; exact hk4.block _ LA3.out.lt hneo
            have hr1 := LA3.rout
            have hr2 := LA3.rseen
            clear LA3 p3 hk4
            obtain ⟨gU, cU, hvU, _, hrU, hGU⟩ := r4.hu.at (show 0 < L1.bump.length by omega)
            have cu := r4.cell 8 V.u rfl
            rw [hvU] at cu
            dsimp only at cu hGU
            have cb : w4.cell? ⟨gU, (vr x).toNat, none⟩ = some (.int .i64 bv) := hGU.cellAt (by rw [List.getElem?_map, HBV.out]; rfl)
            have fU := fun o => hGU.free o none
            obtain ⟨r5, p5⟩ : Rep B (w4.setCell ⟨gU, (vr x).toNat, none⟩ (.int .i64 (wrap64 (bv + 1)))) ρ1 b { S with bump := L1.bump.set (vr x).toNat (wrap64 (bv + 1)) } V ∧ Path w4 ρ1 (w4.setCell ⟨gU, (vr x).toNat, none⟩ (.int .i64 (wrap64 (bv + 1)))) ρ1 := r4.setU hrU hGU (vr x).toNat (wrap64 (bv + 1))
            have hG5 := (Path.row p5 hG4 (fun k e => by cases e; exact hr1)).1
            have hS5 := (hS4.path hr2 p5).1
            replace p5 := p4.trans p5
            clear hvU hGU r4 p4 hG4 hS4
            go_upto_region 12 with (fail)
            generalize w4.setCell ⟨gU, (vr x).toNat, none⟩ (Value.int IntKind.i64 (wrap64 (bv + 1))) = w5 at r5 p5 hG5 hS5 ⊢
            clear cu cb fU
            obtain ⟨aM, cM, hvM, _⟩ := r5.hm.val
            have cm := r5.cell 6 V.m rfl
            rw [hvM] at cm
            have cm' := fun u : Bel w5 => u.cell cm (heap_lt r5.hb)
            dsimp only at cm'
            clear cm hvM
            refine region_quiet (by kernel_rfl) (by kernel_rfl) ?_
            repeat (first | go_big_quiet_step (exact quiet_below (level68 (r5.quiet (Bel.below _)) x lv HLv.out)) | quiet_step ((exact quiet_below (level68 (r5.quiet (Bel.below _)) x lv HLv.out))))
            refine wpQuiet_nil ?_
            rintro w' ⟨u, rfl⟩
            obtain ⟨r6, p6⟩ := r5.below u.2
            have hG6 := (Path.row p6 hG5 (fun k e => by cases e; exact hr1)).1
            have hS6 := (hS5.path hr2 p6).1
            replace p6 := p5.trans p6
            clear cm' r5 p5 hG5 hS5
            generalize u.1 = w6 at r6 p6 hG6 hS6 ⊢
            clear u
            rcases Hcase.out with ⟨hlm, hob, hL3⟩ | ⟨hlm, hob, hL3⟩
            · have hlm' : (lv == (S.marks.length : Int)) = true := by simpa using hlm
              have HL3 := Lib.hid hL3
              have hlm2 := Lib.hid hlm
              clear hlm hL3 Hcase
              go_wp2_with fail
              go_roundg (gk - 1)
              case measure => omega
              case rel => exact ⟨L3, i + 1, go1, co1, ρ1, by rw [HL3.out], by rw [HL3.out], by rw [HL3.out], by go_num, by omega, by omega, HC2, by rw [HL3.out]; exact ⟨r6, hG6, hr1, hS6, hr2⟩, p6, hgo1, by rw [HL3.out]; show 0 ≤ L1.opn + 1; omega⟩
            · have hlm' : (lv == (S.marks.length : Int)) = false := by simpa using hlm
              have HL3 := Lib.hid hL3
              clear hlm hL3 Hcase
              have hmx : max L1.back lv = if L1.back < lv then lv else L1.back := by split <;> omega
              have HMX := Lib.hid hmx
              clear hmx
              by_cases hbk : L1.back < lv
              all_goals
                have HB := Lib.hid hbk
                go_wp2_with (first | (at_builtin; refine append_int rfl _ _ rfl _ rfl rfl (by simp) hG6 hob ?_; intro c7 w7 g7 hG7 ha7; have R7 := r6.local ha7.keep ha7.lt (ha7.who.imp (fun e => ⟨1, by cases e; exact hr1⟩) id) 1) | (go_at_call 68; refine (level68 R7 x lv HLv.out).mono ?_; rintro e w8 ⟨rfl, hb8⟩))
                have hge : w.heap.size ≤ g7 := by
                  rcases ha7.who with h | h
                  · cases h; exact hgo1
                  · have := p6.only.size; omega
                have P7 := p6.local hRep.dom' ha7.keep hge (.X 1)
                have hneM : gM ≠ g7 := by
                  rcases ha7.who with h | h
                  · cases h; intro e; rw [e, hr1] at hr2; cases hr2
                  · have := hS6.lt; omega
                have LA7 : LrnAt B w7 (turnRole ρ1 g7 (.X 1)) b S V { L1 with seen := vr x :: L1.seen, bump := L1.bump.set (vr x).toNat (wrap64 (bv + 1)), out := L1.out ++ [x], back := max L1.back lv } (.slice (some ⟨g7, 0, none⟩) (L1.out.length + 1) c7) g7 gM :=
                  ⟨R7, by rw [List.length_append]; exact hG7, turnRole_self _ _ _, hS6.same (ha7.keep.block _ hS6.lt hneM), by rw [turnRole_ne hneM]; exact hr2⟩
                obtain ⟨LA8, p8⟩ := LA7.below hb8
                go_roundg (gk - 1)
                case measure => omega
                case rel => exact ⟨L3, i + 1, g7, c7, _, by rw [HL3.out, List.length_append]; rfl, by rw [HL3.out], by rw [HL3.out, HMX.out]; first | rw [if_pos HB.out] | rw [if_neg (Int.not_lt.2 HB.out)], by go_num, by omega, by omega, HC2, by rw [HL3.out]; simpa using LA8, P7.trans p8, hge, by rw [HL3.out]; exact hopn⟩
        · have hL : L1 = L2 := by
            have := HC.out
            rw [List.drop_eq_nil_of_le (by omega), Sol.lrnClause] at this
            exact Option.some.inj this
          subst hL
          have H := HH.out
          clear HC HH
          obtain ⟨hat, hatl, ho1, ho2, hoL, H⟩ : 1 ≤ at_ ∧ at_ ≤ S.trail.length ∧ 1 ≤ L1.opn ∧ L1.opn < 1099511627776 ∧ 1 ≤ L1.out.length ∧ _ := by
            split at H
            · next h => exact ⟨h.1, h.2.1, h.2.2.1, h.2.2.2.1, h.2.2.2.2, H⟩
            · cases H
          rw [Option.bind_eq_some_iff] at H
          obtain ⟨ix, hix, H⟩ := H
          rw [Option.bind_eq_some_iff] at H
          obtain ⟨y, hy, H⟩ := H
          have HIX := Lib.hid hix
          have HY := Lib.hid hy
          have HH2 := Lib.hid H
          clear hix hy H
          go_wp2_with fail
          go_loopg [9] (at_ + 1) (fun kq v9 w' => ∃ (m : Nat), v9 = .int .i64 m ∧ m < at_ ∧ m < kq ∧ Hid (S.lrnAt L1.seen m = some ix) ∧ LrnAt B w' ρ1 b S V L1 (.slice (some ⟨go1, 0, none⟩) L1.out.length co1) go1 gM ∧ Path w ρ w' ρ1)
          case atStart => exact ⟨at_ - 1, by go_num, by omega, by omega, HIX, LA, p1⟩
          case round =>
            clear HIX LA p1
            obtain ⟨m, rfl, hma, hmk, HM, LA, p1⟩ := hrel
            obtain ⟨q, hq, hq1, hq2, hqc⟩ : ∃ q, S.trail[m]? = some q ∧ -1099511627776 < q ∧ q < 1099511627776 ∧ (vr q ∈ L1.seen ∧ m = ix ∨ vr q ∉ L1.seen ∧ 1 ≤ m ∧ S.lrnAt L1.seen (m - 1) = some ix) := by
              have h := HM.out
              cases m with
              | zero =>
                rw [Sol.lrnAt, Option.bind_eq_some_iff] at h
                obtain ⟨q, hq, h⟩ := h
                split at h
                · next hh => exact ⟨q, hq, hh.1, hh.2.1, .inl ⟨hh.2.2, Option.some.inj h⟩⟩
                · cases h
              | succ m =>
                rw [Sol.lrnAt, Option.bind_eq_some_iff] at h
                obtain ⟨q, hq, h⟩ := h
                split at h
                · next hh =>
                  refine ⟨q, hq, hh.1, hh.2, ?_⟩
                  split at h
                  · next hs => exact .inl ⟨hs, Option.some.inj h⟩
                  · next hs => exact .inr ⟨hs, by omega, by simpa using h⟩
                · cases h
            obtain ⟨gT, cT2, hvT2, _, hrT, hGT⟩ := LA.rep.ht.at (show 0 < S.trail.length by omega)
            have ct := LA.rep.cell 5 V.t rfl
            rw [hvT2] at ct
            dsimp only at ct hGT
            have cq : wr.cell? ⟨gT, m, none⟩ = some (.int .i64 q) := hGT.cellAt (by rw [List.getElem?_map, hq]; rfl)
            have hmt : m < S.trail.length := by omega
            have hqb : -9223372036854775808 ≤ vr q ∧ vr q ≤ 9223372036854775807 := by unfold vr; split <;> omega
            have HQ := Lib.hid hq
            clear hvT2 hGT hq HM
            rcases hqc with ⟨hs, rfl⟩ | ⟨hs, hm1, hnx⟩
            · have HS := Lib.hid (if_pos hs : (if vr q ∈ L1.seen then (1 : Int) else 0) = 1)
              clear hs
              have eyq : q = y := by have h1 := HQ.out; have h2 := HY.out; rw [h1] at h2; exact Option.some.inj h2
              subst eyq
              have HH3 := HH2.out
              clear HH2
              by_cases hop : L1.opn = 1
              · rw [if_pos hop] at HH3
                have hfin := Option.some.inj HH3
                simp only [Prod.mk.injEq] at hfin
                obtain ⟨e1, e2, e3⟩ := hfin
                have HE := Lib.hid (And.intro e1 (And.intro e2 e3))
                have hop' : ((L1.opn - 1) == 0) = true := by rw [hop]; rfl
                have hop2 : (L1.opn - 1 == 0) = true := hop'
                obtain ⟨z0, hz0⟩ : ∃ z0, L1.out[0]? = some z0 := ⟨_, List.getElem?_eq_getElem (by omega)⟩
                have co0 : wr.cell? ⟨go1, 0, none⟩ = some (.int .i64 z0) := LA.out.cellAt (by rw [List.getElem?_map, hz0]; rfl)
                have fo := LA.out.free 0 none
                have hoL' : 0 < L1.out.length := by omega
                have kset := Keep.setCell (D := (· = go1)) wr ⟨go1, 0, none⟩ (.int .i64 (-q)) rfl
                have r9 := LA.rep.localX kset LA.rout
                have p9 := p1.localX kset hgo1
                have hG9 := LA.out.set 0 (vI (-q))
                rw [map_set' vI] at hG9
                have hr1 := LA.rout
                clear e1 e2 e3 hop HH3 hz0 kset
                go_wp2_with (first | (go_at_call 70; refine (variable70 q _ hq1 hq2).mono ?_; rintro e w' ⟨rfl, rfl⟩) | (at_lookup; refine lookup_seen rfl _ _ rfl rfl LA.seen rfl hqb 1 HS.out ?_))
                go_ret2
                obtain ⟨e1, e2, e3⟩ := HE.out
                subst e1
                subst e2
                subst e3
                exact ⟨.slice (some ⟨go1, 0, none⟩) L1.out.length co1, go1, ρ1, V, rfl, r9, p9, by rw [List.length_set]; exact hG9, hr1, hgo1⟩
              · rw [if_neg hop, Option.bind_eq_some_iff] at HH3
                obtain ⟨pw, hpw, HH3⟩ := HH3
                obtain ⟨hpw0, HH3⟩ : 0 ≤ pw.1 ∧ _ := by
                  split at HH3
                  · next h => exact ⟨h, HH3⟩
                  · cases HH3
                rw [Option.bind_eq_some_iff] at HH3
                obtain ⟨c2, hc2, HH3⟩ := HH3
                have HC2 := Lib.hid hc2
                have HH4 := Lib.hid HH3
                have hop' : (L1.opn - 1 == 0) = false := by simp; omega
                obtain ⟨gY, cY, hvY, _, hrY, hGY⟩ := LA.rep.hy.at (show 0 < S.why.length from Nat.lt_of_le_of_lt (Nat.zero_le _) (List.getElem?_eq_some_iff.1 hpw).1)
                obtain ⟨gC2, cC2, hvC2, _, hrC2, hGC2⟩ := LA.rep.hc.at (show 0 < S.cls.length from Nat.lt_of_le_of_lt (Nat.zero_le _) (List.getElem?_eq_some_iff.1 hc2).1)
                have cy := LA.rep.cell 4 V.y rfl
                rw [hvY] at cy
                have cc := LA.rep.cell 1 V.c rfl
                rw [hvC2] at cc
                dsimp only at cy cc hGY hGC2
                have cp : wr.cell? ⟨gY, (vr q).toNat * 2, none⟩ = some (.int .i64 pw.1) := hGY.cellAt (vY_at S.why _ pw hpw).1
                have hpl : pw.1.toNat < S.cls.length := (List.getElem?_eq_some_iff.1 hc2).1
                have hpl' : pw.1 < S.cls.length := by omega
                obtain ⟨vK2, hvK2⟩ : ∃ vK2, V.cs[pw.1.toNat]? = some vK2 := ⟨_, List.getElem?_eq_getElem (by rw [LA.rep.hk.1]; exact hpl)⟩
                have cK2 : wr.cell? ⟨gC2, pw.1.toNat, none⟩ = some vK2 := hGC2.cellAt hvK2
                have hyl : (vr q).toNat < S.why.length := (List.getElem?_eq_some_iff.1 hpw).1
                have hyl' : vr q < S.why.length := by omega
                have hv0 : 0 ≤ vr q := by unfold vr; split <;> omega
                have HvK2 := Lib.hid hvK2
                have hbl := heap_lt LA.rep.hb
                have cy' := fun u : Bel wr => u.cell cy hbl
                have cc' := fun u : Bel wr => u.cell cc hbl
                have ct' := fun u : Bel wr => u.cell ct hbl
                have cq' := fun u : Bel wr => u.cell cq (LA.rep.dom gT _ hrT).2
                have cp' := fun u : Bel wr => u.cell cp hGY.lt
                have cK2' := fun u : Bel wr => u.cell cK2 hGC2.lt
                clear hpw hc2 HH3 hop hvY hvC2 hvK2 hGY hGC2 cy cc cp cK2
                go_upto_region 24 with (first | (go_at_call 70; refine (variable70 q _ hq1 hq2).mono ?_; rintro e w' ⟨rfl, rfl⟩) | (at_lookup; refine lookup_seen rfl _ _ rfl rfl LA.seen rfl hqb 1 HS.out ?_))
                clear ct cq
                refine region_quiet (by kernel_rfl) (by kernel_rfl) ?_
                repeat (first | go_big_quiet_step (exact quiet_same (variable70 q _ hq1 hq2)) | quiet_step ((exact quiet_same (variable70 q _ hq1 hq2))))
                refine wpQuiet_nil ?_
                rintro w' ⟨u, rfl⟩
                obtain ⟨LA9, p9⟩ := LA.below u.2
                go_wp2_with fail
                go_roundg k1
                case measure => omega
                case rel => exact ⟨{ L1 with opn := L1.opn - 1 }, c2, m, go1, co1, ρ1, pw.1.toNat, rfl, rfl, rfl, rfl, Lib.hid ⟨HC2.out, HvK2.out⟩, HH4, ⟨LA9.rep, LA9.out, LA9.rout, LA9.seen, LA9.rseen⟩, p1.trans p9, hgo1, by show 0 ≤ L1.opn - 1; omega⟩
            · have HS := Lib.hid (if_neg hs : (if vr q ∈ L1.seen then (1 : Int) else 0) = 0)
              have HN := Lib.hid hnx
              clear hs hnx
              go_wp2_with (first | (go_at_call 70; refine (variable70 q _ hq1 hq2).mono ?_; rintro e w' ⟨rfl, rfl⟩) | (at_lookup; refine lookup_seen rfl _ _ rfl rfl LA.seen rfl hqb 0 HS.out ?_))
              go_roundg (gk - 1)
              case measure => omega
              case rel => exact ⟨m - 1, by go_num, by omega, by omega, HN, LA, p1⟩
end Go.Proofs.Ytfmoldfajmfieaa
