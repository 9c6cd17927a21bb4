/-
  The solver goes back to a level.
-/
import Derived.Test.YtfmoldfajmfieaaNext
namespace Go.Proofs.Ytfmoldfajmfieaa
open Go.RowKit
/-- A literal loses its value. -/
def Sol.unset (S : Sol) (x : Int) : Option Sol :=
  (S.lit x).bind fun _ => if vr x < S.phase.length then some { S with is := S.is.set (lc x) false, phase := S.phase.set (vr x).toNat (decide (0 < x)) } else none
def Sol.undoLits (S : Sol) : List Int → Option Sol
  | [] => some S
  | x :: l => (S.unset x).bind fun S1 => S1.undoLits l
/-- Back to a level. -/
def Sol.undo (S : Sol) (level : Int) : Option Sol :=
  if (S.marks.length : Int) ≤ level then some S else
  if 0 ≤ level then (S.marks[level.toNat]?).bind fun mk =>
    if 0 ≤ mk ∧ mk < S.trail.length ∧ S.trail.length < 1099511627776 then (S.undoLits (S.trail.drop mk.toNat)).map fun S1 => { S1 with trail := S.trail.take mk.toNat, marks := S.marks.take level.toNat, done := mk }
    else none
  else none

/-- What an unset leaves. -/
theorem unset_same {S S1 : Sol} {x : Int} (h : S.unset x = some S1) : S1.trail = S.trail ∧ S1.marks = S.marks ∧ (∃ t, S.lit x = some t) ∧ vr x < S.phase.length ∧
    S1 = { S with is := S.is.set (lc x) false, phase := S.phase.set (vr x).toNat (decide (0 < x)) } := by
  unfold Sol.unset at h
  rw [Option.bind_eq_some_iff] at h
  obtain ⟨t, ht, h⟩ := h
  split at h
  · next hv => cases h; exact ⟨rfl, rfl, ⟨t, ht⟩, hv, rfl⟩
  · cases h
theorem drop_cons' {l : List Int} {m i : Nat} {x : Int} {r : List Int} (h : (l.drop m).drop i = x :: r) : l[m + i]? = some x ∧ (l.drop m).drop (i + 1) = r ∧ m + i < l.length := by
  rw [List.drop_drop] at h
  have hlt : m + i < l.length := by
    rcases Nat.lt_or_ge (m + i) l.length with h1 | h1
    · exact h1
    · rw [List.drop_eq_nil_of_le h1] at h; cases h
  rw [List.drop_eq_getElem_cons hlt] at h
  injection h with h1 h2
  refine ⟨by rw [List.getElem?_eq_getElem hlt, h1], ?_, hlt⟩
  rw [List.drop_drop, ← h2]; congr 1

set_option maxHeartbeats 1000000 in
set_option maxRecDepth 100000 in
/-- undo, where there is nothing to do. -/
theorem undo_none {B : Nat} {w : World} {ρ : Nat → Option Role} {b : Nat} {S : Sol} {V : Vals} (hRep : Rep B w ρ b S V) (level : Int) (hl : (S.marks.length : Int) ≤ level) :
    Calls Try.prog 67 #[.pointer (some ⟨b, 0, none⟩), .int .i64 level] w fun e w' => e = .returned (.tuple #[]) ∧ StepTo B w ρ b S w' := by
  obtain ⟨aM, cM, hvM, _⟩ := hRep.hm.val
  have cm := hRep.cell 6 V.m rfl
  rw [hvM] at cm
  clear hvM
  go_enter Try.func67, Try.ntmps67
  go_wp2
  exact bodyPost_ret (results_none rfl _ _ _) rfl ⟨rfl, StepTo.quiet hRep (Below.refl _ _)⟩

set_option maxHeartbeats 1000000 in
set_option maxRecDepth 100000 in
theorem undo_some {B : Nat} {w : World} {ρ : Nat → Option Role} {b : Nat} {S S2 : Sol} {V : Vals} (hRep : Rep B w ρ b S V) (level mk : Nat) (hl : level < S.marks.length) (hm : S.marks[level]? = some (mk : Int)) (hmk : mk < S.trail.length) (hcap : S.trail.length < 1099511627776)
    (hu : S.undoLits (S.trail.drop mk) = some S2) :
    Calls Try.prog 67 #[.pointer (some ⟨b, 0, none⟩), .int .i64 level] w fun e w' => e = .returned (.tuple #[]) ∧ StepTo B w ρ b { S2 with trail := S.trail.take mk, marks := S.marks.take level, done := mk } w' := by
  obtain ⟨gM, cM, hvM, _, hrM, hGM⟩ := hRep.hm.at (by omega)
  obtain ⟨gT, cT, hvT, hcT, hrT, hGT⟩ := hRep.ht.at (by omega)
  have cm := hRep.cell 6 V.m rfl
  have ct := hRep.cell 5 V.t rfl
  rw [hvM] at cm
  rw [hvT] at ct
  have cmk : w.cell? ⟨gM, level, none⟩ = some (.int .i64 mk) := hGM.cellAt (by rw [List.getElem?_map, hm]; rfl)
  have cm' := fun u : Bel w => u.cell cm (heap_lt hRep.hb)
  have ct' := fun u : Bel w => u.cell ct (heap_lt hRep.hb)
  have cmk' := fun u : Bel w => u.cell cmk hGM.lt
  have HU := Lib.hid hu
  have hcm : mk < cT := by omega
  have hvM' := Lib.hid hvM
  have hvT' := Lib.hid hvT
  have hm' := Lib.hid hm
  have hdec : decide (S.marks.length ≤ level) = false := by simp; omega
  clear hu hvM hvT hm cmk
  go_enter Try.func67, Try.ntmps67
  go_wp2_with fail
  refine region_quiet (by kernel_rfl) (by kernel_rfl) ?_
  repeat (first | go_big_quiet_step (fail) | quiet_step (fail))
  refine wpQuiet_nil ?_
  rintro w' ⟨u, rfl⟩
  go_wp2_with fail
  clear cm' ct' cmk' cm ct
  go_loopg [26] (S.trail.length + 1) (fun kq v26 w' => ∃ (S1 : Sol) (i : Nat), v26 = .int .i64 i ∧ mk + i ≤ S.trail.length ∧ S.trail.length - mk - i < kq ∧ Hid (S1.undoLits ((S.trail.drop mk).drop i) = some S2) ∧ Rep B w' ρ b S1 V ∧ Path w ρ w' ρ ∧ Hid (S1.trail = S.trail ∧ S1.marks = S.marks))
  case atStart => exact ⟨S, 0, rfl, by omega, by omega, HU, hRep.quiet u.2, Path.below hRep.dom' u.2, Lib.hid ⟨rfl, rfl⟩⟩
  case round =>
    obtain ⟨S1, i, rfl, hi, hk, HA, r1, p1, HS⟩ := hrel
    clear HU
    by_cases hlt : mk + i < S.trail.length
    · have hlt2 : i < S.trail.length - mk := by omega
      obtain ⟨x, r, hxr⟩ : ∃ x r, (S.trail.drop mk).drop i = x :: r := by
        cases h : (S.trail.drop mk).drop i with
        | nil => have := congrArg List.length h; simp at this; omega
        | cons x r => exact ⟨x, r, rfl⟩
      obtain ⟨hx, hr, _⟩ := drop_cons' hxr
      have HA1 := HA.out
      rw [hxr, Sol.undoLits, Option.bind_eq_some_iff] at HA1
      obtain ⟨S3, hS3, HA1⟩ := HA1
      rw [← hr] at HA1
      have HA2 := Lib.hid HA1
      clear HA1 HA hxr hr
      obtain ⟨e1, e2, ⟨t, ht⟩, hph, hS3'⟩ := unset_same hS3
      obtain ⟨h1, h2, _, hn⟩ := lit_some ht
      obtain ⟨gI, cap, hvI, hrI, hGI, hcI⟩ := r1.litAt ht
      have c3 := r1.cell 3 V.i rfl
      rw [hvI] at c3
      have hgl := hGI.lt
      obtain ⟨hGT', _⟩ := r1.ht.atOf (by rw [HS.out.1]; exact hvT'.out) (by rw [HS.out.1]; omega)
      have cx : wr.cell? ⟨gT, mk + i, none⟩ = some (.int .i64 x) := hGT'.cellAt (by rw [HS.out.1, List.getElem?_map, hx]; rfl)
      have HSx := Lib.hid hS3'
      have hHS2 : Hid (S3.trail = S.trail ∧ S3.marks = S.marks) := Lib.hid ⟨e1.trans HS.out.1, e2.trans HS.out.2⟩
      clear hx hS3 e1 e2 hvI hS3' hGT'
      go_wp2_with fail
      refine (at65 _ _ _ _ _ hn h1 h2).mono ?_
      rintro e w3 ⟨rfl, hb3⟩
      have r3 := r1.quiet hb3
      have p3 := p1.trans (Path.below r1.dom' hb3)
      have d3 := bcell hb3 hcI hgl
      have f3 : w3.frozen? ⟨gI, lc x, none⟩ = false := (hb3.frozen (p := ⟨gI, lc x, none⟩) hgl).trans (hGI.free _ _)
      have hGI3 : RowG w3 4 1 V.i S1.is.length (S1.is.map vB) (some gI) := hGI.same fun k e => by cases e; exact hb3.block _ hgl
      obtain ⟨r4, p4⟩ : Rep B (w3.setCell ⟨gI, lc x, none⟩ (.bool false)) ρ b { S1 with is := S1.is.set (lc x) false } V ∧ Path w3 ρ (w3.setCell ⟨gI, lc x, none⟩ (.bool false)) ρ := r3.setI hrI hGI3 (lc x) false
      replace p4 := p3.trans p4
      clear c3 hcI cx
      go_wp2_with fail
      generalize w3.setCell ⟨gI, lc x, none⟩ (Value.bool false) = w4 at r4 p4 ⊢
      clear d3 f3 hGI3 hGI hb3 r3 p3 p1 r1
      have hv0 : 0 ≤ vr x := by unfold vr; split <;> omega
      refine region_tail 9 (by kernel_rfl) (by kernel_rfl) (fun w5 hw5 => ?_)
      simp only [List.take_succ_cons, List.take_zero, List.drop_succ_cons, List.drop_zero]
      obtain ⟨r5, p5⟩ := r4.below hw5.below
      replace p5 := p4.trans p5
      clear r4 p4 hw5 w4
      obtain ⟨gP, cP, hvP, _, hrP, hGP⟩ := r5.hp.at (by show 0 < S1.phase.length; omega)
      have cp := r5.cell 9 V.p rfl
      rw [hvP] at cp
      dsimp only at cp hGP
      obtain ⟨q, hq⟩ : ∃ q, S1.phase[(vr x).toNat]? = some q := ⟨_, List.getElem?_eq_getElem (by omega)⟩
      have cp2 : w5.cell? ⟨gP, (vr x).toNat, none⟩ = some (.bool q) := hGP.cellAt (by rw [List.getElem?_map, hq]; rfl)
      have fp := hGP.free (vr x).toNat none
      clear hvP hq
      repeat still_step
      still_call (variable70 x _ h1 h2)
      repeat still_step
      refine wpStill_nil ?_
      obtain ⟨r6, p6⟩ : Rep B (w5.setCell ⟨gP, (vr x).toNat, none⟩ (.bool (decide (0 < x)))) ρ b { S1 with is := S1.is.set (lc x) false, phase := S1.phase.set (vr x).toNat (decide (0 < x)) } V ∧ Path w5 ρ (w5.setCell ⟨gP, (vr x).toNat, none⟩ (.bool (decide (0 < x)))) ρ := r5.setP hrP hGP _ (decide (0 < x))
      replace p6 := p5.trans p6
      go_wp2_with fail
      go_roundg (gk - 1)
      case measure => omega
      case rel => exact ⟨S3, i + 1, by go_num, by omega, by omega, HA2, by rw [HSx.out]; exact r6, p6, hHS2⟩
    · have hS2 : S1 = S2 := by
        have := HA.out
        rw [List.drop_drop, List.drop_eq_nil_of_le (by omega)] at this
        simpa [Sol.undoLits] using this
      have hnl : ¬ i < S.trail.length - mk := by omega
      obtain ⟨hGM1, _⟩ := r1.hm.atOf (by rw [HS.out.2]; exact hvM'.out) (by rw [HS.out.2]; omega)
      have cmk1 : wr.cell? ⟨gM, level, none⟩ = some (.int .i64 mk) := hGM1.cellAt (by rw [HS.out.2, List.getElem?_map, hm'.out]; rfl)
      have cm1 := r1.cell 6 V.m rfl
      have ct1 := r1.cell 5 V.t rfl
      rw [hvM'.out] at cm1
      rw [hvT'.out] at ct1
      have HS2 := Lib.hid hS2
      have hbl := heap_lt r1.hb
      have hgm := hGM1.lt
      clear hS2 HA
      go_wp2_with fail
      refine region_tail 15 (by kernel_rfl) (by kernel_rfl) (fun w5 hw5 => ?_)
      simp only [List.take_succ_cons, List.take_zero, List.drop_succ_cons, List.drop_zero]
      have hb5 := hw5.below
      have cmk2 := bcell hb5 cmk1 hgm
      have cm2 := bcell hb5 cm1 hbl
      have ct2 := bcell hb5 ct1 hbl
      obtain ⟨r5, p5⟩ := r1.below hb5
      replace p5 := p1.trans p5
      have f5 := fun o => r5.free o
      clear cmk1 cm1 ct1 hw5 hGM1
      have hle : mk ≤ cT := by omega
      repeat still_step
      refine wpStill_nil ?_
      obtain ⟨aT, cT', hvT2, _, hcut⟩ := r5.ht.cut (show mk ≤ S1.trail.length by rw [HS.out.1]; omega)
      rw [hvT'.out, HS.out.1] at hvT2
      injection hvT2 with e1 _ e2
      subst e1
      subst e2
      rw [← List.map_take, HS.out.1] at hcut
      obtain ⟨r6, p6⟩ := r5.cutT (v' := .slice (some ⟨gT, 0, none⟩) mk cT) (l := S.trail.take mk) (by rw [List.length_take, Nat.min_eq_left (by omega)]; exact hcut)
      replace p6 := p5.trans p6
      obtain ⟨aM, cM', hvM2, hlM, hcutM⟩ := r6.hm.cut (show level ≤ S1.marks.length by rw [HS.out.2]; omega)
      dsimp only at hvM2
      rw [hvM'.out, HS.out.2] at hvM2
      injection hvM2 with e1 _ e2
      subst e1
      subst e2
      rw [← List.map_take] at hcutM
      dsimp only at hcutM
      rw [HS.out.2] at hcutM
      obtain ⟨r7, p7⟩ := r6.cutM (v' := .slice (some ⟨gM, 0, none⟩) level cM) (l := S.marks.take level) (by rw [List.length_take, Nat.min_eq_left (by omega)]; exact hcutM)
      replace p7 := p6.trans p7
      have c8 := r7.cell 5 (.slice (some ⟨gT, 0, none⟩) mk cT) rfl
      have c9 := r7.cell 7 (.int .i64 S1.done) rfl
      have c10 := r6.cell 6 V.m rfl
      rw [hvM'.out] at c10
      have hlM' : level ≤ cM := by rw [HS.out.2] at hlM; omega
      go_wp2_with fail
      go_end0
      obtain ⟨r8, p8⟩ := r7.setDone mk
      replace p8 := p7.trans p8
      rw [HS2.out] at r8
      exact ⟨rfl, .of r8 p8⟩

theorem undo67 {B : Nat} {w : World} {ρ : Nat → Option Role} {b : Nat} {S S' : Sol} {V : Vals} (hRep : Rep B w ρ b S V) (level : Int) (hu : S.undo level = some S') :
    Calls Try.prog 67 #[.pointer (some ⟨b, 0, none⟩), .int .i64 level] w fun e w' => e = .returned (.tuple #[]) ∧ StepTo B w ρ b S' w' := by
  unfold Sol.undo at hu
  split at hu
  · next hl => cases hu; exact undo_none hRep level hl
  · next hl =>
    split at hu
    · next h0 =>
      rw [Option.bind_eq_some_iff] at hu
      obtain ⟨mk, hmk, hu⟩ := hu
      split at hu
      · next hm =>
        rw [Option.map_eq_some_iff] at hu
        obtain ⟨S2, h2, rfl⟩ := hu
        obtain ⟨n, rfl⟩ := Int.eq_ofNat_of_zero_le h0
        obtain ⟨m, rfl⟩ := Int.eq_ofNat_of_zero_le hm.1
        simp only [Int.toNat_natCast] at hmk h2 ⊢
        exact undo_some hRep n m (by omega) hmk (by omega) hm.2.2 h2
      · cases hu
    · cases hu
end Go.Proofs.Ytfmoldfajmfieaa
