/-
  A clause that is watched at its first two literals.
-/
import Derived.Test.YtfmoldfajmfieaaNext
namespace Go.Proofs.Ytfmoldfajmfieaa
open Go.RowKit
def Sol.watchAt (S : Sol) (x : Int) : Option (List Int) := if -1099511627776 < x ∧ x < 1099511627776 then S.watch[lc x]? else none
/-- One clause more is watched at a literal. -/
def Sol.watchAdd (S : Sol) (x k : Int) : Option Sol := (S.watchAt x).bind fun l => if l.length < 1099511627776 then some { S with watch := S.watch.set (lc x) (l ++ [k]) } else none
/-- A clause of two literals and more. -/
def Sol.keep (S : Sol) (c : List Int) : Option (Sol × Int) :=
  if S.cls.length < 1099511627776 then (c[0]?).bind fun x => (c[1]?).bind fun y =>
    (({ S with cls := S.cls ++ [c] } : Sol).watchAdd x S.cls.length).bind fun S1 => (S1.watchAdd y S.cls.length).map fun S2 => (S2, (S.cls.length : Int))
  else none

theorem watchAt_some {S : Sol} {x : Int} {l : List Int} (h : S.watchAt x = some l) : -1099511627776 < x ∧ x < 1099511627776 ∧ S.watch[lc x]? = some l ∧ lc x < S.watch.length := by
  unfold Sol.watchAt at h
  split at h
  · next hx => exact ⟨hx.1, hx.2, h, (List.getElem?_eq_some_iff.1 h).1⟩
  · cases h

theorem AppTo.ne_of {w w' : World} {ρ : Nat → Option Role} {g : Option Nat} {g' k : Nat} {r q : Role} (ha : AppTo w w' g g') (hk : ρ k = some q) (hr : ∀ j, g = some j → ρ j = some r) (hne : r ≠ q) (hlt : k < w.heap.size) : k ≠ g' := by
  intro e
  subst e
  rcases ha.role hr with h | h
  · rw [hk] at h; cases h; exact hne rfl
  · omega
section
variable {B : Nat} {w : World} {ρ : Nat → Option Role} {b : Nat} {S : Sol} {V : Vals}
/-- The table of what is watched, and a literal's row in it. -/
theorem Rep.watchAt' (h : Rep B w ρ b S V) {x : Int} {l : List Int} (hx : S.watchAt x = some l) :
    ∃ g cap v, V.w = .slice (some ⟨g, 0, none⟩) S.watch.length cap ∧ ρ g = some .W ∧ RowG w 35 1 V.w S.watch.length V.ws (some g) ∧ w.cell? ⟨g, lc x, none⟩ = some v ∧ V.ws[lc x]? = some v ∧ RowR w ρ 3 1 v l.length (l.map vI) (.L (lc x)) := by
  obtain ⟨_, _, h3, h4⟩ := watchAt_some hx
  obtain ⟨g, cap, hv, _, hr, hG⟩ := h.hw.at (by omega)
  have hlt : lc x < V.ws.length := by rw [h.hl.1]; exact h4
  refine ⟨g, cap, V.ws[lc x], hv, hr, hG, hG.cellAt (List.getElem?_eq_getElem hlt), List.getElem?_eq_getElem hlt, h.hl.2 _ _ _ (List.getElem?_eq_getElem hlt) h3⟩
end

set_option maxHeartbeats 1000000 in
set_option maxRecDepth 100000 in
theorem keep60w {B : Nat} {w : World} {ρ : Nat → Option Role} {b : Nat} {S S' : Sol} {V : Vals} (hRep : Rep B w ρ b S V) {gc cc : Nat} {c : List Int} {k : Int}
    (hc : RowG w 3 1 (.slice (some ⟨gc, 0, none⟩) c.length cc) c.length (c.map vI) (some gc)) (hrc : ρ gc = some (.K S.cls.length)) (hk : S.keep c = some (S', k)) :
    Calls Try.prog 60 #[.pointer (some ⟨b, 0, none⟩), .slice (some ⟨gc, 0, none⟩) c.length cc] w fun e w' => e = .returned (.int .i64 k) ∧ ∃ ρ' V', Rep B w' ρ' b S' V' ∧ Path w ρ w' ρ' ∧ V'.cs[S.cls.length]? = some (Value.slice (some ⟨gc, 0, none⟩) c.length cc) ∧ S'.cls[S.cls.length]? = some c := by
  unfold Sol.keep at hk
  obtain ⟨hcl, hk⟩ : S.cls.length < 1099511627776 ∧ _ := by
    split at hk
    · next h => exact ⟨h, hk⟩
    · cases hk
  rw [Option.bind_eq_some_iff] at hk
  obtain ⟨x, hx, hk⟩ := hk
  rw [Option.bind_eq_some_iff] at hk
  obtain ⟨y, hy, hk⟩ := hk
  rw [Option.bind_eq_some_iff] at hk
  obtain ⟨S1, hS1, hk⟩ := hk
  rw [Option.map_eq_some_iff] at hk
  obtain ⟨S2, hS2, hk⟩ := hk
  simp only [Prod.mk.injEq] at hk
  obtain ⟨rfl, rfl⟩ := hk
  have hn2 : 2 ≤ c.length := by have := (List.getElem?_eq_some_iff.1 hy).1; omega
  have hcc : c.length ≤ cc := by obtain ⟨cap, cur, e, _, h, _⟩ := hc; cases e; exact h
  obtain ⟨aC, cC, hvC, _⟩ := hRep.hc.val
  have c1 := hRep.cell 1 V.c rfl
  rw [hvC] at c1
  obtain ⟨gC, hGC, hrC⟩ := hRep.hc
  rw [hvC] at hGC
  go_enter Try.func60, Try.ntmps60
  go_wp2_with (at_builtin; refine append_one rfl _ _ Try.underlying22 Try.inf35 rfl (by omega) rfl rfl _ rfl rfl (by simp) hGC hcl ?_; intro c7 w7 g7 hG7 ha7; have q7 := (hRep.appCell ha7 hrC (by simp) 1 V.c rfl).1; have q8 := (hRep.appCell ha7 hrC (by simp) 1 V.c rfl).2)
  obtain ⟨r1, p1⟩ := hRep.pushC (c := c) hc hrc ha7.keep ha7.lt (ha7.role hrC) (by rw [List.length_append]; exact hG7)
  have hz : c.length = c.length := rfl
  have hS0 : ∀ z, ({ S with cls := S.cls ++ [c] } : Sol).watchAdd x S.cls.length = some z → z = S1 := fun z h => by rw [hS1] at h; cases h; rfl
  have HREM : Hid (({ S with cls := S.cls ++ [c] } : Sol).watchAdd x S.cls.length = some S1 ∧ S1.watchAdd y S.cls.length = some S2) := Lib.hid ⟨hS1, hS2⟩
  have HX : Hid (c[0]? = some x ∧ c[1]? = some y) := Lib.hid ⟨hx, hy⟩
  have HV : Hid ((V.cs ++ [Value.slice (some ⟨gc, 0, none⟩) c.length cc])[S.cls.length]? = some (Value.slice (some ⟨gc, 0, none⟩) c.length cc) ∧ (S.cls ++ [c])[S.cls.length]? = some c) := Lib.hid ⟨by rw [List.getElem?_append_right (by rw [hRep.hk.1]; exact Nat.le_refl _), hRep.hk.1, Nat.sub_self]; rfl, by rw [List.getElem?_append_right (Nat.le_refl _), Nat.sub_self]; rfl⟩
  clear hS1 hS2 hx hy hS0 hz c1 hvC hGC hG7 ha7 hc hrc q7 q8
  go_loopg [27] 3 (fun kq v27 w' => ∃ (i : Nat) (ρ' : Nat → Option Role) (V' : Vals) (S' : Sol), v27 = .int .i64 i ∧ i ≤ 2 ∧ 3 ≤ kq + i ∧ Rep B w' ρ' b S' V' ∧ Path w ρ w' ρ' ∧
    Hid (V'.cs[S.cls.length]? = some (Value.slice (some ⟨gc, 0, none⟩) c.length cc) ∧ S'.cls[S.cls.length]? = some c) ∧
    Hid ((i = 0 → S'.watchAdd x S.cls.length = some S1) ∧ (i = 1 → S' = S1) ∧ (i = 2 → S' = S2)))
  case atStart => exact ⟨0, _, _, _, rfl, by omega, by omega, r1, p1, HV, Lib.hid ⟨fun _ => HREM.out.1, fun h => by omega, fun h => by omega⟩⟩
  case round =>
    clear r1 p1 HV
    obtain ⟨i, ρ', V', S', rfl, hi, hk, r1, p1, HV, HR⟩ := hrel
    by_cases hi2 : i = 2
    · subst hi2
      have e := HR.out.2.2 rfl
      go_wp2
      go_ret
      exact ⟨rfl, _, _, by rw [← e]; exact r1, p1, HV.out.1, by rw [← e]; exact HV.out.2⟩
    · have hlt : i < 2 := by omega
      obtain ⟨z, S3, hz, hS3, hnext⟩ : ∃ z S3, c[i]? = some z ∧ S'.watchAdd z S.cls.length = some S3 ∧ (i + 1 = 1 → S3 = S1) ∧ (i + 1 = 2 → S3 = S2) := by
        rcases Nat.lt_or_ge i 1 with h0 | h0
        · have : i = 0 := by omega
          subst this
          exact ⟨x, S1, HX.out.1, HR.out.1 rfl, fun _ => rfl, fun h => by omega⟩
        · have : i = 1 := by omega
          subst this
          exact ⟨y, S2, HX.out.2, by rw [HR.out.2.1 rfl]; exact HREM.out.2, fun h => by omega, fun _ => rfl⟩
      unfold Sol.watchAdd at hS3
      rw [Option.bind_eq_some_iff] at hS3
      obtain ⟨l, hl, hS3⟩ := hS3
      obtain ⟨hll, hS3⟩ : l.length < 1099511627776 ∧ { S' with watch := S'.watch.set (lc z) (l ++ [(S.cls.length : Int)]) } = S3 := by
        split at hS3
        · next h => exact ⟨h, Option.some.inj hS3⟩
        · cases hS3
      obtain ⟨h1, h2, _, hlw⟩ := watchAt_some hl
      obtain ⟨gW, cW, v, hvW, hrW, hGW, hcW, hws, hrow⟩ := r1.watchAt' hl
      obtain ⟨hGc, _⟩ := (r1.hk.2 _ _ _ HV.out.1 HV.out.2).atOf rfl (by omega)
      have cz : wr.cell? ⟨gc, i, none⟩ = some (.int .i64 z) := hGc.cellAt (by rw [List.getElem?_map, hz]; rfl)
      have c2 := r1.cell 2 V'.w rfl
      rw [hvW] at c2
      obtain ⟨aL, cL, hvL, _⟩ := hrow.val
      obtain ⟨gL, hGL, hrL⟩ := hrow
      have hgW := hGW.lt
      subst hvL
      have HZ := Lib.hid hz
      have HN := Lib.hid hnext
      have HS3 := Lib.hid hS3
      have Hvw := Lib.hid hvW
      have Hws := Lib.hid hws
      clear hz hnext hS3 HR hvW hws hGc hl
      go_wp2_with fail
      refine (at64 _ _ _ _ _ hlw h1 h2).mono ?_
      rintro e w3 ⟨rfl, hb3⟩
      obtain ⟨r3, p3⟩ := r1.below hb3
      replace p3 := p1.trans p3
      have d3 := bcell hb3 hcW hgW
      have hGL3 : RowG w3 3 1 (.slice aL l.length cL) l.length (l.map vI) gL := hGL.same fun k e => hb3.block _ (by subst e; exact hGL.lt)
      have hGW3 : RowG w3 35 1 V'.w S'.watch.length V'.ws (some gW) := hGW.same fun k e => by cases e; exact hb3.block _ hgW
      clear c2 cz hcW hb3 r1 p1 hGL hGW
      go_wp2_with (at_builtin; refine append_int rfl _ _ rfl _ rfl rfl (by simp) hGL3 hll ?_; intro c7 w7 g7 hG7 ha7; have hne := ha7.ne_of hrW hrL (by simp) hGW3.lt; have q7 := (ha7.keep.cell (p := ⟨gW, lc z, none⟩) hGW3.lt hne).trans d3; have q8 := (ha7.keep.frozen (p := ⟨gW, lc z, none⟩) hGW3.lt hne).trans (hGW3.free _ _))
      go_roundg (gk - 1)
      case measure => omega
      case rel =>
        obtain ⟨r8, p8⟩ := r3.setL (l := l ++ [(S.cls.length : Int)]) hrW hGW3 ha7.keep ha7.lt (ha7.role hrL) (by rw [List.length_append]; exact hG7)
        rw [HS3.out] at r8
        exact ⟨i + 1, _, _, _, by go_num, by omega, by omega, r8, p3.trans p8, Lib.hid ⟨HV.out.1, by rw [← HS3.out]; exact HV.out.2⟩, Lib.hid ⟨fun h => by omega, HN.out.1, HN.out.2⟩⟩
theorem keep60 {B : Nat} {w : World} {ρ : Nat → Option Role} {b : Nat} {S S' : Sol} {V : Vals} (hRep : Rep B w ρ b S V) {gc cc : Nat} {c : List Int} {k : Int}
    (hc : RowG w 3 1 (.slice (some ⟨gc, 0, none⟩) c.length cc) c.length (c.map vI) (some gc)) (hrc : ρ gc = some (.K S.cls.length)) (hk : S.keep c = some (S', k)) :
    Calls Try.prog 60 #[.pointer (some ⟨b, 0, none⟩), .slice (some ⟨gc, 0, none⟩) c.length cc] w fun e w' => e = .returned (.int .i64 k) ∧ StepTo B w ρ b S' w' :=
  (keep60w hRep hc hrc hk).mono fun _ _ ⟨he, _, _, r, p, _⟩ => ⟨he, .of r p⟩
end Go.Proofs.Ytfmoldfajmfieaa
