/-
  The solver's law in plain Lean: the clause that is learned follows; a turn keeps what is so. No program in sight.
-/
import Derived.Test.YtfmoldfajmfieaaLawA
namespace Go.Proofs.Ytfmoldfajmfieaa
open Go.RowKit
/-- A set of literals without opposites, in which no clause fails, and from which nothing follows by one clause that isn't in it. -/
def Closed (D : List (List Int)) (A : Int → Prop) : Prop :=
  (∀ x, A x → ¬ A (-x)) ∧ ∀ d ∈ D, (∃ z ∈ d, ¬ A (-z)) ∧ ∀ y ∈ d, (∀ z ∈ d, z ≠ y → A (-z)) → A y
/-- A clause follows by what follows one by one. -/
def Rup (D : List (List Int)) (c : List Int) : Prop := ∀ A, Closed D A → ¬ ∀ x ∈ c, A (-x)
theorem zero_closed {n : Nat} {D : List (List Int)} {S : Sol} (h : Good n D S) {A : Int → Prop} (hA : Closed D A) : ∀ (i : Nat) (x : Int), S.trail[i]? = some x → lvl S.marks i = 0 → A x := by
  intro i
  induction i using Nat.strongRecOn with
  | ind i ih =>
    intro x hx hl
    obtain ⟨b, hb⟩ := h.base.why i x hx
    cases h.rsn i x b _ hx hb with
    | unit _ d hd hxd e => exact (hA.2 d hd).2 x hxd fun z hz hne => absurd (e z hz) hne
    | mark h0 _ => omega
    | clause _ _ c hc hxc ho _ =>
      obtain ⟨d, hd, hsame⟩ := h.src c (List.mem_of_getElem? hc)
      refine (hA.2 d hd).2 x ((hsame x).1 hxc) fun z hz hne => ?_
      obtain ⟨j, hj, hjt⟩ := ho z ((hsame z).2 hz) hne
      exact ih j hj (-z) hjt (by have := lvl_mono (marks := S.marks) (Nat.le_of_lt hj); omega)

/-- What learn has gathered; r: literals of a reason that are still to be looked at; a: beyond it the trail was gone through; ol: the variables of the last level that are open. -/
structure LInv (n : Nat) (U : Int → Prop) (S : Sol) (r : List Int) (L : Lrn) (a : Nat) (outs ol : List Int) : Prop where
  al : a ≤ S.trail.length
  rl : ∀ z ∈ r, IsLit n z ∧ U (vr z) ∧ (vr z ∈ L.seen ∨ ∃ j, j < a ∧ S.trail[j]? = some (-z))
  seen : ∀ v ∈ L.seen, U v ∧ ∃ j y, S.trail[j]? = some y ∧ vr y = v ∧ 0 < lvl S.marks j
  seenN : L.seen.Nodup
  out : L.out = 0 :: outs
  outsP : ∀ z ∈ outs, vr z ∈ L.seen ∧ IsLit n z ∧ ∃ j, S.trail[j]? = some (-z) ∧ 0 < lvl S.marks j ∧ lvl S.marks j < S.marks.length
  outsAll : ∀ j y, S.trail[j]? = some y → vr y ∈ L.seen → lvl S.marks j < S.marks.length → -y ∈ outs
  outsN : (outs.map vr).Nodup
  outsL : outs.length ≤ L.seen.length
  back0 : outs = [] → L.back = 0
  back : ∀ z ∈ outs, ∀ j : Nat, S.trail[j]? = some (-z) → (lvl S.marks j : Int) ≤ L.back
  backE : outs ≠ [] → ∃ z ∈ outs, ∃ j : Nat, S.trail[j]? = some (-z) ∧ (lvl S.marks j : Int) = L.back
  opn : L.opn = ol.length
  olN : ol.Nodup
  olP : ∀ v, v ∈ ol ↔ v ∈ L.seen ∧ ∃ j y, j < a ∧ S.trail[j]? = some y ∧ vr y = v ∧ lvl S.marks j = S.marks.length
  bump : L.bump.length = n + 1

section
variable {n : Nat} {U : Int → Prop} {S : Sol} {r outs ol : List Int} {L : Lrn} {a : Nat}
theorem LInv.seenL (h : LInv n U S r L a outs ol) (hB : Base n S) : L.seen.length ≤ n :=
  nodup_len n (a := 1) (b := n + 1) h.seenN (fun v hv => by
    obtain ⟨_, j, y, hy, rfl, _⟩ := h.seen v hv
    have := (hB.lits y (List.mem_of_getElem? hy)).vr
    omega) (by omega)
theorem LInv.olL (h : LInv n U S r L a outs ol) (hB : Base n S) : ol.length ≤ n :=
  nodup_len n (a := 1) (b := n + 1) h.olN (fun v hv => by
    obtain ⟨hv, _⟩ := (h.olP v).1 hv
    obtain ⟨_, j, y, hy, rfl, _⟩ := h.seen v hv
    have := (hB.lits y (List.mem_of_getElem? hy)).vr
    omega) (by omega)
theorem LInv.skip {z : Int} (h : LInv n U S (z :: r) L a outs ol) : LInv n U S r L a outs ol :=
  ⟨h.al, fun y hy => h.rl y (by simp [hy]), h.seen, h.seenN, h.out, h.outsP, h.outsAll, h.outsN, h.outsL, h.back0, h.back, h.backE, h.opn, h.olN, h.olP, h.bump⟩

set_option maxHeartbeats 1000000 in
theorem lrnLit_ok (hB : Base n S) {z : Int} (h : LInv n U S (z :: r) L a outs ol) :
    ∃ L1 outs1 ol1, S.lrnLit L z = some L1 ∧ LInv n U S r L1 a outs1 ol1 ∧ (∀ v ∈ L.seen, v ∈ L1.seen) ∧ (vr z ∈ L1.seen ∨ ∃ j, S.trail[j]? = some (-z) ∧ lvl S.marks j = 0) := by
  obtain ⟨hz, hU, hzr⟩ := h.rl z (by simp)
  have hzv := hz.vr
  have hn := hB.hn
  unfold Sol.lrnLit
  rw [if_pos (hz.bound hn)]
  by_cases hs : vr z ∈ L.seen
  · rw [if_pos hs]
    exact ⟨L, outs, ol, rfl, h.skip, fun _ h => h, .inl hs⟩
  · rw [if_neg hs]
    obtain ⟨j, hja, hj⟩ := hzr.resolve_left hs
    have hjm := List.mem_of_getElem? hj
    have hzn : z ∉ S.trail := fun hm => hB.not_both hm hjm
    rw [hB.lit hz]
    simp only [hzn, decide_false, Option.bind_some, Bool.false_eq_true, if_false]
    rw [hB.level hj (vr_neg z).symm, Option.bind_some]
    by_cases h0 : lvl S.marks j = 0
    · rw [if_pos (by omega)]
      exact ⟨L, outs, ol, rfl, h.skip, fun _ h => h, .inr ⟨j, hj, h0⟩⟩
    · rw [if_neg (by omega)]
      obtain ⟨bv, hbv⟩ : ∃ bv, L.bump[(vr z).toNat]? = some bv := ⟨_, List.getElem?_eq_getElem (by rw [h.bump]; omega)⟩
      rw [hbv, Option.bind_some]
      have hsl := h.seenL hB
      have hol := h.olL hB
      have hopn := h.opn
      have hseen : ∀ v ∈ vr z :: L.seen, U v ∧ ∃ j y, S.trail[j]? = some y ∧ vr y = v ∧ 0 < lvl S.marks j := fun v hv => by
        rcases List.mem_cons.1 hv with rfl | hv
        · exact ⟨hU, j, -z, hj, vr_neg z, by omega⟩
        · exact h.seen v hv
      have hsn : (vr z :: L.seen).Nodup := List.nodup_cons.2 ⟨hs, h.seenN⟩
      have hrl : ∀ y ∈ r, IsLit n y ∧ U (vr y) ∧ (vr y ∈ vr z :: L.seen ∨ ∃ j, j < a ∧ S.trail[j]? = some (-y)) := fun y hy => by
        obtain ⟨h1, h2, h3⟩ := h.rl y (by simp [hy])
        exact ⟨h1, h2, h3.imp (fun h => by simp [h]) id⟩
      by_cases hd : lvl S.marks j = S.marks.length
      · rw [if_pos (by omega), if_pos (by omega)]
        refine ⟨_, outs, vr z :: ol, rfl, ⟨h.al, hrl, hseen, hsn, h.out, ?_, ?_, h.outsN, ?_, h.back0, h.back, h.backE, ?_, ?_, ?_, by simpa using h.bump⟩, fun v hv => by simp [hv], .inl (by simp)⟩
        · intro y hy
          obtain ⟨h1, h2⟩ := h.outsP y hy
          exact ⟨by simp [h1], h2⟩
        · intro j' y hy hv hlt
          rcases List.mem_cons.1 hv with hv | hv
          · have := hB.uniq hy hj (by rw [hv, vr_neg])
            subst this
            omega
          · exact h.outsAll j' y hy hv hlt
        · have := h.outsL
          simp; omega
        · show L.opn + 1 = _
          rw [h.opn]; simp
        · refine List.nodup_cons.2 ⟨fun hm => hs ((h.olP _).1 hm).1, h.olN⟩
        · intro v
          simp only [List.mem_cons]
          rw [h.olP]
          constructor
          · rintro (rfl | ⟨h1, h2⟩)
            · exact ⟨.inl rfl, j, -z, hja, hj, vr_neg z, hd⟩
            · exact ⟨.inr h1, h2⟩
          · rintro ⟨h1 | h1, h2⟩
            · exact .inl h1
            · exact .inr ⟨h1, h2⟩
      · have hlt : lvl S.marks j < S.marks.length := by have := lvl_le S.marks j; omega
        have hbk : L.out.length = outs.length + 1 := by rw [h.out]; simp
        have hol2 := h.outsL
        rw [if_neg (by omega), if_pos (by omega)]
        refine ⟨_, outs ++ [z], ol, rfl, ⟨h.al, hrl, hseen, hsn, by rw [h.out]; rfl, ?_, ?_, ?_, ?_, ?_, ?_, ?_, h.opn, h.olN, ?_, by simpa using h.bump⟩, fun v hv => by simp [hv], .inl (by simp)⟩
        · intro y hy
          rcases List.mem_append.1 hy with hy | hy
          · obtain ⟨h1, h2⟩ := h.outsP y hy
            exact ⟨by simp [h1], h2⟩
          · simp only [List.mem_singleton] at hy
            subst hy
            exact ⟨by simp, hz, j, hj, by omega, hlt⟩
        · intro j' y hy hv hlt'
          rcases List.mem_cons.1 hv with hv | hv
          · have := hB.uniq hy hj (by rw [hv, vr_neg])
            subst this
            rw [hj] at hy
            injection hy with hy
            simp; right; omega
          · simp [h.outsAll j' y hy hv hlt']
        · simp only [List.map_append, List.map_cons, List.map_nil]
          rw [List.nodup_append]
          refine ⟨h.outsN, by simp, ?_⟩
          intro v hv w hw
          simp only [List.mem_singleton] at hw
          subst hw
          obtain ⟨y, hy, rfl⟩ := List.mem_map.1 hv
          intro e
          exact hs (e ▸ (h.outsP y hy).1)
        · simp; omega
        · intro e; simp at e
        · intro y hy j' hj'
          show _ ≤ max L.back _
          rcases List.mem_append.1 hy with hy | hy
          · have := h.back y hy j' hj'
            omega
          · simp only [List.mem_singleton] at hy
            subst hy
            have := hB.uniq hj' hj rfl
            subst this
            omega
        · intro _
          show ∃ z' ∈ outs ++ [z], ∃ j' : Nat, S.trail[j']? = some (-z') ∧ (lvl S.marks j' : Int) = max L.back (lvl S.marks j : Int)
          by_cases hb : L.back ≤ (lvl S.marks j : Int)
          · exact ⟨z, by simp, j, hj, by omega⟩
          · have hne : outs ≠ [] := fun e => by have := h.back0 e; omega
            obtain ⟨z', hz', j', h1, h2⟩ := h.backE hne
            exact ⟨z', by simp [hz'], j', h1, by omega⟩
        · intro v
          rw [h.olP]
          simp only [List.mem_cons]
          constructor
          · rintro ⟨h1, h2⟩
            exact ⟨.inr h1, h2⟩
          · rintro ⟨h1 | h1, h2⟩
            · obtain ⟨j', y, _, hy, hv, hl⟩ := h2
              have := hB.uniq hy hj (by rw [hv, h1, vr_neg])
              subst this
              omega
            · exact ⟨h1, h2⟩
theorem lrnClause_ok (hB : Base n S) : ∀ (r : List Int) (L : Lrn) (outs ol : List Int), LInv n U S r L a outs ol →
    ∃ L1 outs1 ol1, S.lrnClause L r = some L1 ∧ LInv n U S [] L1 a outs1 ol1 ∧ (∀ v ∈ L.seen, v ∈ L1.seen) ∧ ∀ z ∈ r, vr z ∈ L1.seen ∨ ∃ j, S.trail[j]? = some (-z) ∧ lvl S.marks j = 0
  | [], L, outs, ol, h => ⟨L, outs, ol, rfl, h, fun _ h => h, by simp⟩
  | z :: r, L, outs, ol, h => by
    obtain ⟨L1, outs1, ol1, h1, h2, h3, h4⟩ := lrnLit_ok hB h
    obtain ⟨L2, outs2, ol2, k1, k2, k3, k4⟩ := lrnClause_ok hB r L1 outs1 ol1 h2
    refine ⟨L2, outs2, ol2, by rw [Sol.lrnClause, h1]; exact k1, k2, fun v hv => k3 v (h3 v hv), ?_⟩
    intro y hy
    rcases List.mem_cons.1 hy with rfl | hy
    · exact h4.imp (fun h => k3 _ h) id
    · exact k4 y hy
theorem lrnAt_ok (hB : Base n S) {seen : List Int} : ∀ (k : Nat), k < S.trail.length → (∃ j y, j ≤ k ∧ S.trail[j]? = some y ∧ vr y ∈ seen) →
    ∃ i y, S.lrnAt seen k = some i ∧ i ≤ k ∧ S.trail[i]? = some y ∧ vr y ∈ seen ∧ ∀ j y', i < j → j ≤ k → S.trail[j]? = some y' → vr y' ∉ seen
  | 0, hk, h => by
    obtain ⟨j, y, hj, hy, hs⟩ := h
    have : j = 0 := by omega
    subst this
    have hb := (hB.lits y (List.mem_of_getElem? hy)).bound hB.hn
    exact ⟨0, y, by rw [Sol.lrnAt, hy, Option.bind_some, if_pos ⟨hb.1, hb.2, hs⟩], Nat.le_refl _, hy, hs, fun j y' h1 h2 => by omega⟩
  | k + 1, hk, h => by
    obtain ⟨y, hy⟩ : ∃ y, S.trail[k + 1]? = some y := ⟨_, List.getElem?_eq_getElem hk⟩
    have hb := (hB.lits y (List.mem_of_getElem? hy)).bound hB.hn
    rw [Sol.lrnAt, hy, Option.bind_some, if_pos hb]
    by_cases hs : vr y ∈ seen
    · rw [if_pos hs]
      exact ⟨k + 1, y, rfl, Nat.le_refl _, hy, hs, fun j y' h1 h2 => by omega⟩
    · rw [if_neg hs]
      obtain ⟨i, y', h1, h2, h3, h4, h5⟩ := lrnAt_ok hB k (by omega) (by
        obtain ⟨j, y', hj, hy', hs'⟩ := h
        refine ⟨j, y', ?_, hy', hs'⟩
        rcases Nat.lt_or_ge k j with h | h
        · have : j = k + 1 := by omega
          subst this
          rw [hy] at hy'; cases hy'
          exact absurd hs' hs
        · exact h)
      refine ⟨i, y', h1, by omega, h3, h4, fun j z hj hjk hz => ?_⟩
      rcases Nat.lt_or_ge k j with h | h
      · have : j = k + 1 := by omega
        subst this
        rw [hy] at hz; cases hz
        exact hs
      · exact h5 j z hj h hz
end
/-- What was learned: y is turned, outs are the clause's other literals. -/
structure LRes (n : Nat) (U : Int → Prop) (S : Sol) (y : Int) (outs : List Int) (back : Int) (bump : List Int) : Prop where
  uip : ∃ i, S.trail[i]? = some y ∧ lvl S.marks i = S.marks.length
  used : U (vr y)
  outsP : ∀ z ∈ outs, U (vr z) ∧ IsLit n z ∧ ∃ j, S.trail[j]? = some (-z) ∧ 0 < lvl S.marks j ∧ lvl S.marks j < S.marks.length
  outsN : (outs.map vr).Nodup
  back0 : outs = [] → back = 0
  backP : ∀ z ∈ outs, ∀ j : Nat, S.trail[j]? = some (-z) → (lvl S.marks j : Int) ≤ back
  backE : outs ≠ [] → ∃ z ∈ outs, ∃ j : Nat, S.trail[j]? = some (-z) ∧ (lvl S.marks j : Int) = back
  bump : bump.length = n + 1

section
variable {n : Nat} {D : List (List Int)} {U : Int → Prop} {S : Sol}
set_option maxHeartbeats 1000000 in
theorem lrn_ok (hG : Good n D S) (hU : ∀ c ∈ S.cls, ∀ z ∈ c, U (vr z)) (hd : 0 < S.marks.length) : ∀ (f : Nat) (reason : List Int) (L : Lrn) (a : Nat) (outs ol : List Int), LInv n U S reason L a outs ol → a < f →
    (∃ z ∈ reason, ∃ j, j < a ∧ S.trail[j]? = some (-z) ∧ lvl S.marks j = S.marks.length) →
    ∃ bump y outs' back, S.lrn f reason L a = some (bump, -y :: outs', back) ∧ LRes n U S y outs' back bump ∧
      ∀ A, Closed D A → A y → (∀ z ∈ outs', A (-z)) → (∀ j y', S.trail[j]? = some y' → vr y' ∈ L.seen → (lvl S.marks j < S.marks.length ∨ j < a) → A y') ∧ ∀ z ∈ reason, ∀ j, j < a → S.trail[j]? = some (-z) → A (-z)
  | 0, _, _, _, _, _, _, h, _ => by omega
  | f + 1, reason, L, a, outs, ol, hL, hf, hex => by
    have hB := hG.base
    have htl := hB.trailL
    have hn := hB.hn
    obtain ⟨L1, outs1, ol1, h1, h2, h3, h4⟩ := lrnClause_ok hB reason L outs ol hL
    have hoL := h2.olL hB
    have hopn := h2.opn
    have hal := h2.al
    -- something is open
    obtain ⟨z0, hz0, j0, hj0, hjt0, hjl0⟩ := hex
    have hs0 : vr z0 ∈ L1.seen := (h4 z0 hz0).resolve_right fun ⟨j, hj, hl⟩ => by
      have := hB.uniq hj hjt0 rfl
      subst this
      omega
    have hol0 : vr z0 ∈ ol1 := (h2.olP _).2 ⟨hs0, j0, -z0, hj0, hjt0, vr_neg z0, hjl0⟩
    have holp : 0 < ol1.length := List.length_pos_of_mem hol0
    obtain ⟨i, y, g1, g2, g3, g4, g5⟩ := lrnAt_ok hB (seen := L1.seen) (a - 1) (by omega) ⟨j0, -z0, by omega, hjt0, by rw [vr_neg]; exact hs0⟩
    have hil : lvl S.marks i = S.marks.length := by
      have hle : j0 ≤ i := by
        rcases Nat.lt_or_ge i j0 with h | h
        · exact absurd (by rw [vr_neg]; exact hs0) (g5 j0 (-z0) h (by omega) hjt0)
        · exact h
      have := lvl_mono (marks := S.marks) hle
      have := lvl_le S.marks i
      omega
    have hyol : vr y ∈ ol1 := (h2.olP _).2 ⟨g4, i, y, by omega, g3, rfl, hil⟩
    rw [Sol.lrn, h1, Option.bind_some, if_pos ⟨by omega, hal, by omega, by omega, by rw [h2.out]; simp⟩, g1, Option.bind_some, g3, Option.bind_some]
    -- from what is asked of all that was seen then, to what was seen before
    have back : ∀ A : Int → Prop, Closed D A → (∀ j y', S.trail[j]? = some y' → vr y' ∈ L1.seen → (lvl S.marks j < S.marks.length ∨ j < a) → A y') →
        (∀ j y', S.trail[j]? = some y' → vr y' ∈ L.seen → (lvl S.marks j < S.marks.length ∨ j < a) → A y') ∧ ∀ z ∈ reason, ∀ j, j < a → S.trail[j]? = some (-z) → A (-z) := fun A hA hall =>
      ⟨fun j y' hj hv hc => hall j y' hj (h3 _ hv) hc, fun z hz j hja hj => by
        rcases h4 z hz with hs | ⟨j', hj', hl⟩
        · exact hall j (-z) hj (by rw [vr_neg]; exact hs) (.inr hja)
        · exact zero_closed hG hA j' (-z) hj' hl⟩
    by_cases ho : L1.opn = 1
    · rw [if_pos ho]
      refine ⟨L1.bump, y, outs1, L1.back, by rw [h2.out]; rfl, ⟨⟨i, g3, hil⟩, (h2.seen _ g4).1, fun z hz => ?_, h2.outsN, h2.back0, h2.back, h2.backE, h2.bump⟩, fun A hA hy ho' => back A hA fun j y' hj hv hc => ?_⟩
      · obtain ⟨k1, k2, k3⟩ := h2.outsP z hz
        exact ⟨(h2.seen _ k1).1, k2, k3⟩
      · by_cases hlt : lvl S.marks j < S.marks.length
        · have := ho' _ (h2.outsAll j y' hj hv hlt)
          rwa [Int.neg_neg] at this
        · have hja := hc.resolve_left hlt
          have hl : lvl S.marks j = S.marks.length := by have := lvl_le S.marks j; omega
          have hv' : vr y' ∈ ol1 := (h2.olP _).2 ⟨hv, j, y', hja, hj, rfl, hl⟩
          have hone : ol1.length = 1 := by omega
          obtain ⟨v, hv1⟩ := List.length_eq_one_iff.1 hone
          rw [hv1] at hv' hyol
          simp only [List.mem_singleton] at hv' hyol
          have := hB.uniq hj g3 (by rw [hv', hyol])
          subst this
          rw [g3] at hj; cases hj
          exact hy
    · rw [if_neg ho]
      obtain ⟨b, hb⟩ := hB.why i y g3
      have hR := hG.rsn i y b _ g3 hb
      rw [hb, Option.bind_some]
      -- y was not supposed
      have hcl : 0 ≤ b ∧ ∃ c, S.cls[b.toNat]? = some c ∧ y ∈ c ∧ (∀ z ∈ c, z ≠ y → ∃ j, j < i ∧ S.trail[j]? = some (-z)) ∧ ∃ z ∈ c, z ≠ y ∧ ∃ j, j < i ∧ S.trail[j]? = some (-z) ∧ lvl S.marks j = lvl S.marks i := by
        cases hR with
        | unit h0 => omega
        | mark h0 hm =>
          exfalso
          -- then i is the first place of its level
          have h2' : 2 ≤ ol1.length := by omega
          have hsub : ∀ v ∈ ol1, v = vr y := fun v hv => by
            obtain ⟨hv1, j, y', hja, hj, hvj, hjl⟩ := (h2.olP v).1 hv
            have hji : j ≤ i := by
              rcases Nat.lt_or_ge i j with h | h
              · exact absurd (by rw [hvj]; exact hv1) (g5 j y' h (by omega) hj)
              · exact h
            have hij : i ≤ j := by
              rw [hil] at hm
              have h5 := (lvl_iff hB.mks (i := j) (k := S.marks.length - 1)).1 (by omega)
              obtain ⟨m, h6, h7⟩ := h5
              rw [hm] at h6
              cases h6
              omega
            have : j = i := by omega
            subst this
            rw [g3] at hj; cases hj
            exact hvj.symm
          match ol1, h2.olN, h2', hsub with
          | v :: w :: l, hnod, _, hsub =>
            have e1 := hsub v (by simp)
            have e2 := hsub w (by simp)
            simp at hnod
            exact hnod.1.1 (by rw [e1, e2])
        | clause _ hb c hc hx ho hs => exact ⟨hb, c, hc, hx, ho, hs⟩
      obtain ⟨hb0, c, hc, hyc, hoth, hsame⟩ := hcl
      have hcm := List.mem_of_getElem? hc
      have hC := hG.cl c hcm
      rw [if_pos hb0, hc, Option.bind_some]
      have hL2 : LInv n U S c { L1 with opn := L1.opn - 1 } i outs1 (ol1.erase (vr y)) := by
        refine ⟨by omega, ?_, h2.seen, h2.seenN, h2.out, h2.outsP, h2.outsAll, h2.outsN, h2.outsL, h2.back0, h2.back, h2.backE, ?_, h2.olN.erase _, ?_, h2.bump⟩
        · intro z hz
          refine ⟨hC.lits z hz, hU c hcm z hz, ?_⟩
          by_cases e : z = y
          · subst e; exact .inl g4
          · exact .inr (hoth z hz e)
        · show L1.opn - 1 = _
          rw [List.length_erase_of_mem hyol, h2.opn]
          omega
        · intro v
          rw [h2.olN.mem_erase_iff, h2.olP]
          constructor
          · rintro ⟨hne, hv, j, y', hja, hj, hvj, hjl⟩
            refine ⟨hv, j, y', ?_, hj, hvj, hjl⟩
            rcases Nat.lt_trichotomy j i with h | h | h
            · exact h
            · subst h
              rw [g3] at hj; cases hj
              exact absurd hvj.symm hne
            · exact absurd (by rw [hvj]; exact hv) (g5 j y' h (by omega) hj)
          · rintro ⟨hv, j, y', hji, hj, hvj, hjl⟩
            refine ⟨fun e => ?_, hv, j, y', by omega, hj, hvj, hjl⟩
            have := hB.uniq hj g3 (by rw [hvj, e])
            omega
      obtain ⟨bump, y2, outs2, back2, r1, r2, r3⟩ := lrn_ok hG hU hd f c _ i outs1 _ hL2 (by omega) (by
        obtain ⟨z, hz, _, j, hj, hjt, hjl⟩ := hsame
        exact ⟨z, hz, j, hj, hjt, by omega⟩)
      refine ⟨bump, y2, outs2, back2, r1, r2, fun A hA hy ho' => back A hA fun j y' hj hv hc' => ?_⟩
      obtain ⟨s1, s2⟩ := r3 A hA hy ho'
      by_cases hlt : lvl S.marks j < S.marks.length
      · exact s1 j y' hj hv (.inl hlt)
      · have hja := hc'.resolve_left hlt
        rcases Nat.lt_trichotomy j i with h | h | h
        · exact s1 j y' hj hv (.inr h)
        · subst h
          rw [g3] at hj; cases hj
          obtain ⟨d, hd, hsd⟩ := hG.src c hcm
          refine (hA.2 d hd).2 y ((hsd y).1 hyc) fun z hz hne => ?_
          obtain ⟨j', hj', hjt'⟩ := hoth z ((hsd z).2 hz) hne
          exact s2 z ((hsd z).2 hz) j' hj' hjt'
        · exact absurd hv (g5 j y' h (by omega) hj)

/-- The clause that is learned follows. -/
theorem learn_ok (hG : Good n D S) (hU : ∀ c ∈ S.cls, ∀ z ∈ c, U (vr z)) (hd : 0 < S.marks.length) {k : Int} (hC : Conf S k) (f : Nat) (hf : n < f) :
    ∃ bump y outs back, S.learn f k = some ({ S with bump := bump }, -y :: outs, back) ∧ LRes n U S y outs back bump ∧ Rup D (-y :: outs) := by
  have hB := hG.base
  have htl := hB.trailL
  have hn := hB.hn
  obtain ⟨hk, c, hc, hall, z0, hz0, j0, hj0, hl0⟩ := hC
  have hcm := List.mem_of_getElem? hc
  have hL : LInv n U S c ⟨[], [0], 0, 0, S.bump⟩ S.trail.length [] [] := by
    refine ⟨Nat.le_refl _, fun z hz => ⟨(hG.cl c hcm).lits z hz, hU c hcm z hz, .inr ?_⟩, by simp, by simp, rfl, by simp, by simp, by simp, by simp, by simp, by simp, by simp, rfl, by simp, by simp, hB.bumpL⟩
    obtain ⟨j, hj⟩ := List.mem_iff_getElem?.1 (hall z hz)
    exact ⟨j, (List.getElem?_eq_some_iff.1 hj).1, hj⟩
  obtain ⟨bump, y, outs, back, r1, r2, r3⟩ := lrn_ok hG hU hd f c _ _ [] [] hL (by omega) ⟨z0, hz0, j0, (List.getElem?_eq_some_iff.1 hj0).1, hj0, hl0⟩
  refine ⟨bump, y, outs, back, ?_, r2, ?_⟩
  · unfold Sol.learn
    rw [if_pos ⟨hk, by omega⟩, hc, Option.bind_some, r1]; rfl
  · intro A hA hneg
    have hy := hneg (-y) (by simp)
    rw [Int.neg_neg] at hy
    obtain ⟨_, s2⟩ := r3 A hA hy fun z hz => hneg z (by simp [hz])
    obtain ⟨d, hd, hsd⟩ := hG.src c hcm
    obtain ⟨z, hz, hzn⟩ := (hA.2 d hd).1
    obtain ⟨j, hj⟩ := List.mem_iff_getElem?.1 (hall z ((hsd z).2 hz))
    exact hzn (s2 z ((hsd z).2 hz) j (List.getElem?_eq_some_iff.1 hj).1 hj)
/-- What fails at the lowest level leaves nothing. -/
theorem conf_zero (hG : Good n D S) (hd : S.marks.length = 0) {k : Int} (hC : Conf S k) : Rup D [] := by
  intro A hA _
  obtain ⟨hk, c, hc, hall, _⟩ := hC
  obtain ⟨d, hd', hsd⟩ := hG.src c (List.mem_of_getElem? hc)
  obtain ⟨z, hz, hzn⟩ := (hA.2 d hd').1
  obtain ⟨j, hj⟩ := List.mem_iff_getElem?.1 (hall z ((hsd z).2 hz))
  exact hzn (zero_closed hG hA j _ hj (by have := lvl_le S.marks j; omega))
end
section
variable {n : Nat} {D : List (List Int)} {U : Int → Prop} {S : Sol}
theorem undoLits_ok : ∀ (t : List Int) (S : Sol), S.is.length = 2 * n + 2 → S.phase.length = n + 1 → (∀ x ∈ t, IsLit n x) → n ≤ 1048576 →
    ∃ is' ph', S.undoLits t = some { S with is := is', phase := ph' } ∧ is'.length = 2 * n + 2 ∧ ph'.length = n + 1 ∧ ∀ x, IsLit n x → is'[lc x]? = if x ∈ t then some false else S.is[lc x]?
  | [], S, h1, h2, _, _ => ⟨S.is, S.phase, rfl, h1, h2, fun x _ => by simp⟩
  | y :: t, S, h1, h2, ht, hn => by
    have hy := ht y (by simp)
    have hv := hy.vr
    have hu : S.unset y = some { S with is := S.is.set (lc y) false, phase := S.phase.set (vr y).toNat (decide (0 < y)) } := by
      unfold Sol.unset Sol.lit
      rw [if_pos (hy.bound hn), List.getElem?_eq_getElem (show lc y < S.is.length by rw [h1]; exact hy.lc_lt), Option.bind_some, if_pos (by rw [h2]; omega)]
    obtain ⟨is', ph', k1, k2, k3, k4⟩ := undoLits_ok t { S with is := S.is.set (lc y) false, phase := S.phase.set (vr y).toNat (decide (0 < y)) } (by simpa using h1) (by simpa using h2) (fun x hx => ht x (by simp [hx])) hn
    refine ⟨is', ph', by rw [Sol.undoLits, hu, Option.bind_some, k1], k2, k3, fun x hx => ?_⟩
    rw [k4 x hx]
    by_cases e : x = y
    · subst e
      have := hx.lc_lt
      simp only [List.mem_cons, true_or, if_true]
      split
      · rfl
      · rw [List.getElem?_set, if_pos rfl, if_pos (by omega)]
    · have e' : ¬ lc y = lc x := fun h => e (lc_inj.1 h).symm
      have h3 : (S.is.set (lc y) false)[lc x]? = S.is[lc x]? := by rw [List.getElem?_set, if_neg e']
      simp [e, h3]
/-- What is left of the trail. -/
theorem undo_ok (hB : Base n S) {bk : Nat} (hb : bk < S.marks.length) : ∃ (m : Nat) (is' ph' : List Bool), S.marks[bk]? = some (m : Int) ∧ m < S.trail.length ∧ (m : Int) ≤ S.done ∧
    S.undo bk = some { S with is := is', phase := ph', trail := S.trail.take m, marks := S.marks.take bk, done := m } ∧
    Base n { S with is := is', phase := ph', trail := S.trail.take m, marks := S.marks.take bk, done := m } := by
  have htl := hB.trailL
  have hn := hB.hn
  obtain ⟨mk, hmk⟩ : ∃ mk, S.marks[bk]? = some mk := ⟨_, List.getElem?_eq_getElem hb⟩
  have hr := hB.mkr mk (List.mem_of_getElem? hmk)
  obtain ⟨m, rfl⟩ : ∃ m : Nat, mk = m := ⟨mk.toNat, by omega⟩
  obtain ⟨is', ph', k1, k2, k3, k4⟩ := undoLits_ok (n := n) (S.trail.drop m) S hB.isL hB.phaseL (fun x hx => hB.lits x (List.mem_of_mem_drop hx)) hn
  refine ⟨m, is', ph', hmk, by omega, hr.2.1, ?_, ?_⟩
  · unfold Sol.undo
    rw [if_neg (by omega), if_pos (by omega), Int.toNat_natCast, hmk, Option.bind_some, if_pos ⟨by omega, by omega, by omega⟩, Int.toNat_natCast, k1]
    rfl
  · have hnod := hB.nod
    rw [← List.take_append_drop m S.trail, List.map_append, List.nodup_append] at hnod
    refine ⟨hn, hB.vars, k2, hB.whyL, hB.bumpL, k3, hB.watchL, fun x hx => hB.lits x (List.mem_of_mem_take hx), ?_, hnod.1, by show (0 : Int) ≤ (m : Int); omega, ?_, hB.mks.sublist (List.take_sublist _ _), ?_, ?_⟩
    · intro x hx
      show is'[lc x]? = some (decide (x ∈ S.trail.take m))
      rw [k4 x hx]
      split
      · next hd =>
        have : x ∉ S.trail.take m := fun ht => hnod.2.2 _ (List.mem_map_of_mem ht) _ (List.mem_map_of_mem hd) rfl
        simp [this]
      · next hd =>
        rw [hB.val x hx]
        have : x ∈ S.trail ↔ x ∈ S.trail.take m := by
          conv => lhs; rw [← List.take_append_drop m S.trail, List.mem_append]
          simp [hd]
        simp [this]
    · show (m : Int) ≤ ((S.trail.take m).length : Int)
      simp; omega
    · intro m' hm'
      obtain ⟨j, hj⟩ := List.mem_iff_getElem?.1 hm'
      rw [List.getElem?_take] at hj
      split at hj
      · next hjb =>
        have hlt : m' < (m : Int) := by
          have h1 := (List.getElem?_eq_some_iff.1 hj)
          have h2 := (List.getElem?_eq_some_iff.1 hmk)
          have := (List.pairwise_iff_getElem.1 hB.mks) j bk h1.1 h2.1 hjb
          rw [h1.2, h2.2] at this
          exact this
        refine ⟨(hB.mkr m' (List.mem_of_getElem? hj)).1, by show m' ≤ (m : Int); omega, ?_⟩
        show m' < ((S.trail.take m).length : Int)
        simp; omega
      · cases hj
    · intro i x hx
      have hx : (S.trail.take m)[i]? = some x := hx
      rw [List.getElem?_take] at hx
      split at hx
      · next hi =>
        obtain ⟨b, hb'⟩ := hB.why i x hx
        refine ⟨b, ?_⟩
        show S.why[(vr x).toNat]? = some (b, (lvl (S.marks.take bk) i : Int))
        rw [hb', lvl_take hB.mks hmk (by omega)]
      · cases hx
/-- Places below a mark are those of lower levels. -/
theorem below_mark (hB : Base n S) {bk m : Nat} (hm : S.marks[bk]? = some (m : Int)) (i : Nat) : lvl S.marks i ≤ bk ↔ i < m := by
  constructor
  · intro h
    rcases Nat.lt_or_ge i m with h' | h'
    · exact h'
    · have := (lvl_iff hB.mks (i := i) (k := bk)).2 ⟨m, hm, by omega⟩
      omega
  · intro h
    rcases Nat.lt_or_ge bk (lvl S.marks i) with h' | h'
    · obtain ⟨m', h1, h2⟩ := (lvl_iff hB.mks (i := i) (k := bk)).1 h'
      rw [hm] at h1; cases h1
      omega
    · exact h'
theorem undo_fine (hG : Good n D S) (hW : Wat n S 0 []) (hL : ProLow S) {bk m : Nat} (hb : bk < S.marks.length) (hm : S.marks[bk]? = some (m : Int)) (hmd : (m : Int) ≤ S.done) {is' ph' : List Bool}
    (hB' : Base n { S with is := is', phase := ph', trail := S.trail.take m, marks := S.marks.take bk, done := m }) :
    Fine n D { S with is := is', phase := ph', trail := S.trail.take m, marks := S.marks.take bk, done := m } := by
  have hB := hG.base
  refine ⟨⟨hB', hG.cl, hG.src, ?_⟩, ⟨hW.at_, hW.nod, hW.rnod, hW.disj⟩, ?_⟩
  · intro i x b l hx hw
    have hx : (S.trail.take m)[i]? = some x := hx
    rw [List.getElem?_take] at hx
    split at hx
    · next hi =>
      have hli := (below_mark hB hm i).2 hi
      refine (hG.rsn i x b l hx hw).mono (fun _ h => h) (fun j hj => lvl_take hB.mks hm (by omega)) (fun j m' hj hj' => ?_) (fun j y hj hy => ?_) (SameCls.refl _)
      · show (S.marks.take bk)[j]? = some m'
        rw [List.getElem?_take, if_pos (by omega)]; exact hj'
      · show (S.trail.take m)[j]? = some y
        rw [List.getElem?_take, if_pos (by omega)]; exact hy
    · cases hx
  · intro k c a b i hc h2 hi hia
    right
    have hi : (i : Int) < (m : Int) := hi
    have hia : (S.trail.take m)[i]? = some (-a) := hia
    rw [List.getElem?_take, if_pos (by omega)] at hia
    have hli := (below_mark hB hm i).2 (by omega)
    obtain ⟨j, hj, hjl⟩ := hL k c a b i hc h2 (by omega) hia (by omega)
    have hjm := (below_mark hB hm j).1 (by omega)
    refine ⟨j, ?_, ?_⟩
    · show (S.trail.take m)[j]? = some b
      rw [List.getElem?_take, if_pos hjm]; exact hj
    · show lvl (S.marks.take bk) j ≤ lvl (S.marks.take bk) i
      rw [lvl_take hB.mks hm (by omega), lvl_take hB.mks hm (by omega)]; exact hjl
/-- The place of the greatest level. -/
theorem farAt_ok {c : List Int} {lev : Nat → Int} (hlev : ∀ j, 1 ≤ j → j < c.length → ∃ x, c[j]? = some x ∧ S.level x = some (lev j)) : ∀ (k i far : Nat), i + k < c.length → 1 ≤ far → far < c.length →
    ∃ far', S.farAt c k i far = some far' ∧ 1 ≤ far' ∧ far' < c.length ∧ lev far ≤ lev far' ∧ ∀ j, i < j → j ≤ i + k → lev j ≤ lev far'
  | 0, i, far, _, h1, h2 => ⟨far, rfl, h1, h2, Int.le_refl _, fun j h3 h4 => by omega⟩
  | k + 1, i, far, hi, h1, h2 => by
    obtain ⟨x, hx, hxl⟩ := hlev (i + 1) (by omega) (by omega)
    obtain ⟨y, hy, hyl⟩ := hlev far h1 h2
    rw [Sol.farAt, hx, Option.bind_some, hxl, Option.bind_some, hy, Option.bind_some, hyl, Option.bind_some]
    by_cases e : lev far < lev (i + 1)
    · rw [if_pos e]
      obtain ⟨far', k1, k2, k3, k4, k5⟩ := farAt_ok hlev k (i + 1) (i + 1) (by omega) (by omega) (by omega)
      refine ⟨far', k1, k2, k3, by omega, fun j h3 h4 => ?_⟩
      by_cases ej : j = i + 1
      · subst ej; exact k4
      · exact k5 j (by omega) (by omega)
    · rw [if_neg e]
      obtain ⟨far', k1, k2, k3, k4, k5⟩ := farAt_ok hlev k (i + 1) far (by omega) h1 h2
      refine ⟨far', k1, k2, k3, k4, fun j h3 h4 => ?_⟩
      by_cases ej : j = i + 1
      · subst ej; omega
      · exact k5 j (by omega) (by omega)
/-- A clause that is kept. -/
theorem keep_ok (hB : Base n S) (_hcl : ∀ c ∈ S.cls, Clause n c) (hW : Wat n S 0 []) (hl : S.cls.length < 1099511627775) {a b : Int} {r : List Int} (hc : Clause n (a :: b :: r)) :
    ∃ w', S.keep (a :: b :: r) = some ({ S with cls := S.cls ++ [a :: b :: r], watch := w' }, (S.cls.length : Int)) ∧ w'.length = 2 * n + 2 ∧ Wat n { S with cls := S.cls ++ [a :: b :: r], watch := w' } 0 [] := by
  have ha := hc.lits a (by simp)
  have hb := hc.lits b (by simp)
  have hab : a ≠ b := by have := hc.nod; simp at this; exact fun e => this.1.1 e
  obtain ⟨ra, hra⟩ := hB.watchSome ha
  obtain ⟨rb, hrb⟩ := hB.watchSome hb
  have hla := hW.len ha hra
  have hlb := hW.len hb hrb
  have hwa := (List.getElem?_eq_some_iff.1 hra).1
  have hwb := (List.getElem?_eq_some_iff.1 hrb).1
  have hrb' : (S.watch.set (lc a) (ra ++ [(S.cls.length : Int)]))[lc b]? = some rb := by
    rw [List.getElem?_set, if_neg (fun e => hab (lc_inj.1 e))]; exact hrb
  refine ⟨(S.watch.set (lc a) (ra ++ [(S.cls.length : Int)])).set (lc b) (rb ++ [(S.cls.length : Int)]), ?_, by simpa using hB.watchL, ?_⟩
  · unfold Sol.keep
    rw [if_pos (by omega)]
    simp only [List.getElem?_cons_zero, List.getElem?_cons_succ, Option.bind_some]
    rw [watchAdd_eq (cls_base hB (S.cls ++ [a :: b :: r])) ha hra (by omega), Option.bind_some, watchAdd_eq (S := { S with cls := S.cls ++ [a :: b :: r], watch := S.watch.set (lc a) (ra ++ [(S.cls.length : Int)]) }) (watch_base (cls_base hB (S.cls ++ [a :: b :: r])) _ _) hb hrb' (by omega)]
    rfl
  · -- each row, and what is new in it
    have hrow : ∀ z s, IsLit n z → ((S.watch.set (lc a) (ra ++ [(S.cls.length : Int)])).set (lc b) (rb ++ [(S.cls.length : Int)]))[lc z]? = some s →
        ∃ s0, S.watch[lc z]? = some s0 ∧ ((z = a ∨ z = b) ∧ s = s0 ++ [(S.cls.length : Int)] ∨ z ≠ a ∧ z ≠ b ∧ s = s0) := fun z s hz hs => by
      by_cases e1 : z = b
      · subst e1
        rw [List.getElem?_set, if_pos rfl, if_pos (by simpa using hwb)] at hs
        cases hs
        exact ⟨rb, hrb, .inl ⟨.inr rfl, rfl⟩⟩
      · rw [List.getElem?_set, if_neg (fun e => e1 (lc_inj.1 e).symm)] at hs
        by_cases e2 : z = a
        · subst e2
          rw [List.getElem?_set, if_pos rfl, if_pos hwa] at hs
          cases hs
          exact ⟨ra, hra, .inl ⟨.inl rfl, rfl⟩⟩
        · rw [List.getElem?_set, if_neg (fun e => e2 (lc_inj.1 e).symm)] at hs
          exact ⟨s, hs, .inr ⟨e2, e1, rfl⟩⟩
    have hlt : ∀ z s0, IsLit n z → S.watch[lc z]? = some s0 → (S.cls.length : Int) ∉ s0 := fun z s0 hz hs hm => by
      obtain ⟨_, c, hc, _⟩ := (hW.at_ z s0 hz hs _).1 (.inl hm)
      have := (List.getElem?_eq_some_iff.1 hc).1
      omega
    refine ⟨?_, ?_, List.nodup_nil, by simp⟩
    · intro z s hz hs k
      obtain ⟨s0, hs0, hcase⟩ := hrow z s hz hs
      have hold := hW.at_ z s0 hz hs0 k
      by_cases e : k = (S.cls.length : Int)
      · subst e
        have hself : (S.cls ++ [a :: b :: r])[((S.cls.length : Int)).toNat]? = some (a :: b :: r) := by simp
        rw [hself]
        simp only [Option.some.injEq, exists_eq_left', List.getElem?_cons_zero, List.getElem?_cons_succ]
        rcases hcase with ⟨h1, rfl⟩ | ⟨h1, h2, rfl⟩
        · constructor
          · intro _
            exact ⟨by omega, h1.imp (fun e => e.symm) (fun e => e.symm)⟩
          · intro _
            left; simp
        · constructor
          · rintro (h | ⟨_, h⟩)
            · exact absurd h (hlt _ _ hz hs0)
            · cases h
          · rintro ⟨_, h | h⟩
            · exact absurd h.symm h1
            · exact absurd h.symm h2
      · have h1 : (k ∈ s ∨ z = 0 ∧ k ∈ []) ↔ (k ∈ s0 ∨ z = 0 ∧ k ∈ []) := by
          rcases hcase with ⟨_, rfl⟩ | ⟨_, _, rfl⟩
          · simp [e]
          · rfl
        rw [h1, hold]
        constructor
        · rintro ⟨h0, c', hc', h2⟩
          exact ⟨h0, c', by show (S.cls ++ [a :: b :: r])[k.toNat]? = _; rw [List.getElem?_append_left (List.getElem?_eq_some_iff.1 hc').1]; exact hc', h2⟩
        · rintro ⟨h0, c', hc', h2⟩
          have hc' : (S.cls ++ [a :: b :: r])[k.toNat]? = some c' := hc'
          rw [List.getElem?_append] at hc'
          split at hc'
          · exact ⟨h0, c', hc', h2⟩
          · next hk =>
            have := (List.getElem?_eq_some_iff.1 hc').1
            simp at this
            omega
    · intro z s hz hs
      obtain ⟨s0, hs0, hcase⟩ := hrow z s hz hs
      rcases hcase with ⟨_, rfl⟩ | ⟨_, _, rfl⟩
      · rw [List.nodup_append]
        refine ⟨hW.nod _ _ hz hs0, by simp, ?_⟩
        intro u hu v hv
        simp only [List.mem_singleton] at hv
        subst hv
        exact fun e => hlt _ _ hz hs0 (e ▸ hu)
      · exact hW.nod _ _ hz hs0
end
/-- What a turn leaves. -/
structure Turned (n : Nat) (D : List (List Int)) (U : Int → Prop) (S S' : Sol) (c : List Int) : Prop where
  fine : Fine n (D ++ [c]) S'
  proof : S'.proof = S.proof ++ [c]
  rup : Rup D c
  lits : ∀ z ∈ c, IsLit n z ∧ U (vr z)
  cls : S'.cls = S.cls ∨ ∃ c', S'.cls = S.cls ++ [c'] ∧ SameLits c' c
  move : ∃ (bk m : Nat) (x : Int), bk < S.marks.length ∧ S.marks[bk]? = some (m : Int) ∧ S'.marks = S.marks.take bk ∧ S'.trail = S.trail.take m ++ [x] ∧ U (vr x)
  clen : c.length ≤ n + 1

section
variable {n : Nat} {D : List (List Int)} {U : Int → Prop} {S : Sol}
theorem pro_put {x b : Int} (hP : Pro S 0 []) (hd : S.done ≤ S.trail.length) : Pro (S.put x b) 0 [] := by
  intro k c a y i hc h2 hi hia
  have hi : (i : Int) < S.done := hi
  have hia : (S.trail ++ [x])[i]? = some (-a) := hia
  rw [List.getElem?_append_left (by omega)] at hia
  obtain ⟨j, hj, hl⟩ := hP.none hc h2 hi hia
  exact .inr ⟨j, by show (S.trail ++ [x])[j]? = some y; rw [List.getElem?_append_left (List.getElem?_eq_some_iff.1 hj).1]; exact hj, hl⟩
theorem learned_clause {y : Int} {outs : List Int} (hy : IsLit n y) (ho : ∀ z ∈ outs, IsLit n z ∧ vr z ≠ vr y) (hn : (outs.map vr).Nodup) (hne : outs ≠ []) : Clause n (-y :: outs) := by
  have hinj : ∀ a ∈ outs, ∀ b ∈ outs, vr a = vr b → a = b := fun a ha b hb e => by
    obtain ⟨i, hi⟩ := List.mem_iff_getElem?.1 ha
    obtain ⟨j, hj⟩ := List.mem_iff_getElem?.1 hb
    have hi' := List.getElem?_eq_some_iff.1 hi
    have hj' := List.getElem?_eq_some_iff.1 hj
    have := (List.getElem_inj (xs := outs.map vr) (i := i) (j := j) (h₀ := by simpa using hi'.1) (h₁ := by simpa using hj'.1) hn).1 (by rw [List.getElem_map, List.getElem_map, hi'.2, hj'.2, e])
    subst this
    rw [hi] at hj; exact Option.some.inj hj
  refine ⟨?_, ?_, ?_, ?_⟩
  · have := List.length_pos_iff.2 hne
    simp; omega
  · intro z hz
    rcases List.mem_cons.1 hz with rfl | hz
    · exact hy.neg
    · exact (ho z hz).1
  · rw [List.nodup_cons]
    refine ⟨fun hm => (ho _ hm).2 (vr_neg y), ?_⟩
    rw [List.nodup_iff_pairwise_ne] at *
    exact (List.pairwise_map.1 hn).imp fun h e => h (by rw [e])
  · intro x hx hx'
    rcases List.mem_cons.1 hx with rfl | hx1
    · rcases List.mem_cons.1 hx' with e | hx'
      · have := hy.1; omega
      · rw [Int.neg_neg] at hx'
        exact (ho _ hx').2 rfl
    · rcases List.mem_cons.1 hx' with e | hx2
      · exact (ho _ hx1).2 (by rw [show x = y by omega])
      · have := hinj x hx1 (-x) hx2 (vr_neg x).symm
        have := (ho x hx1).1.1
        omega
set_option maxHeartbeats 1000000 in
theorem turn_ok (hG : Good n D S) (hW : Wat n S 0 []) (hL : ProLow S) (hU : ∀ c ∈ S.cls, ∀ z ∈ c, U (vr z)) (hd : 0 < S.marks.length) {k : Int} (hC : Conf S k) (f : Nat) (hf : n < f)
    (hcl : S.cls.length < 1099511627775) (hpf : S.proof.length < 1099511627776) : ∃ S' c, S.turn f k = some S' ∧ Turned n D U S S' c := by
  have hB := hG.base
  have hn := hB.hn
  obtain ⟨bump, y, outs, back, hlearn, hR, hrup⟩ := learn_ok hG hU hd hC f hf
  obtain ⟨iy, hiy, hiyl⟩ := hR.uip
  have hym := List.mem_of_getElem? hiy
  have hy : IsLit n y := hB.lits y hym
  have hoV : ∀ z ∈ outs, IsLit n z ∧ vr z ≠ vr y := fun z hz => by
    obtain ⟨_, h1, j, hj, _, hlt⟩ := hR.outsP z hz
    refine ⟨h1, fun e => ?_⟩
    have := hB.uniq hj hiy (by rw [vr_neg, e])
    subst this
    omega
  have hol : outs.length ≤ n := by
    have := nodup_len n (l := outs.map vr) (a := 1) (b := n + 1) hR.outsN (fun v hv => by
      obtain ⟨z, hz, rfl⟩ := List.mem_map.1 hv
      have := (hR.outsP z hz).2.1.vr; omega) (by omega)
    simpa using this
  -- the level to go back to
  obtain ⟨bk, hbk, hbkl⟩ : ∃ bk : Nat, back = bk ∧ bk < S.marks.length := by
    by_cases e : outs = []
    · exact ⟨0, by rw [hR.back0 e]; rfl, hd⟩
    · obtain ⟨z, hz, j, hj, hjl⟩ := hR.backE e
      obtain ⟨_, _, j', hj', _, hlt⟩ := hR.outsP z hz
      have := hB.uniq hj hj' rfl
      subst this
      exact ⟨_, hjl.symm, hlt⟩
  subst hbk
  have hB2 : Base n { S with bump := bump, proof := S.proof ++ [-y :: outs] } := ⟨hn, hB.vars, hB.isL, hB.whyL, hR.bump, hB.phaseL, hB.watchL, hB.lits, hB.val, hB.nod, hB.d0, hB.d1, hB.mks, hB.mkr, hB.why⟩
  have hG2 : Good n D { S with bump := bump, proof := S.proof ++ [-y :: outs] } := ⟨hB2, hG.cl, hG.src, fun i x b l h1 h2 => (hG.rsn i x b l h1 h2).mono (fun _ h => h) (fun _ _ => rfl) (fun _ _ _ h => h) (fun _ _ _ h => h) (SameCls.refl _)⟩
  obtain ⟨m, is', ph', hm, hmt, hmd, hundo, hB3⟩ := undo_ok hB2 hbkl
  have hF3 := undo_fine hG2 ⟨hW.at_, hW.nod, hW.rnod, hW.disj⟩ hL hbkl hm hmd hB3
  have hm' : S.marks[bk]? = some (m : Int) := hm
  -- the turned literal has no value now
  have hytk : y ∉ S.trail.take m := fun h => by
    obtain ⟨j, hj⟩ := List.mem_iff_getElem?.1 h
    rw [List.getElem?_take] at hj
    split at hj
    · next hjm =>
      have := hB.uniq hj hiy rfl
      subst this
      have := (below_mark hB hm' j).2 hjm
      omega
    · cases hj
  have hyn : -y ∉ S.trail.take m := fun h => hB.not_both hym (List.mem_of_mem_take h)
  have hlow : ∀ z ∈ outs, ∃ j : Nat, (S.trail.take m)[j]? = some (-z) ∧ lvl (S.marks.take bk) j ≤ bk ∧ S.trail[j]? = some (-z) ∧ lvl (S.marks.take bk) j = lvl S.marks j := fun z hz => by
    obtain ⟨_, _, j, hj, _, _⟩ := hR.outsP z hz
    have hle := hR.backP z hz j hj
    have hjm := (below_mark hB hm' j).1 (by omega)
    have e : lvl (S.marks.take bk) j = lvl S.marks j := lvl_take hB.mks hm' (by omega)
    exact ⟨j, by rw [List.getElem?_take, if_pos hjm]; exact hj, by omega, hj, e⟩
  have hmarks3 : (S.marks.take bk).length = bk := by simp; omega
  have hputr : ∀ m' ∈ S.marks.take bk, 0 ≤ m' ∧ m' ≤ (m : Int) ∧ m' < ((S.trail.take m).length : Int) + 1 := fun m' h => by
    have := hB3.mkr m' h
    exact ⟨this.1, this.2.1, by have h2 : m' < ((S.trail.take m).length : Int) := this.2.2; omega⟩
  have hcur3 : lvl (S.marks.take bk) (S.trail.take m).length = bk := by
    exact (hB3.cur (i := (S.trail.take m).length) hB3.d1).trans hmarks3
  have hlits : ∀ z ∈ -y :: outs, IsLit n z ∧ U (vr z) := fun z hz => by
    rcases List.mem_cons.1 hz with rfl | hz
    · exact ⟨hy.neg, by rw [vr_neg]; exact hR.used⟩
    · exact ⟨(hR.outsP z hz).2.1, (hR.outsP z hz).1⟩
  have hUy : U (vr (-y)) := by rw [vr_neg]; exact hR.used
  have hstart : S.turn f k = (({ S with bump := bump, proof := S.proof ++ [-y :: outs] } : Sol).undo bk).bind fun S3 =>
      ((-y :: outs)[0]?).bind fun x0 =>
      if (-y :: outs).length = 1 then (S3.hold x0 (-1)).map fun q => q.1
      else (S3.farAt (-y :: outs) ((-y :: outs).length - 1) 0 1).bind fun far =>
        (S3.keep (swapAt (-y :: outs) 1 far)).bind fun q => (q.1.hold x0 q.2).map fun r => r.1 := by
    unfold Sol.turn
    rw [hlearn, Option.bind_some]
    exact if_pos ⟨by simp; omega, hpf⟩
  rw [hstart, hundo, Option.bind_some, List.getElem?_cons_zero, Option.bind_some]
  by_cases hone : outs = []
  · -- a clause of one literal
    subst hone
    have hbk0 : bk = 0 := by have := hR.back0 rfl; omega
    rw [if_pos (by simp), hold_new hB3 (-1) hy.neg hyn (by rw [Int.neg_neg]; exact hytk)]
    refine ⟨_, [-y], rfl, ⟨⟨?_, ⟨hW.at_, hW.nod, hW.rnod, hW.disj⟩, pro_put hF3.pro hB3.d1⟩, rfl, hrup, hlits, .inl rfl, ⟨bk, m, -y, hbkl, hm', rfl, rfl, hUy⟩, by simp⟩⟩
    refine put_good (mk := S.marks.take bk) (hF3.good.more fun d hd => List.mem_append_left _ hd) hy.neg hyn (by rw [Int.neg_neg]; exact hytk) hB3.mks hputr (fun _ _ => rfl) (fun _ _ h => h) ?_
    exact .unit (by show lvl (S.marks.take bk) (S.trail.take m).length = 0; rw [hcur3, hbk0]) [-y] (by simp) (by simp) (by simp)
  · -- a clause of more
    have hlen : 0 < outs.length := List.length_pos_iff.2 hone
    rw [if_neg (by simp; omega)]
    have hlev : ∀ j, 1 ≤ j → j < (-y :: outs).length → ∃ x, (-y :: outs)[j]? = some x ∧ x ∈ outs ∧
        ({ S with bump := bump, proof := S.proof ++ [-y :: outs], is := is', phase := ph', trail := S.trail.take m, marks := S.marks.take bk, done := m } : Sol).level x =
          some ((fun j : Nat => (({ S with bump := bump, proof := S.proof ++ [-y :: outs], is := is', phase := ph', trail := S.trail.take m, marks := S.marks.take bk, done := m } : Sol).level ((-y :: outs).getD j 0)).getD 0) j) := fun j h1 h2 => by
      obtain ⟨x, hx⟩ : ∃ x, (-y :: outs)[j]? = some x := ⟨_, List.getElem?_eq_getElem h2⟩
      have hxm : x ∈ outs := by
        obtain ⟨j', rfl⟩ : ∃ j', j = j' + 1 := ⟨j - 1, by omega⟩
        rw [List.getElem?_cons_succ] at hx
        exact List.mem_of_getElem? hx
      obtain ⟨p, hp, _⟩ := hlow x hxm
      refine ⟨x, hx, hxm, ?_⟩
      have e : (-y :: outs).getD j 0 = x := by rw [List.getD_eq_getElem?_getD, hx]; rfl
      dsimp only
      rw [e, hB3.level hp (vr_neg x).symm]
      rfl
    obtain ⟨far, hfar, hf1, hfl, _, hmax⟩ := farAt_ok (fun j h1 h2 => (let ⟨x, a, _, b⟩ := hlev j h1 h2; ⟨x, a, b⟩)) ((-y :: outs).length - 1) 0 1 (by simp) (Nat.le_refl _) (by simp; omega)
    rw [hfar, Option.bind_some]
    obtain ⟨w, hw, hwm, hwl⟩ := hlev far hf1 hfl
    -- its level is the greatest one
    obtain ⟨pw, hpw, hpwl, hpwS, hpwE⟩ := hlow w hwm
    have hwbk : lvl (S.marks.take bk) pw = bk := by
      obtain ⟨z, hz, j, hj, hjl⟩ := hR.backE hone
      obtain ⟨q, hq⟩ := List.mem_iff_getElem?.1 hz
      have hql := (List.getElem?_eq_some_iff.1 hq).1
      obtain ⟨x, hx, hxm, hxl⟩ := hlev (q + 1) (by omega) (by simp; omega)
      rw [List.getElem?_cons_succ, hq] at hx
      cases hx
      obtain ⟨pz, hpz, hpzl, hpzS, hpzE⟩ := hlow z hz
      have h1 := hmax (q + 1) (by omega) (by simp; omega)
      rw [hB3.level hpz (vr_neg z).symm] at hxl
      rw [hB3.level hpw (vr_neg w).symm] at hwl
      have hxl := Option.some.inj hxl
      have hwl := Option.some.inj hwl
      have := hB.uniq hpzS hj rfl
      subst this
      have h1 : ((lvl (S.marks.take bk) pz : Nat) : Int) ≤ ((lvl (S.marks.take bk) pw : Nat) : Int) := Int.le_trans (Int.le_of_eq hxl) (Int.le_trans h1 (Int.le_of_eq hwl.symm))
      omega
    obtain ⟨r', hsw, hperm⟩ : ∃ r', swapAt (-y :: outs) 1 far = -y :: w :: r' ∧ (-y :: outs).Perm (-y :: w :: r') := by
      match outs, hlen, hw with
      | o :: os, _, hw =>
        by_cases e : far = 1
        · subst e
          simp at hw
          subst hw
          exact ⟨os, swapAt11 _ _ _, List.Perm.refl _⟩
        · obtain ⟨j, rfl⟩ : ∃ j, far = j + 2 := ⟨far - 2, by omega⟩
          simp only [List.getElem?_cons_succ] at hw
          refine ⟨os.set j o, ?_, swap_perm hw⟩
          rw [swapAt1, List.getD_eq_getElem?_getD, hw]; rfl
    have hCl := (learned_clause hy hoV hR.outsN hone).perm hperm
    rw [hsw]
    obtain ⟨w', hkeep, hwL, hW4⟩ := keep_ok hB3 hF3.good.cl hF3.wat hcl hCl
    rw [hkeep, Option.bind_some]
    have hB4 : Base n { S with bump := bump, proof := S.proof ++ [-y :: outs], is := is', phase := ph', trail := S.trail.take m, marks := S.marks.take bk, done := m, cls := S.cls ++ [-y :: w :: r'], watch := w' } :=
      ⟨hn, hB.vars, hB3.isL, hB.whyL, hR.bump, hB3.phaseL, hwL, hB3.lits, hB3.val, hB3.nod, hB3.d0, hB3.d1, hB3.mks, hB3.mkr, hB3.why⟩
    have hG4 : Good n (D ++ [-y :: outs]) { S with bump := bump, proof := S.proof ++ [-y :: outs], is := is', phase := ph', trail := S.trail.take m, marks := S.marks.take bk, done := m, cls := S.cls ++ [-y :: w :: r'], watch := w' } := by
      refine ⟨hB4, ?_, ?_, ?_⟩
      · intro c hc
        rcases List.mem_append.1 hc with hc | hc
        · exact hG.cl c hc
        · simp only [List.mem_singleton] at hc
          subst hc; exact hCl
      · intro c hc
        rcases List.mem_append.1 hc with hc | hc
        · obtain ⟨d, hd, e⟩ := hG.src c hc
          exact ⟨d, List.mem_append_left _ hd, e⟩
        · simp only [List.mem_singleton] at hc
          subst hc
          exact ⟨_, List.mem_append_right _ (List.mem_singleton.2 rfl), (SameLits.of_perm hperm).symm⟩
      · intro i x b l h1 h2
        exact (hF3.good.rsn i x b l h1 h2).mono (fun d hd => List.mem_append_left _ hd) (fun _ _ => rfl) (fun _ _ _ h => h) (fun _ _ _ h => h) (SameCls.append _ _)
    rw [hold_new hB4 (S.cls.length : Int) hy.neg hyn (by rw [Int.neg_neg]; exact hytk)]
    have hself : (S.cls ++ [-y :: w :: r'])[((S.cls.length : Int)).toNat]? = some (-y :: w :: r') := by simp
    have hothers : ∀ z ∈ -y :: w :: r', z ≠ -y → ∃ j, j < (S.trail.take m).length ∧ (S.trail.take m ++ [-y])[j]? = some (-z) := fun z hz hne => by
      have hz' := hperm.mem_iff.2 hz
      obtain ⟨j, hj, _⟩ := hlow z ((List.mem_cons.1 hz').resolve_left hne)
      have hjl := (List.getElem?_eq_some_iff.1 hj).1
      exact ⟨j, hjl, by rw [List.getElem?_append_left hjl]; exact hj⟩
    have hpwlt := (List.getElem?_eq_some_iff.1 hpw).1
    have hwy : w ≠ -y := fun e => (hoV w hwm).2 (by rw [e, vr_neg])
    refine ⟨_, -y :: outs, rfl, ⟨⟨?_, ⟨hW4.at_, hW4.nod, hW4.rnod, hW4.disj⟩, ?_⟩, rfl, hrup, hlits, .inr ⟨-y :: w :: r', rfl, (SameLits.of_perm hperm).symm⟩, ⟨bk, m, -y, hbkl, hm', rfl, rfl, hUy⟩, by simp; omega⟩⟩
    · refine put_good (mk := S.marks.take bk) hG4 hy.neg hyn (by rw [Int.neg_neg]; exact hytk) hB3.mks hputr (fun _ _ => rfl) (fun _ _ h => h) ?_
      refine .clause _ (by omega) _ hself (by simp) hothers ⟨w, by simp, hwy, pw, hpwlt, ?_, ?_⟩
      · show (S.trail.take m ++ [-y])[pw]? = _
        rw [List.getElem?_append_left hpwlt]; exact hpw
      · show lvl (S.marks.take bk) pw = lvl (S.marks.take bk) (S.trail.take m).length
        rw [hwbk, hcur3]
    · intro q c a b i hc h2 hi hia
      right
      have hc : (S.cls ++ [-y :: w :: r'])[q]? = some c := hc
      have hi : (i : Int) < (m : Int) := hi
      have hia2 : (S.trail.take m ++ [-y])[i]? = some (-a) := hia
      clear hia
      have hmt' : m < S.trail.length := hmt
      have hil : i < (S.trail.take m).length := by rw [List.length_take]; omega
      rw [List.getElem?_append_left hil] at hia2
      rw [List.getElem?_append] at hc
      split at hc
      · obtain ⟨j, hj, hjl⟩ := hF3.pro.none hc h2 hi hia2
        have hjlt := (List.getElem?_eq_some_iff.1 hj).1
        exact ⟨j, by show (S.trail.take m ++ [-y])[j]? = _; rw [List.getElem?_append_left hjlt]; exact hj, hjl⟩
      · next hq =>
        have hq' : q - S.cls.length = 0 := by
          have := (List.getElem?_eq_some_iff.1 hc).1
          simp at this; omega
        rw [hq'] at hc
        simp at hc
        subst hc
        rcases two_cons.1 h2 with ⟨rfl, rfl⟩ | ⟨rfl, rfl⟩
        · exact absurd (by rw [Int.neg_neg] at hia2; exact List.mem_of_getElem? hia2) hytk
        · have := hB3.uniq (i := i) (j := pw) hia2 hpw rfl
          subst this
          refine ⟨(S.trail.take m).length, by show (S.trail.take m ++ [-y])[(S.trail.take m).length]? = _; simp, ?_⟩
          show lvl (S.marks.take bk) (S.trail.take m).length ≤ lvl (S.marks.take bk) i
          rw [hcur3, hwbk]; exact Nat.le_refl _
end
end Go.Proofs.Ytfmoldfajmfieaa
