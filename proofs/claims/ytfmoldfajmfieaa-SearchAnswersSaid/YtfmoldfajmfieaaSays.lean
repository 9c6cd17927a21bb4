/-
  What a search's answer says, for the statements; no program in sight.
-/
import Derived.Test.YtfmoldfajmfieaaLawC
import Derived.Test.YtfmoldfajmfieaaSmall
import Derived.Test.YtfmoldfajmfieaaClean
namespace Go.Proofs.Ytfmoldfajmfieaa
open Go.RowKit
theorem compact_inv {d : List Int} (hs : d.Pairwise (· ≤ ·)) : ∀ m, m ≤ d.length → (∀ x, x ∈ Lib.compactUpTo d.toArray m ↔ ∃ j, j < m ∧ d[j]? = some x) ∧ (Lib.compactUpTo d.toArray m).Pairwise (· < ·)
  | 0, _ => by simp [Lib.compactUpTo]
  | m + 1, hm => by
    obtain ⟨h1, h2⟩ := compact_inv hs m (by omega)
    have hget : ∀ j, j < d.length → d[j]? = some (d.toArray[j]!) := fun j hj => by simp [hj]
    have hle : ∀ (i j : Nat) (x y : Int), i ≤ j → d[i]? = some x → d[j]? = some y → x ≤ y := fun i j x y hij hx hy => by
      have hx' := List.getElem?_eq_some_iff.1 hx
      have hy' := List.getElem?_eq_some_iff.1 hy
      by_cases e : i = j
      · subst e; rw [hx] at hy; cases hy; exact Int.le_refl _
      · have := (List.pairwise_iff_getElem.1 hs) i j hx'.1 hy'.1 (by omega)
        rw [hx'.2, hy'.2] at this; exact this
    rw [Lib.compactUpTo_succ]
    by_cases hk : Lib.keeps d.toArray m = true
    · rw [if_pos hk]
      constructor
      · intro x
        rw [List.mem_append, h1]
        constructor
        · rintro (⟨j, hj, hx⟩ | hx)
          · exact ⟨j, by omega, hx⟩
          · simp only [List.mem_singleton] at hx
            subst hx
            exact ⟨m, by omega, hget m (by omega)⟩
        · rintro ⟨j, hj, hx⟩
          by_cases e : j = m
          · subst e
            rw [hget j (by omega)] at hx
            cases hx
            simp
          · exact .inl ⟨j, by omega, hx⟩
      · rw [List.pairwise_append]
        refine ⟨h2, by simp, fun x hx y hy => ?_⟩
        simp only [List.mem_singleton] at hy
        subst hy
        obtain ⟨j, hj, hjx⟩ := (h1 x).1 hx
        have hne : d.toArray[m]! ≠ d.toArray[m - 1]! := by
          have : m = 0 ∨ d.toArray[m]! ≠ d.toArray[m - 1]! := by simpa [Lib.keeps] using hk
          rcases this with h | h
          · omega
          · exact h
        have h3 := hle j (m - 1) x _ (by omega) hjx (hget (m - 1) (by omega))
        have h4 := hle (m - 1) m _ _ (by omega) (hget (m - 1) (by omega)) (hget m (by omega))
        omega
    · rw [if_neg hk, List.append_nil]
      refine ⟨fun x => ?_, h2⟩
      rw [h1]
      constructor
      · rintro ⟨j, hj, hx⟩
        exact ⟨j, by omega, hx⟩
      · rintro ⟨j, hj, hx⟩
        by_cases e : j = m
        · subst e
          have : ¬ (j = 0 ∨ d.toArray[j]! ≠ d.toArray[j - 1]!) := by simpa [Lib.keeps] using hk
          have h0 : j ≠ 0 := fun h => this (.inl h)
          have h5 : d.toArray[j]! = d.toArray[j - 1]! := Decidable.not_not.1 fun h => this (.inr h)
          rw [hget j (by omega)] at hx
          exact ⟨j - 1, by omega, by rw [hget (j - 1) (by omega), ← h5]; exact hx⟩
        · exact ⟨j, by omega, hx⟩
theorem cleanL_ok (c : List Int) : SameLits (cleanL c) c ∧ (cleanL c).Nodup := by
  have hs : (c.mergeSort fun x y => decide (x ≤ y)).Pairwise (· ≤ ·) := by
    have := List.pairwise_mergeSort (le := fun x y : Int => decide (x ≤ y)) (fun a b d h1 h2 => by simp at *; omega) (fun a b => by simp; omega) c
    exact this.imp (by simp)
  obtain ⟨h1, h2⟩ := compact_inv hs _ (Nat.le_refl _)
  refine ⟨fun x => ?_, ?_⟩
  · unfold cleanL Lib.compact
    rw [h1]
    rw [← List.mem_mergeSort (le := fun x y : Int => decide (x ≤ y)) (l := c), List.mem_iff_getElem?]
    constructor
    · rintro ⟨j, _, hx⟩
      exact ⟨j, hx⟩
    · rintro ⟨j, hx⟩
      exact ⟨j, (List.getElem?_eq_some_iff.1 hx).1, hx⟩
  · rw [List.nodup_iff_pairwise_ne]
    exact h2.imp fun h => by omega
theorem litB_iff {m : List Bool} {x : Int} : litB m x = true ↔ litIn m x := by unfold litB litIn; simp
theorem holdsOf_iff {l : List (List Int)} {m : List Bool} : holdsOf l m = true ↔ okAll l = true ∧ Models l m := by
  unfold holdsOf Models
  simp only [Bool.and_eq_true, List.all_eq_true, List.any_eq_true, litB_iff]
/-- What is true in a model is a closed set. -/
theorem closed_of {D : List (List Int)} {m : List Bool} (hD : ∀ d ∈ D, (∀ x ∈ d, x ≠ 0) ∧ ∃ x ∈ d, litIn m x) : Closed D fun x => x ≠ 0 ∧ litIn m x := by
  have hcon : ∀ x : Int, x ≠ 0 → litIn m x → ¬ litIn m (-x) := fun x h0 h1 h2 => by
    unfold litIn at h1 h2
    rw [vr_neg, h1] at h2
    simp at h2
    omega
  refine ⟨fun x h1 h2 => hcon x h1.1 h1.2 h2.2, fun d hd => ?_⟩
  obtain ⟨h0, x, hx, hxm⟩ := hD d hd
  refine ⟨⟨x, hx, fun h => hcon x (h0 x hx) hxm h.2⟩, fun y hy hall => ?_⟩
  by_cases e : x = y
  · subst e; exact ⟨h0 x hx, hxm⟩
  · exact absurd (hall x hx e).2 (hcon x (h0 x hx) hxm)
theorem litIn_or {m : List Bool} {x : Int} (h0 : x ≠ 0) : litIn m x ∨ litIn m (-x) := by
  unfold litIn
  rw [vr_neg]
  cases (m[(vr x).toNat]?).getD false
  · by_cases h : 0 < x
    · right; simp; omega
    · left; simp; omega
  · by_cases h : 0 < x
    · left; simp; omega
    · right; simp; omega
/-- Clauses that have a proof have no model. -/
theorem no_model {n : Nat} {l p q : List (List Int)} {m : List Bool} (hl : ∀ d ∈ l, ∀ x ∈ d, x ≠ 0) (hp : Proves n l p) (he : p = q ++ [[]]) : ¬ Models l m := by
  intro hm
  have key : ∀ (i : Nat) (c : List Int), p[i]? = some c → (∀ x ∈ c, x ≠ 0) ∧ ∃ x ∈ c, litIn m x := fun i => by
    induction i using Nat.strongRecOn with
    | ind i ih =>
      intro c hc
      obtain ⟨hr, hlit, _⟩ := hp i c hc
      refine ⟨fun x hx => (hlit x hx).1, ?_⟩
      have hcl : Closed (l ++ p.take i) fun x => x ≠ 0 ∧ litIn m x := closed_of fun d hd => by
        rcases List.mem_append.1 hd with hd | hd
        · exact ⟨hl d hd, hm d hd⟩
        · obtain ⟨j, hj⟩ := List.mem_iff_getElem?.1 hd
          rw [List.getElem?_take] at hj
          split at hj
          · next hji => exact ih j hji d hj
          · cases hj
      have hn := hr _ hcl
      by_cases hex : ∃ x ∈ c, litIn m x
      · exact hex
      · exfalso
        refine hn fun x hx => ?_
        have h0 := (hlit x hx).1
        exact ⟨by omega, (litIn_or h0).resolve_left fun h => hex ⟨x, hx, h⟩⟩
  have hlast : p[q.length]? = some [] := by rw [he]; simp
  obtain ⟨_, x, hx, _⟩ := key _ _ hlast
  cases hx
theorem vr_le_most {l : List (List Int)} {c : List Int} {x : Int} (hc : c ∈ l) (hx : x ∈ c) : vr x ≤ mostOf l := by
  have h1 : ∀ (c : List Int) (n : Int), n ≤ mostC n c ∧ ∀ x ∈ c, vr x ≤ mostC n c := fun c => by
    induction c with
    | nil => exact fun n => ⟨Int.le_refl _, by simp⟩
    | cons y c ih =>
      intro n
      obtain ⟨k1, k2⟩ := ih (max n (vr y))
      refine ⟨by show n ≤ mostC (max n (vr y)) c; omega, fun x hx => ?_⟩
      show vr x ≤ mostC (max n (vr y)) c
      rcases List.mem_cons.1 hx with rfl | hx
      · omega
      · exact k2 x hx
  have h2 : ∀ (l : List (List Int)) (n : Int), n ≤ l.foldl mostC n ∧ ∀ c ∈ l, ∀ x ∈ c, vr x ≤ l.foldl mostC n := fun l => by
    induction l with
    | nil => exact fun n => ⟨Int.le_refl _, by simp⟩
    | cons d l ih =>
      intro n
      obtain ⟨k1, k2⟩ := ih (mostC n d)
      obtain ⟨e1, e2⟩ := h1 d n
      refine ⟨by show n ≤ l.foldl mostC (mostC n d); omega, fun c hc x hx => ?_⟩
      show vr x ≤ l.foldl mostC (mostC n d)
      rcases List.mem_cons.1 hc with rfl | hc
      · have := e2 x hx; omega
      · exact k2 c hc x hx
  exact (h2 l 0).2 c hc x hx
theorem isLit_of {l : List (List Int)} (hok : okAll l = true) {n : Nat} (hn : mostOf l = n) : ∀ d ∈ l, ∀ x ∈ d, IsLit n x := fun d hd x hx => by
  have h1 := okAll_at hok hd hx
  have h2 := vr_le_most hd hx
  unfold okLit at h1
  simp at h1
  unfold vr at h2
  refine ⟨h1.1, ?_, ?_⟩ <;> (split at h2 <;> omega)
/-- Has a variable a clause? -/
def usedB (l : List (List Int)) (v : Int) : Bool := l.any fun c => c.any fun x => vr x == v
/-- The answer that is found, and what it says. -/
theorem solve_says {l : List (List Int)} (hok : okAll l = true) (hL : l.length < 1000000) (tries : Int) : ∃ (m n f : Nat) (an : Ans), mostOf l = n ∧ solveF cleanL m n f l tries = some an ∧ Right n l 0 (max 0 (min tries 65536)) an ∧
    ∀ N, Count n (usedB l) N → an.is_ = 0 → max 0 (min tries 65536) < 3 ^ N := by
  have hm := mostOf_le hok
  obtain ⟨n, hn⟩ : ∃ n : Nat, mostOf l = n := ⟨(mostOf l).toNat, by omega⟩
  have hU : ∀ d ∈ l, ∀ x ∈ d, usedB l (vr x) = true := fun d hd x hx => by
    unfold usedB
    rw [List.any_eq_true]
    exact ⟨d, hd, by rw [List.any_eq_true]; exact ⟨x, hx, by simp⟩⟩
  have hall : Count n (usedB l) n := fun l h1 h2 => nodup_len n (a := 1) (b := n + 1) h1 (fun x hx => by have := h2 x hx; omega) (by omega)
  obtain ⟨an, h1, h2, _⟩ := solve_ok (U := usedB l) cleanL_ok (by omega) (isLit_of hok hn) hU hL hall (m := n + 1) (f := 3 ^ n) (by omega) (Nat.le_refl _) tries
  refine ⟨n + 1, n, 3 ^ n, an, hn, h1, h2, fun N hN => ?_⟩
  obtain ⟨an', h1', _, h3⟩ := solve_ok (U := usedB l) cleanL_ok (by omega) (isLit_of hok hn) hU hL hN (m := n + 1) (f := 3 ^ n) (by omega) (Nat.le_refl _) tries
  rw [h1] at h1'
  cases h1'
  exact h3
theorem count_all (n : Nat) (U : Int → Bool) : Count n U n := fun l h1 h2 => nodup_len n (a := 1) (b := n + 1) h1 (fun x hx => by have := h2 x hx; omega) (by omega)
theorem ne_zero_of {l : List (List Int)} (hok : okAll l = true) : ∀ d ∈ l, ∀ x ∈ d, x ≠ 0 := fun d hd x hx => by
  have h1 := okAll_at hok hd hx
  unfold okLit at h1
  simp at h1
  exact h1.1
end Go.Proofs.Ytfmoldfajmfieaa
