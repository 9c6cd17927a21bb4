/-
  What follows clause by clause, by definition: the law of its table.
-/
import Derived.Test.YtfmoldfajmfieaaMany
import Derived.Test.YtfmoldfajmfieaaSays
namespace Go.Proofs.Ytfmoldfajmfieaa
open Go.RowKit
/-- The sign that makes a literal true. -/
def sg (x : Int) : Int := if x < 0 then -1 else 1
/-- A table of what is true of each variable. -/
structure Tab (n : Nat) (I : List Int) : Prop where
  len : I.length = n + 1
  val : ∀ (j : Nat) (y : Int), I[j]? = some y → y = 0 ∨ y = 1 ∨ y = -1
def Tru (I : List Int) (x : Int) : Prop := x ≠ 0 ∧ I.getD (vr x).toNat 0 = sg x
def zeros (I : List Int) : Nat := I.countP (· == 0)
theorem Tab.at {n : Nat} {I : List Int} (h : Tab n I) (j : Nat) : I.getD j 0 = 0 ∨ I.getD j 0 = 1 ∨ I.getD j 0 = -1 := by
  rw [List.getD_eq_getElem?_getD]
  cases hj : I[j]? with
  | none => exact .inl rfl
  | some y => exact h.val j y hj
theorem falseI_iff {n : Nat} {I : List Int} (h : Tab n I) {x : Int} (hx : x ≠ 0) : falseI I x = true ↔ Tru I (-x) := by
  unfold falseI Tru sg
  rw [vr_neg]
  rcases h.at (vr x).toNat with e | e | e
  · rw [e]; simp; intro _; split <;> omega
  · rw [e]; simp; omega
  · rw [e]; simp; omega
theorem left_all (I : List Int) (c acc : List Int) (hn : acc.Nodup) : (c.foldl (leftOf I) acc).Nodup ∧ ∀ x, x ∈ c.foldl (leftOf I) acc ↔ x ∈ acc ∨ x ∈ c ∧ falseI I x = false := by
  induction c generalizing acc with
  | nil => exact ⟨hn, fun x => by simp⟩
  | cons y c ih =>
    have hn2 : (leftOf I acc y).Nodup := by
      unfold leftOf
      split
      · exact hn
      · next h =>
        rw [List.nodup_append]
        refine ⟨hn, by simp, fun a ha b hb e => h (.inr ?_)⟩
        rw [List.mem_singleton.1 hb] at e
        rw [← e]; exact ha
    have hm : ∀ x, x ∈ leftOf I acc y ↔ x ∈ acc ∨ x = y ∧ falseI I x = false := fun x => by
      unfold leftOf
      split
      · next h =>
        refine ⟨.inl, fun k => k.elim id ?_⟩
        rintro ⟨rfl, e⟩
        rcases h with h | h
        · rw [e] at h; cases h
        · exact h
      · next h =>
        rw [List.mem_append, List.mem_singleton]
        refine ⟨fun k => k.elim .inl fun e => .inr ⟨e, ?_⟩, fun k => k.elim .inl fun e => .inr e.1⟩
        rw [e, ← Bool.not_eq_true]
        exact fun h' => h (.inl h')
    obtain ⟨h1, h2⟩ := ih _ hn2
    refine ⟨h1, fun x => ?_⟩
    rw [List.foldl_cons, h2, hm, List.mem_cons]
    constructor
    · rintro ((h | h) | h)
      · exact .inl h
      · exact .inr ⟨.inl h.1, h.2⟩
      · exact .inr ⟨.inr h.1, h.2⟩
    · rintro (h | ⟨h | h, k⟩)
      · exact .inl (.inl h)
      · exact .inl (.inr ⟨h, k⟩)
      · exact .inr ⟨h, k⟩
theorem mem_left {I c : List Int} {x : Int} : x ∈ leftL I c ↔ x ∈ c ∧ falseI I x = false := by
  have := (left_all I c [] (by simp)).2 x
  unfold leftL
  rw [this]; simp
theorem left_nodup (I c : List Int) : (leftL I c).Nodup := (left_all I c [] (by simp)).1
/-- Nothing more follows of a clause. -/
def Done (I : List Int) (d : List Int) : Prop := leftL I d ≠ [] ∧ ∀ y, leftL I d = [y] → I.getD (vr y).toNat 0 ≠ 0
theorem closed_of_done {n : Nat} {I : List Int} (hT : Tab n I) {l : List (List Int)} (hl : ∀ d ∈ l, ∀ x ∈ d, x ≠ 0) (h : ∀ d ∈ l, Done I d) : Closed l (Tru I) := by
  refine ⟨fun x h1 h2 => ?_, fun d hd => ⟨?_, fun y hy hall => ?_⟩⟩
  · have e1 := h1.2
    have e2 := h2.2
    rw [vr_neg, e1] at e2
    have := h1.1
    unfold sg at e2
    split at e2 <;> split at e2 <;> omega
  · obtain ⟨h1, _⟩ := h d hd
    obtain ⟨z, hz⟩ := List.exists_mem_of_ne_nil _ h1
    obtain ⟨hz1, hz2⟩ := mem_left.1 hz
    refine ⟨z, hz1, fun ht => ?_⟩
    rw [← falseI_iff hT (hl d hd z hz1), hz2] at ht
    cases ht
  · obtain ⟨h1, h2⟩ := h d hd
    have honly : ∀ z ∈ leftL I d, z = y := fun z hz => by
      obtain ⟨hz1, hz2⟩ := mem_left.1 hz
      refine Classical.byContradiction fun hne => ?_
      have := (falseI_iff hT (hl d hd z hz1)).2 (hall z hz1 hne)
      rw [hz2] at this
      cases this
    have hnd := left_nodup I d
    have e : leftL I d = [y] := by
      match hL : leftL I d, honly, hnd, h1 with
      | [], _, _, h1 => exact absurd rfl h1
      | [z], honly, _, _ => rw [honly z (by simp)]
      | z :: z' :: r, honly, hnd, _ =>
        have e1 := honly z (by simp)
        have e2 := honly z' (by simp)
        rw [e1, e2] at hnd
        simp at hnd
    have hy0 := h2 y e
    have hyl : falseI I y = false := (mem_left.1 (by rw [e]; simp : y ∈ leftL I d)).2
    have hyn := hl d hd y hy
    refine ⟨hyn, ?_⟩
    unfold falseI at hyl
    unfold sg
    rcases hT.at (vr y).toNat with k | k | k
    · exact absurd k hy0
    · rw [k] at hyl ⊢; simp at hyl; split <;> omega
    · rw [k] at hyl ⊢; simp at hyl; split <;> omega
theorem getD_set {I : List Int} {v : Nat} (hv : v < I.length) (s : Int) (j : Nat) : (I.set v s).getD j 0 = if j = v then s else I.getD j 0 := by
  rw [List.getD_eq_getElem?_getD, List.getD_eq_getElem?_getD, List.getElem?_set]
  by_cases h : v = j
  · subst h; simp [hv]
  · rw [if_neg h, if_neg (fun e => h e.symm)]
theorem sg_val (x : Int) : sg x = 1 ∨ sg x = -1 := by unfold sg; split <;> omega
theorem Tab.set {n : Nat} {I : List Int} (h : Tab n I) {x : Int} (hx : x ≠ 0) (hv : (vr x).toNat < I.length) (h0 : I.getD (vr x).toNat 0 = 0 ∨ I.getD (vr x).toNat 0 = sg x) :
    Tab n (I.set (vr x).toNat (sg x)) ∧ (∀ z, Tru I z → Tru (I.set (vr x).toNat (sg x)) z) ∧ Tru (I.set (vr x).toNat (sg x)) x := by
  refine ⟨⟨by simp [h.len], fun j y hj => ?_⟩, fun z hz => ⟨hz.1, ?_⟩, hx, ?_⟩
  · rw [List.getElem?_set] at hj
    split at hj
    · cases hj
      rcases sg_val x with e | e <;> rw [e] <;> simp
    · exact h.val j y hj
  · rw [getD_set hv]
    split
    · next e =>
      rcases h0 with h0 | h0
      · have := hz.2
        rw [e, h0] at this
        rcases sg_val z with k | k <;> rw [k] at this <;> omega
      · have := hz.2
        rw [e, h0] at this
        exact this
    · exact hz.2
  · rw [getD_set hv, if_pos rfl]
theorem zeros_set {I : List Int} {v : Nat} (hv : v < I.length) (h0 : I.getD v 0 = 0) (x : Int) : zeros (I.set v (sg x)) + 1 ≤ zeros I := by
  unfold zeros
  induction I generalizing v with
  | nil => simp at hv
  | cons y I ih =>
    cases v with
    | zero =>
      have : y = 0 := by simpa using h0
      subst this
      have hs : (sg x == 0) = false := by rcases sg_val x with e | e <;> rw [e] <;> rfl
      simp [hs]
    | succ v =>
      have := ih (v := v) (by simpa using hv) (by simpa using h0)
      simp only [List.set_cons_succ, List.countP_cons]
      omega
theorem zeros_le (I : List Int) : zeros I ≤ I.length := List.countP_le_length
end Go.Proofs.Ytfmoldfajmfieaa
