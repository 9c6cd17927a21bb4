/-
  The solver's law in plain Lean: how far a search comes, and what it answers. No program in sight.
-/
import Derived.Test.YtfmoldfajmfieaaLawB
namespace Go.Proofs.Ytfmoldfajmfieaa
open Go.RowKit
section
variable {n : Nat} {S : Sol}
theorem open_ok (hB : Base n S) {v : Int} (hv : IsLit n v) : S.open v = some (decide (v ∉ S.trail ∧ -v ∉ S.trail)) := by
  unfold Sol.open
  rw [hB.lit hv, hB.lit hv.neg]
  by_cases h1 : v ∈ S.trail <;> by_cases h2 : -v ∈ S.trail <;> simp [h1, h2]
/-- What is found among the variables ahead of one. -/
def Found (n : Nat) (S : Sol) (v best : Int) : Prop := best = 0 ∧ (∀ u, 1 ≤ u → u < v → u ≤ n → u ∈ S.trail ∨ -u ∈ S.trail) ∨ 1 ≤ best ∧ best ≤ n ∧ best ∉ S.trail ∧ -best ∉ S.trail
theorem Found.next {v best : Int} (h : Found n S v best) (hv : v ∈ S.trail ∨ -v ∈ S.trail) : Found n S (v + 1) best := by
  rcases h with ⟨h0, h⟩ | h
  · refine .inl ⟨h0, fun u h1 h2 h3 => ?_⟩
    by_cases e : u = v
    · subst e; exact hv
    · exact h u h1 (by omega) h3
  · exact .inr h
theorem Found.pos {v w best : Int} (h : Found n S v best) (hb : best ≠ 0) : Found n S w best := by
  rcases h with ⟨h0, _⟩ | h
  · exact absurd h0 hb
  · exact .inr h
theorem next0_ok (hB : Base n S) : ∀ (k : Nat) (v best : Int), 1 ≤ v → v ≤ 129 → v ≤ n + 1 → n + 2 ≤ v + k → Found n S v best → ∃ r, S.next0 k v best = some r ∧ Found n S 129 r
  | 0, v, best, h1, hv, hv2, hk, hF => by omega
  | k + 1, v, best, h1, hv, hv2, hk, hF => by
    have hvars := hB.vars
    rw [Sol.next0, hvars]
    by_cases hm : v ≤ min (n : Int) 128
    · have hvl : IsLit n v := ⟨by omega, by omega, by omega⟩
      have ih := fun b => next0_ok hB k (v + 1) b (by omega) (by omega) (by omega) (by omega)
      rw [if_pos hm, open_ok hB hvl, Option.bind_some]
      by_cases ho : v ∉ S.trail ∧ -v ∉ S.trail
      · rw [if_pos (by simpa using ho)]
        have hFv : Found n S (v + 1) v := .inr ⟨by omega, by omega, ho⟩
        by_cases hb0 : best = 0
        · rw [if_pos hb0]
          exact ih v hFv
        · rw [if_neg hb0]
          have hb := hF.resolve_left (fun h => hb0 h.1)
          obtain ⟨x, hx⟩ : ∃ x, S.bump[v.toNat]? = some x := ⟨_, List.getElem?_eq_getElem (by rw [hB.bumpL]; omega)⟩
          obtain ⟨y, hy⟩ : ∃ y, S.bump[best.toNat]? = some y := ⟨_, List.getElem?_eq_getElem (by rw [hB.bumpL]; omega)⟩
          rw [hx, Option.bind_some, hy, Option.bind_some]
          split
          · exact ih v hFv
          · exact ih best (hF.pos hb0)
      · rw [if_neg (by simpa using ho)]
        exact ih best (hF.next (by
          rcases Decidable.em (v ∈ S.trail) with h | h
          · exact .inl h
          · exact .inr (Decidable.not_not.1 fun h' => ho ⟨h, h'⟩)))
    · rw [if_neg hm]
      refine ⟨best, rfl, ?_⟩
      rcases hF with ⟨h0, h⟩ | h
      · exact .inl ⟨h0, fun u h1 h2 h3 => h u h1 (by omega) h3⟩
      · exact .inr h
theorem next1_ok (hB : Base n S) : ∀ (k : Nat) (v best : Int), 1 ≤ v → 1 ≤ k → n + 2 ≤ v + k → Found n S v best → ∃ r, S.next1 k v best = some r ∧ Found n S (n + 1) r
  | 0, v, best, h1, hk1, hk, hF => by omega
  | k + 1, v, best, h1, hk1, hk, hF => by
    have hvars := hB.vars
    rw [Sol.next1, hvars]
    by_cases hm : best = 0 ∧ v ≤ (n : Int)
    · have hvl : IsLit n v := ⟨by omega, by omega, by omega⟩
      have ih := fun b => next1_ok hB k (v + 1) b (by omega) (by omega) (by omega)
      rw [if_pos hm, open_ok hB hvl, Option.bind_some]
      by_cases ho : v ∉ S.trail ∧ -v ∉ S.trail
      · rw [if_pos (by simpa using ho)]
        exact ih v (.inr ⟨by omega, by omega, ho⟩)
      · rw [if_neg (by simpa using ho)]
        exact ih best (hF.next (by
          rcases Decidable.em (v ∈ S.trail) with h | h
          · exact .inl h
          · exact .inr (Decidable.not_not.1 fun h' => ho ⟨h, h'⟩)))
    · rw [if_neg hm]
      refine ⟨best, rfl, ?_⟩
      rcases hF with ⟨h0, h⟩ | h
      · exact .inl ⟨h0, fun u h1 h2 h3 => h u h1 (by omega) h3⟩
      · exact .inr h
theorem next_ok (hB : Base n S) {k : Nat} (hk : n < k) : ∃ r, S.next k = some r ∧ (r = 0 ∧ (∀ u, 1 ≤ u → u ≤ (n : Int) → u ∈ S.trail ∨ -u ∈ S.trail) ∨ 1 ≤ r ∧ r ≤ n ∧ r ∉ S.trail ∧ -r ∉ S.trail) := by
  have hn := hB.hn
  obtain ⟨b, hb, hF⟩ := next0_ok hB k 1 0 (by omega) (by omega) (by omega) (by omega) (.inl ⟨rfl, fun u h1 h2 => by omega⟩)
  obtain ⟨r, hr, hF2⟩ := next1_ok hB k 129 b (by omega) (by omega) (by omega) hF
  refine ⟨r, ?_, ?_⟩
  · unfold Sol.next
    rw [if_pos (by rw [hB.vars]; omega), hb, Option.bind_some, hr]
  · rcases hF2 with ⟨h0, h⟩ | h
    · exact .inl ⟨h0, fun u h1 h2 => h u h1 (by omega) h2⟩
    · exact .inr h
theorem modelFrom_ok (hB : Base n S) : ∀ (k : Nat) (v : Nat), v + k ≤ n → ∃ m, S.modelFrom k v = some m ∧ m.length = k ∧ ∀ j, j < k → m[j]? = some (decide (((v + j + 1 : Nat) : Int) ∈ S.trail))
  | 0, v, _ => ⟨[], rfl, rfl, fun j h => by omega⟩
  | k + 1, v, h => by
    have hvl : IsLit n ((v : Int) + 1) := ⟨by omega, by omega, by omega⟩
    obtain ⟨m, h1, h2, h3⟩ := modelFrom_ok hB k (v + 1) (by omega)
    refine ⟨decide ((v : Int) + 1 ∈ S.trail) :: m, ?_, by simp [h2], ?_⟩
    · rw [Sol.modelFrom, hB.lit hvl, Option.bind_some]
      have e : (v : Int) + 1 = ((v + 1 : Nat) : Int) := by omega
      rw [e, h1]; rfl
    · intro j hj
      cases j with
      | zero => simp
      | succ j =>
        rw [List.getElem?_cons_succ, h3 j (by omega)]
        congr 3; omega
theorem model_ok (hB : Base n S) : ∃ m, S.model = some m ∧ m.length = n + 1 ∧ ∀ v, 1 ≤ v → v ≤ n → m[v]? = some (decide ((v : Int) ∈ S.trail)) := by
  have hn := hB.hn
  obtain ⟨m, h1, h2, h3⟩ := modelFrom_ok hB n 0 (by omega)
  refine ⟨false :: m, ?_, by simp [h2], fun v hv1 hv2 => ?_⟩
  · unfold Sol.model
    rw [if_pos (by rw [hB.vars]; omega), hB.vars, Int.toNat_natCast]
    have h1 : S.modelFrom n 0 = some m := h1
    rw [h1]; rfl
  · obtain ⟨j, rfl⟩ : ∃ j, v = j + 1 := ⟨v - 1, by omega⟩
    rw [List.getElem?_cons_succ, h3 j (by omega)]
    simp

/-- The digits of the trail: of each variable that counts, 1 where it was supposed, 2 where it follows. -/
def digs (U : Int → Bool) (marks : List Int) : Nat → List Int → List Nat
  | _, [] => []
  | i, x :: t => if U (vr x) = true then (if (i : Int) ∈ marks then 1 else 2) :: digs U marks (i + 1) t else digs U marks (i + 1) t
def dval : Nat → List Nat → Nat
  | 0, _ => 0
  | _ + 1, [] => 0
  | N + 1, d :: l => d * 3 ^ N + dval N l
theorem digs_append {U : Int → Bool} {marks : List Int} : ∀ (s t : List Int) (i : Nat), digs U marks i (s ++ t) = digs U marks i s ++ digs U marks (i + s.length) t
  | [], t, i => by simp [digs]
  | x :: s, t, i => by
    have ih := digs_append (U := U) (marks := marks) s t (i + 1)
    have e : i + (x :: s).length = i + 1 + s.length := by simp; omega
    simp only [List.cons_append, digs]
    rw [e]
    split
    · rw [ih]; rfl
    · exact ih
theorem digs_congr {U : Int → Bool} {marks marks' : List Int} : ∀ (s : List Int) (i : Nat), (∀ j : Nat, i ≤ j → j < i + s.length → ((j : Int) ∈ marks ↔ (j : Int) ∈ marks')) → digs U marks i s = digs U marks' i s
  | [], i, _ => rfl
  | x :: s, i, h => by
    have ih := digs_congr (U := U) s (i + 1) (fun j h1 h2 => h j (by omega) (by simp; omega))
    have h0 := h i (Nat.le_refl _) (by simp)
    simp only [digs, ih, h0]
theorem digs_le {U : Int → Bool} {marks : List Int} : ∀ (s : List Int) (i : Nat), ∀ d ∈ digs U marks i s, d ≤ 2
  | [], i, d, h => by simp [digs] at h
  | x :: s, i, d, h => by
    simp only [digs] at h
    split at h
    · rcases List.mem_cons.1 h with rfl | h
      · split <;> omega
      · exact digs_le s (i + 1) d h
    · exact digs_le s (i + 1) d h
theorem digs_len {U : Int → Bool} {marks : List Int} : ∀ (s : List Int) (i : Nat), (digs U marks i s).length = ((s.map vr).filter U).length
  | [], i => rfl
  | x :: s, i => by
    have ih := digs_len (U := U) (marks := marks) s (i + 1)
    simp only [digs, List.map_cons, List.filter_cons]
    split
    · simp [ih]
    · exact ih
theorem dval_lt : ∀ (N : Nat) (l : List Nat), (∀ d ∈ l, d ≤ 2) → dval N l < 3 ^ N
  | 0, _, _ => by simp [dval]
  | N + 1, [], _ => by simp only [dval]; exact Nat.pos_of_ne_zero (by simp)
  | N + 1, d :: l, h => by
    have ih := dval_lt N l (fun e he => h e (by simp [he]))
    have hd := h d (by simp)
    simp only [dval, Nat.pow_succ]
    have : d * 3 ^ N ≤ 2 * 3 ^ N := Nat.mul_le_mul_right _ hd
    omega
theorem dval_append : ∀ (N : Nat) (l m : List Nat), l.length ≤ N → dval N (l ++ m) = dval N l + dval (N - l.length) m
  | N, [], m, _ => by cases N <;> simp [dval]
  | 0, d :: l, m, h => by simp at h
  | N + 1, d :: l, m, h => by
    have ih := dval_append N l m (by simpa using h)
    simp only [List.cons_append, dval, ih, List.length_cons, Nat.add_sub_add_right]
    omega
/-- How far the search has come. -/
def Sol.far (U : Int → Bool) (N : Nat) (S : Sol) : Nat := dval N (digs U S.marks 0 S.trail)
theorem far_lt (U : Int → Bool) (N : Nat) (S : Sol) : S.far U N < 3 ^ N := dval_lt _ _ (digs_le _ _)
/-- There are no more than N variables that count. -/
def Count (n : Nat) (U : Int → Bool) (N : Nat) : Prop := ∀ l : List Int, l.Nodup → (∀ v ∈ l, U v = true ∧ 1 ≤ v ∧ v ≤ (n : Int)) → l.length ≤ N
theorem digs_count {U : Int → Bool} {N : Nat} (hN : Count n U N) (hB : Base n S) (marks : List Int) (i : Nat) : (digs U marks i S.trail).length ≤ N := by
  rw [digs_len]
  refine hN _ (hB.nod.filter _) fun v hv => ?_
  obtain ⟨h1, h2⟩ := List.mem_filter.1 hv
  obtain ⟨x, hx, rfl⟩ := List.mem_map.1 h1
  exact ⟨h2, (hB.lits x hx).vr⟩
theorem far_ext {U : Int → Bool} {N : Nat} (hN : Count n U N) {S' : Sol} (hB : Base n S) (hE : Ext S S') : S.far U N ≤ S'.far U N := by
  obtain ⟨t, ht⟩ := hE.trail
  unfold Sol.far
  rw [hE.marks, ht, digs_append, dval_append _ _ _ (digs_count hN hB _ _)]
  omega
/-- The state in which a variable was supposed. -/
def Sol.suppose (S : Sol) (x : Int) : Sol := ({ S with marks := S.marks ++ [(S.trail.length : Int)] } : Sol).put x (-1)
theorem far_suppose {U : Int → Bool} {N : Nat} (hN : Count n U N) (hB : Base n S) {x : Int} (hB' : Base n (S.suppose x)) : S.far U N + (if U (vr x) = true then 1 else 0) ≤ (S.suppose x).far U N := by
  unfold Sol.far
  have hm : (S.suppose x).marks = S.marks ++ [(S.trail.length : Int)] := rfl
  have ht : (S.suppose x).trail = S.trail ++ [x] := rfl
  have hc := digs_congr (U := U) (marks := S.marks) (marks' := S.marks ++ [(S.trail.length : Int)]) S.trail 0 (fun j _ h => by
    simp only [List.mem_append, List.mem_singleton]
    constructor
    · exact .inl
    · rintro (h' | h')
      · exact h'
      · omega)
  have hl := digs_count hN hB (S.marks ++ [(S.trail.length : Int)]) 0
  have hl' := digs_count hN hB' (S.suppose x).marks 0
  rw [hm, ht, digs_append, List.length_append] at hl'
  rw [hm, ht, digs_append, dval_append _ _ _ hl, hc]
  by_cases hU : U (vr x) = true
  · simp only [digs, hU, if_true, Nat.zero_add] at hl' ⊢
    rw [if_pos (by simp)] at hl' ⊢
    simp only [List.length_cons, List.length_nil] at hl'
    obtain ⟨M, hM⟩ : ∃ M, N - (digs U (S.marks ++ [(S.trail.length : Int)]) 0 S.trail).length = M + 1 := ⟨N - (digs U (S.marks ++ [(S.trail.length : Int)]) 0 S.trail).length - 1, by omega⟩
    rw [hM]
    simp only [dval]
    have : 0 < 3 ^ M := Nat.pos_of_ne_zero (by simp)
    omega
  · simp only [hU]
    simp
/-- The first literal that counts, from a place of a level above the lowest on, was supposed. -/
theorem digs_first {D : List (List Int)} {U : Int → Bool} (hG : Good n D S) (hU : ∀ c ∈ S.cls, ∀ z ∈ c, U (vr z) = true) {bk m : Nat} (hm : S.marks[bk]? = some (m : Int)) : ∀ (k i : Nat), S.trail.length - i = k → m ≤ i →
    (∀ j x, m ≤ j → j < i → S.trail[j]? = some x → U (vr x) ≠ true) → digs U S.marks i (S.trail.drop i) = [] ∨ ∃ Q, digs U S.marks i (S.trail.drop i) = 1 :: Q
  | 0, i, hk, _, _ => by
    left
    rw [List.drop_of_length_le (by omega)]; rfl
  | k + 1, i, hk, hmi, hj => by
    have hi : i < S.trail.length := by omega
    have hB := hG.base
    rw [List.drop_eq_getElem_cons hi]
    have hx : S.trail[i]? = some S.trail[i] := List.getElem?_eq_getElem hi
    simp only [digs]
    by_cases hu : U (vr S.trail[i]) = true
    · rw [if_pos hu]
      right
      have hlm : ∀ i', m ≤ i' ↔ bk < lvl S.marks i' := fun i' => by
        have := below_mark hB hm i'
        omega
      have hl := (hlm i).1 hmi
      have hmem : (i : Int) ∈ S.marks := by
        obtain ⟨b, hb⟩ := hB.why i _ hx
        cases hG.rsn i _ b _ hx hb with
        | unit h0 => omega
        | mark _ h => exact List.mem_of_getElem? h
        | clause _ _ c hc _ _ hs =>
          exfalso
          obtain ⟨z, hz, _, j, hji, hjt, hjl⟩ := hs
          exact hj j _ ((hlm j).2 (by omega)) hji hjt (by rw [vr_neg]; exact hU c (List.mem_of_getElem? hc) z hz)
      rw [if_pos hmem]
      exact ⟨_, rfl⟩
    · rw [if_neg hu]
      refine digs_first hG hU hm k (i + 1) (by omega) (by omega) fun j x h1 h2 h3 => ?_
      by_cases e : j = i
      · subst e
        rw [hx] at h3; cases h3
        exact hu
      · exact hj j x h1 (by omega) h3
theorem far_turn {D : List (List Int)} {U : Int → Bool} {N : Nat} (hN : Count n U N) (hG : Good n D S) (hU : ∀ c ∈ S.cls, ∀ z ∈ c, U (vr z) = true) {S' : Sol} {c : List Int} (hT : Turned n D (fun v => U v = true) S S' c) : S.far U N < S'.far U N := by
  have hB := hG.base
  obtain ⟨bk, m, x, hbk, hm, hm', ht', hUx⟩ := hT.move
  have hmt : m < S.trail.length := by have := (hB.mkr _ (List.mem_of_getElem? hm)).2.2; omega
  have hlen : (S.trail.take m).length = m := by rw [List.length_take]; omega
  unfold Sol.far
  have hl' := digs_count hN hT.fine.good.base S'.marks 0
  rw [hm', ht', digs_append, List.length_append, hlen, Nat.zero_add] at hl'
  have hx2 : digs U (S.marks.take bk) m [x] = [2] := by
    simp only [digs, hUx, if_true]
    rw [if_neg]
    intro h
    obtain ⟨j, hj⟩ := List.mem_iff_getElem?.1 h
    rw [List.getElem?_take] at hj
    split at hj
    · next hjb =>
      have h1 := (List.getElem?_eq_some_iff.1 hj)
      have h2 := (List.getElem?_eq_some_iff.1 hm)
      have := (List.pairwise_iff_getElem.1 hB.mks) j bk h1.1 h2.1 hjb
      rw [h1.2, h2.2] at this
      omega
    · cases hj
  have hc := digs_congr (U := U) (marks := S.marks.take bk) (marks' := S.marks) (S.trail.take m) 0 (fun j _ h => by
    constructor
    · exact List.mem_of_mem_take
    · intro hj
      obtain ⟨q, hq⟩ := List.mem_iff_getElem?.1 hj
      refine List.mem_iff_getElem?.2 ⟨q, ?_⟩
      rw [List.getElem?_take, if_pos, hq]
      rcases Nat.lt_or_ge q bk with h' | h'
      · exact h'
      · have h1 := (List.getElem?_eq_some_iff.1 hq)
        have h2 := (List.getElem?_eq_some_iff.1 hm)
        by_cases e : q = bk
        · subst e
          rw [hm] at hq; cases hq
          omega
        · have := (List.pairwise_iff_getElem.1 hB.mks) bk q h2.1 h1.1 (by omega)
          rw [h1.2, h2.2] at this
          omega)
  rw [hx2, hc] at hl'
  simp only [List.length_cons, List.length_nil] at hl'
  rw [hm', ht', digs_append, hlen, Nat.zero_add, hx2, hc, dval_append _ _ _ (by omega)]
  conv => lhs; rw [← List.take_append_drop m S.trail, digs_append, hlen, Nat.zero_add]
  rw [dval_append _ _ _ (by omega)]
  obtain ⟨M, hM⟩ : ∃ M, N - (digs U S.marks 0 (S.trail.take m)).length = M + 1 := ⟨N - (digs U S.marks 0 (S.trail.take m)).length - 1, by omega⟩
  rw [hM]
  have h3 : 0 < 3 ^ M := Nat.pos_of_ne_zero (by simp)
  have hle := digs_le (U := U) (marks := S.marks) (S.trail.drop m) m
  have h2 : dval (M + 1) [2] = 2 * 3 ^ M + dval M [] := rfl
  rcases digs_first hG hU hm _ m rfl (Nat.le_refl _) (fun j x h1 h2 => by omega) with h | ⟨Q, h⟩
  · rw [h]
    have : dval (M + 1) [] = 0 := rfl
    omega
  · rw [h] at hle ⊢
    have := dval_lt M Q (fun d hd => hle d (by simp [hd]))
    have e : dval (M + 1) (1 :: Q) = 1 * 3 ^ M + dval M Q := rfl
    omega
end
/-- A literal is true in a model. -/
def litIn (b : List Bool) (x : Int) : Prop := (b[(vr x).toNat]?).getD false = decide (0 < x)
def Models (l : List (List Int)) (b : List Bool) : Prop := ∀ d ∈ l, ∃ x ∈ d, litIn b x
/-- Each clause follows of those ahead of it. -/
def Proves (n : Nat) (l p : List (List Int)) : Prop := ∀ (i : Nat) (c : List Int), p[i]? = some c → Rup (l ++ p.take i) c ∧ (∀ z ∈ c, IsLit n z) ∧ c.length ≤ n + 1
/-- Each clause of the beginning is among the solver's, or has a literal that is true at the lowest level, or two opposite ones. -/
def Orig (l : List (List Int)) (S : Sol) : Prop := ∀ d ∈ l, (∃ x ∈ d, -x ∈ d) ∨ (∃ x ∈ d, ∃ i, S.trail[i]? = some x ∧ lvl S.marks i = 0) ∨ ∃ c ∈ S.cls, SameLits c d
theorem Orig.ext {l : List (List Int)} {S S' : Sol} (h : Orig l S) (hE : Ext S S') : Orig l S' := fun d hd => by
  rcases h d hd with h | ⟨x, hx, i, hi, hl⟩ | ⟨c, hc, hs⟩
  · exact .inl h
  · exact .inr (.inl ⟨x, hx, i, hE.at hi, by rw [hE.marks]; exact hl⟩)
  · obtain ⟨k, hk⟩ := List.mem_iff_getElem?.1 hc
    obtain ⟨c', hc', hs'⟩ := hE.cls k c hk
    exact .inr (.inr ⟨c', List.mem_of_getElem? hc', hs'.symm.trans hs⟩)
theorem ext_used {U : Int → Prop} {S S' : Sol} (h : ∀ c ∈ S.cls, ∀ z ∈ c, U (vr z)) (hE : Ext S S') : ∀ c ∈ S'.cls, ∀ z ∈ c, U (vr z) := fun c hc z hz => by
  obtain ⟨k, hk⟩ := List.mem_iff_getElem?.1 hc
  have hkl := (List.getElem?_eq_some_iff.1 hk).1
  rw [hE.len] at hkl
  obtain ⟨c', hc', hs⟩ := hE.cls k _ (List.getElem?_eq_getElem hkl)
  rw [hk] at hc'; cases hc'
  exact h _ (List.getElem_mem hkl) z ((hs z).2 hz)
/-- What is so at each round. -/
structure RInv (n : Nat) (l : List (List Int)) (U : Int → Bool) (S : Sol) : Prop where
  fine : Fine n (l ++ S.proof) S
  used : ∀ c ∈ S.cls, ∀ z ∈ c, U (vr z) = true
  orig : Orig l S
  prf : Proves n l S.proof
/-- What an answer says. -/
structure Right (n : Nat) (l : List (List Int)) (t T : Int) (a : Ans) : Prop where
  t0 : t ≤ a.tries
  t1 : a.tries ≤ T
  res : (a.is_ = 1 ∧ a.model.length = n + 1 ∧ Models l a.model ∧ a.proof = []) ∨ (a.is_ = 2 ∧ a.model = [] ∧ Proves n l a.proof ∧ ∃ p, a.proof = p ++ [[]]) ∨ (a.is_ = 0 ∧ a.tries = T ∧ a.model = [] ∧ a.proof = [])
  len : (a.proof.length : Int) ≤ a.tries + 1
theorem Proves.push {n : Nat} {l p : List (List Int)} {c : List Int} (h : Proves n l p) (hr : Rup (l ++ p) c) (hc : ∀ z ∈ c, IsLit n z) (hlen : c.length ≤ n + 1) : Proves n l (p ++ [c]) := fun i d hd => by
  rw [List.getElem?_append] at hd
  split at hd
  · next hi =>
    rw [List.take_append_of_le_length (by omega)]
    exact h i d hd
  · next hi =>
    have : i - p.length = 0 := by
      have := (List.getElem?_eq_some_iff.1 hd).1
      simp at this; omega
    rw [this] at hd
    simp at hd
    subst hd
    have e : i = p.length := by omega
    subst e
    simp only [List.take_left]
    exact ⟨hr, hc, hlen⟩

section
variable {n : Nat} {l : List (List Int)} {U : Int → Bool} {N : Nat}
theorem models_ok {S : Sol} (h : RInv n l U S) (hl : ∀ d ∈ l, ∀ x ∈ d, IsLit n x) (hd : S.done = S.trail.length) (hall : ∀ u : Int, 1 ≤ u → u ≤ (n : Int) → u ∈ S.trail ∨ -u ∈ S.trail) {b : List Bool}
    (hb : ∀ v : Nat, 1 ≤ v → v ≤ n → b[v]? = some (decide ((v : Int) ∈ S.trail))) : Models l b := by
  have hB := h.fine.good.base
  have hin : ∀ x, IsLit n x → x ∈ S.trail → litIn b x := fun x hx hm => by
    have hv := hx.vr
    unfold litIn
    rw [hb (vr x).toNat (by omega) (by omega)]
    have e : (((vr x).toNat : Nat) : Int) = vr x := by omega
    rw [e]
    simp only [Option.getD_some]
    congr 1
    by_cases hp : 0 < x
    · have : vr x = x := by unfold vr; rw [if_neg (by omega)]
      rw [this]; simp [hm, hp]
    · have : vr x = -x := by unfold vr; rw [if_pos (by have := hx.1; omega)]
      rw [this]; simp [hB.not_both hm, hp]
  have hor : ∀ x, IsLit n x → x ∈ S.trail ∨ -x ∈ S.trail := fun x hx => by
    have hv := hx.vr
    rcases hall (vr x) hv.1 hv.2 with h | h
    · unfold vr at h
      split at h
      · exact .inr h
      · exact .inl h
    · unfold vr at h
      split at h
      · rw [Int.neg_neg] at h; exact .inl h
      · exact .inr h
  intro d hdl
  rcases h.orig d hdl with ⟨x, hx, hx'⟩ | ⟨x, hx, i, hi, _⟩ | ⟨c, hc, hs⟩
  · rcases hor x (hl d hdl x hx) with h | h
    · exact ⟨x, hx, hin x (hl d hdl x hx) h⟩
    · exact ⟨-x, hx', hin _ (hl d hdl _ hx') h⟩
  · exact ⟨x, hx, hin x (hl d hdl x hx) (List.mem_of_getElem? hi)⟩
  · have hC := h.fine.good.cl c hc
    obtain ⟨k, hk⟩ := List.mem_iff_getElem?.1 hc
    match c, hC, hk, hs with
    | a :: b' :: r, hC, hk, hs =>
      have ha := hC.lits a (by simp)
      rcases hor a ha with h' | h'
      · exact ⟨a, (hs a).1 (by simp), hin a ha h'⟩
      · obtain ⟨i, hi⟩ := List.mem_iff_getElem?.1 h'
        have hil := (List.getElem?_eq_some_iff.1 hi).1
        obtain ⟨j, hj, _⟩ := h.fine.pro.none hk (.inl ⟨rfl, rfl⟩ : Two (a :: b' :: r) a b') (by rw [hd]; omega) hi
        exact ⟨b', (hs b').1 (by simp), hin b' (hC.lits b' (by simp)) (List.mem_of_getElem? hj)⟩
    | [], hC, _, _ => exact absurd hC.two (by simp)
    | [_], hC, _, _ => exact absurd hC.two (by simp)
set_option maxHeartbeats 1000000 in
theorem run_ok (hl : ∀ d ∈ l, ∀ x ∈ d, IsLit n x) (hN : Count n U N) {m : Nat} (hm : n < m) {T : Int} (hT : T ≤ 65536) : ∀ (f : Nat) (S : Sol) (t : Int), RInv n l U S → 0 ≤ t → t ≤ T → t ≤ S.far U N → 3 ^ n ≤ f + S.far (fun _ => true) n →
    S.cls.length + (T - t) < 1000000000000 → S.proof.length = t → ∃ a, S.run m T f t = some a ∧ Right n l t T a ∧ (a.is_ = 0 → T < 3 ^ N)
  | 0, S, t, _, _, _, _, hf, _, _ => by have := far_lt (fun _ => true) n S; omega
  | f + 1, S, t, hR, ht0, htT, htF, hf, hcl, hpl => by
    have hB := hR.fine.good.base
    have hn := hB.hn
    have hNa : Count n (fun _ => true) n := fun l h1 h2 => nodup_len n (a := 1) (b := n + 1) h1 (fun x hx => by have := h2 x hx; omega) (by omega)
    obtain ⟨S1, k, hs, hS⟩ := spread_ok m S hR.fine (by omega) (by omega)
    have hE := hS.ext
    have hG1 : Good n (l ++ S1.proof) S1 := by rw [hE.proof]; exact hS.good
    have hB1 := hG1.base
    have hU1 := ext_used (U := fun v => U v = true) hR.used hE
    have hO1 := hR.orig.ext hE
    have hP1 : Proves n l S1.proof := by rw [hE.proof]; exact hR.prf
    have hF1 := far_ext hN hB hE
    have hF1a := far_ext hNa hB hE
    have hlt := far_lt U N S1
    rw [Sol.run, hs, Option.bind_some]
    dsimp only
    rcases hS.res with ⟨rfl, hPro, hdone⟩ | ⟨hk, hC, hL⟩
    · rw [if_neg (by simp)]
      have hR1 : RInv n l U S1 := ⟨⟨hG1, hS.wat, hPro⟩, hU1, hO1, hP1⟩
      obtain ⟨v, hv, hcase⟩ := next_ok hB1 hm
      rw [hv, Option.bind_some]
      rcases hcase with ⟨rfl, hall⟩ | ⟨h1, h2, h3, h4⟩
      · obtain ⟨b, hb1, hb2, hb3⟩ := model_ok hB1
        rw [if_pos rfl, hb1]
        exact ⟨_, rfl, ⟨Int.le_refl _, htT, .inl ⟨rfl, hb2, models_ok hR1 hl hdone hall hb3, rfl⟩, by simp; omega⟩, fun h => by simp at h⟩
      · obtain ⟨ph, hph⟩ : ∃ ph, S1.phase[v.toNat]? = some ph := ⟨_, List.getElem?_eq_getElem (by rw [hB1.phaseL]; omega)⟩
        have hml : S1.marks.length ≤ n := nodup_len n (a := 0) (b := n) ((List.nodup_iff_pairwise_ne.2 (hB1.mks.imp fun h => by omega))) (fun x hx => by have := hB1.mkr x hx; have := hB1.trailL; omega) (by omega)
        rw [if_neg (by omega), if_pos (by omega), hph, Option.bind_some]
        have hvl : IsLit n v := ⟨by omega, by omega, by omega⟩
        obtain ⟨x, hx⟩ : ∃ x, x = if ph = true then v else -v := ⟨_, rfl⟩
        rw [← hx]
        have hxl : IsLit n x := by subst hx; split; exact hvl; exact hvl.neg
        have hx1 : x ∉ S1.trail := by subst hx; split; exact h3; exact h4
        have hx2 : -x ∉ S1.trail := by subst hx; split; exact h4; rw [Int.neg_neg]; exact h3
        have hmks : (S1.marks ++ [(S1.trail.length : Int)]).Pairwise (· < ·) := by
          rw [List.pairwise_append]
          refine ⟨hB1.mks, by simp, fun a ha b hb => ?_⟩
          simp only [List.mem_singleton] at hb
          subst hb
          exact (hB1.mkr a ha).2.2
        have hmkr : ∀ m' ∈ S1.marks ++ [(S1.trail.length : Int)], 0 ≤ m' ∧ m' ≤ S1.done ∧ m' < (S1.trail.length : Int) + 1 := fun m' hm' => by
          rcases List.mem_append.1 hm' with hm' | hm'
          · have := hB1.mkr m' hm'
            omega
          · simp only [List.mem_singleton] at hm'
            subst hm'
            omega
        have hlv : ∀ i, i < S1.trail.length → lvl (S1.marks ++ [(S1.trail.length : Int)]) i = lvl S1.marks i := fun i hi => lvl_push (by omega)
        have hcur : lvl (S1.marks ++ [(S1.trail.length : Int)]) S1.trail.length = S1.marks.length + 1 := by
          rw [lvl_all fun m' hm' => by have := hmkr m' hm'; omega]; simp
        have hG2 : Good n (l ++ S1.proof) (S1.suppose x) := by
          refine put_good hG1 hxl hx1 hx2 hmks hmkr hlv (fun j m' h => by rw [List.getElem?_append_left (List.getElem?_eq_some_iff.1 h).1]; exact h) ?_
          refine .mark ?_ ?_
          · show 0 < lvl (S1.marks ++ [(S1.trail.length : Int)]) S1.trail.length
            rw [hcur]; omega
          · show (S1.marks ++ [(S1.trail.length : Int)])[lvl (S1.marks ++ [(S1.trail.length : Int)]) S1.trail.length - 1]? = _
            rw [hcur]; simp
        have hhold : ({ S1 with marks := S1.marks ++ [(S1.trail.length : Int)] } : Sol).hold x (-1) = some (S1.suppose x, true) := by
          unfold Sol.hold
          have htl := hB1.trailL
          have hxv := hxl.vr
          have e1 : ({ S1 with marks := S1.marks ++ [(S1.trail.length : Int)] } : Sol).lit (-x) = S1.lit (-x) := rfl
          have e2 : ({ S1 with marks := S1.marks ++ [(S1.trail.length : Int)] } : Sol).lit x = S1.lit x := rfl
          rw [e1, e2, hB1.lit hxl.neg, hB1.lit hxl]
          simp only [hx1, hx2, decide_false, Option.bind_some, Bool.false_eq_true, if_false]
          rw [if_pos (by rw [hB1.whyL]; omega)]
          rfl
        have hPr2 : Pro (S1.suppose x) 0 [] := by
          intro q c a b i hc h2' hi hia
          have hi : (i : Int) < S1.done := hi
          have hia2 : (S1.trail ++ [x])[i]? = some (-a) := hia
          rw [List.getElem?_append_left (by omega)] at hia2
          obtain ⟨j, hj, hjl⟩ := hPro.none hc h2' hi hia2
          have hjlt := (List.getElem?_eq_some_iff.1 hj).1
          refine .inr ⟨j, by show (S1.trail ++ [x])[j]? = _; rw [List.getElem?_append_left hjlt]; exact hj, ?_⟩
          show lvl (S1.marks ++ [(S1.trail.length : Int)]) j ≤ lvl (S1.marks ++ [(S1.trail.length : Int)]) i
          rw [hlv j hjlt, hlv i (by omega)]; exact hjl
        have hR2 : RInv n l U (S1.suppose x) := by
          refine ⟨⟨hG2, ⟨hS.wat.at_, hS.wat.nod, hS.wat.rnod, hS.wat.disj⟩, hPr2⟩, hU1, fun d hd => ?_, hP1⟩
          rcases hO1 d hd with h | ⟨y, hy, i, hi, hl0⟩ | h
          · exact .inl h
          · have hil := (List.getElem?_eq_some_iff.1 hi).1
            exact .inr (.inl ⟨y, hy, i, by show (S1.trail ++ [x])[i]? = _; rw [List.getElem?_append_left hil]; exact hi, by show lvl (S1.marks ++ [(S1.trail.length : Int)]) i = 0; rw [hlv i hil]; exact hl0⟩)
          · exact .inr (.inr h)
        have hS1 := far_suppose hN hB1 hG2.base
        have hS2 := far_suppose hNa hB1 hG2.base
        simp only [if_true] at hS2
        obtain ⟨a, g1, g2, g3⟩ := run_ok hl hN hm hT f (S1.suppose x) t hR2 ht0 htT (by omega) (by omega) (by show (S1.cls.length : Int) + (T - t) < _; rw [hE.len]; exact hcl) (by show (S1.proof.length : Int) = t; rw [hE.proof]; exact hpl)
        refine ⟨a, ?_, g2, g3⟩
        rw [hhold]; exact g1
    · rw [if_pos hk]
      by_cases h0 : S1.marks.length = 0
      · rw [if_pos h0, if_pos (by rw [hE.proof]; omega)]
        refine ⟨_, rfl, ⟨Int.le_refl _, htT, .inr (.inl ⟨rfl, rfl, hP1.push (conf_zero hG1 h0 hC) (by simp) (by simp), S1.proof, rfl⟩), by rw [hE.proof]; simp; omega⟩, fun h => by simp at h⟩
      · rw [if_neg h0]
        by_cases htT' : t = T
        · rw [if_pos htT']
          refine ⟨_, rfl, ⟨Int.le_refl _, htT, .inr (.inr ⟨rfl, htT', rfl, rfl⟩), by simp; omega⟩, fun _ => ?_⟩
          have : (T : Int) < ((3 ^ N : Nat) : Int) := by omega
          rwa [Int.natCast_pow] at this
        · rw [if_neg htT']
          obtain ⟨S2, c, hturn, hTu⟩ := turn_ok (U := fun v => U v = true) hG1 hS.wat hL hU1 (by omega) hC m hm (by rw [hE.len]; omega) (by rw [hE.proof]; omega)
          rw [hturn, Option.bind_some]
          have hft := far_turn hN hG1 hU1 hTu
          have hTa : Turned n (l ++ S1.proof) (fun v => (fun _ : Int => true) v = true) S1 S2 c := by
            obtain ⟨a1, a2, a3, a4, a5, ⟨bk, mm, x, b1, b2, b3, b4, _⟩, a7⟩ := hTu
            exact ⟨a1, a2, a3, fun z hz => ⟨(a4 z hz).1, rfl⟩, a5, ⟨bk, mm, x, b1, b2, b3, b4, rfl⟩, a7⟩
          have hfta := far_turn hNa hG1 (fun _ _ _ _ => rfl) hTa
          obtain ⟨bk, mm, x, b1, b2, b3, b4, _⟩ := hTu.move
          have hR2 : RInv n l U S2 := by
            refine ⟨by rw [hTu.proof, ← List.append_assoc]; exact hTu.fine, ?_, ?_, by rw [hTu.proof]; exact hP1.push hTu.rup (fun z hz => (hTu.lits z hz).1) hTu.clen⟩
            · rcases hTu.cls with e | ⟨c', e, hs'⟩
              · rw [e]; exact hU1
              · intro d hd z hz
                rw [e] at hd
                rcases List.mem_append.1 hd with hd | hd
                · exact hU1 d hd z hz
                · simp only [List.mem_singleton] at hd
                  subst hd
                  exact (hTu.lits z ((hs' z).1 hz)).2
            · intro d hd
              rcases hO1 d hd with h | ⟨y, hy, i, hi, hl0⟩ | ⟨c', hc', hs'⟩
              · exact .inl h
              · have him := (below_mark hB1 b2 i).1 (by omega)
                refine .inr (.inl ⟨y, hy, i, ?_, ?_⟩)
                · rw [b4, List.getElem?_append_left (by rw [List.length_take]; have := (List.getElem?_eq_some_iff.1 hi).1; omega), List.getElem?_take, if_pos him]; exact hi
                · rw [b3, lvl_take hB1.mks b2 (by omega)]; exact hl0
              · refine .inr (.inr ⟨c', ?_, hs'⟩)
                rcases hTu.cls with e | ⟨c'', e, _⟩
                · rw [e]; exact hc'
                · rw [e]; exact List.mem_append_left _ hc'
          obtain ⟨a, g1, g2, g3⟩ := run_ok hl hN hm hT f S2 (t + 1) hR2 (by omega) (by omega) (by omega) (by omega) (by
            have : (S2.cls.length : Int) ≤ S1.cls.length + 1 := by
              rcases hTu.cls with e | ⟨c', e, _⟩
              · rw [e]; omega
              · rw [e]; simp
            rw [hE.len] at this
            omega) (by rw [hTu.proof, hE.proof]; simp; omega)
          exact ⟨a, g1, ⟨by have := g2.t0; omega, g2.t1, g2.res, g2.len⟩, g3⟩
end
/-- The solver while clauses are added. -/
structure AInv (n : Nat) (D pre : List (List Int)) (U : Int → Bool) (S : Sol) : Prop where
  good : Good n D S
  wat : Wat n S 0 []
  done : S.done = 0
  marks : S.marks = []
  proof : S.proof = []
  used : ∀ c ∈ S.cls, ∀ z ∈ c, U (vr z) = true
  orig : Orig pre S
  len : S.cls.length ≤ pre.length
theorem getElem?_replicate_some {α : Type} {k i : Nat} {a b : α} (h : (List.replicate k a)[i]? = some b) : b = a := by
  have := List.mem_of_getElem? h
  exact (List.mem_replicate.1 this).2
theorem none_ok {n : Nat} (hn : n ≤ 1048576) (D : List (List Int)) (U : Int → Bool) : AInv n D [] U (Sol.none n) := by
  refine ⟨⟨⟨hn, rfl, by simp [Sol.none], by simp [Sol.none], by simp [Sol.none], by simp [Sol.none], by simp [Sol.none], by simp [Sol.none], ?_, by simp [Sol.none], by simp [Sol.none], by simp [Sol.none], by simp [Sol.none], by simp [Sol.none], by simp [Sol.none]⟩, by simp [Sol.none], by simp [Sol.none], by simp [Sol.none]⟩, ⟨?_, ?_, List.nodup_nil, by simp⟩, rfl, rfl, rfl, by simp [Sol.none], fun d hd => by simp at hd, by simp [Sol.none]⟩
  · intro x hx
    simp only [Sol.none, List.getElem?_replicate]
    rw [if_pos hx.lc_lt]; simp
  · intro y r hy hr k
    have e : r = [] := getElem?_replicate_some hr
    subst e
    simp [Sol.none]
  · intro y r hy hr
    have e : r = [] := getElem?_replicate_some hr
    subst e
    exact List.nodup_nil
theorem taut_iff {c : List Int} : taut c = true ↔ ∃ x ∈ c, -x ∈ c := by
  unfold taut
  simp only [List.any_eq_true, beq_iff_eq]
  constructor
  · rintro ⟨x, hx, y, hy, e⟩
    exact ⟨x, hx, by rw [e]; exact hy⟩
  · rintro ⟨x, hx, hy⟩
    exact ⟨x, hx, -x, hy, rfl⟩
section
variable {n : Nat} {D : List (List Int)} {U : Int → Bool} {cl : List Int → List Int}
theorem Orig.snoc {pre : List (List Int)} {d : List Int} {S S' : Sol} (h : Orig pre S) (ht : ∃ t, S'.trail = S.trail ++ t) (hm : S'.marks = S.marks) (hc : ∃ t, S'.cls = S.cls ++ t)
    (hd : (∃ x ∈ d, -x ∈ d) ∨ (∃ x ∈ d, ∃ i, S'.trail[i]? = some x ∧ lvl S'.marks i = 0) ∨ ∃ c ∈ S'.cls, SameLits c d) : Orig (pre ++ [d]) S' := fun e he => by
  rcases List.mem_append.1 he with he | he
  · rcases h e he with h | ⟨x, hx, i, hi, hl⟩ | ⟨c, hcm, hs⟩
    · exact .inl h
    · obtain ⟨t, ht⟩ := ht
      exact .inr (.inl ⟨x, hx, i, by rw [ht, List.getElem?_append_left (List.getElem?_eq_some_iff.1 hi).1]; exact hi, by rw [hm]; exact hl⟩)
    · obtain ⟨t, hc⟩ := hc
      exact .inr (.inr ⟨c, by rw [hc]; exact List.mem_append_left _ hcm, hs⟩)
  · simp only [List.mem_singleton] at he
    subst he
    exact hd
set_option maxHeartbeats 1000000 in
theorem adds_ok (hcl : ∀ c, SameLits (cl c) c ∧ (cl c).Nodup) (hD : ∀ d ∈ D, ∀ x ∈ d, IsLit n x) (hU : ∀ d ∈ D, ∀ x ∈ d, U (vr x) = true) (hL : D.length < 1000000) : ∀ (rest pre : List (List Int)) (S : Sol), D = pre ++ rest → AInv n D pre U S →
    (∃ S', S.adds cl rest = some (S', true) ∧ AInv n D D U S') ∨ ∃ S', S.adds cl rest = some (S', false) ∧ Rup D []
  | [], pre, S, hpre, h => by
    rw [List.append_nil] at hpre
    subst hpre
    exact .inl ⟨S, rfl, h⟩
  | d :: rest, pre, S, hpre, h => by
    have hdD : d ∈ D := by rw [hpre]; simp
    have hB := h.good.base
    have hn := hB.hn
    obtain ⟨hs, hnd⟩ := hcl d
    have hlit : ∀ x ∈ cl d, IsLit n x := fun x hx => hD d hdD x ((hs x).1 hx)
    have hpl : pre.length < 1000000 := by rw [hpre] at hL; simp at hL; omega
    have hpre' : D = (pre ++ [d]) ++ rest := by rw [hpre]; simp
    have hbd : ∀ x ∈ cl d, -1099511627776 < x ∧ x < 1099511627776 := fun x hx => (hlit x hx).bound hn
    have hlv : ∀ i, lvl S.marks i = 0 := fun i => by rw [h.marks]; rfl
    have go : ∀ S', S.add (cl d) = some (S', true) → AInv n D (pre ++ [d]) U S' →
        (∃ S'', S.adds cl (d :: rest) = some (S'', true) ∧ AInv n D D U S'') ∨ ∃ S'', S.adds cl (d :: rest) = some (S'', false) ∧ Rup D [] := fun S' he hi => by
      rcases adds_ok hcl hD hU hL rest (pre ++ [d]) S' hpre' hi with ⟨S'', h1, h2⟩ | ⟨S'', h1, h2⟩
      · exact .inl ⟨S'', by rw [Sol.adds, he, Option.bind_some, if_pos rfl]; exact h1, h2⟩
      · exact .inr ⟨S'', by rw [Sol.adds, he, Option.bind_some, if_pos rfl]; exact h1, h2⟩
    by_cases ht : taut (cl d) = true
    · refine go S (by unfold Sol.add; rw [if_pos hbd, if_pos ht]) ⟨h.good, h.wat, h.done, h.marks, h.proof, h.used, h.orig.snoc ⟨[], by simp⟩ rfl ⟨[], by simp⟩ (.inl ?_), by have := h.len; simp; omega⟩
      obtain ⟨x, hx, hx'⟩ := taut_iff.1 ht
      exact ⟨x, (hs x).1 hx, (hs _).1 hx'⟩
    · have hadd : S.add (cl d) = match cl d with
          | [] => some (S, false)
          | [x] => S.hold x (-1)
          | c => (S.keep c).map fun p => (p.1, true) := by
        unfold Sol.add
        rw [if_pos hbd, if_neg ht]
        generalize cl d = c
        match c with
        | [] => rfl
        | [x] => rfl
        | x :: y :: r => rfl
      generalize hc : cl d = c at hadd hs hnd hlit hbd ht
      match c, hadd, hs, hnd, hlit, ht with
      | [], hadd, hs, _, _, _ =>
        right
        refine ⟨S, by rw [Sol.adds, hc, hadd]; rfl, fun A hA _ => ?_⟩
        obtain ⟨z, hz, _⟩ := (hA.2 d hdD).1
        exact absurd ((hs z).2 hz) (by simp)
      | [x], hadd, hs, _, hlit, _ =>
        have hx := hlit x (by simp)
        have hxd : x ∈ d := (hs x).1 (by simp)
        have hall : ∀ z ∈ d, z = x := fun z hz => by simpa using (hs z).2 hz
        by_cases h2 : -x ∈ S.trail
        · right
          refine ⟨S, by rw [Sol.adds, hc, hadd]; show (S.hold x (-1)).bind _ = _; rw [hold_false hB (-1) hx h2]; rfl, fun A hA _ => ?_⟩
          obtain ⟨i, hi⟩ := List.mem_iff_getElem?.1 h2
          have h3 := zero_closed h.good hA i (-x) hi (hlv i)
          have h4 := (hA.2 d hdD).2 x hxd fun z hz hne => absurd (hall z hz) hne
          exact hA.1 x h4 h3
        · by_cases h1 : x ∈ S.trail
          · refine go S (by rw [hc, hadd]; exact hold_true hB (-1) hx h1) ⟨h.good, h.wat, h.done, h.marks, h.proof, h.used, h.orig.snoc ⟨[], by simp⟩ rfl ⟨[], by simp⟩ (.inr (.inl ?_)), by have := h.len; simp; omega⟩
            obtain ⟨i, hi⟩ := List.mem_iff_getElem?.1 h1
            exact ⟨x, hxd, i, hi, hlv i⟩
          · refine go (S.put x (-1)) (by rw [hc, hadd]; exact hold_new hB (-1) hx h1 h2) ⟨?_, ⟨h.wat.at_, h.wat.nod, h.wat.rnod, h.wat.disj⟩, h.done, h.marks, h.proof, h.used, h.orig.snoc ⟨[x], rfl⟩ rfl ⟨[], by simp [Sol.put]⟩ (.inr (.inl ?_)), by have := h.len; simp [Sol.put]; omega⟩
            · exact put_good (mk := S.marks) h.good hx h1 h2 hB.mks (fun m hm => by rw [h.marks] at hm; simp at hm) (fun _ _ => rfl) (fun _ _ h => h) (.unit (hlv _) d hdD hxd hall)
            · exact ⟨x, hxd, S.trail.length, by simp [Sol.put], hlv _⟩
      | x :: y :: r, hadd, hs, hnd, hlit, ht =>
        have hC : Clause n (x :: y :: r) := ⟨by simp, hlit, hnd, fun z hz hz' => ht (taut_iff.2 ⟨z, hz, hz'⟩)⟩
        obtain ⟨w', hk, hwL, hW⟩ := keep_ok hB h.good.cl h.wat (by have := h.len; omega) hC
        refine go { S with cls := S.cls ++ [x :: y :: r], watch := w' } (by rw [hc, hadd]; show (S.keep (x :: y :: r)).map _ = _; rw [hk]; rfl) ⟨⟨?_, ?_, ?_, ?_⟩, hW, h.done, h.marks, h.proof, ?_, h.orig.snoc ⟨[], by simp⟩ rfl ⟨[x :: y :: r], rfl⟩ (.inr (.inr ⟨x :: y :: r, by simp, hs⟩)), by have := h.len; simp; omega⟩
        · exact ⟨hn, hB.vars, hB.isL, hB.whyL, hB.bumpL, hB.phaseL, hwL, hB.lits, hB.val, hB.nod, hB.d0, hB.d1, hB.mks, hB.mkr, hB.why⟩
        · intro c' hc'
          rcases List.mem_append.1 hc' with hc' | hc'
          · exact h.good.cl c' hc'
          · simp only [List.mem_singleton] at hc'
            subst hc'; exact hC
        · intro c' hc'
          rcases List.mem_append.1 hc' with hc' | hc'
          · exact h.good.src c' hc'
          · simp only [List.mem_singleton] at hc'
            subst hc'
            exact ⟨d, hdD, hs⟩
        · intro i z b l h1 h2
          exact (h.good.rsn i z b l h1 h2).mono (fun _ h => h) (fun _ _ => rfl) (fun _ _ _ h => h) (fun _ _ _ h => h) (SameCls.append _ _)
        · intro c' hc' z hz
          rcases List.mem_append.1 hc' with hc' | hc'
          · exact h.used c' hc' z hz
          · simp only [List.mem_singleton] at hc'
            subst hc'
            exact hU d hdD z ((hs z).1 hz)
theorem solve_ok (hcl : ∀ c, SameLits (cl c) c ∧ (cl c).Nodup) {l : List (List Int)} {N m f : Nat} (hn : n ≤ 1048576) (hl : ∀ d ∈ l, ∀ x ∈ d, IsLit n x) (hU : ∀ d ∈ l, ∀ x ∈ d, U (vr x) = true) (hL : l.length < 1000000) (hN : Count n U N) (hm : n < m) (hf : 3 ^ n ≤ f) (tries : Int) :
    ∃ a, solveF cl m n f l tries = some a ∧ Right n l 0 (max 0 (min tries 65536)) a ∧ (a.is_ = 0 → max 0 (min tries 65536) < 3 ^ N) := by
  have hbad : Rup l [] → Right n l 0 (max 0 (min tries 65536)) ⟨2, 0, [], [[]]⟩ := fun h => ⟨Int.le_refl _, by show (0 : Int) ≤ _; omega, .inr (.inl ⟨rfl, rfl, fun i c hc => by
    cases i with
    | zero => simp at hc; subst hc; exact ⟨by simpa using h, by simp, by simp⟩
    | succ i => simp at hc, [], rfl⟩), by simp⟩
  unfold solveF Sol.fresh
  rcases adds_ok (U := U) hcl hl hU hL l [] (Sol.none n) rfl (none_ok hn l U) with ⟨S', h1, h2⟩ | ⟨S', h1, h2⟩
  · have hF : Fine n l S' := ⟨h2.good, h2.wat, fun k c a b i _ _ hi => by rw [h2.done] at hi; omega⟩
    have hlen := h2.len
    obtain ⟨S1, k, hs, hS⟩ := spread_ok m S' hF (by omega) (by omega)
    rw [h1, Option.bind_some, if_pos rfl, hs]
    have hE := hS.ext
    rcases hS.res with ⟨rfl, hPro, hdone⟩ | ⟨hk, hC, hLo⟩
    · obtain ⟨a, g1, g2, g3⟩ := run_ok (l := l) (U := U) hl hN hm (T := max 0 (min tries 65536)) (by omega) f S1 0 ⟨⟨by rw [hE.proof, h2.proof, List.append_nil]; exact hS.good, hS.wat, hPro⟩, ext_used (U := fun v => U v = true) h2.used hE, h2.orig.ext hE, by rw [hE.proof, h2.proof]; intro i c hc; simp at hc⟩
        (Int.le_refl _) (by omega) (by omega) (by omega) (by rw [hE.len]; omega) (by rw [hE.proof, h2.proof]; rfl)
      exact ⟨a, g1, g2, g3⟩
    · have h0 : Rup l [] := conf_zero hS.good (by rw [hE.marks, h2.marks]; rfl) hC
      have e : decide (k = -1) = false := by simp [hk]
      refine ⟨⟨2, 0, [], [[]]⟩, ?_, hbad h0, fun h => by simp at h⟩
      simp [e]
  · rw [h1, Option.bind_some]
    exact ⟨⟨2, 0, [], [[]]⟩, rfl, hbad h2, fun h => by simp at h⟩
end
end Go.Proofs.Ytfmoldfajmfieaa
