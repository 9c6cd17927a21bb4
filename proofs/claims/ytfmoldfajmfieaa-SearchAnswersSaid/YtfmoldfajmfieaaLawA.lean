/-
  The solver's law in plain Lean: what is so of its data, and what spreads. No program in sight.
-/
import Derived.Test.YtfmoldfajmfieaaRunF
namespace Go.Proofs.Ytfmoldfajmfieaa
open Go.RowKit
/-- A literal of the variables from 1 to n. -/
def IsLit (n : Nat) (x : Int) : Prop := x ≠ 0 ∧ -(n : Int) ≤ x ∧ x ≤ n
theorem lc_inj {x y : Int} : lc x = lc y ↔ x = y := by unfold lc; split <;> split <;> omega
theorem IsLit.neg {n : Nat} {x : Int} (h : IsLit n x) : IsLit n (-x) := by unfold IsLit at *; omega
theorem IsLit.lc_lt {n : Nat} {x : Int} (h : IsLit n x) : lc x < 2 * n + 2 := by unfold IsLit at h; unfold lc; split <;> omega
theorem vr_neg (x : Int) : vr (-x) = vr x := by unfold vr; split <;> split <;> omega
theorem vr_eq {x y : Int} : vr x = vr y ↔ x = y ∨ x = -y := by unfold vr; split <;> split <;> omega
theorem IsLit.vr {n : Nat} {x : Int} (h : IsLit n x) : 1 ≤ vr x ∧ vr x ≤ n := by unfold IsLit at h; unfold Ytfmoldfajmfieaa.vr; split <;> omega
theorem IsLit.of_vr {n : Nat} {x y : Int} (h : IsLit n x) (e : Ytfmoldfajmfieaa.vr y = Ytfmoldfajmfieaa.vr x) : IsLit n y := by
  rcases vr_eq.1 e with rfl | rfl
  · exact h
  · exact h.neg
theorem IsLit.bound {n : Nat} {x : Int} (h : IsLit n x) (hn : n ≤ 1048576) : -1099511627776 < x ∧ x < 1099511627776 := by unfold IsLit at h; omega
theorem IsLit.bound_neg {n : Nat} {x : Int} (h : IsLit n x) (hn : n ≤ 1048576) : -1099511627776 < -x ∧ -x < 1099511627776 := by unfold IsLit at h; omega

theorem nodup_len : ∀ (k : Nat) {l : List Int} {a b : Int}, l.Nodup → (∀ x ∈ l, a ≤ x ∧ x < b) → (b - a).toNat ≤ k → l.length ≤ k
  | 0, l, a, b, _, hr, hk => by
    cases l with
    | nil => simp
    | cons x l => have := hr x (by simp); omega
  | k + 1, l, a, b, h, hr, hk => by
    have := nodup_len k (l := l.erase (b - 1)) (a := a) (b := b - 1) (h.erase _) (fun x hx => by
      have h1 := (h.mem_erase_iff).1 hx
      have h2 := hr x h1.2
      have := h1.1
      omega) (by omega)
    rw [List.length_erase] at this
    split at this <;> omega

/-- The level of a place on the trail. -/
def lvl (marks : List Int) (i : Nat) : Nat := marks.countP fun m => decide (m ≤ (i : Int))
theorem lvl_mono {marks : List Int} {i j : Nat} (h : i ≤ j) : lvl marks i ≤ lvl marks j := by
  unfold lvl
  apply List.countP_mono_left
  intro x _ hx
  simp only [decide_eq_true_eq] at *
  omega
theorem lvl_le (marks : List Int) (i : Nat) : lvl marks i ≤ marks.length := List.countP_le_length
theorem lvl_all {marks : List Int} {i : Nat} (h : ∀ m ∈ marks, m ≤ (i : Int)) : lvl marks i = marks.length := by
  unfold lvl; rw [List.countP_eq_length]; intro m hm; simpa using h m hm
theorem lvl_push {marks : List Int} {m : Int} {i : Nat} (h : (i : Int) < m) : lvl (marks ++ [m]) i = lvl marks i := by
  unfold lvl; rw [List.countP_append]; simp; omega
theorem lvl_cons (m : Int) (marks : List Int) (i : Nat) : lvl (m :: marks) i = lvl marks i + if m ≤ (i : Int) then 1 else 0 := by
  unfold lvl; rw [List.countP_cons]; simp
/-- In rising marks the level is told by the mark ahead and the mark behind. -/
theorem lvl_iff : ∀ {marks : List Int} (_ : marks.Pairwise (· < ·)) {i k : Nat}, k < lvl marks i ↔ ∃ m, marks[k]? = some m ∧ m ≤ (i : Int)
  | [], _, i, k => by simp [lvl]
  | m :: marks, h, i, k => by
    rw [lvl_cons]
    rw [List.pairwise_cons] at h
    have ih := @lvl_iff marks h.2 i
    cases k with
    | zero =>
      simp only [List.getElem?_cons_zero, Option.some.injEq, exists_eq_left']
      constructor
      · intro h1
        split at h1
        · assumption
        · have := (ih (k := 0)).1 (by omega)
          obtain ⟨m', h2, h3⟩ := this
          have := h.1 m' (List.mem_of_getElem? h2)
          omega
      · intro h1
        rw [if_pos h1]; omega
    | succ k =>
      simp only [List.getElem?_cons_succ]
      constructor
      · intro h1
        refine ih.1 ?_
        split at h1
        · omega
        · next hm =>
          exfalso
          have := (ih (k := 0)).1 (by omega)
          obtain ⟨m', h2, h3⟩ := this
          have := h.1 m' (List.mem_of_getElem? h2)
          omega
      · intro h1
        have h2 := ih.2 h1
        obtain ⟨m', h3, h4⟩ := h1
        have := h.1 m' (List.mem_of_getElem? h3)
        rw [if_pos (by omega)]; omega
theorem lvl_take {marks : List Int} (h : marks.Pairwise (· < ·)) {i k : Nat} {m : Int} (hm : marks[k]? = some m) (hi : (i : Int) < m) : lvl (marks.take k) i = lvl marks i := by
  apply Nat.le_antisymm
  · exact (List.take_sublist k marks).countP_le
  · apply Nat.le_of_not_lt
    intro hlt
    have h1 := (lvl_iff h (k := lvl (marks.take k) i)).1 hlt
    obtain ⟨m', h2, h3⟩ := h1
    have hk : lvl (marks.take k) i < k := by
      rcases Nat.lt_or_ge (lvl (marks.take k) i) k with h4 | h4
      · exact h4
      · exfalso
        have h5 : lvl (marks.take k) i ≤ k := Nat.le_trans (lvl_le _ _) (by simp; omega)
        have e : lvl (marks.take k) i = k := by omega
        rw [e, hm] at h2
        cases h2; omega
    have h5 : k ≤ marks.length := by have := (List.getElem?_eq_some_iff.1 hm).1; omega
    have h6 : lvl (marks.take k) i < lvl (marks.take k) i := (lvl_iff (h.sublist (List.take_sublist _ _)) (k := lvl (marks.take k) i)).2 ⟨m', by rw [List.getElem?_take, if_pos hk]; exact h2, h3⟩
    omega

structure Base (n : Nat) (S : Sol) : Prop where
  hn : n ≤ 1048576
  vars : S.vars = n
  isL : S.is.length = 2 * n + 2
  whyL : S.why.length = n + 1
  bumpL : S.bump.length = n + 1
  phaseL : S.phase.length = n + 1
  watchL : S.watch.length = 2 * n + 2
  lits : ∀ x ∈ S.trail, IsLit n x
  val : ∀ x, IsLit n x → S.is[lc x]? = some (decide (x ∈ S.trail))
  nod : (S.trail.map vr).Nodup
  d0 : 0 ≤ S.done
  d1 : S.done ≤ S.trail.length
  mks : S.marks.Pairwise (· < ·)
  mkr : ∀ m ∈ S.marks, 0 ≤ m ∧ m ≤ S.done ∧ m < S.trail.length
  why : ∀ i x, S.trail[i]? = some x → ∃ b, S.why[(vr x).toNat]? = some (b, (lvl S.marks i : Int))

namespace Base
variable {n : Nat} {S : Sol}
theorem trailL (h : Base n S) : S.trail.length ≤ n := by
  have := nodup_len n (l := S.trail.map vr) (a := 1) (b := n + 1) h.nod (fun x hx => by
    obtain ⟨y, hy, rfl⟩ := List.mem_map.1 hx
    have := (h.lits y hy).vr; omega) (by omega)
  simpa using this
theorem uniq (h : Base n S) {i j : Nat} {x y : Int} (hi : S.trail[i]? = some x) (hj : S.trail[j]? = some y) (e : vr x = vr y) : i = j := by
  have hi' := (List.getElem?_eq_some_iff.1 hi).1
  have hj' := (List.getElem?_eq_some_iff.1 hj).1
  refine (List.getElem_inj (xs := S.trail.map vr) (h₀ := by simpa using hi') (h₁ := by simpa using hj') h.nod).1 ?_
  rw [List.getElem_map, List.getElem_map]
  rw [List.getElem?_eq_some_iff] at hi hj
  rw [hi.2, hj.2, e]
theorem not_both (h : Base n S) {x : Int} (hx : x ∈ S.trail) : -x ∉ S.trail := by
  intro h'
  obtain ⟨i, hi⟩ := List.mem_iff_getElem?.1 hx
  obtain ⟨j, hj⟩ := List.mem_iff_getElem?.1 h'
  have e := h.uniq hi hj (vr_neg x).symm
  subst e
  rw [hi] at hj
  have := (h.lits x hx).1
  injection hj with hj
  omega
theorem lit (h : Base n S) {x : Int} (hx : IsLit n x) : S.lit x = some (decide (x ∈ S.trail)) := by
  unfold Sol.lit
  rw [if_pos (hx.bound h.hn)]
  exact h.val x hx
theorem litT (h : Base n S) {x : Int} (hx : IsLit n x) : S.lit x = some true ↔ x ∈ S.trail := by rw [h.lit hx]; simp
theorem level (h : Base n S) {i : Nat} {x y : Int} (hi : S.trail[i]? = some x) (e : vr y = vr x) : S.level y = some (lvl S.marks i : Int) := by
  have hl := h.lits x (List.mem_of_getElem? hi)
  obtain ⟨b, hb⟩ := h.why i x hi
  unfold Sol.level
  rw [if_pos ((hl.of_vr e).bound h.hn), e, hb]
  rfl
theorem cur (h : Base n S) {i : Nat} (hi : S.done ≤ i) : lvl S.marks i = S.marks.length :=
  lvl_all fun m hm => by have := (h.mkr m hm).2.1; omega
theorem watchSome (h : Base n S) {x : Int} (hx : IsLit n x) : ∃ r, S.watch[lc x]? = some r := ⟨_, List.getElem?_eq_getElem (by rw [h.watchL]; exact hx.lc_lt)⟩
theorem watchAt (h : Base n S) {x : Int} (hx : IsLit n x) {r : List Int} (hr : S.watch[lc x]? = some r) : S.watchAt x = some r := by
  unfold Sol.watchAt
  rw [if_pos (hx.bound h.hn)]; exact hr
end Base
/-- The same literals. -/
def SameLits (c d : List Int) : Prop := ∀ x, x ∈ c ↔ x ∈ d
theorem SameLits.refl (c : List Int) : SameLits c c := fun _ => Iff.rfl
theorem SameLits.symm {c d : List Int} (h : SameLits c d) : SameLits d c := fun x => (h x).symm
theorem SameLits.trans {c d e : List Int} (h : SameLits c d) (k : SameLits d e) : SameLits c e := fun x => (h x).trans (k x)
theorem SameLits.of_perm {c d : List Int} (h : c.Perm d) : SameLits c d := fun _ => h.mem_iff

structure Clause (n : Nat) (c : List Int) : Prop where
  two : 2 ≤ c.length
  lits : ∀ x ∈ c, IsLit n x
  nod : c.Nodup
  opp : ∀ x ∈ c, -x ∉ c
theorem Clause.perm {n : Nat} {c d : List Int} (h : Clause n c) (p : c.Perm d) : Clause n d :=
  ⟨by rw [← p.length_eq]; exact h.two, fun x hx => h.lits x (p.mem_iff.2 hx), p.nodup_iff.1 h.nod, fun x hx hn => h.opp x (p.mem_iff.2 hx) (p.mem_iff.2 hn)⟩

/-- Each clause of the one has its own in the other, at its place, with the same literals. -/
def SameCls (l m : List (List Int)) : Prop := ∀ (k : Nat) (c : List Int), l[k]? = some c → ∃ d, m[k]? = some d ∧ SameLits c d
theorem SameCls.refl (l : List (List Int)) : SameCls l l := fun _ c h => ⟨c, h, SameLits.refl c⟩
theorem SameCls.trans {l m o : List (List Int)} (h : SameCls l m) (k : SameCls m o) : SameCls l o := fun i c hc => by
  obtain ⟨d, hd, h1⟩ := h i c hc
  obtain ⟨e, he, h2⟩ := k i d hd
  exact ⟨e, he, h1.trans h2⟩
theorem SameCls.set {l : List (List Int)} {k : Nat} {c d : List Int} (hc : l[k]? = some c) (h : SameLits c d) : SameCls l (l.set k d) := fun i e he => by
  rw [List.getElem?_set]
  have := (List.getElem?_eq_some_iff.1 hc).1
  split
  · next hk =>
    subst hk
    rw [hc] at he; cases he
    exact ⟨d, by simp, h⟩
  · exact ⟨e, he, SameLits.refl e⟩
theorem SameCls.append (l m : List (List Int)) : SameCls l (l ++ m) := fun i e he => ⟨e, by rw [List.getElem?_append_left (List.getElem?_eq_some_iff.1 he).1]; exact he, SameLits.refl e⟩

/-- Why the literal x at place i of the trail is true: by a clause of one literal, supposed, or by a clause all of whose others are false. -/
inductive Reason (D : List (List Int)) (S : Sol) (i : Nat) (x : Int) : Int → Prop
  | unit (h : lvl S.marks i = 0) (d : List Int) (hd : d ∈ D) (hx : x ∈ d) (e : ∀ z ∈ d, z = x) : Reason D S i x (-1)
  | mark (h : 0 < lvl S.marks i) (hm : S.marks[lvl S.marks i - 1]? = some (i : Int)) : Reason D S i x (-1)
  | clause (b : Int) (hb : 0 ≤ b) (c : List Int) (hc : S.cls[b.toNat]? = some c) (hx : x ∈ c) (ho : ∀ z ∈ c, z ≠ x → ∃ j, j < i ∧ S.trail[j]? = some (-z))
    (hs : ∃ z ∈ c, z ≠ x ∧ ∃ j, j < i ∧ S.trail[j]? = some (-z) ∧ lvl S.marks j = lvl S.marks i) : Reason D S i x b

theorem Reason.mono {D D' : List (List Int)} {S S' : Sol} {i : Nat} {x b : Int} (h : Reason D S i x b) (hD : ∀ d ∈ D, d ∈ D') (hl : ∀ j, j ≤ i → lvl S'.marks j = lvl S.marks j)
    (hm : ∀ j m, j < lvl S.marks i → S.marks[j]? = some m → S'.marks[j]? = some m) (ht : ∀ j y, j < i → S.trail[j]? = some y → S'.trail[j]? = some y) (hc : SameCls S.cls S'.cls) : Reason D' S' i x b := by
  have hli := hl i (Nat.le_refl _)
  cases h with
  | unit h d hd hx e => exact .unit (by rw [hli]; exact h) d (hD d hd) hx e
  | mark h hm' => exact .mark (by rw [hli]; exact h) (by rw [hli]; exact hm _ _ (by omega) hm')
  | clause _ hb c hc' hx ho hs =>
    obtain ⟨c', h1, h2⟩ := hc _ _ hc'
    refine .clause b hb c' h1 ((h2 x).1 hx) (fun z hz hzx => ?_) ?_
    · obtain ⟨j, hj, hjt⟩ := ho z ((h2 z).2 hz) hzx
      exact ⟨j, hj, ht j _ hj hjt⟩
    · obtain ⟨z, hz, hzx, j, hj, hjt, hjl⟩ := hs
      exact ⟨z, (h2 z).1 hz, hzx, j, hj, ht j _ hj hjt, by rw [hli, hl j (by omega)]; exact hjl⟩

structure Good (n : Nat) (D : List (List Int)) (S : Sol) : Prop where
  base : Base n S
  cl : ∀ c ∈ S.cls, Clause n c
  src : ∀ c ∈ S.cls, ∃ d ∈ D, SameLits c d
  rsn : ∀ i x b l, S.trail[i]? = some x → S.why[(vr x).toNat]? = some (b, l) → Reason D S i x b

theorem Good.more {n : Nat} {D E : List (List Int)} {S : Sol} (h : Good n D S) (hD : ∀ d ∈ D, d ∈ E) : Good n E S :=
  ⟨h.base, h.cl, fun c hc => (let ⟨d, hd, e⟩ := h.src c hc; ⟨d, hD d hd, e⟩), fun i x b l h1 h2 => (h.rsn i x b l h1 h2).mono hD (fun _ _ => rfl) (fun _ _ _ h => h) (fun _ _ _ h => h) (SameCls.refl _)⟩

section hold
variable {n : Nat} {D : List (List Int)} {S : Sol}
/-- The row of a trail that has one more. -/
theorem put_base (h : Base n S) {mk : List Int} {x b : Int} (hx : IsLit n x) (h1 : x ∉ S.trail) (h2 : -x ∉ S.trail)
    (hp : mk.Pairwise (· < ·)) (hr : ∀ m ∈ mk, 0 ≤ m ∧ m ≤ S.done ∧ m < S.trail.length + 1) (hl : ∀ i, i < S.trail.length → lvl mk i = lvl S.marks i) : Base n (({ S with marks := mk } : Sol).put x b) := by
  have hv := hx.vr
  have hcur : lvl mk S.trail.length = mk.length := lvl_all fun m hm => by have := hr m hm; omega
  have hne : ∀ y ∈ S.trail, vr y ≠ vr x := fun y hy e => by
    rcases vr_eq.1 e with rfl | rfl
    · exact h1 hy
    · exact h2 hy
  refine ⟨h.hn, h.vars, by simpa [Sol.put] using h.isL, by simpa [Sol.put] using h.whyL, h.bumpL, h.phaseL, h.watchL, ?_, ?_, ?_, h.d0, ?_, hp, ?_, ?_⟩
  · intro y hy
    simp only [Sol.put, List.mem_append, List.mem_singleton] at hy
    rcases hy with hy | rfl
    · exact h.lits y hy
    · exact hx
  · intro y hy
    simp only [Sol.put]
    rw [List.getElem?_set]
    by_cases e : y = x
    · subst e
      rw [if_pos rfl, if_pos (by rw [h.isL]; exact hx.lc_lt)]
      simp
    · rw [if_neg (fun e' => e (lc_inj.1 e').symm), h.val y hy]
      simp [e]
  · simp only [Sol.put, List.map_append, List.map_cons, List.map_nil]
    rw [List.nodup_append]
    refine ⟨h.nod, by simp, ?_⟩
    intro a ha b hb
    simp only [List.mem_singleton] at hb
    subst hb
    obtain ⟨y, hy, rfl⟩ := List.mem_map.1 ha
    exact hne y hy
  · have := h.d1
    simp [Sol.put]; omega
  · intro m hm
    have := hr m hm
    refine ⟨this.1, this.2.1, ?_⟩
    simp [Sol.put]; omega
  · intro i y hy
    simp only [Sol.put] at hy ⊢
    rw [List.getElem?_append] at hy
    split at hy
    · next hi =>
      obtain ⟨b', hb'⟩ := h.why i y hy
      have := hne y (List.mem_of_getElem? hy)
      have hy' := (h.lits y (List.mem_of_getElem? hy)).vr
      refine ⟨b', ?_⟩
      rw [List.getElem?_set, if_neg (by omega), hb', hl i hi]
    · next hi =>
      have e : i = S.trail.length := by
        have := (List.getElem?_eq_some_iff.1 hy).1
        simp at this; omega
      subst e
      simp at hy
      subst hy
      refine ⟨b, ?_⟩
      rw [List.getElem?_set, if_pos rfl, if_pos (by rw [h.whyL]; omega), hcur]
/-- .., with a reason. -/
theorem put_good (h : Good n D S) {mk : List Int} {x b : Int} (hx : IsLit n x) (h1 : x ∉ S.trail) (h2 : -x ∉ S.trail)
    (hp : mk.Pairwise (· < ·)) (hr : ∀ m ∈ mk, 0 ≤ m ∧ m ≤ S.done ∧ m < S.trail.length + 1) (hl : ∀ i, i < S.trail.length → lvl mk i = lvl S.marks i)
    (hm : ∀ (j : Nat) (m : Int), S.marks[j]? = some m → mk[j]? = some m) (hR : Reason D (({ S with marks := mk } : Sol).put x b) S.trail.length x b) : Good n D (({ S with marks := mk } : Sol).put x b) := by
  have hv := hx.vr
  refine ⟨put_base h.base hx h1 h2 hp hr hl, h.cl, h.src, ?_⟩
  intro i y b' l hy hw
  simp only [Sol.put] at hy hw
  rw [List.getElem?_append] at hy
  split at hy
  · next hi =>
    have hne : vr y ≠ vr x := fun e => by
      have hy' := List.mem_of_getElem? hy
      rcases vr_eq.1 e with rfl | rfl
      · exact h1 hy'
      · exact h2 hy'
    have hy' := (h.base.lits y (List.mem_of_getElem? hy)).vr
    rw [List.getElem?_set, if_neg (by omega)] at hw
    refine (h.rsn i y b' l hy hw).mono (fun _ h => h) (fun j hj => hl j (by omega)) (fun j m _ => hm j m) (fun j z hj hz => ?_) (SameCls.refl _)
    simp only [Sol.put]
    rw [List.getElem?_append_left (by omega)]; exact hz
  · next hi =>
    have e : i = S.trail.length := by
      have := (List.getElem?_eq_some_iff.1 hy).1
      simp at this; omega
    subst e
    simp at hy
    subst hy
    rw [List.getElem?_set, if_pos rfl, if_pos (by rw [h.base.whyL]; omega)] at hw
    cases hw
    exact hR
theorem hold_false (h : Base n S) {x : Int} (b : Int) (hx : IsLit n x) (h2 : -x ∈ S.trail) : S.hold x b = some (S, false) := by
  unfold Sol.hold
  rw [(h.litT hx.neg).2 h2]; rfl
theorem hold_true (h : Base n S) {x : Int} (b : Int) (hx : IsLit n x) (h2 : x ∈ S.trail) : S.hold x b = some (S, true) := by
  unfold Sol.hold
  rw [h.lit hx.neg, h.lit hx]
  simp [h2, h.not_both h2]
theorem hold_new (h : Base n S) {x : Int} (b : Int) (hx : IsLit n x) (h1 : x ∉ S.trail) (h2 : -x ∉ S.trail) : S.hold x b = some (S.put x b, true) := by
  unfold Sol.hold
  have := h.trailL
  have := h.hn
  have := hx.vr
  rw [h.lit hx.neg, h.lit hx]
  simp only [h1, h2, decide_false, Option.bind_some, Bool.false_eq_true, if_false]
  rw [if_pos (by rw [h.whyL]; omega)]
end hold
/-- The two literals at which a clause is watched. -/
def Two (c : List Int) (a b : Int) : Prop := c[0]? = some a ∧ c[1]? = some b ∨ c[0]? = some b ∧ c[1]? = some a
/-- Where clauses are watched; those in rest, that were watched at x, stand aside. -/
structure Wat (n : Nat) (S : Sol) (x : Int) (rest : List Int) : Prop where
  at_ : ∀ y r, IsLit n y → S.watch[lc y]? = some r → ∀ k : Int, (k ∈ r ∨ y = x ∧ k ∈ rest) ↔ (0 ≤ k ∧ ∃ c, S.cls[k.toNat]? = some c ∧ (c[0]? = some y ∨ c[1]? = some y))
  nod : ∀ y r, IsLit n y → S.watch[lc y]? = some r → r.Nodup
  rnod : rest.Nodup
  disj : ∀ r, S.watch[lc x]? = some r → ∀ k ∈ rest, k ∉ r
/-- Where a literal that is watched is false, and was asked, the other one is true, no later; but for clauses in rest. -/
def Pro (S : Sol) (x : Int) (rest : List Int) : Prop := ∀ (k : Nat) (c : List Int) (a b : Int) (i : Nat), S.cls[k]? = some c → Two c a b → (i : Int) < S.done → S.trail[i]? = some (-a) →
  (a = x ∧ (k : Int) ∈ rest) ∨ ∃ j, S.trail[j]? = some b ∧ lvl S.marks j ≤ lvl S.marks i
/-- .., below the last level. -/
def ProLow (S : Sol) : Prop := ∀ (k : Nat) (c : List Int) (a b : Int) (i : Nat), S.cls[k]? = some c → Two c a b → (i : Int) < S.done → S.trail[i]? = some (-a) → lvl S.marks i < S.marks.length →
  ∃ j, S.trail[j]? = some b ∧ lvl S.marks j ≤ lvl S.marks i
/-- A clause fails, with a literal of the last level. -/
def Conf (S : Sol) (k : Int) : Prop := 0 ≤ k ∧ ∃ c, S.cls[k.toNat]? = some c ∧ (∀ z ∈ c, -z ∈ S.trail) ∧ ∃ z ∈ c, ∃ j, S.trail[j]? = some (-z) ∧ lvl S.marks j = S.marks.length
/-- What goes on with the trail alone. -/
structure Ext (S S' : Sol) : Prop where
  marks : S'.marks = S.marks
  vars : S'.vars = S.vars
  proof : S'.proof = S.proof
  phase : S'.phase = S.phase
  bump : S'.bump = S.bump
  trail : ∃ t, S'.trail = S.trail ++ t
  len : S'.cls.length = S.cls.length
  cls : SameCls S.cls S'.cls
theorem Ext.refl (S : Sol) : Ext S S := ⟨rfl, rfl, rfl, rfl, rfl, ⟨[], by simp⟩, rfl, SameCls.refl _⟩
theorem Ext.trans {S S1 S2 : Sol} (h : Ext S S1) (k : Ext S1 S2) : Ext S S2 :=
  ⟨k.marks.trans h.marks, k.vars.trans h.vars, k.proof.trans h.proof, k.phase.trans h.phase, k.bump.trans h.bump,
   (let ⟨t, ht⟩ := h.trail; let ⟨u, hu⟩ := k.trail; ⟨t ++ u, by rw [hu, ht, List.append_assoc]⟩), k.len.trans h.len, h.cls.trans k.cls⟩
theorem Ext.at {S S' : Sol} (h : Ext S S') {i : Nat} {x : Int} (hx : S.trail[i]? = some x) : S'.trail[i]? = some x := by
  obtain ⟨t, ht⟩ := h.trail
  rw [ht, List.getElem?_append_left (List.getElem?_eq_some_iff.1 hx).1]; exact hx

/-- How many there are in a row that is watched. -/
theorem Wat.len {n : Nat} {S : Sol} {x : Int} {rest : List Int} (h : Wat n S x rest) {y : Int} {r : List Int} (hy : IsLit n y) (hr : S.watch[lc y]? = some r) : r.length ≤ S.cls.length :=
  nodup_len S.cls.length (a := 0) (b := S.cls.length) (h.nod y r hy hr) (fun k hk => by
    obtain ⟨h0, c, hc, _⟩ := (h.at_ y r hy hr k).1 (.inl hk)
    have := (List.getElem?_eq_some_iff.1 hc).1
    omega) (by omega)
theorem Wat.lenRest {n : Nat} {S : Sol} {x : Int} {rest : List Int} (h : Wat n S x rest) {r : List Int} (hx : IsLit n x) (hr : S.watch[lc x]? = some r) : r.length + rest.length ≤ S.cls.length := by
  rw [← List.length_append]
  refine nodup_len S.cls.length (a := 0) (b := S.cls.length) ?_ (fun k hk => ?_) (by omega)
  · rw [List.nodup_append]
    exact ⟨h.nod x r hx hr, h.rnod, fun a ha b hb e => h.disj r hr b hb (e ▸ ha)⟩
  · obtain ⟨h0, c, hc, _⟩ := (h.at_ x r hx hr k).1 (by
      rcases List.mem_append.1 hk with h | h
      · exact .inl h
      · exact .inr ⟨rfl, h⟩)
    have := (List.getElem?_eq_some_iff.1 hc).1
    omega

section
variable {n : Nat} {D : List (List Int)} {S : Sol}
theorem watchAdd_eq (h : Base n S) {y k : Int} {r : List Int} (hy : IsLit n y) (hr : S.watch[lc y]? = some r) (hl : r.length < 1099511627776) : S.watchAdd y k = some { S with watch := S.watch.set (lc y) (r ++ [k]) } := by
  unfold Sol.watchAdd
  rw [h.watchAt hy hr]
  simp [hl]
theorem cls_base (h : Base n S) (cls : List (List Int)) : Base n { S with cls := cls } := ⟨h.hn, h.vars, h.isL, h.whyL, h.bumpL, h.phaseL, h.watchL, h.lits, h.val, h.nod, h.d0, h.d1, h.mks, h.mkr, h.why⟩
theorem watch_base (h : Base n S) (k : Nat) (r : List Int) : Base n { S with watch := S.watch.set k r } := ⟨h.hn, h.vars, h.isL, h.whyL, h.bumpL, h.phaseL, by simpa using h.watchL, h.lits, h.val, h.nod, h.d0, h.d1, h.mks, h.mkr, h.why⟩
/-- A clause whose literals change places, and is watched once more. -/
theorem cls_good (h : Good n D S) {k : Nat} {c d : List Int} (hc : S.cls[k]? = some c) (hp : c.Perm d) (j : Nat) (r : List Int) : Good n D { S with cls := S.cls.set k d, watch := S.watch.set j r } := by
  have hcm := List.mem_of_getElem? hc
  refine ⟨watch_base (cls_base h.base (S.cls.set k d)) j r, ?_, ?_, ?_⟩
  · intro e he
    rcases List.mem_or_eq_of_mem_set he with he | rfl
    · exact h.cl e he
    · exact (h.cl c hcm).perm hp
  · intro e he
    rcases List.mem_or_eq_of_mem_set he with he | rfl
    · exact h.src e he
    · obtain ⟨f, hf, e⟩ := h.src c hcm
      exact ⟨f, hf, (SameLits.of_perm hp).symm.trans e⟩
  · intro i x b l h1 h2
    exact (h.rsn i x b l h1 h2).mono (fun _ h => h) (fun _ _ => rfl) (fun _ _ _ h => h) (fun _ _ _ h => h) (SameCls.set hc (SameLits.of_perm hp))
theorem wat_step {x : Int} {k : Int} {rest : List Int} (hW : Wat n S x (k :: rest)) {c d : List Int} {o y : Int} (hx : IsLit n x) (hy : IsLit n y) (hc : S.cls[k.toNat]? = some c) (hco : Two c o x) (hd0 : d[0]? = some o) (hd1 : d[1]? = some y)
    (hk0 : 0 ≤ k) (hoy : o ≠ y) (hox : o ≠ x) {r : List Int} (hr : S.watch[lc y]? = some r) : Wat n { S with cls := S.cls.set k.toNat d, watch := S.watch.set (lc y) (r ++ [k]) } x rest := by
  have hkl := (List.getElem?_eq_some_iff.1 hc).1
  have hnod := List.nodup_cons.1 hW.rnod
  have hset : ∀ (k' : Int), 0 ≤ k' → k' ≠ k → (S.cls.set k.toNat d)[k'.toNat]? = S.cls[k'.toNat]? := fun k' h0 hne => by rw [List.getElem?_set, if_neg (by omega)]
  have hself : (S.cls.set k.toNat d)[k.toNat]? = some d := by simp [hkl]
  have hwl := (List.getElem?_eq_some_iff.1 hr).1
  have hrow : ∀ z s, IsLit n z → (S.watch.set (lc y) (r ++ [k]))[lc z]? = some s → ∃ s0, S.watch[lc z]? = some s0 ∧ (z = y ∧ s0 = r ∧ s = r ++ [k] ∨ z ≠ y ∧ s = s0) := fun z s hz hs => by
    rw [List.getElem?_set] at hs
    split at hs
    · next e =>
      have e := lc_inj.1 e
      subst e
      cases hs
      exact ⟨r, hr, .inl ⟨rfl, rfl, rfl⟩⟩
    · next e => exact ⟨s, hs, .inr ⟨fun e' => e (by rw [e']), rfl⟩⟩
  have hky : k ∉ r := by
    intro hk
    by_cases e : y = x
    · subst e
      exact hW.disj r hr k (by simp) hk
    · obtain ⟨_, c', hc', h1⟩ := (hW.at_ y r hy hr k).1 (.inl hk)
      rw [hc] at hc'; cases hc'
      rcases hco with ⟨h2, h3⟩ | ⟨h2, h3⟩ <;> rw [h2, h3] at h1 <;> simp at h1 <;> omega
  refine ⟨?_, ?_, hnod.2, ?_⟩
  · intro z s hz hs k'
    obtain ⟨s0, hs0, hcase⟩ := hrow z s hz hs
    have hold := hW.at_ z s0 hz hs0 k'
    by_cases e : k' = k
    · subst e
      simp only [hk0, true_and, hself, Option.some.injEq, exists_eq_left', hd0, hd1]
      rcases hcase with ⟨rfl, rfl, rfl⟩ | ⟨hzy, rfl⟩
      · simp
      · constructor
        · rintro (h | ⟨rfl, h⟩)
          · obtain ⟨_, c', hc', h1⟩ := hold.1 (.inl h)
            rw [hc] at hc'; cases hc'
            by_cases ex : z = x
            · subst ex
              exact absurd h (hW.disj _ hs0 _ (by simp))
            · rcases hco with ⟨h2, h3⟩ | ⟨h2, h3⟩ <;> rw [h2, h3] at h1 <;> simp at h1 <;> left <;> omega
          · exact absurd h hnod.1
        · rintro (rfl | rfl)
          · left
            rcases hold.2 ⟨hk0, c, hc, by rcases hco with ⟨h2, h3⟩ | ⟨h2, h3⟩ <;> simp [h2, h3]⟩ with h | ⟨h, _⟩
            · exact h
            · exact absurd h hox
          · exact absurd rfl hzy
    · have h1 : (k' ∈ s ∨ z = x ∧ k' ∈ rest) ↔ (k' ∈ s0 ∨ z = x ∧ k' ∈ k :: rest) := by
        rcases hcase with ⟨rfl, rfl, rfl⟩ | ⟨hzy, rfl⟩ <;> simp [e]
      rw [h1, hold]
      constructor
      · rintro ⟨h0, c', hc', h2⟩
        exact ⟨h0, c', by rw [hset k' h0 e]; exact hc', h2⟩
      · rintro ⟨h0, c', hc', h2⟩
        rw [hset k' h0 e] at hc'
        exact ⟨h0, c', hc', h2⟩
  · intro z s hz hs
    obtain ⟨s0, hs0, hcase⟩ := hrow z s hz hs
    rcases hcase with ⟨rfl, rfl, rfl⟩ | ⟨_, rfl⟩
    · rw [List.nodup_append]
      refine ⟨hW.nod _ _ hz hs0, by simp, ?_⟩
      intro a ha b hb
      simp only [List.mem_singleton] at hb
      subst hb
      exact fun e => hky (e ▸ ha)
    · exact hW.nod _ _ hz hs0
  · intro s hs k' hk' hks
    obtain ⟨s0, hs0, hcase⟩ := hrow x s hx hs
    rcases hcase with ⟨rfl, rfl, rfl⟩ | ⟨_, rfl⟩
    · rcases List.mem_append.1 hks with h | h
      · exact hW.disj _ hs0 k' (by simp [hk']) h
      · simp only [List.mem_singleton] at h
        subst h
        exact hnod.1 hk'
    · exact hW.disj _ hs0 k' (by simp [hk']) hks
theorem pro_step {S' : Sol} {x : Int} {k : Int} {rest : List Int} (hd1 : S.done ≤ S.trail.length) (hP : Pro S x (k :: rest)) {d : List Int} (hk0 : 0 ≤ k) (hdone : S'.done = S.done) (hm : S'.marks = S.marks) (ht : ∃ t, S'.trail = S.trail ++ t)
    (hcls : S'.cls = S.cls.set k.toNat d)
    (hd : ∀ (a b : Int) (i : Nat), Two d a b → (i : Int) < S.done → S.trail[i]? = some (-a) → ∃ j, S'.trail[j]? = some b ∧ lvl S.marks j ≤ lvl S.marks i) : Pro S' x rest := by
  intro k' c a b i hc h2 hi hia
  obtain ⟨t, ht⟩ := ht
  rw [hdone] at hi
  have hia' : S.trail[i]? = some (-a) := by
    rw [ht, List.getElem?_append_left (by omega)] at hia; exact hia
  rw [hm]
  by_cases e : k' = k.toNat
  · subst e
    right
    rw [hcls, List.getElem?_set, if_pos rfl] at hc
    split at hc
    · cases hc
      exact hd a b i h2 hi hia'
    · cases hc
  · rw [hcls, List.getElem?_set, if_neg (fun e' => e e'.symm)] at hc
    rcases hP k' c a b i hc h2 hi hia' with ⟨h3, h4⟩ | ⟨j, hj, hl⟩
    · left
      refine ⟨h3, ?_⟩
      simp only [List.mem_cons] at h4
      rcases h4 with h4 | h4
      · omega
      · exact h4
    · right
      refine ⟨j, ?_, hl⟩
      rw [ht, List.getElem?_append_left (List.getElem?_eq_some_iff.1 hj).1]; exact hj
end
theorem swapAt01 (a b : Int) (r : List Int) : swapAt (a :: b :: r) 0 1 = b :: a :: r := by simp [swapAt]
theorem swapAt1 (o x : Int) (r : List Int) (j : Nat) : swapAt (o :: x :: r) 1 (j + 2) = o :: r.getD j 0 :: r.set j x := by simp [swapAt]
theorem swapAt11 (o x : Int) (r : List Int) : swapAt (o :: x :: r) 1 1 = o :: x :: r := by simp [swapAt]
theorem perm_set : ∀ {r : List Int} {j : Nat} {y : Int} (x : Int), r[j]? = some y → (x :: r).Perm (y :: r.set j x)
  | [], j, y, x, h => by simp at h
  | z :: r, 0, y, x, h => by simp at h; subst h; exact List.Perm.swap _ _ _
  | z :: r, j + 1, y, x, h => by
    simp only [List.getElem?_cons_succ] at h
    have ih := perm_set x h
    simp only [List.set_cons_succ]
    exact (List.Perm.swap z x r).trans ((ih.cons z).trans (List.Perm.swap _ _ _))
theorem swap_perm {o x : Int} {r : List Int} {j : Nat} {y : Int} (h : r[j]? = some y) : (o :: x :: r).Perm (o :: y :: r.set j x) := (perm_set x h).cons o

/-- The first of some literals that isn't false. -/
theorem findJ_eq {n : Nat} {S : Sol} (h : Base n S) : ∀ (r : List Int) (j : Nat), (∀ y ∈ r, IsLit n y) →
    (S.findJ r j = some none ∧ ∀ y ∈ r, -y ∈ S.trail) ∨ ∃ i y, S.findJ r j = some (some (j + i)) ∧ r[i]? = some y ∧ -y ∉ S.trail
  | [], j, _ => .inl ⟨rfl, by simp⟩
  | y :: r, j, hr => by
    rw [Sol.findJ, h.lit (hr y (by simp)).neg]
    by_cases hy : -y ∈ S.trail
    · simp only [hy, decide_true, Option.bind_some, if_true]
      rcases findJ_eq h r (j + 1) (fun z hz => hr z (by simp [hz])) with ⟨h1, h2⟩ | ⟨i, z, h1, h2, h3⟩
      · left
        refine ⟨h1, ?_⟩
        intro z hz
        rcases List.mem_cons.1 hz with rfl | hz
        · exact hy
        · exact h2 z hz
      · right
        exact ⟨i + 1, z, by rw [h1]; congr 2; omega, by simpa using h2, h3⟩
    · right
      exact ⟨0, y, by simp [hy], by simp, hy⟩

theorem put_ext (S : Sol) (x b : Int) : Ext S (S.put x b) := ⟨rfl, rfl, rfl, rfl, rfl, ⟨[x], rfl⟩, rfl, SameCls.refl _⟩
theorem wat_rest {n : Nat} {S : Sol} {x : Int} {rest r : List Int} (h : Wat n S x rest) (hx : IsLit n x) (hr : S.watch[lc x]? = some r) : Wat n { S with watch := S.watch.set (lc x) (r ++ rest) } x [] := by
  have hwl := (List.getElem?_eq_some_iff.1 hr).1
  have hrow : ∀ z s, IsLit n z → (S.watch.set (lc x) (r ++ rest))[lc z]? = some s → (z = x ∧ s = r ++ rest) ∨ (z ≠ x ∧ S.watch[lc z]? = some s) := fun z s hz hs => by
    rw [List.getElem?_set] at hs
    split at hs
    · next e =>
      have e := lc_inj.1 e
      subst e
      cases hs
      exact .inl ⟨rfl, rfl⟩
    · next e => exact .inr ⟨fun e' => e (by rw [e']), hs⟩
  refine ⟨?_, ?_, List.nodup_nil, by simp⟩
  · intro z s hz hs k
    rcases hrow z s hz hs with ⟨rfl, rfl⟩ | ⟨hne, hs'⟩
    · rw [← h.at_ z r hz hr k]; simp
    · rw [← h.at_ z s hz hs' k]; simp [hne]
  · intro z s hz hs
    rcases hrow z s hz hs with ⟨rfl, rfl⟩ | ⟨hne, hs'⟩
    · rw [List.nodup_append]
      exact ⟨h.nod _ _ hz hr, h.rnod, fun a ha b hb e => h.disj r hr b hb (e ▸ ha)⟩
    · exact h.nod _ _ hz hs'

theorem two_cons {o x : Int} {r : List Int} {a b : Int} : Two (o :: x :: r) a b ↔ (a = o ∧ b = x) ∨ (a = x ∧ b = o) := by
  unfold Two; simp only [List.getElem?_cons_zero, List.getElem?_cons_succ, Option.some.injEq]
  constructor <;> rintro (⟨rfl, rfl⟩ | ⟨rfl, rfl⟩) <;> simp

set_option maxHeartbeats 1000000 in
theorem visits_ok {n : Nat} {D : List (List Int)} : ∀ (rest : List Int) (S : Sol) (x : Int), Good n D S → IsLit n x → Wat n S x rest → Pro S x rest → S.cls.length < 1099511627776 →
    (∃ p : Nat, S.trail[p]? = some (-x) ∧ (p : Int) < S.done ∧ lvl S.marks p = S.marks.length) →
    ∃ S' k, S.visits x rest = some (S', k) ∧ Ext S S' ∧ S'.done = S.done ∧ Good n D S' ∧ Wat n S' x [] ∧ (k = -1 ∧ Pro S' x [] ∨ k ≠ -1 ∧ Conf S' k ∧ ProLow S')
  | [], S, x, hG, _, hW, hP, _, _ => ⟨S, -1, rfl, Ext.refl S, rfl, hG, hW, .inl ⟨rfl, hP⟩⟩
  | k :: rest, S, x, hG, hx, hW, hP, hcl, hp => by
    have hB := hG.base
    obtain ⟨p, hpt, hpd, hpl⟩ := hp
    have hxm : -x ∈ S.trail := List.mem_of_getElem? hpt
    have hxn : x ∉ S.trail := fun h => hB.not_both h hxm
    obtain ⟨rx, hrx⟩ := hB.watchSome hx
    obtain ⟨hk0, c, hc, hcx⟩ := (hW.at_ x rx hx hrx k).1 (.inr ⟨rfl, by simp⟩)
    have hcm := List.mem_of_getElem? hc
    have hC := hG.cl c hcm
    have hd1 : S.done ≤ S.trail.length := hB.d1
    -- the clause with x in its second place
    obtain ⟨o, r, hco, h2co, hox, hperm⟩ : ∃ o r, (if c.getD 0 0 = x then swapAt c 0 1 else c) = o :: x :: r ∧ Two c o x ∧ o ≠ x ∧ c.Perm (o :: x :: r) := by
      have h2 := hC.two
      match c, hC, h2, hcx with
      | a :: b :: r, hC, _, hcx =>
        have hab : a ≠ b := by have := hC.nod; simp at this; exact fun e => this.1.1 e
        simp only [List.getElem?_cons_zero, List.getElem?_cons_succ, Option.some.injEq] at hcx
        by_cases e : a = x
        · subst e
          exact ⟨b, r, by simp [swapAt01], .inr ⟨rfl, rfl⟩, hab.symm, List.Perm.swap _ _ _⟩
        · have : b = x := by omega
          subst this
          exact ⟨a, r, by simp [e], .inl ⟨rfl, rfl⟩, e, List.Perm.refl _⟩
    have hCo := hC.perm hperm
    have ho : IsLit n o := hCo.lits o (by simp)
    have hrl : ∀ y ∈ r, IsLit n y := fun y hy => hCo.lits y (by simp [hy])
    have hl2 : (2 : Nat) ≤ c.length := hC.two
    have hrxl := hW.len hx hrx
    have hun : S.visits x (k :: rest) = (S.lit o).bind fun t =>
        (if t = true then some none else S.findJ r 2).bind fun
          | some j => (({ S with cls := S.cls.set k.toNat (swapAt (o :: x :: r) 1 j) } : Sol).watchAdd ((swapAt (o :: x :: r) 1 j).getD 1 0) k).bind fun S2 => Sol.visits x S2 rest
          | none => (({ S with cls := S.cls.set k.toNat (o :: x :: r) } : Sol).watchAdd x k).bind fun S2 =>
            (S2.hold o k).bind fun p => if p.2 = true then Sol.visits x p.1 rest else (p.1.watchRest x rest).map fun S4 => (S4, k) := by
      rw [Sol.visits, if_pos hk0, hc, Option.bind_some, if_pos hl2, hco]
      rfl
    have hadd : ({ S with cls := S.cls.set k.toNat (o :: x :: r) } : Sol).watchAdd x k = some { S with cls := S.cls.set k.toNat (o :: x :: r), watch := S.watch.set (lc x) (rx ++ [k]) } :=
      watchAdd_eq (cls_base hB _) hx hrx (by omega)
    have hG2 : Good n D { S with cls := S.cls.set k.toNat (o :: x :: r), watch := S.watch.set (lc x) (rx ++ [k]) } := cls_good hG hc hperm _ _
    have hW2 : Wat n { S with cls := S.cls.set k.toNat (o :: x :: r), watch := S.watch.set (lc x) (rx ++ [k]) } x rest := wat_step hW hx hx hc h2co rfl rfl hk0 hox hox hrx
    have hE2 : Ext S { S with cls := S.cls.set k.toNat (o :: x :: r), watch := S.watch.set (lc x) (rx ++ [k]) } := ⟨rfl, rfl, rfl, rfl, rfl, ⟨[], by simp⟩, by simp, SameCls.set hc (SameLits.of_perm hperm)⟩
    have hself : (S.cls.set k.toNat (o :: x :: r))[k.toNat]? = some (o :: x :: r) := by simp [(List.getElem?_eq_some_iff.1 hc).1]
    -- o false and asked already: that can't be
    have hono : ∀ (i : Nat), (i : Int) < S.done → S.trail[i]? ≠ some (-o) := fun i hi hio => by
      rcases hP k.toNat c o x i hc h2co hi hio with ⟨e, _⟩ | ⟨j, hj, _⟩
      · exact hox e
      · exact hxn (List.mem_of_getElem? hj)
    by_cases hot : o ∈ S.trail
    · -- the other one is true
      have hP2 : Pro { S with cls := S.cls.set k.toNat (o :: x :: r), watch := S.watch.set (lc x) (rx ++ [k]) } x rest := by
        refine pro_step hd1 hP hk0 rfl rfl ⟨[], by simp⟩ rfl ?_
        intro a b i h2 hi hia
        rcases two_cons.1 h2 with ⟨rfl, rfl⟩ | ⟨rfl, rfl⟩
        · exact absurd hia (hono i hi)
        · have := hB.uniq hia hpt rfl
          subst this
          obtain ⟨j, hj⟩ := List.mem_iff_getElem?.1 hot
          exact ⟨j, hj, by rw [hpl]; exact lvl_le _ _⟩
      obtain ⟨S', k', h1, h2, h3, h4⟩ := visits_ok rest _ x hG2 hx hW2 hP2 (by simpa using hcl) ⟨p, hpt, hpd, hpl⟩
      refine ⟨S', k', ?_, hE2.trans h2, h3, h4⟩
      rw [hun, (hB.litT ho).2 hot, Option.bind_some, if_pos rfl]
      show (({ S with cls := S.cls.set k.toNat (o :: x :: r) } : Sol).watchAdd x k).bind _ = _
      rw [hadd, Option.bind_some, hold_true hG2.base k ho hot]
      exact h1
    · have hlo : S.lit o = some false := by rw [hB.lit ho]; simp [hot]
      rcases findJ_eq hB r 2 hrl with ⟨hf, hall⟩ | ⟨i, y, hf, hi, hyn⟩
      · by_cases hon : -o ∈ S.trail
        · -- it fails
          obtain ⟨rx2, hrx2⟩ : ∃ r2, (S.watch.set (lc x) (rx ++ [k]))[lc x]? = some r2 := ⟨rx ++ [k], by simp [(List.getElem?_eq_some_iff.1 hrx).1]⟩
          have hlen := hW2.lenRest hx hrx2
          refine ⟨{ S with cls := S.cls.set k.toNat (o :: x :: r), watch := (S.watch.set (lc x) (rx ++ [k])).set (lc x) (rx2 ++ rest) }, k, ?_, ⟨rfl, rfl, rfl, rfl, rfl, ⟨[], by simp⟩, by simp, hE2.cls⟩, rfl, ?_, wat_rest hW2 hx hrx2, .inr ⟨by omega, ?_, ?_⟩⟩
          · rw [hun, hlo, Option.bind_some, if_neg (by simp), hf, Option.bind_some]
            show (({ S with cls := S.cls.set k.toNat (o :: x :: r) } : Sol).watchAdd x k).bind _ = _
            rw [hadd, Option.bind_some, hold_false hG2.base k ho hon, Option.bind_some, if_neg (by simp)]
            unfold Sol.watchRest
            rw [hG2.base.watchAt hx hrx2, Option.bind_some, if_pos (by simp at hlen; omega)]
            rfl
          · exact cls_good (S := { S with watch := S.watch.set (lc x) (rx ++ [k]) }) ⟨watch_base hB _ _, hG.cl, hG.src, fun i x b l h1 h2 => (hG.rsn i x b l h1 h2).mono (fun _ h => h) (fun _ _ => rfl) (fun _ _ _ h => h) (fun _ _ _ h => h) (SameCls.refl _)⟩ hc hperm _ _
          · refine ⟨hk0, _, hself, ?_, x, by simp, p, hpt, hpl⟩
            intro z hz
            simp only [List.mem_cons] at hz
            rcases hz with rfl | rfl | hz
            · exact hon
            · exact hxm
            · exact hall z hz
          · intro k' c' a b i hc' h2 hi hia hlv
            by_cases e : k' = k.toNat
            · subst e
              rw [hself] at hc'; cases hc'
              rcases two_cons.1 h2 with ⟨rfl, rfl⟩ | ⟨rfl, rfl⟩
              · exact absurd hia (hono i hi)
              · have := hB.uniq hia hpt rfl
                subst this
                exact absurd hpl (Nat.ne_of_lt hlv)
            · have hc'' : S.cls[k']? = some c' := by
                have : (S.cls.set k.toNat (o :: x :: r))[k']? = some c' := hc'
                rw [List.getElem?_set, if_neg (fun e' => e e'.symm)] at this; exact this
              rcases hP k' c' a b i hc'' h2 hi hia with ⟨rfl, _⟩ | h
              · have := hB.uniq hia hpt rfl
                subst this
                exact absurd hpl (Nat.ne_of_lt hlv)
              · exact h
        · -- it becomes true
          have hG3 : Good n D (({ S with cls := S.cls.set k.toNat (o :: x :: r), watch := S.watch.set (lc x) (rx ++ [k]) } : Sol).put o k) := by
            refine put_good (mk := S.marks) hG2 ho hot hon hB.mks (fun m hm => ⟨(hB.mkr m hm).1, (hB.mkr m hm).2.1, by have := (hB.mkr m hm).2.2; show m < (S.trail.length : Int) + 1; omega⟩) (fun _ _ => rfl) (fun _ _ h => h) ?_
            refine .clause k hk0 (o :: x :: r) hself (by simp) ?_ ?_
            · intro z hz hzo
              simp only [List.mem_cons] at hz
              have hz' : -z ∈ S.trail := by
                rcases hz with rfl | rfl | hz
                · exact absurd rfl hzo
                · exact hxm
                · exact hall z hz
              obtain ⟨j, hj⟩ := List.mem_iff_getElem?.1 hz'
              have hjl := (List.getElem?_eq_some_iff.1 hj).1
              exact ⟨j, hjl, by simp only [Sol.put]; rw [List.getElem?_append_left hjl]; exact hj⟩
            · have hjl := (List.getElem?_eq_some_iff.1 hpt).1
              refine ⟨x, by simp, fun e => hox e.symm, p, hjl, by simp only [Sol.put]; rw [List.getElem?_append_left hjl]; exact hpt, ?_⟩
              simp only [Sol.put]
              rw [hpl, hB.cur (i := S.trail.length) hB.d1]
          have hW3 : Wat n (({ S with cls := S.cls.set k.toNat (o :: x :: r), watch := S.watch.set (lc x) (rx ++ [k]) } : Sol).put o k) x rest := ⟨hW2.at_, hW2.nod, hW2.rnod, hW2.disj⟩
          have hP3 : Pro (({ S with cls := S.cls.set k.toNat (o :: x :: r), watch := S.watch.set (lc x) (rx ++ [k]) } : Sol).put o k) x rest := by
            refine pro_step hd1 hP hk0 rfl rfl ⟨[o], rfl⟩ rfl ?_
            intro a b i h2 hi hia
            rcases two_cons.1 h2 with ⟨rfl, rfl⟩ | ⟨rfl, rfl⟩
            · exact absurd hia (hono i hi)
            · have := hB.uniq hia hpt rfl
              subst this
              exact ⟨S.trail.length, by simp [Sol.put], by rw [hpl]; exact lvl_le _ _⟩
          have hjl := (List.getElem?_eq_some_iff.1 hpt).1
          obtain ⟨S', k', h1, h2, h3, h4⟩ := visits_ok rest _ x hG3 hx hW3 hP3 (by simpa [Sol.put] using hcl) ⟨p, by simp only [Sol.put]; rw [List.getElem?_append_left hjl]; exact hpt, hpd, hpl⟩
          refine ⟨S', k', ?_, (hE2.trans (put_ext _ o k)).trans h2, h3, h4⟩
          rw [hun, hlo, Option.bind_some, if_neg (by simp), hf, Option.bind_some]
          show (({ S with cls := S.cls.set k.toNat (o :: x :: r) } : Sol).watchAdd x k).bind _ = _
          rw [hadd, Option.bind_some, hold_new hG2.base k ho hot hon, Option.bind_some, if_pos rfl]
          exact h1
      · -- another literal is watched
        have hil := (List.getElem?_eq_some_iff.1 hi).1
        have hy : IsLit n y := hrl y (List.mem_of_getElem? hi)
        have hgy : r.getD i 0 = y := by rw [List.getD_eq_getElem?_getD, hi]; rfl
        have hsw : swapAt (o :: x :: r) 1 (2 + i) = o :: y :: r.set i x := by rw [Nat.add_comm, swapAt1, hgy]
        have hperm2 := hperm.trans (swap_perm (o := o) (x := x) hi)
        have hoy : o ≠ y := by
          have := (hC.perm hperm2).nod
          simp at this
          exact fun e => this.1.1 e
        have hxy : x ≠ y := by
          have := hCo.nod
          simp at this
          intro e
          subst e
          exact this.2.1 (List.mem_of_getElem? hi)
        obtain ⟨ry, hry⟩ := hB.watchSome hy
        have hryl := hW.len hy hry
        have hG3 : Good n D { S with cls := S.cls.set k.toNat (o :: y :: r.set i x), watch := S.watch.set (lc y) (ry ++ [k]) } := cls_good hG hc hperm2 _ _
        have hW3 : Wat n { S with cls := S.cls.set k.toNat (o :: y :: r.set i x), watch := S.watch.set (lc y) (ry ++ [k]) } x rest := wat_step hW hx hy hc h2co rfl rfl hk0 hoy hox hry
        have hP3 : Pro { S with cls := S.cls.set k.toNat (o :: y :: r.set i x), watch := S.watch.set (lc y) (ry ++ [k]) } x rest := by
          refine pro_step hd1 hP hk0 rfl rfl ⟨[], by simp⟩ rfl ?_
          intro a b i' h2 hi' hia
          rcases two_cons.1 h2 with ⟨rfl, rfl⟩ | ⟨rfl, rfl⟩
          · exact absurd hia (hono i' hi')
          · exact absurd (List.mem_of_getElem? hia) hyn
        obtain ⟨S', k', h1, h2, h3, h4⟩ := visits_ok rest _ x hG3 hx hW3 hP3 (by simpa using hcl) ⟨p, hpt, hpd, hpl⟩
        refine ⟨S', k', ?_, Ext.trans (S1 := { S with cls := S.cls.set k.toNat (o :: y :: r.set i x), watch := S.watch.set (lc y) (ry ++ [k]) }) ⟨rfl, rfl, rfl, rfl, rfl, ⟨[], by simp⟩, by simp, SameCls.set hc (SameLits.of_perm hperm2)⟩ h2, h3, h4⟩
        rw [hun, hlo, Option.bind_some, if_neg (by simp), hf, Option.bind_some]
        show (({ S with cls := S.cls.set k.toNat (swapAt (o :: x :: r) 1 (2 + i)) } : Sol).watchAdd ((swapAt (o :: x :: r) 1 (2 + i)).getD 1 0) k).bind _ = _
        rw [hsw]
        show (({ S with cls := S.cls.set k.toNat (o :: y :: r.set i x) } : Sol).watchAdd y k).bind _ = _
        rw [watchAdd_eq (cls_base hB (S.cls.set k.toNat (o :: y :: r.set i x))) hy hry (by omega), Option.bind_some]
        exact h1
theorem Wat.nil {n : Nat} {S : Sol} {x : Int} (h : Wat n S x []) (y : Int) : Wat n S y [] :=
  ⟨fun z r hz hr k => by rw [← h.at_ z r hz hr k]; simp, h.nod, List.nodup_nil, by simp⟩
theorem Pro.nil {S : Sol} {x : Int} (h : Pro S x []) (y : Int) : Pro S y [] := fun k c a b i h1 h2 h3 h4 => by
  rcases h k c a b i h1 h2 h3 h4 with ⟨_, h⟩ | h
  · cases h
  · exact .inr h
theorem Pro.none {S : Sol} {x : Int} (h : Pro S x []) {k : Nat} {c : List Int} {a b : Int} {i : Nat} (h1 : S.cls[k]? = some c) (h2 : Two c a b) (h3 : (i : Int) < S.done) (h4 : S.trail[i]? = some (-a)) :
    ∃ j, S.trail[j]? = some b ∧ lvl S.marks j ≤ lvl S.marks i := by
  rcases h k c a b i h1 h2 h3 h4 with ⟨_, h⟩ | h
  · cases h
  · exact h
/-- The solver, all clauses being asked up to done. -/
structure Fine (n : Nat) (D : List (List Int)) (S : Sol) : Prop where
  good : Good n D S
  wat : Wat n S 0 []
  pro : Pro S 0 []
/-- What spread leaves. -/
structure Spread (n : Nat) (D : List (List Int)) (S S' : Sol) (k : Int) : Prop where
  ext : Ext S S'
  good : Good n D S'
  wat : Wat n S' 0 []
  res : k = -1 ∧ Pro S' 0 [] ∧ S'.done = S'.trail.length ∨ k ≠ -1 ∧ Conf S' k ∧ ProLow S'
theorem spread_ok {n : Nat} {D : List (List Int)} : ∀ (f : Nat) (S : Sol), Fine n D S → S.cls.length < 1099511627776 → n - S.done.toNat < f → ∃ S' k, S.spread f = some (S', k) ∧ Spread n D S S' k
  | 0, S, _, _, hf => by omega
  | f + 1, S, h, hcl, hf => by
    have hB := h.good.base
    have hd0 := hB.d0
    have hd1 := hB.d1
    have htl := hB.trailL
    have hn := hB.hn
    rw [Sol.spread]
    by_cases hd : S.done < S.trail.length
    · rw [if_pos hd, if_pos ⟨hd0, by omega⟩]
      obtain ⟨y, hy⟩ : ∃ y, S.trail[S.done.toNat]? = some y := ⟨_, List.getElem?_eq_getElem (by omega)⟩
      have hly := hB.lits y (List.mem_of_getElem? hy)
      have hx := hly.neg
      rw [hy, Option.bind_some, if_pos (hly.bound hn)]
      obtain ⟨old, ho⟩ := hB.watchSome hx
      rw [hB.watchAt hx ho, Option.bind_some]
      have hwl := (List.getElem?_eq_some_iff.1 ho).1
      have hrow : ∀ z s, (S.watch.set (lc (-y)) [])[lc z]? = some s → (z = -y ∧ s = []) ∨ (z ≠ -y ∧ S.watch[lc z]? = some s) := fun z s hs => by
        rw [List.getElem?_set] at hs
        split at hs
        · next e =>
          have e := lc_inj.1 e
          subst e
          cases hs
          exact .inl ⟨rfl, rfl⟩
        · next e => exact .inr ⟨fun e' => e (by rw [e']), hs⟩
      have hG1 : Good n D { S with done := S.done + 1, watch := S.watch.set (lc (-y)) [] } :=
        ⟨⟨hB.hn, hB.vars, hB.isL, hB.whyL, hB.bumpL, hB.phaseL, by simpa using hB.watchL, hB.lits, hB.val, hB.nod, by show 0 ≤ S.done + 1; omega, by show S.done + 1 ≤ S.trail.length; omega, hB.mks,
          fun m hm => ⟨(hB.mkr m hm).1, by have := (hB.mkr m hm).2.1; show m ≤ S.done + 1; omega, (hB.mkr m hm).2.2⟩, hB.why⟩,
         h.good.cl, h.good.src, fun i x b l h1 h2 => (h.good.rsn i x b l h1 h2).mono (fun _ h => h) (fun _ _ => rfl) (fun _ _ _ h => h) (fun _ _ _ h => h) (SameCls.refl _)⟩
      have hW1 : Wat n { S with done := S.done + 1, watch := S.watch.set (lc (-y)) [] } (-y) old := by
        refine ⟨?_, ?_, h.wat.nod _ _ hx ho, ?_⟩
        · intro z s hz hs k
          rcases hrow z s hs with ⟨rfl, rfl⟩ | ⟨hne, hs'⟩
          · rw [← h.wat.at_ _ _ hz ho k]; simp
          · rw [← h.wat.at_ _ _ hz hs' k]; simp [hne]
        · intro z s hz hs
          rcases hrow z s hs with ⟨rfl, rfl⟩ | ⟨hne, hs'⟩
          · exact List.nodup_nil
          · exact h.wat.nod _ _ hz hs'
        · intro s hs k _
          rcases hrow _ s hs with ⟨_, rfl⟩ | ⟨hne, _⟩
          · simp
          · exact absurd rfl hne
      have hP1 : Pro { S with done := S.done + 1, watch := S.watch.set (lc (-y)) [] } (-y) old := by
        intro k c a b i hc h2 hi hia
        have hi : (i : Int) < S.done + 1 := hi
        by_cases e : (i : Int) < S.done
        · exact .inr (h.pro.none hc h2 e hia)
        · have e : i = S.done.toNat := by omega
          subst e
          have hia : S.trail[S.done.toNat]? = some (-a) := hia
          rw [hy] at hia
          injection hia with hia
          have ha : a = -y := by omega
          refine .inl ⟨ha, ?_⟩
          rcases (h.wat.at_ _ _ hx ho (k : Int)).2 ⟨by omega, c, hc, by subst ha; rcases h2 with ⟨h2, _⟩ | ⟨_, h2⟩ <;> simp [h2]⟩ with h | ⟨_, h⟩
          · exact h
          · cases h
      obtain ⟨S1, k, h1, hE, hdn, hG, hW, hr⟩ := visits_ok old _ (-y) hG1 hx hW1 hP1 hcl ⟨S.done.toNat, by rw [Int.neg_neg]; exact hy, by show ((S.done.toNat : Nat) : Int) < S.done + 1; omega, hB.cur (by omega)⟩
      have hE' : Ext S S1 := ⟨hE.marks, hE.vars, hE.proof, hE.phase, hE.bump, hE.trail, hE.len, hE.cls⟩
      rw [h1, Option.bind_some]
      rcases hr with ⟨rfl, hP⟩ | ⟨hk, hC, hL⟩
      · simp only [if_true]
        have hdn : S1.done = S.done + 1 := hdn
        obtain ⟨S', k, h2, h3⟩ := spread_ok f S1 ⟨hG, hW.nil 0, hP.nil 0⟩ (by rw [hE'.len]; exact hcl) (by rw [hdn]; omega)
        exact ⟨S', k, h2, hE'.trans h3.ext, h3.good, h3.wat, h3.res⟩
      · simp only [hk, if_false]
        exact ⟨S1, k, rfl, hE', hG, hW.nil 0, .inr ⟨hk, hC, hL⟩⟩
    · rw [if_neg hd]
      exact ⟨S, -1, rfl, Ext.refl S, h.good, h.wat, .inl ⟨rfl, h.pro, by omega⟩⟩
end Go.Proofs.Ytfmoldfajmfieaa
