/-
  What is learned from a clause that fails, as plain functions; the map of the variables that were seen.
-/
import Derived.Test.YtfmoldfajmfieaaSpreadF
import Derived.Maps.Own
import Derived.Maps.OwnOps
import Derived.Maps.Views
namespace Go.Proofs.Ytfmoldfajmfieaa
open Go.RowKit Go.Maps
/-- What was gathered so far: the variables that were seen, the clause, how many literals of the last level are open, the level to go back to. -/
structure Lrn where
  seen : List Int
  out : List Int
  opn : Int
  back : Int
  bump : List Int
/-- One literal of a reason. -/
def Sol.lrnLit (S : Sol) (L : Lrn) (x : Int) : Option Lrn :=
  if -1099511627776 < x ∧ x < 1099511627776 then
    if vr x ∈ L.seen then some L else
    (S.lit x).bind fun t => if t = true then some L else
    (S.level x).bind fun lv => if lv = 0 then some L else
    (L.bump[(vr x).toNat]?).bind fun bv =>
      if lv = (S.marks.length : Int) then
        if L.opn < 1099511627776 ∧ L.seen.length < 1099511627776 then some { L with seen := vr x :: L.seen, bump := L.bump.set (vr x).toNat (wrap64 (bv + 1)), opn := L.opn + 1 } else none
      else
        if L.out.length < 1099511627776 ∧ L.seen.length < 1099511627776 then some { L with seen := vr x :: L.seen, bump := L.bump.set (vr x).toNat (wrap64 (bv + 1)), out := L.out ++ [x], back := max L.back lv } else none
  else none
def Sol.lrnClause (S : Sol) : Lrn → List Int → Option Lrn
  | L, [] => some L
  | L, x :: r => (S.lrnLit L x).bind fun L1 => S.lrnClause L1 r
/-- The last literal of the trail, from a place downward, whose variable was seen. -/
def Sol.lrnAt (S : Sol) (seen : List Int) : Nat → Option Nat
  | 0 => (S.trail[0]?).bind fun y => if -1099511627776 < y ∧ y < 1099511627776 ∧ vr y ∈ seen then some 0 else none
  | n + 1 => (S.trail[n + 1]?).bind fun y => if -1099511627776 < y ∧ y < 1099511627776 then if vr y ∈ seen then some (n + 1) else S.lrnAt seen n else none
def Sol.lrn (S : Sol) : Nat → List Int → Lrn → Nat → Option (List Int × List Int × Int)
  | 0, _, _, _ => none
  | k + 1, reason, L, at_ => (S.lrnClause L reason).bind fun L1 =>
      if 1 ≤ at_ ∧ at_ ≤ S.trail.length ∧ 1 ≤ L1.opn ∧ L1.opn < 1099511627776 ∧ 1 ≤ L1.out.length then (S.lrnAt L1.seen (at_ - 1)).bind fun i =>
        (S.trail[i]?).bind fun y =>
          if L1.opn = 1 then some (L1.bump, L1.out.set 0 (-y), L1.back)
          else (S.why[(vr y).toNat]?).bind fun p => if 0 ≤ p.1 then (S.cls[p.1.toNat]?).bind fun c => S.lrn k c { L1 with opn := L1.opn - 1 } i else none
      else none
/-- The clause, and the level. -/
def Sol.learn (S : Sol) (n : Nat) (k : Int) : Option (Sol × List Int × Int) :=
  if 0 ≤ k ∧ S.trail.length < 1099511627776 then (S.cls[k.toNat]?).bind fun c => (S.lrn n c ⟨[], [0], 0, 0, S.bump⟩ S.trail.length).map fun p => ({ S with bump := p.1 }, p.2.1, p.2.2) else none

/-- The map, as data: each variable that was seen, once. -/
def seenD (l : List Int) : DataW Unit := l.foldr (fun v d => d.put (.int .i64 v) (.lit (.int .i64 1))) (.map [])
theorem isMap_seen (l : List Int) : IsMap (seenD l) := by
  induction l with
  | nil => exact isMap_empty
  | cons v l ih => exact ih.put _ _
theorem seen_at (l : List Int) (v : Int) : (seenD l).atKey (.int .i64 v) (.lit (.int .i64 0)) = .lit (.int .i64 (if v ∈ l then 1 else 0)) := by
  induction l with
  | nil => simp [seenD, DataW.atKey]
  | cons u l ih =>
    have e : seenD (u :: l) = (seenD l).put (.int .i64 u) (.lit (.int .i64 1)) := rfl
    rw [e]
    by_cases h : v = u
    · subst h
      rw [atKey_put_same (isMap_seen l) (by unfold WideAt.IsKeyLit; trivial)]
      simp
    · rw [atKey_put_other (by simpa using h), ih]
      simp [h]
end Go.Proofs.Ytfmoldfajmfieaa
