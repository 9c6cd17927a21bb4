/-
  A conflict turns the search: the clause that was learned, kept, as a plain function.
-/
import Derived.Test.YtfmoldfajmfieaaLearn
import Derived.Test.YtfmoldfajmfieaaUndo
namespace Go.Proofs.Ytfmoldfajmfieaa
open Go.RowKit
/-- The place of the greatest level, from a place on. -/
def Sol.farAt (S : Sol) (c : List Int) : Nat → Nat → Nat → Option Nat
  | 0, _, far => some far
  | n + 1, i, far => (c[i + 1]?).bind fun x => (S.level x).bind fun a => (c[far]?).bind fun y => (S.level y).bind fun b => S.farAt c n (i + 1) (if b < a then i + 1 else far)
/-- The clause that was learned goes into the proof, the trail shrinks, the clause is kept, and its first literal holds. -/
def Sol.turn (S : Sol) (n : Nat) (k : Int) : Option Sol :=
  (S.learn n k).bind fun p => if p.2.1.length < 1099511627776 ∧ p.1.proof.length < 1099511627776 then
    (({ p.1 with proof := p.1.proof ++ [p.2.1] } : Sol).undo p.2.2).bind fun S3 =>
    (p.2.1[0]?).bind fun x0 =>
    if p.2.1.length = 1 then (S3.hold x0 (-1)).map fun q => q.1
    else (S3.farAt p.2.1 (p.2.1.length - 1) 0 1).bind fun far =>
      (S3.keep (swapAt p.2.1 1 far)).bind fun q => (q.1.hold x0 q.2).map fun r => r.1
  else none
theorem farAt_lt {S : Sol} {c : List Int} : ∀ {n i far r : Nat}, S.farAt c n i far = some r → far < c.length → i + n < c.length → 1 ≤ far → r < c.length ∧ 1 ≤ r
  | 0, i, far, r, h, hf, _, h1 => by simp only [Sol.farAt, Option.some.injEq] at h; subst h; exact ⟨hf, h1⟩
  | n + 1, i, far, r, h, hf, hi, h1 => by
    simp only [Sol.farAt, Option.bind_eq_some_iff] at h
    obtain ⟨x, hx, a, ha, y, hy, b, hb, h⟩ := h
    refine farAt_lt h ?_ (by omega) ?_
    · split <;> omega
    · split <;> omega
end Go.Proofs.Ytfmoldfajmfieaa
