/-
  The search itself, as plain functions of the solver's data: till all have values, or nothing can, or there were enough tries.
-/
import Derived.Test.YtfmoldfajmfieaaTurnF
import Derived.Test.YtfmoldfajmfieaaAdd
import Derived.Test.YtfmoldfajmfieaaSpreadF
namespace Go.Proofs.Ytfmoldfajmfieaa
open Go.RowKit
/-- What was found. -/
structure Ans where
  is_ : Int
  tries : Int
  model : List Bool
  proof : List (List Int)
/-- Till all have values, or nothing can, or there were enough tries. -/
def Sol.run (m : Nat) (T : Int) : Nat → Sol → Int → Option Ans
  | 0, _, _ => none
  | f + 1, S, t => (S.spread m).bind fun p =>
    if p.2 ≠ -1 then
      if p.1.marks.length = 0 then (if p.1.proof.length < 1099511627776 then some ⟨2, t, [], p.1.proof ++ [[]]⟩ else none)
      else if t = T then some ⟨0, t, [], []⟩
      else (p.1.turn m p.2).bind fun S2 => Sol.run m T f S2 (t + 1)
    else (p.1.next m).bind fun v =>
      if v = 0 then p.1.model.map fun b => ⟨1, t, b, []⟩
      else if 0 ≤ v ∧ p.1.marks.length < 1099511627776 then (p.1.phase[v.toNat]?).bind fun ph =>
        (({ p.1 with marks := p.1.marks ++ [(p.1.trail.length : Int)] } : Sol).hold (if ph = true then v else -v) (-1)).bind fun q => Sol.run m T f q.1 t
      else none
/-- A solver without clauses. -/
def Sol.none (n : Nat) : Sol :=
  { vars := n, cls := [], watch := List.replicate (2 * n + 2) [], is := List.replicate (2 * n + 2) false, why := List.replicate (n + 1) (0, 0), trail := [], marks := [], done := 0, bump := List.replicate (n + 1) 0, phase := List.replicate (n + 1) false, proof := [] }
/-- Clauses, one after the other; false: one fails. -/
def Sol.adds (cl : List Int → List Int) : Sol → List (List Int) → Option (Sol × Bool)
  | S, [] => some (S, true)
  | S, c :: l => (S.add (cl c)).bind fun p => if p.2 = true then Sol.adds cl p.1 l else some (p.1, false)
def Sol.fresh (cl : List Int → List Int) (m n : Nat) (l : List (List Int)) : Option (Sol × Bool) :=
  ((Sol.none n).adds cl l).bind fun p => if p.2 = true then (p.1.spread m).map fun q => (q.1, decide (q.2 = -1)) else some (p.1, false)
def solveF (cl : List Int → List Int) (m n f : Nat) (l : List (List Int)) (tries : Int) : Option Ans :=
  (Sol.fresh cl m n l).bind fun p => if p.2 = true then Sol.run m (max 0 (min tries 65536)) f p.1 0 else some ⟨2, 0, [], [[]]⟩

end Go.Proofs.Ytfmoldfajmfieaa
