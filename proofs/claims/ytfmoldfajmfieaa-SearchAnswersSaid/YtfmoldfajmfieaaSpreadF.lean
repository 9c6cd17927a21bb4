/-
  What spreads, as plain functions of the solver's data.
-/
import Derived.Test.YtfmoldfajmfieaaKeep
namespace Go.Proofs.Ytfmoldfajmfieaa
open Go.RowKit
/-- Two literals of a clause change places. -/
def swapAt (c : List Int) (i j : Nat) : List Int := (c.set i (c.getD j 0)).set j (c.getD i 0)
/-- The first of some literals that isn't false; some none: there is none. -/
def Sol.findJ (S : Sol) : List Int → Nat → Option (Option Nat)
  | [], _ => some none
  | y :: r, j => (S.lit (-y)).bind fun t => if t = true then S.findJ r (j + 1) else some (some j)
/-- A watch row with more at its end. -/
def Sol.watchRest (S : Sol) (x : Int) (r : List Int) : Option Sol := (S.watchAt x).bind fun l => if l.length + r.length < 1099511627776 then some { S with watch := S.watch.set (lc x) (l ++ r) } else none
/-- The clauses that were watched at a literal that is false now; -1: none of them fails. -/
def Sol.visits (x : Int) : Sol → List Int → Option (Sol × Int)
  | S, [] => some (S, -1)
  | S, k :: rest =>
    if 0 ≤ k then (S.cls[k.toNat]?).bind fun c0 =>
      if 2 ≤ c0.length then
        (S.lit ((if c0.getD 0 0 = x then swapAt c0 0 1 else c0).getD 0 0)).bind fun t =>
        (if t = true then some none else S.findJ ((if c0.getD 0 0 = x then swapAt c0 0 1 else c0).drop 2) 2).bind fun
          | some j => (({ S with cls := S.cls.set k.toNat (swapAt (if c0.getD 0 0 = x then swapAt c0 0 1 else c0) 1 j) } : Sol).watchAdd ((swapAt (if c0.getD 0 0 = x then swapAt c0 0 1 else c0) 1 j).getD 1 0) k).bind fun S2 => Sol.visits x S2 rest
          | none => (({ S with cls := S.cls.set k.toNat (if c0.getD 0 0 = x then swapAt c0 0 1 else c0) } : Sol).watchAdd x k).bind fun S2 =>
            (S2.hold ((if c0.getD 0 0 = x then swapAt c0 0 1 else c0).getD 0 0) k).bind fun p =>
              if p.2 = true then Sol.visits x p.1 rest else (p.1.watchRest x rest).map fun S4 => (S4, k)
      else none
    else none
/-- Till nothing is left to be asked, or a clause fails. -/
def Sol.spread : Nat → Sol → Option (Sol × Int)
  | 0, _ => none
  | n + 1, S => if S.done < S.trail.length then
      if 0 ≤ S.done ∧ S.trail.length < 1099511627776 then (S.trail[S.done.toNat]?).bind fun y =>
        if -1099511627776 < y ∧ y < 1099511627776 then (S.watchAt (-y)).bind fun old =>
          (({ S with done := S.done + 1, watch := S.watch.set (lc (-y)) [] } : Sol).visits (-y) old).bind fun p => if p.2 = -1 then p.1.spread n else some p
        else none
      else none
    else some (S, -1)

section
variable {B : Nat} {w w' : World} {ρ ρ' : Nat → Option Role} {b : Nat} {S : Sol} {V : Vals}
/-- A row of the caller's own stays as it is. -/
theorem Path.row (h : Path w ρ w' ρ') {e size n : Nat} {v : Value} {xs : List Value} {g : Option Nat} {m : Nat} (hG : RowG w e size v n xs g) (hr : ∀ k, g = some k → ρ k = some (.X m)) :
    RowG w' e size v n xs g ∧ ∀ k, g = some k → ρ' k = some (.X m) :=
  ⟨hG.keep h.only fun k hk ⟨r, h1, h2⟩ => by rw [hr k hk] at h1; cases h1; exact h2 m rfl, fun k hk => h.x k m (hr k hk)⟩
end
end Go.Proofs.Ytfmoldfajmfieaa
