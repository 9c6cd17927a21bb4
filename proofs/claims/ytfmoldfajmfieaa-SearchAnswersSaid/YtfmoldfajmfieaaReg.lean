/-
  Regions of open order whose operations read, and whose calls make memory of their own at most.
-/
import Derived.WalkKit
import Derived.WalkSpells
import Derived.Deep.QuietTactic
import Derived.BigQuiet
import Derived.StillTailTactics
import Derived.Laws.MakeOwn
import Derived.Laws.OwnMore
import Derived.Lib.Hide
namespace Go.Proofs.Ytfmoldfajmfieaa
open Go.RowKit
/-- The worlds in which all that was there in w is as it was. -/
def Bel (w : World) : Type := { u : World // Below w.heap.size w u }
def Bel.self (w : World) : Bel w := ⟨w, Below.refl _ _⟩
instance (w : World) : Nonempty (Bel w) := ⟨Bel.self w⟩
theorem Bel.below {w : World} (u : Bel w) : Below w.heap.size w u.1 := u.2
theorem Bel.cell {w : World} (u : Bel w) {b o : Nat} {v : Value} (h : w.cell? ⟨b, o, none⟩ = some v) (hl : b < w.heap.size) : u.1.cell? ⟨b, o, none⟩ = some v := by
  rw [u.2.cell (p := ⟨b, o, none⟩) hl]; exact h
section
variable {P : Program}
theorem region_quiet {id : Nat} {Q : Exit → Act → World → Prop} {a : Act} {w : World} {l : List Oper} (hm : P.follows .mixedOrders = true) (hB : Region.lexB .any l.toArray = true)
    (h : wpQuiet P l.toArray (fun w' => ∃ u : Bel w, w' = u.1) (fun a' => ∀ w', (∃ u : Bel w, w' = u.1) → Q .normal a' w') l a) : (Code.region id l.toArray true).wp P Q a w :=
  wp_region_quiet (C := fun w' => ∃ u : Bel w, w' = u.1) hm hB ⟨⟨{ w with drawn := w.drawn + 1 }, ⟨rfl, rfl, rfl, Nat.le_refl _, fun _ _ => rfl⟩⟩, rfl⟩ (by simpa using h)
theorem quiet_below {f : FuncId} {args : Array Value} {w : World} {u : Bel w} {v : Value} (h : Calls P f args u.1 fun e w' => e = .returned v ∧ Below u.1.heap.size u.1 w') :
    Calls P f args u.1 fun e w'' => e = .returned v ∧ ∃ u' : Bel w, w'' = u'.1 :=
  h.mono fun _ w' ⟨he, hb⟩ => ⟨he, ⟨w', u.2.trans (hb.mono u.2.size)⟩, rfl⟩
theorem quiet_same {f : FuncId} {args : Array Value} {w : World} {u : Bel w} {v : Value} (h : Calls P f args u.1 fun e w' => e = .returned v ∧ w' = u.1) :
    Calls P f args u.1 fun e w'' => e = .returned v ∧ ∃ u' : Bel w, w'' = u'.1 :=
  h.mono fun _ _ ⟨he, hb⟩ => ⟨he, u, hb⟩
end

/-- make([]T, n): a new block, whose cells are known by an equation that the walk does not open. -/
theorem make_law {P : Program} {ops : Array Oper} {rest : List Oper} {o : Oper} {a : Act} {Q : Exit → Act → World → Prop} {w : World} (hg : o.guard = none) (l c : Operand) (t : TypeId) (hop : o.op = Op.makeSlice t l c)
    {e : TypeId} {z : Value} {size bytes : Nat} (ht : P.underlying t = some (.slice e)) (hinfo : (P.info? e).map (fun i => (i.zero, i.size, i.bytes)) = some (some z, size, bytes))
    (L : Int) (n : Nat) (hl : a.eval l = .int .i64 L) (hc : a.eval c = .int .i64 L) (hL : L = n) (hb : bytes * n ≤ 281474976710656) (h63 : n ≤ 9223372036854775807)
    (hK : ∀ (C : Array Value) (g : Nat), Hid (C = madeCells z.cells (n * size)) → g = w.heap.size → wpList P ops Q rest (a.put o.dst (.slice (some ⟨g, 0, none⟩) n n)) (w.alloc (.cells C e))) :
    wpList P ops Q (o :: rest) a w := by
  obtain ⟨i, hi, hzz⟩ := Option.map_eq_some_iff.1 hinfo
  simp only [Prod.mk.injEq] at hzz
  obtain ⟨hz, hs, hby⟩ := hzz
  subst hL
  refine wpList_plain hg fun K hK' => ?_
  have hb' : (i.bytes : Int) * (n : Int) ≤ 281474976710656 := by
    have h : ((i.bytes * n : Nat) : Int) ≤ 281474976710656 := by rw [hby]; omega
    rwa [Int.natCast_mul] at h
  have hrun := run_make (P := P) w t e i z ht hi hz .i64 .i64 n n (by omega) (Int.le_refl _) hb' (by omega)
  simp only [Int.toNat_natCast, hs] at hrun
  unfold Oper.wp
  simp [execOp, hop, hl, hc, hrun, Result.andThen]
  exact hK' _ _ (hK _ _ (Lib.hid rfl) rfl)
end Go.Proofs.Ytfmoldfajmfieaa
