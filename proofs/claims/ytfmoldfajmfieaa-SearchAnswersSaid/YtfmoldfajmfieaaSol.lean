/-
  The solver of layer 17 as plain data, and how that data lies in memory: each part in a block of its own, told apart by a role.
-/
import Derived.Test.YtfmoldfajmfieaaHeap
namespace Go.Proofs.Ytfmoldfajmfieaa
open Go.RowKit

/-- The solver's fields as data. -/
structure Sol where
  vars : Int
  cls : List (List Int)
  watch : List (List Int)
  is : List Bool
  why : List (Int × Int)
  trail : List Int
  marks : List Int
  done : Int
  bump : List Int
  phase : List Bool
  proof : List (List Int)

inductive Role where
  | S | C | K (k : Nat) | W | L (j : Nat) | I | Y | T | M | U | P | F | G (k : Nat) | X (n : Nat)
  deriving DecidableEq

/-- The slice values that lie in the solver's cells. -/
structure Vals where
  c : Value
  w : Value
  i : Value
  y : Value
  t : Value
  m : Value
  u : Value
  p : Value
  f : Value
  cs : List Value
  ws : List Value
  fs : List Value

/-- A number, a truth, as a cell. -/
def vI (n : Int) : Value := .int .i64 n
def vB (b : Bool) : Value := .bool b
def vY (l : List (Int × Int)) : List Value := l.flatMap fun p => [vI p.1, vI p.2]

/-- A row whose block plays the role r. -/
def RowR (w : World) (ρ : Nat → Option Role) (e size : Nat) (v : Value) (n : Nat) (xs : List Value) (r : Role) : Prop :=
  ∃ g, RowG w e size v n xs g ∧ ∀ k, g = some k → ρ k = some r

/-- Rows of numbers, one for each of a list of slice values. -/
def RowsR (w : World) (ρ : Nat → Option Role) (vs : List Value) (ls : List (List Int)) (r : Nat → Role) : Prop :=
  vs.length = ls.length ∧ ∀ k v l, vs[k]? = some v → ls[k]? = some l → RowR w ρ 3 1 v l.length (l.map vI) (r k)

def structCells (S : Sol) (V : Vals) : Array Value :=
  #[vI S.vars, V.c, V.w, V.i, V.y, V.t, V.m, vI S.done, V.u, V.p, V.f]

structure Rep (B : Nat) (w : World) (ρ : Nat → Option Role) (b : Nat) (S : Sol) (V : Vals) : Prop where
  hB : B ≤ w.heap.size
  dom : ∀ k r, ρ k = some r → B ≤ k ∧ k < w.heap.size
  hb : w.heap[b]? = some (.cells (structCells S V) 75 (0, 0))
  rb : ρ b = some .S
  hc : RowR w ρ 35 1 V.c S.cls.length V.cs .C
  hk : RowsR w ρ V.cs S.cls .K
  hw : RowR w ρ 35 1 V.w S.watch.length V.ws .W
  hl : RowsR w ρ V.ws S.watch .L
  hi : RowR w ρ 4 1 V.i S.is.length (S.is.map vB) .I
  hy : RowR w ρ 99 2 V.y S.why.length (vY S.why) .Y
  ht : RowR w ρ 3 1 V.t S.trail.length (S.trail.map vI) .T
  hm : RowR w ρ 3 1 V.m S.marks.length (S.marks.map vI) .M
  hu : RowR w ρ 3 1 V.u S.bump.length (S.bump.map vI) .U
  hp : RowR w ρ 4 1 V.p S.phase.length (S.phase.map vB) .P
  hf : RowR w ρ 35 1 V.f S.proof.length V.fs .F
  hg : RowsR w ρ V.fs S.proof .G

/-- Roles stay with the blocks that were there; new ones go to blocks that are new. -/
structure Grow (w : World) (ρ : Nat → Option Role) (w' : World) (ρ' : Nat → Option Role) : Prop where
  old : ∀ k, k < w.heap.size → ρ' k = ρ k
  new : ∀ k r, ρ' k = some r → k < w'.heap.size

theorem Grow.refl (w : World) (ρ : Nat → Option Role) (h : ∀ k r, ρ k = some r → k < w.heap.size) : Grow w ρ w ρ := ⟨fun _ _ => rfl, h⟩
theorem Grow.trans {w w1 w2 : World} {ρ ρ1 ρ2 : Nat → Option Role} (h : Grow w ρ w1 ρ1) (k : Grow w1 ρ1 w2 ρ2) (hs : w.heap.size ≤ w1.heap.size) : Grow w ρ w2 ρ2 :=
  ⟨fun i hi => (k.old i (by omega)).trans (h.old i hi), k.new⟩
theorem Grow.stay {w w' : World} {ρ : Nat → Option Role} (h : ∀ k r, ρ k = some r → k < w.heap.size) (hs : w.heap.size ≤ w'.heap.size) : Grow w ρ w' ρ :=
  ⟨fun _ _ => rfl, fun k r hk => Nat.lt_of_lt_of_le (h k r hk) hs⟩

/-- Only blocks of the roles in D have turned. -/
def Only (D : Role → Prop) (ρ : Nat → Option Role) (w w' : World) : Prop := Keep (fun k => ∃ r, ρ k = some r ∧ D r) w w'

theorem Only.refl (D : Role → Prop) (ρ : Nat → Option Role) (w : World) : Only D ρ w w := Keep.refl _ _
theorem Only.mono {D E : Role → Prop} {ρ : Nat → Option Role} {w w' : World} (h : Only D ρ w w') (hDE : ∀ r, D r → E r) : Only E ρ w w' :=
  Keep.mono h fun _ _ ⟨r, h1, h2⟩ => ⟨r, h1, hDE r h2⟩
theorem Only.trans {D : Role → Prop} {ρ ρ1 : Nat → Option Role} {w w1 w2 : World} (h : Only D ρ w w1) (k : Only D ρ1 w1 w2) (hg : Grow w ρ w1 ρ1) : Only D ρ w w2 :=
  ⟨k.os.trans h.os, k.tape.trans h.tape, k.output.trans h.output, Nat.le_trans h.size k.size, fun i hi hd =>
    (k.block i (Nat.lt_of_lt_of_le hi h.size) (by rw [hg.old i hi]; exact hd)).trans (h.block i hi hd)⟩
theorem Only.of_keep {D : Role → Prop} {ρ : Nat → Option Role} {w w' : World} (h : Keep (fun _ => False) w w') : Only D ρ w w' := Keep.mono h fun _ _ f => f.elim
theorem Only.of_below {D : Role → Prop} {ρ : Nat → Option Role} {w w' : World} (h : Below w.heap.size w w') : Only D ρ w w' := Keep.of_below h
theorem Only.setCell {D : Role → Prop} {ρ : Nat → Option Role} (w : World) {a : Addr} {r : Role} (h : ρ a.block = some r) (hr : D r) (u : Value) : Only D ρ w (w.setCell a u) :=
  Keep.setCell w a u ⟨r, h, hr⟩

theorem RowR.move {w w' : World} {ρ ρ' : Nat → Option Role} {e size n : Nat} {v : Value} {xs : List Value} {r : Role} {D : Role → Prop}
    (h : RowR w ρ e size v n xs r) (ho : Only D ρ w w') (hg : Grow w ρ w' ρ') (hr : ¬ D r) : RowR w' ρ' e size v n xs r := by
  obtain ⟨g, h1, h2⟩ := h
  refine ⟨g, h1.keep ho fun k hk ⟨r', e1, hd⟩ => hr ?_, fun k hk => ?_⟩
  · rw [h2 k hk] at e1; cases e1; exact hd
  · subst hk; rw [hg.old k h1.lt]; exact h2 k rfl
theorem RowsR.move {w w' : World} {ρ ρ' : Nat → Option Role} {vs : List Value} {ls : List (List Int)} {r : Nat → Role} {D : Role → Prop}
    (h : RowsR w ρ vs ls r) (ho : Only D ρ w w') (hg : Grow w ρ w' ρ') (hr : ∀ k, ¬ D (r k)) : RowsR w' ρ' vs ls r :=
  ⟨h.1, fun k v l hv hl => (h.2 k v l hv hl).move ho hg (hr k)⟩

/-- What the world does beside the solver leaves it as it is. -/
theorem Rep.stay {B : Nat} {w w' : World} {ρ ρ' : Nat → Option Role} {b : Nat} {S : Sol} {V : Vals} {D : Role → Prop} (h : Rep B w ρ b S V) (ho : Only D ρ w w') (hg : Grow w ρ w' ρ')
    (hdom : ∀ k r, ρ' k = some r → B ≤ k) (hD : ∀ r, D r → ∃ n, r = .X n) : Rep B w' ρ' b S V := by
  have hx : ∀ {r}, (∀ n, r ≠ .X n) → ¬ D r := fun hr hd => by obtain ⟨n, e⟩ := hD _ hd; exact hr n e
  have hlt := heap_lt h.hb
  refine ⟨Nat.le_trans h.hB ho.size, fun k r hk => ⟨hdom k r hk, hg.new k r hk⟩, ?_, (hg.old b hlt).trans h.rb, h.hc.move ho hg (hx ?_), h.hk.move ho hg (fun _ => hx ?_), h.hw.move ho hg (hx ?_), h.hl.move ho hg (fun _ => hx ?_), h.hi.move ho hg (hx ?_),
    h.hy.move ho hg (hx ?_), h.ht.move ho hg (hx ?_), h.hm.move ho hg (hx ?_), h.hu.move ho hg (hx ?_), h.hp.move ho hg (hx ?_), h.hf.move ho hg (hx ?_), h.hg.move ho hg (fun _ => hx ?_)⟩
  · rw [ho.block b hlt fun ⟨r, e1, hd⟩ => by rw [h.rb] at e1; cases e1; exact hx (by simp) hd]
    exact h.hb
  all_goals simp

theorem Rep.dom' {B : Nat} {w : World} {ρ : Nat → Option Role} {b : Nat} {S : Sol} {V : Vals} (h : Rep B w ρ b S V) : ∀ k r, ρ k = some r → k < w.heap.size := fun k r hk => (h.dom k r hk).2

/-- A call, a draw, a new block that plays no role. -/
theorem Rep.quiet {B : Nat} {w w' : World} {ρ : Nat → Option Role} {b : Nat} {S : Sol} {V : Vals} (h : Rep B w ρ b S V) (hb : Below w.heap.size w w') : Rep B w' ρ b S V :=
  h.stay (D := fun _ => False) (Only.of_below hb) (Grow.stay h.dom' hb.size) (fun k r hk => (h.dom k r hk).1) (fun _ f => f.elim)

section
variable {B : Nat} {w : World} {ρ : Nat → Option Role} {b : Nat} {S : Sol} {V : Vals}
theorem Rep.cell (h : Rep B w ρ b S V) (j : Nat) (u : Value) (hj : (structCells S V)[j]? = some u) : w.cell? ⟨b, j, none⟩ = some u := by
  rw [cell_of_row w b j _ 75 (0, 0) h.hb]; exact hj
theorem Rep.free (h : Rep B w ρ b S V) (j : Nat) : w.frozen? ⟨b, j, none⟩ = false := by simp [World.frozen?, h.hb]
end

/-- Another role for a block that bears none of the solver's. -/
def turnRole (ρ : Nat → Option Role) (g : Nat) (r : Role) : Nat → Option Role := fun k => if k = g then some r else ρ k
theorem turnRole_self (ρ : Nat → Option Role) (g : Nat) (r : Role) : turnRole ρ g r g = some r := by simp [turnRole]
theorem turnRole_ne {ρ : Nat → Option Role} {g k : Nat} {r : Role} (h : k ≠ g) : turnRole ρ g r k = ρ k := by simp [turnRole, h]

theorem RowR.turn {w : World} {ρ : Nat → Option Role} {e size n : Nat} {v : Value} {xs : List Value} {r r' : Role} {g : Nat} (h : RowR w ρ e size v n xs r) (hg : ρ g ≠ some r) : RowR w (turnRole ρ g r') e size v n xs r := by
  obtain ⟨g', h1, h2⟩ := h
  exact ⟨g', h1, fun k hk => by rw [turnRole_ne (show k ≠ g from fun e => hg (by rw [← e]; exact h2 k hk))]; exact h2 k hk⟩
theorem RowsR.turn {w : World} {ρ : Nat → Option Role} {vs : List Value} {ls : List (List Int)} {r : Nat → Role} {r' : Role} {g : Nat} (h : RowsR w ρ vs ls r) (hg : ∀ k, ρ g ≠ some (r k)) : RowsR w (turnRole ρ g r') vs ls r :=
  ⟨h.1, fun k v l hv hl => (h.2 k v l hv hl).turn (hg k)⟩
theorem Rep.turn {B : Nat} {w : World} {ρ : Nat → Option Role} {b : Nat} {S : Sol} {V : Vals} (h : Rep B w ρ b S V) {g : Nat} (hg : ∀ r, ρ g = some r → ∃ n, r = .X n) (r' : Role) (hB : B ≤ g) (hlt : g < w.heap.size) : Rep B w (turnRole ρ g r') b S V := by
  have hx : ∀ {r}, (∀ n, r ≠ .X n) → ρ g ≠ some r := fun hr hd => by obtain ⟨n, e⟩ := hg _ hd; exact hr n e
  refine ⟨h.hB, fun k r hk => ?_, h.hb, by rw [turnRole_ne (show b ≠ g from fun e => hx (r := .S) (by simp) (by rw [← e]; exact h.rb))]; exact h.rb, h.hc.turn (hx ?_), h.hk.turn (fun _ => hx ?_), h.hw.turn (hx ?_), h.hl.turn (fun _ => hx ?_), h.hi.turn (hx ?_),
    h.hy.turn (hx ?_), h.ht.turn (hx ?_), h.hm.turn (hx ?_), h.hu.turn (hx ?_), h.hp.turn (hx ?_), h.hf.turn (hx ?_), h.hg.turn (fun _ => hx ?_)⟩
  · unfold turnRole at hk
    split at hk
    · next e => subst e; exact ⟨hB, hlt⟩
    · exact h.dom k r hk
  all_goals simp

/-- What a solver's call may have done: its parts lie as they do behind it, and of other blocks none has turned. -/
def Role.own (r : Role) : Prop := ∀ n, r ≠ .X n
/-- Blocks of others keep their roles; what is the solver's later, and was there, was the solver's before; of other blocks none has turned. -/
structure Path (w : World) (ρ : Nat → Option Role) (w' : World) (ρ' : Nat → Option Role) : Prop where
  x : ∀ k n, ρ k = some (.X n) → ρ' k = some (.X n)
  own : ∀ k r, k < w.heap.size → ρ' k = some r → r.own → ∃ r', ρ k = some r' ∧ r'.own
  only : Only Role.own ρ w w'
theorem Path.refl {w : World} {ρ : Nat → Option Role} : Path w ρ w ρ := ⟨fun _ _ h => h, fun _ r _ h ho => ⟨r, h, ho⟩, Only.refl _ _ _⟩
theorem Path.trans {w w1 w2 : World} {ρ ρ1 ρ2 : Nat → Option Role} (h : Path w ρ w1 ρ1) (k : Path w1 ρ1 w2 ρ2) : Path w ρ w2 ρ2 :=
  ⟨fun i n hi => k.x i n (h.x i n hi), fun i r hi hr ho => (by
      obtain ⟨r', h1, h2⟩ := k.own i r (Nat.lt_of_lt_of_le hi h.only.size) hr ho
      exact h.own i r' hi h1 h2),
   ⟨k.only.os.trans h.only.os, k.only.tape.trans h.only.tape, k.only.output.trans h.only.output, Nat.le_trans h.only.size k.only.size, fun i hi hd =>
      (k.only.block i (Nat.lt_of_lt_of_le hi h.only.size) (fun ⟨r, h1, h2⟩ => hd (h.own i r hi h1 h2))).trans (h.only.block i hi hd)⟩⟩
theorem Path.below {w w' : World} {ρ : Nat → Option Role} (_hd : ∀ k r, ρ k = some r → k < w.heap.size) (hb : Below w.heap.size w w') : Path w ρ w' ρ := ⟨fun _ _ h => h, fun _ r _ h ho => ⟨r, h, ho⟩, Only.of_below hb⟩
theorem Path.of {B : Nat} {w w' : World} {ρ ρ' : Nat → Option Role} {b : Nat} {S : Sol} {V : Vals} {D : Role → Prop} (h : Rep B w ρ b S V) (hg : Grow w ρ w' ρ') (ho : Only D ρ w w') (hD : ∀ r, D r → r.own) : Path w ρ w' ρ' :=
  ⟨fun k n hk => by rw [hg.old k (h.dom k _ hk).2]; exact hk, fun k r hk hr hro => ⟨r, by rw [← hg.old k hk]; exact hr, hro⟩, ho.mono hD⟩
def StepTo (B : Nat) (w : World) (ρ : Nat → Option Role) (b : Nat) (S' : Sol) (w' : World) : Prop :=
  ∃ ρ' V', Rep B w' ρ' b S' V' ∧ Path w ρ w' ρ'
/-- .., the table of what is watched lying where it lay. -/
def StepW (B : Nat) (w : World) (ρ : Nat → Option Role) (b : Nat) (V : Vals) (S' : Sol) (w' : World) : Prop :=
  ∃ ρ' V', Rep B w' ρ' b S' V' ∧ Path w ρ w' ρ' ∧ V'.w = V.w ∧ ∀ g, ρ g = some .W → ρ' g = some .W
theorem StepW.to {B : Nat} {w w' : World} {ρ : Nat → Option Role} {b : Nat} {S' : Sol} {V : Vals} (h : StepW B w ρ b V S' w') : StepTo B w ρ b S' w' := by
  obtain ⟨ρ', V', h1, h2, _⟩ := h
  exact ⟨ρ', V', h1, h2⟩
theorem StepTo.of {B : Nat} {w w' : World} {ρ ρ' : Nat → Option Role} {b : Nat} {S' : Sol} {V' : Vals} (h : Rep B w' ρ' b S' V') (hp : Path w ρ w' ρ') : StepTo B w ρ b S' w' := ⟨ρ', V', h, hp⟩
theorem StepTo.quiet {B : Nat} {w w' : World} {ρ : Nat → Option Role} {b : Nat} {S : Sol} {V : Vals} (h : Rep B w ρ b S V) (hb : Below w.heap.size w w') : StepTo B w ρ b S w' :=
  ⟨ρ, V, h.quiet hb, Path.below h.dom' hb⟩
theorem StepW.quiet {B : Nat} {w w' : World} {ρ : Nat → Option Role} {b : Nat} {S : Sol} {V : Vals} (h : Rep B w ρ b S V) (hb : Below w.heap.size w w') : StepW B w ρ b V S w' :=
  ⟨ρ, V, h.quiet hb, Path.below h.dom' hb, rfl, fun _ h => h⟩
theorem Rep.below {B : Nat} {w w' : World} {ρ : Nat → Option Role} {b : Nat} {S : Sol} {V : Vals} (h : Rep B w ρ b S V) (hb : Below w.heap.size w w') : Rep B w' ρ b S V ∧ Path w ρ w' ρ := ⟨h.quiet hb, Path.below h.dom' hb⟩

/-- Where a literal stands in a table. -/
def lc (x : Int) : Nat := if x < 0 then (-2 * x + 1).toNat else (2 * x).toNat
/-- The variable of a literal. -/
def vr (x : Int) : Int := if x < 0 then -x else x
/-- Is a literal true? none: there is no such place. -/
def Sol.lit (S : Sol) (x : Int) : Option Bool := if -1099511627776 < x ∧ x < 1099511627776 then S.is[lc x]? else none
/-- A literal that becomes true, by a clause. -/
def Sol.put (S : Sol) (x by_ : Int) : Sol :=
  { S with is := S.is.set (lc x) true, why := S.why.set (vr x).toNat (by_, (S.marks.length : Int)), trail := S.trail ++ [x] }
def Sol.hold (S : Sol) (x by_ : Int) : Option (Sol × Bool) :=
  (S.lit (-x)).bind fun n => if n = true then some (S, false) else
  (S.lit x).bind fun p => if p = true then some (S, true) else
  if vr x < S.why.length ∧ S.trail.length < 1099511627776 then some (S.put x by_, true) else none
end Go.Proofs.Ytfmoldfajmfieaa
