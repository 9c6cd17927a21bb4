/-
  The solver's small functions: where a literal stands, and what becomes true.
-/
import Derived.Test.YtfmoldfajmfieaaProg
import Derived.Test.YtfmoldfajmfieaaRep
import Derived.Test.YtfmoldfajmfieaaReg
import Derived.WalkKit
import Derived.WalkSpells
import Derived.WalkLawsBesides
import Derived.Deep.QuietTactic
import Derived.BigQuiet
import Derived.StillTailTactics
import Derived.Lib.Hide
import Derived.Deep.DeepCutAuto
import Derived.Outline
namespace Go.Proofs.Ytfmoldfajmfieaa
open Go.RowKit
/-- A draw, and nothing else. -/
structure Drew (w w' : World) : Prop where
  heap : w'.heap = w.heap
  os : w'.os = w.os
  tape : w'.tape = w.tape
  output : w'.output = w.output
theorem Drew.below {w w' : World} (h : Drew w w') : Below w.heap.size w w' := ⟨h.os, h.tape, h.output, by rw [h.heap]; exact Nat.le_refl _, fun k _ => by rw [h.heap]⟩
theorem region_tail {P : Program} {id : Nat} {Q : Exit → Act → World → Prop} {a : Act} {w : World} {l : List Oper} (n : Nat) (hm : P.follows .mixedOrders = true) (hB : Region.lexTailB .any l.toArray n = true)
    (h : ∀ w', Drew w w' → wpStill P l.toArray w' (fun a' => wpList P l.toArray Q (l.drop n) a' w') (l.take n) a) : (Code.region id l.toArray true).wp P Q a w :=
  wp_region_still_tail n hm hB (h _ ⟨rfl, rfl, rfl, rfl⟩)

theorem Try.inf3 : (Try.prog.info? 3).map (fun i => (i.zero, i.size, i.bytes)) = some (some (.int .i64 0), 1, 8) := by kernel_rfl
theorem Try.inf4 : (Try.prog.info? 4).map (fun i => (i.zero, i.size, i.bytes)) = some (some (.bool false), 1, 1) := by kernel_rfl
theorem Try.inf99 : (Try.prog.info? 99).map (fun i => (i.zero, i.size, i.bytes)) = some (some (.agg #[.int .i64 0, .int .i64 0]), 2, 16) := by kernel_rfl
theorem Try.inf35 : (Try.prog.info? 35).map (fun i => (i.zero, i.size, i.bytes)) = some (some (.slice none 0 0), 1, 24) := by kernel_rfl
theorem info_of {P : Program} {t : TypeId} {z : Value} {s b : Nat} (h : (P.info? t).map (fun i => (i.zero, i.size, i.bytes)) = some (some z, s, b)) : ∃ i, P.info? t = some i ∧ i.zero = some z ∧ i.size = s ∧ i.bytes = b := by
  obtain ⟨i, hi, hz⟩ := Option.map_eq_some_iff.1 h
  simp only [Prod.mk.injEq] at hz
  exact ⟨i, hi, hz.1, hz.2.1, hz.2.2⟩

/-- One value more at the end of a row. -/
theorem append_one {ops : Array Oper} {rest : List Oper} {o : Oper} {a : Act} {Q : Exit → Act → World → Prop} {w : World} {y : Value} {nb : Nat} (hgd : o.guard = none) (s x : Operand)
    {t e : TypeId} {z : Value} {bytes : Nat} (ht : Try.prog.underlying t = some (.slice e)) (hinf : (Try.prog.info? e).map (fun i => (i.zero, i.size, i.bytes)) = some (some z, 1, bytes)) (hzs : z.cells.size = 1) (hby : bytes ≤ 64) (hy : y.oneCell' = true)
    (ho : o.op = .call { callee := .builtin .append, args := #[s, x], argTypes := #[t, t] }) (v : Value) (hs : a.eval s = v) (hx : a.eval x = .slice (some ⟨nb, 0, none⟩) 1 1) (hnb : nb = w.heap.size)
    {n : Nat} {xs : List Value} {g : Option Nat} (hG : RowG w e 1 v n xs g) (hl : n < 1099511627776)
    (h : ∀ c' w' g', RowG w' e 1 (.slice (some ⟨g', 0, none⟩) (n + 1) c') (n + 1) (xs ++ [y]) (some g') → AppTo w w' g g' → wpList Try.prog ops Q rest (a.put o.dst (.slice (some ⟨g', 0, none⟩) (n + 1) c')) w') :
    wpList Try.prog ops Q (o :: rest) a (w.alloc (.cells #[y] e)) := by
  subst hnb
  obtain ⟨i, hi, hz, hsz, hb2⟩ := info_of hinf
  have hb : Below w.heap.size w (w.alloc (.cells #[y] e)) := (Below.refl _ _).alloc (Nat.le_refl _) _
  have hbb : (n + 1) * bytes ≤ (n + 1) * 64 := Nat.mul_le_mul_left _ hby
  obtain ⟨v', w', g', hrun, hG', ha⟩ := run_append_rowG (P := Try.prog) (w.alloc (.cells #[y] e)) t o.type e i z 1 bytes ht hi hz hsz hb2 hzs v n xs g (hG.same fun k e => by subst e; exact hb.block _ hG.lt)
    ⟨w.heap.size, 0, none⟩ 1 1 [y] rfl (fun j u hj => by
      match j, hj with
      | 0, hj => cases hj; exact cell_of_row _ _ 0 _ e (0, 0) (heap_alloc_new w _)
      | j + 1, hj => simp at hj) (fun u hu => by cases List.mem_singleton.1 hu; exact hy) (by omega) (by unfold maxLen; omega) (by omega)
  obtain ⟨c', cur, rfl, hrest⟩ := hG'
  exact Lib.wpList_append_run _ hgd s x t t ho _ _ hs hx _ _ hrun (h c' w' g' ⟨c', cur, rfl, hrest⟩ (ha.behind hb))

/-- One number more at the end of a row of numbers. -/
theorem append_int {ops : Array Oper} {rest : List Oper} {o : Oper} {a : Act} {Q : Exit → Act → World → Prop} {w : World} {y : Int} {nb : Nat} (hgd : o.guard = none) (s x : Operand)
    (ho : o.op = .call { callee := .builtin .append, args := #[s, x], argTypes := #[35, 35] }) (v : Value) (hs : a.eval s = v) (hx : a.eval x = .slice (some ⟨nb, 0, none⟩) 1 1) (hnb : nb = w.heap.size)
    {l : List Int} {g : Option Nat} (hG : RowG w 3 1 v l.length (l.map vI) g) (hl : l.length < 1099511627776)
    (h : ∀ c' w' g', RowG w' 3 1 (.slice (some ⟨g', 0, none⟩) (l.length + 1) c') (l.length + 1) ((l ++ [y]).map vI) (some g') → AppTo w w' g g' → wpList Try.prog ops Q rest (a.put o.dst (.slice (some ⟨g', 0, none⟩) (l.length + 1) c')) w') :
    wpList Try.prog ops Q (o :: rest) a (w.alloc (.cells #[.int .i64 y] 3)) :=
  append_one hgd s x Try.underlying35 Try.inf3 rfl (by omega) rfl ho v hs hx hnb hG hl fun c' w' g' hG' ha => h c' w' g' (by rw [List.map_append]; exact hG') ha

section
variable {B : Nat} {w : World} {ρ : Nat → Option Role} {b : Nat} {S : Sol} {V : Vals}
theorem lit_some {S : Sol} {x : Int} {t : Bool} (h : S.lit x = some t) : -1099511627776 < x ∧ x < 1099511627776 ∧ S.is[lc x]? = some t ∧ lc x < S.is.length := by
  unfold Sol.lit at h
  split at h
  · next hx => exact ⟨hx.1, hx.2, h, (List.getElem?_eq_some_iff.1 h).1⟩
  · cases h
/-- The table of truths, and a literal's place in it. -/
theorem Rep.litAt (h : Rep B w ρ b S V) {x : Int} {t : Bool} (hx : S.lit x = some t) :
    ∃ g cap, V.i = .slice (some ⟨g, 0, none⟩) S.is.length cap ∧ ρ g = some .I ∧ RowG w 4 1 V.i S.is.length (S.is.map vB) (some g) ∧ w.cell? ⟨g, lc x, none⟩ = some (.bool t) := by
  obtain ⟨_, _, h3, h4⟩ := lit_some hx
  obtain ⟨g, cap, hv, _, hr, hG⟩ := h.hi.at (by omega)
  exact ⟨g, cap, hv, hr, hG, hG.cellAt (by rw [List.getElem?_map, h3]; rfl)⟩
/-- Behind an append to one of its rows the solver's own cells are as they were. -/
theorem Rep.appNe (h : Rep B w ρ b S V) {w' : World} {g : Option Nat} {g' : Nat} {r : Role} (ha : AppTo w w' g g') (hr : ∀ k, g = some k → ρ k = some r) (hS : r ≠ .S) : ¬ b = g' := by
  intro e
  rcases ha.who with hw | hw
  · have := hr g' hw; rw [← e, h.rb] at this; cases this; exact hS rfl
  · have := heap_lt h.hb; omega
theorem Rep.appCell (h : Rep B w ρ b S V) {w' : World} {g : Option Nat} {g' : Nat} {r : Role} (ha : AppTo w w' g g') (hr : ∀ k, g = some k → ρ k = some r) (hS : r ≠ .S) (j : Nat) (u : Value) (hj : (structCells S V)[j]? = some u) :
    w'.cell? ⟨b, j, none⟩ = some u ∧ w'.frozen? ⟨b, j, none⟩ = false :=
  ⟨(ha.keep.cell (p := ⟨b, j, none⟩) (heap_lt h.hb) (h.appNe ha hr hS)).trans (h.cell j u hj), (ha.keep.frozen (p := ⟨b, j, none⟩) (heap_lt h.hb) (h.appNe ha hr hS)).trans (h.free j)⟩
theorem AppTo.ne_of' {w w' : World} {ρ : Nat → Option Role} {g : Option Nat} {g' k : Nat} {r q : Role} (ha : AppTo w w' g g') (hk : ρ k = some q) (hr : ∀ j, g = some j → ρ j = some r) (hne : r ≠ q) (hlt : k < w.heap.size) : k ≠ g' := by
  intro e
  subst e
  rcases ha.who.imp (hr k) id with h | h
  · rw [hk] at h; cases h; exact hne rfl
  · omega
theorem AppTo.role {w' : World} {g : Option Nat} {g' : Nat} {r : Role} (ha : AppTo w w' g g') (hr : ∀ k, g = some k → ρ k = some r) : ρ g' = some r ∨ w.heap.size ≤ g' := ha.who.imp (hr g') id
end

theorem lc_neg {x : Int} (h : x < 0) : (-2 * x + 1).toNat = lc x := by simp [lc, h]
theorem lc_pos {x : Int} (h : ¬ x < 0) : (2 * x).toNat = lc x := by simp [lc, h]
theorem ret_ptr {a b : Addr} (h : a = b) : Ending.returned (.pointer (some a)) = .returned (.pointer (some b)) := by rw [h]
theorem ret_int {k : IntKind} {a b : Int} (h : a = b) : Ending.returned (.int k a) = .returned (.int k b) := by rw [h]
theorem bcell {W w1 : World} (hb : Below W.heap.size W w1) {b o : Nat} {v : Value} (h : W.cell? ⟨b, o, none⟩ = some v) (hl : b < W.heap.size) : w1.cell? ⟨b, o, none⟩ = some v := by rw [hb.cell (p := ⟨b, o, none⟩) hl]; exact h
theorem post_below {w w' : World} {o : Obj} (h : w' = w.alloc o) : Below w.heap.size w w' := by rw [h]; exact (Below.refl _ _).alloc (Nat.le_refl _) _

set_option maxHeartbeats 400000 in
theorem at65 (b n c : Nat) (x : Int) (w : World) (hn : lc x < n) (h1 : -1099511627776 < x) (h2 : x < 1099511627776) :
    Calls Try.prog 65 #[.agg #[.slice (some ⟨b, 0, none⟩) n c], .int .i64 x] w fun e w' => e = .returned (.pointer (some ⟨b, lc x, none⟩)) ∧ Below w.heap.size w w' := by
  by_cases hx : x < 0
  · have e := lc_neg hx
    have hn' : -2 * x + 1 < n := by omega
    have E := Lib.hid e
    clear e hn
    go_enter Try.func65, Try.ntmps65
    go_wp2
    go_ret
    exact ⟨ret_ptr (by rw [E.out]), post_below rfl⟩
  · have e := lc_pos hx
    have hn' : 2 * x < n := by omega
    have h0 : 0 ≤ 2 * x := by omega
    have E := Lib.hid e
    clear e hn
    go_enter Try.func65, Try.ntmps65
    go_wp2
    go_ret
    exact ⟨ret_ptr (by rw [E.out]), post_below rfl⟩

set_option maxHeartbeats 400000 in
theorem at64 (b n c : Nat) (x : Int) (w : World) (hn : lc x < n) (h1 : -1099511627776 < x) (h2 : x < 1099511627776) :
    Calls Try.prog 64 #[.agg #[.slice (some ⟨b, 0, none⟩) n c], .int .i64 x] w fun e w' => e = .returned (.pointer (some ⟨b, lc x, none⟩)) ∧ Below w.heap.size w w' := by
  by_cases hx : x < 0
  · have e := lc_neg hx
    have hn' : -2 * x + 1 < n := by omega
    have E := Lib.hid e
    clear e hn
    go_enter Try.func64, Try.ntmps64
    go_wp2
    go_ret
    exact ⟨ret_ptr (by rw [E.out]), post_below rfl⟩
  · have e := lc_pos hx
    have hn' : 2 * x < n := by omega
    have h0 : 0 ≤ 2 * x := by omega
    have E := Lib.hid e
    clear e hn
    go_enter Try.func64, Try.ntmps64
    go_wp2
    go_ret
    exact ⟨ret_ptr (by rw [E.out]), post_below rfl⟩

set_option maxHeartbeats 400000 in
theorem variable70 (x : Int) (w : World) (h1 : -1099511627776 < x) (h2 : x < 1099511627776) :
    Calls Try.prog 70 #[.int .i64 x] w fun e w' => e = .returned (.int .i64 (vr x)) ∧ w' = w := by
  go_enter Try.func70, Try.ntmps70
  go_wp2
  all_goals go_ret
  · exact ⟨ret_int (by unfold vr; rw [if_pos (by omega)]), rfl⟩
  · exact ⟨ret_int (by unfold vr; split <;> omega), rfl⟩

set_option maxHeartbeats 1000000 in
set_option maxRecDepth 100000 in
theorem hold_no {B : Nat} {w : World} {ρ : Nat → Option Role} {b : Nat} {S : Sol} {V : Vals} (h : Rep B w ρ b S V) (x k : Int) (hx : S.lit (-x) = some true) :
    Calls Try.prog 49 #[.pointer (some ⟨b, 0, none⟩), .int .i64 x, .int .i64 k] w fun e w' => e = .returned (.bool false) ∧ StepW B w ρ b V S w' := by
  obtain ⟨g, cap, hv, hr, hG, hc⟩ := h.litAt hx
  obtain ⟨h1, h2, _, hn⟩ := lit_some hx
  have c3 := h.cell 3 V.i rfl
  rw [hv] at c3
  have hgl := hG.lt
  go_enter Try.func49, Try.ntmps49
  go_wp2_with fail
  refine (at65 _ _ _ _ _ hn h1 h2).mono ?_
  rintro e w1 ⟨rfl, hb1⟩
  have d1 := bcell hb1 hc hgl
  clear c3 hc hv
  go_wp2
  go_ret
  exact ⟨rfl, StepW.quiet h hb1⟩

set_option maxHeartbeats 1000000 in
set_option maxRecDepth 100000 in
theorem hold_yes {B : Nat} {w : World} {ρ : Nat → Option Role} {b : Nat} {S : Sol} {V : Vals} (h : Rep B w ρ b S V) (x k : Int) (hx : S.lit (-x) = some false) (hx2 : S.lit x = some true) :
    Calls Try.prog 49 #[.pointer (some ⟨b, 0, none⟩), .int .i64 x, .int .i64 k] w fun e w' => e = .returned (.bool true) ∧ StepW B w ρ b V S w' := by
  obtain ⟨h1, h2, _, hn⟩ := lit_some hx
  obtain ⟨h1', h2', _, hn'⟩ := lit_some hx2
  obtain ⟨g, cap, hv, hr, hG, hc⟩ := h.litAt hx
  have c3 := h.cell 3 V.i rfl
  rw [hv] at c3
  have hgl := hG.lt
  go_enter Try.func49, Try.ntmps49
  go_wp2_with fail
  refine (at65 _ _ _ _ _ hn h1 h2).mono ?_
  rintro e w1 ⟨rfl, hb1⟩
  have d1 := bcell hb1 hc hgl
  clear c3 hc hv hG
  have r1 := h.quiet hb1
  obtain ⟨g2, cap2, hv2, hr2, hG2, hc2⟩ := r1.litAt hx2
  have c3 := r1.cell 3 V.i rfl
  rw [hv2] at c3
  have hgl2 := hG2.lt
  go_wp2_with fail
  refine (at65 _ _ _ _ _ hn' h1' h2').mono ?_
  rintro e w2 ⟨rfl, hb2⟩
  have d2 := bcell hb2 hc2 hgl2
  clear c3 hc2 hv2 hG2 d1
  go_wp2
  go_ret
  exact ⟨rfl, StepW.quiet h (hb1.trans (hb2.mono hb1.size))⟩

set_option maxHeartbeats 2000000 in
set_option maxRecDepth 100000 in
theorem hold_put {B : Nat} {w : World} {ρ : Nat → Option Role} {b : Nat} {S : Sol} {V : Vals} (h : Rep B w ρ b S V) (x k : Int) (hx : S.lit (-x) = some false) (hx2 : S.lit x = some false)
    (hy : vr x < S.why.length) (ht : S.trail.length < 1099511627776) :
    Calls Try.prog 49 #[.pointer (some ⟨b, 0, none⟩), .int .i64 x, .int .i64 k] w fun e w' => e = .returned (.bool true) ∧ StepW B w ρ b V (S.put x k) w' := by
  obtain ⟨h1, h2, _, hn⟩ := lit_some hx
  obtain ⟨h1', h2', _, hn'⟩ := lit_some hx2
  obtain ⟨g, cap, hv, hr, hG, hc⟩ := h.litAt hx
  have c3 := h.cell 3 V.i rfl
  rw [hv] at c3
  have hgl := hG.lt
  go_enter Try.func49, Try.ntmps49
  go_wp2_with fail
  refine (at65 _ _ _ _ _ hn h1 h2).mono ?_
  rintro e w1 ⟨rfl, hb1⟩
  have d1 := bcell hb1 hc hgl
  clear c3 hc hv hG
  have r1 := h.quiet hb1
  obtain ⟨g2, cap2, hv2, hr2, hG2, hc2⟩ := r1.litAt hx2
  have c3 := r1.cell 3 V.i rfl
  rw [hv2] at c3
  have hgl2 := hG2.lt
  go_wp2_with fail
  refine (at65 _ _ _ _ _ hn' h1' h2').mono ?_
  rintro e w2 ⟨rfl, hb2⟩
  have d2 := bcell hb2 hc2 hgl2
  clear c3 hc2 hv2 hG2 d1
  have r2 := r1.quiet hb2
  obtain ⟨g3, cap3, hv3, hr3, hG3, hc3⟩ := r2.litAt hx2
  have c3 := r2.cell 3 V.i rfl
  rw [hv3] at c3
  have hgl3 := hG3.lt
  go_wp2_with fail
  refine (at65 _ _ _ _ _ hn' h1' h2').mono ?_
  rintro e w3 ⟨rfl, hb3⟩
  have r3 := r2.quiet hb3
  have d3 := bcell hb3 hc3 hgl3
  have f3 : w3.frozen? ⟨g3, lc x, none⟩ = false := (hb3.frozen (p := ⟨g3, lc x, none⟩) hgl3).trans (hG3.free _ _)
  have hG3' : RowG w3 4 1 V.i S.is.length (S.is.map vB) (some g3) := hG3.same fun k e => by cases e; exact hb3.block _ hgl3
  obtain ⟨r4, p4⟩ : Rep B (w3.setCell ⟨g3, lc x, none⟩ (.bool true)) ρ b { S with is := S.is.set (lc x) true } V ∧ Path w3 ρ (w3.setCell ⟨g3, lc x, none⟩ (.bool true)) ρ := r3.setI hr3 hG3' (lc x) true
  have p : Path w ρ w3 ρ := ((Path.below h.dom' hb1).trans (Path.below r1.dom' hb2)).trans (Path.below r2.dom' hb3)
  replace p4 := p.trans p4
  clear c3 hc3 hv3 d2
  go_wp2_with fail
  generalize w3.setCell ⟨g3, lc x, none⟩ (Value.bool true) = w4 at r4 p4 ⊢
  clear d3 f3 hG3' hG3 hr2 hr hb1 hb2 hb3 r1 r2 r3 p hgl hgl2 hgl3 hr3
  refine region_tail 14 (by kernel_rfl) (by kernel_rfl) (fun w5 hw5 => ?_)
  simp only [List.take_succ_cons, List.take_zero, List.drop_succ_cons, List.drop_zero]
  obtain ⟨r5, p5⟩ := r4.below hw5.below
  replace p5 := p4.trans p5
  clear r4 p4 hw5 w4
  have hv0 : 0 ≤ vr x := by unfold vr; split <;> omega
  obtain ⟨gY, cY, hvY, _, hrY, hGY⟩ := r5.hy.at (by show 0 < S.why.length; omega)
  obtain ⟨aM, cM, hvM, _⟩ := r5.hm.val
  have cy := r5.cell 4 V.y rfl
  have cm := r5.cell 6 V.m rfl
  rw [hvY] at cy
  rw [hvM] at cm
  dsimp only at cy cm
  clear hvY hvM
  repeat still_step
  still_call (variable70 x _ h1' h2')
  repeat still_step
  refine wpStill_nil ?_
  have hyl : (vr x).toNat < S.why.length := by omega
  obtain ⟨e1, e2⟩ := vY_at S.why (vr x).toNat S.why[(vr x).toNat] (List.getElem?_eq_getElem hyl)
  have cy1 := hGY.cellAt e1
  have cy2 := hGY.cellAt e2
  have fY := fun o => hGY.free o none
  obtain ⟨r6, p6⟩ : Rep B ((w5.setCell ⟨gY, (vr x).toNat * 2, none⟩ (.int .i64 k)).setCell ⟨gY, (vr x).toNat * 2 + 1, none⟩ (.int .i64 S.marks.length)) ρ b { S with is := S.is.set (lc x) true, why := S.why.set (vr x).toNat (k, (S.marks.length : Int)) } V ∧
    Path w5 ρ ((w5.setCell ⟨gY, (vr x).toNat * 2, none⟩ (.int .i64 k)).setCell ⟨gY, (vr x).toNat * 2 + 1, none⟩ (.int .i64 S.marks.length)) ρ := r5.setY hrY hGY (vr x).toNat k S.marks.length
  replace p6 := p5.trans p6
  have c5 := r6.cell 5 V.t rfl
  have hG6 := r6.ht
  obtain ⟨gt, hGt, hrt⟩ := hG6
  go_wp2_with (at_builtin; refine append_int rfl _ _ rfl _ rfl rfl (by simp) hGt ht ?_; intro c7 w7 g7 hG7 ha7; have q7 := (r6.appCell ha7 hrt (by simp) 5 V.t rfl).1; have q8 := (r6.appCell ha7 hrt (by simp) 5 V.t rfl).2)
  go_ret
  obtain ⟨r8, p8⟩ := r6.putT (l := S.trail ++ [x]) ha7.keep ha7.lt (ha7.role hrt) (by rw [List.length_append]; exact hG7)
  exact ⟨rfl, _, _, r8, p6.trans p8, rfl, fun g hg => by rw [turnRole_ne (ha7.ne_of' hg hrt (by simp) (r6.dom g _ hg).2)]; exact hg⟩

theorem hold_some {S S' : Sol} {x k : Int} {r : Bool} (h : S.hold x k = some (S', r)) :
    S.lit (-x) = some true ∧ S' = S ∧ r = false ∨ S.lit (-x) = some false ∧ S.lit x = some true ∧ S' = S ∧ r = true ∨
    S.lit (-x) = some false ∧ S.lit x = some false ∧ vr x < S.why.length ∧ S.trail.length < 1099511627776 ∧ S' = S.put x k ∧ r = true := by
  unfold Sol.hold at h
  rw [Option.bind_eq_some_iff] at h
  obtain ⟨n, hn, h⟩ := h
  cases n with
  | true => simp at h; exact .inl ⟨hn, h.1.symm, h.2⟩
  | false =>
    simp only [Bool.false_eq_true, if_false] at h
    rw [Option.bind_eq_some_iff] at h
    obtain ⟨p, hp, h⟩ := h
    cases p with
    | true => simp at h; exact .inr (.inl ⟨hn, hp, h.1.symm, h.2⟩)
    | false =>
      simp only [Bool.false_eq_true, if_false] at h
      split at h
      · next hb => simp at h; exact .inr (.inr ⟨hn, hp, hb.1, hb.2, h.1.symm, h.2⟩)
      · cases h

/-- hold: the literal becomes true, is so already, or its opposite is. -/
theorem hold49w {B : Nat} {w : World} {ρ : Nat → Option Role} {b : Nat} {S S' : Sol} {V : Vals} (h : Rep B w ρ b S V) (x k : Int) (r : Bool) (hh : S.hold x k = some (S', r)) :
    Calls Try.prog 49 #[.pointer (some ⟨b, 0, none⟩), .int .i64 x, .int .i64 k] w fun e w' => e = .returned (.bool r) ∧ StepW B w ρ b V S' w' := by
  rcases hold_some hh with ⟨h1, rfl, rfl⟩ | ⟨h1, h2, rfl, rfl⟩ | ⟨h1, h2, h3, h4, rfl, rfl⟩
  · exact hold_no h x k h1
  · exact hold_yes h x k h1 h2
  · exact hold_put h x k h1 h2 h3 h4
theorem hold49 {B : Nat} {w : World} {ρ : Nat → Option Role} {b : Nat} {S S' : Sol} {V : Vals} (h : Rep B w ρ b S V) (x k : Int) (r : Bool) (hh : S.hold x k = some (S', r)) :
    Calls Try.prog 49 #[.pointer (some ⟨b, 0, none⟩), .int .i64 x, .int .i64 k] w fun e w' => e = .returned (.bool r) ∧ StepTo B w ρ b S' w' :=
  (hold49w h x k r hh).mono fun _ _ ⟨he, hs⟩ => ⟨he, hs.to⟩
end Go.Proofs.Ytfmoldfajmfieaa
