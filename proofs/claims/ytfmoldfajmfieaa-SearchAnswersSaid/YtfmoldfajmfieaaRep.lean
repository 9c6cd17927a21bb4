/-
  How the solver's layout goes on behind one change of memory: a cell of one of its rows, or a row that an append made.
-/
import Derived.Test.YtfmoldfajmfieaaSol
namespace Go.Proofs.Ytfmoldfajmfieaa
open Go.RowKit
set_option linter.unusedVariables false
section
variable {B : Nat} {w : World} {ρ : Nat → Option Role} {b : Nat} {S : Sol} {V : Vals}

theorem map_set' {α : Type} (f : α → Value) (l : List α) (j : Nat) (x : α) : (l.map f).set j (f x) = (l.set j x).map f := by rw [List.map_set]
theorem vY_length (l : List (Int × Int)) : (vY l).length = 2 * l.length := by
  induction l with
  | nil => rfl
  | cons p r ih => simp only [vY, List.flatMap_cons, List.length_append, List.length_cons, List.length_nil] at ih ⊢; omega
theorem vY_at (l : List (Int × Int)) (j : Nat) (p : Int × Int) (h : l[j]? = some p) : (vY l)[j * 2]? = some (vI p.1) ∧ (vY l)[j * 2 + 1]? = some (vI p.2) := by
  induction l generalizing j with
  | nil => simp at h
  | cons q r ih =>
    cases j with
    | zero => simp at h; subst h; exact ⟨rfl, rfl⟩
    | succ j =>
      have := ih j (by simpa using h)
      have e : vY (q :: r) = vI q.1 :: vI q.2 :: vY r := rfl
      rw [e, show (j + 1) * 2 = j * 2 + 1 + 1 from by omega]
      simpa using this
theorem vY_set (l : List (Int × Int)) (j : Nat) (p : Int × Int) : ((vY l).set (j * 2) (vI p.1)).set (j * 2 + 1) (vI p.2) = vY (l.set j p) := by
  induction l generalizing j with
  | nil => simp [vY]
  | cons q r ih =>
    have e : ∀ q r, vY (q :: r) = vI q.1 :: vI q.2 :: vY r := fun _ _ => rfl
    cases j with
    | zero => rfl
    | succ j =>
      rw [List.set_cons_succ, e, e, show (j + 1) * 2 = j * 2 + 1 + 1 from by omega, List.set_cons_succ, List.set_cons_succ, List.set_cons_succ, List.set_cons_succ, ih j]

/-- A row whose block is known. -/
theorem RowR.at {e size n : Nat} {v : Value} {xs : List Value} {r : Role} (h : RowR w ρ e size v n xs r) (hn : 0 < n) :
    ∃ g cap, v = .slice (some ⟨g, 0, none⟩) n cap ∧ n ≤ cap ∧ ρ g = some r ∧ RowG w e size v n xs (some g) := by
  obtain ⟨g, h1, h2⟩ := h
  obtain ⟨k, rfl⟩ := h1.some_of_pos hn
  have h3 := h1
  obtain ⟨cap, cur, hv, h0, hc, _⟩ := h1
  exact ⟨k, cap, hv, hc, h2 k rfl, h3⟩
theorem RowR.val {e size n : Nat} {v : Value} {xs : List Value} {r : Role} (h : RowR w ρ e size v n xs r) : ∃ a cap, v = .slice a n cap ∧ n ≤ cap := by
  obtain ⟨g, h1, _⟩ := h
  obtain ⟨a, cap, hv, hc, _⟩ := h1.val
  exact ⟨a, cap, hv, hc⟩
theorem RowR.of {e size n g : Nat} {v : Value} {xs : List Value} {r : Role} (h : RowG w e size v n xs (some g)) (hr : ρ g = some r) : RowR w ρ e size v n xs r := ⟨some g, h, fun k e => by cases e; exact hr⟩

theorem Rep.setI (h : Rep B w ρ b S V) {g : Nat} (hr : ρ g = some .I) (hG : RowG w 4 1 V.i S.is.length (S.is.map vB) (some g)) (j : Nat) (x : Bool) :
    Rep B (w.setCell ⟨g, j, none⟩ (vB x)) ρ b { S with is := S.is.set j x } V ∧ Path w ρ (w.setCell ⟨g, j, none⟩ (vB x)) ρ := by
  have ho : Only (· = .I) ρ w (w.setCell ⟨g, j, none⟩ (vB x)) := Only.setCell (D := (· = .I)) w hr rfl _
  have hgr : Grow w ρ (w.setCell ⟨g, j, none⟩ (vB x)) ρ := Grow.stay h.dom' ho.size
  have hne : b ≠ g := fun e => by rw [← e, h.rb] at hr; cases hr
  refine ⟨{
    hB := Nat.le_trans h.hB ho.size
    dom := fun k r hk => ⟨(h.dom k r hk).1, hgr.new k r hk⟩
    hb := by rw [Below.heap_setCell _ _ _ _ hne]; exact h.hb
    rb := h.rb
    hc := h.hc.move ho hgr (fun e => by cases e)
    hk := h.hk.move ho hgr (fun _ => fun e => by cases e)
    hw := h.hw.move ho hgr (fun e => by cases e)
    hl := h.hl.move ho hgr (fun _ => fun e => by cases e)
    hi := RowR.of (by have := hG.set j (vB x); rw [map_set' vB] at this; simpa using this) hr
    hy := h.hy.move ho hgr (fun e => by cases e)
    ht := h.ht.move ho hgr (fun e => by cases e)
    hm := h.hm.move ho hgr (fun e => by cases e)
    hu := h.hu.move ho hgr (fun e => by cases e)
    hp := h.hp.move ho hgr (fun e => by cases e)
    hf := h.hf.move ho hgr (fun e => by cases e)
    hg := h.hg.move ho hgr (fun _ => fun e => by cases e) }, Path.of h hgr ho (fun r e n h => by cases e; cases h)⟩

theorem Rep.setU (h : Rep B w ρ b S V) {g : Nat} (hr : ρ g = some .U) (hG : RowG w 3 1 V.u S.bump.length (S.bump.map vI) (some g)) (j : Nat) (x : Int) :
    Rep B (w.setCell ⟨g, j, none⟩ (vI x)) ρ b { S with bump := S.bump.set j x } V ∧ Path w ρ (w.setCell ⟨g, j, none⟩ (vI x)) ρ := by
  have ho : Only (· = .U) ρ w (w.setCell ⟨g, j, none⟩ (vI x)) := Only.setCell (D := (· = .U)) w hr rfl _
  have hgr : Grow w ρ (w.setCell ⟨g, j, none⟩ (vI x)) ρ := Grow.stay h.dom' ho.size
  have hne : b ≠ g := fun e => by rw [← e, h.rb] at hr; cases hr
  refine ⟨{
    hB := Nat.le_trans h.hB ho.size
    dom := fun k r hk => ⟨(h.dom k r hk).1, hgr.new k r hk⟩
    hb := by rw [Below.heap_setCell _ _ _ _ hne]; exact h.hb
    rb := h.rb
    hc := h.hc.move ho hgr (fun e => by cases e)
    hk := h.hk.move ho hgr (fun _ => fun e => by cases e)
    hw := h.hw.move ho hgr (fun e => by cases e)
    hl := h.hl.move ho hgr (fun _ => fun e => by cases e)
    hi := h.hi.move ho hgr (fun e => by cases e)
    hy := h.hy.move ho hgr (fun e => by cases e)
    ht := h.ht.move ho hgr (fun e => by cases e)
    hm := h.hm.move ho hgr (fun e => by cases e)
    hu := RowR.of (by have := hG.set j (vI x); rw [map_set' vI] at this; simpa using this) hr
    hp := h.hp.move ho hgr (fun e => by cases e)
    hf := h.hf.move ho hgr (fun e => by cases e)
    hg := h.hg.move ho hgr (fun _ => fun e => by cases e) }, Path.of h hgr ho (fun r e n h => by cases e; cases h)⟩

theorem Rep.setP (h : Rep B w ρ b S V) {g : Nat} (hr : ρ g = some .P) (hG : RowG w 4 1 V.p S.phase.length (S.phase.map vB) (some g)) (j : Nat) (x : Bool) :
    Rep B (w.setCell ⟨g, j, none⟩ (vB x)) ρ b { S with phase := S.phase.set j x } V ∧ Path w ρ (w.setCell ⟨g, j, none⟩ (vB x)) ρ := by
  have ho : Only (· = .P) ρ w (w.setCell ⟨g, j, none⟩ (vB x)) := Only.setCell (D := (· = .P)) w hr rfl _
  have hgr : Grow w ρ (w.setCell ⟨g, j, none⟩ (vB x)) ρ := Grow.stay h.dom' ho.size
  have hne : b ≠ g := fun e => by rw [← e, h.rb] at hr; cases hr
  refine ⟨{
    hB := Nat.le_trans h.hB ho.size
    dom := fun k r hk => ⟨(h.dom k r hk).1, hgr.new k r hk⟩
    hb := by rw [Below.heap_setCell _ _ _ _ hne]; exact h.hb
    rb := h.rb
    hc := h.hc.move ho hgr (fun e => by cases e)
    hk := h.hk.move ho hgr (fun _ => fun e => by cases e)
    hw := h.hw.move ho hgr (fun e => by cases e)
    hl := h.hl.move ho hgr (fun _ => fun e => by cases e)
    hi := h.hi.move ho hgr (fun e => by cases e)
    hy := h.hy.move ho hgr (fun e => by cases e)
    ht := h.ht.move ho hgr (fun e => by cases e)
    hm := h.hm.move ho hgr (fun e => by cases e)
    hu := h.hu.move ho hgr (fun e => by cases e)
    hp := RowR.of (by have := hG.set j (vB x); rw [map_set' vB] at this; simpa using this) hr
    hf := h.hf.move ho hgr (fun e => by cases e)
    hg := h.hg.move ho hgr (fun _ => fun e => by cases e) }, Path.of h hgr ho (fun r e n h => by cases e; cases h)⟩

theorem Rep.setY (h : Rep B w ρ b S V) {g : Nat} (hr : ρ g = some .Y) (hG : RowG w 99 2 V.y S.why.length (vY S.why) (some g)) (j : Nat) (x y : Int) :
    Rep B ((w.setCell ⟨g, j * 2, none⟩ (vI x)).setCell ⟨g, j * 2 + 1, none⟩ (vI y)) ρ b { S with why := S.why.set j (x, y) } V ∧ Path w ρ ((w.setCell ⟨g, j * 2, none⟩ (vI x)).setCell ⟨g, j * 2 + 1, none⟩ (vI y)) ρ := by
  have ho : Only (· = .Y) ρ w ((w.setCell ⟨g, j * 2, none⟩ (vI x)).setCell ⟨g, j * 2 + 1, none⟩ (vI y)) := (Only.setCell (D := (· = .Y)) w hr rfl _).trans (Only.setCell (D := (· = .Y)) _ hr rfl _) (Grow.stay h.dom' (by simp [World.setCell]))
  have hgr : Grow w ρ ((w.setCell ⟨g, j * 2, none⟩ (vI x)).setCell ⟨g, j * 2 + 1, none⟩ (vI y)) ρ := Grow.stay h.dom' ho.size
  have hne : b ≠ g := fun e => by rw [← e, h.rb] at hr; cases hr
  refine ⟨{
    hB := Nat.le_trans h.hB ho.size
    dom := fun k r hk => ⟨(h.dom k r hk).1, hgr.new k r hk⟩
    hb := by rw [Below.heap_setCell _ _ _ _ hne, Below.heap_setCell _ _ _ _ hne]; exact h.hb
    rb := h.rb
    hc := h.hc.move ho hgr (fun e => by cases e)
    hk := h.hk.move ho hgr (fun _ => fun e => by cases e)
    hw := h.hw.move ho hgr (fun e => by cases e)
    hl := h.hl.move ho hgr (fun _ => fun e => by cases e)
    hi := h.hi.move ho hgr (fun e => by cases e)
    hy := RowR.of (by have := (hG.set (j * 2) (vI x)).set (j * 2 + 1) (vI y); rw [vY_set S.why j (x, y)] at this; simpa using this) hr
    ht := h.ht.move ho hgr (fun e => by cases e)
    hm := h.hm.move ho hgr (fun e => by cases e)
    hu := h.hu.move ho hgr (fun e => by cases e)
    hp := h.hp.move ho hgr (fun e => by cases e)
    hf := h.hf.move ho hgr (fun e => by cases e)
    hg := h.hg.move ho hgr (fun _ => fun e => by cases e) }, Path.of h hgr ho (fun r e n h => by cases e; cases h)⟩

theorem Rep.setDone (h : Rep B w ρ b S V) (x : Int) :
    Rep B (w.setCell ⟨b, 7, none⟩ (vI x)) ρ b { S with done := x } V ∧ Path w ρ (w.setCell ⟨b, 7, none⟩ (vI x)) ρ := by
  have ho : Only (· = .S) ρ w (w.setCell ⟨b, 7, none⟩ (vI x)) := Only.setCell (D := (· = .S)) w h.rb rfl _
  have hgr : Grow w ρ (w.setCell ⟨b, 7, none⟩ (vI x)) ρ := Grow.stay h.dom' ho.size
  refine ⟨{
    hB := Nat.le_trans h.hB ho.size
    dom := fun k r hk => ⟨(h.dom k r hk).1, hgr.new k r hk⟩
    hb := setCell_heap h.hb (vI x)
    rb := h.rb
    hc := h.hc.move ho hgr (fun e => by cases e)
    hk := h.hk.move ho hgr (fun _ => fun e => by cases e)
    hw := h.hw.move ho hgr (fun e => by cases e)
    hl := h.hl.move ho hgr (fun _ => fun e => by cases e)
    hi := h.hi.move ho hgr (fun e => by cases e)
    hy := h.hy.move ho hgr (fun e => by cases e)
    ht := h.ht.move ho hgr (fun e => by cases e)
    hm := h.hm.move ho hgr (fun e => by cases e)
    hu := h.hu.move ho hgr (fun e => by cases e)
    hp := h.hp.move ho hgr (fun e => by cases e)
    hf := h.hf.move ho hgr (fun e => by cases e)
    hg := h.hg.move ho hgr (fun _ => fun e => by cases e) }, Path.of h hgr ho (fun r e n h => by cases e; cases h)⟩

/-- The row of another slice value in the place of 'trail' (behind an append, or a cut). -/
theorem Rep.putT (h : Rep B w ρ b S V) {g' : Nat} {w1 : World} {v' : Value} {l : List Int} (ha : Keep (· = g') w w1) (hlt : g' < w1.heap.size) (hw : ρ g' = some .T ∨ w.heap.size ≤ g') (hG : RowG w1 3 1 v' l.length (l.map vI) (some g')) :
    Rep B (w1.setCell ⟨b, 5, none⟩ v') (turnRole ρ g' .T) b { S with trail := l } { V with t := v' } ∧ Path w ρ (w1.setCell ⟨b, 5, none⟩ v') (turnRole ρ g' .T) := by
  have hne : g' ≠ b := by
    rcases hw with hw | hw
    · exact fun e => by rw [e, h.rb] at hw; cases hw
    · have := heap_lt h.hb; omega
  have ho : Only (fun r => r = .S ∨ r = .T) ρ w (w1.setCell ⟨b, 5, none⟩ v') := by
    refine Keep.trans (b := w1) (ha.mono fun k hk e => ?_) (Keep.setCell w1 _ _ ⟨.S, h.rb, .inl rfl⟩)
    rcases hw with hw | hw
    · exact ⟨_, by rw [e]; exact hw, .inr rfl⟩
    · omega
  have hgr : Grow w ρ (w1.setCell ⟨b, 5, none⟩ v') (turnRole ρ g' .T) := by
    refine ⟨fun k hk => ?_, fun k r hk => ?_⟩
    · by_cases e : k = g'
      · subst e
        rcases hw with hw | hw
        · rw [turnRole_self, hw]
        · omega
      · exact turnRole_ne e
    · have hs : (w1.setCell ⟨b, 5, none⟩ v').heap.size = w1.heap.size := by simp [World.setCell]
      rw [hs]
      by_cases e : k = g'
      · omega
      · rw [turnRole_ne e] at hk
        exact Nat.lt_of_lt_of_le (h.dom k r hk).2 ha.size
  refine ⟨{
    hB := Nat.le_trans h.hB ho.size
    dom := fun k r hk => ⟨?_, hgr.new k r hk⟩
    hb := by
      have h1 : w1.heap[b]? = _ := (ha.block b (heap_lt h.hb) (Ne.symm hne)).trans h.hb
      exact setCell_heap h1 v'
    rb := by rw [turnRole_ne (Ne.symm hne)]; exact h.rb
    hc := h.hc.move ho hgr (fun e => by rcases e with e | e <;> cases e)
    hk := h.hk.move ho hgr (fun _ e => by rcases e with e | e <;> cases e)
    hw := h.hw.move ho hgr (fun e => by rcases e with e | e <;> cases e)
    hl := h.hl.move ho hgr (fun _ e => by rcases e with e | e <;> cases e)
    hi := h.hi.move ho hgr (fun e => by rcases e with e | e <;> cases e)
    hy := h.hy.move ho hgr (fun e => by rcases e with e | e <;> cases e)
    ht := RowR.of (hG.same fun k e => by cases e; exact Below.heap_setCell _ _ _ _ hne) (turnRole_self _ _ _)
    hm := h.hm.move ho hgr (fun e => by rcases e with e | e <;> cases e)
    hu := h.hu.move ho hgr (fun e => by rcases e with e | e <;> cases e)
    hp := h.hp.move ho hgr (fun e => by rcases e with e | e <;> cases e)
    hf := h.hf.move ho hgr (fun e => by rcases e with e | e <;> cases e)
    hg := h.hg.move ho hgr (fun _ e => by rcases e with e | e <;> cases e) }, Path.of h hgr ho (fun r e n h => by rcases e with e | e <;> cases e <;> cases h)⟩
  by_cases e : k = g'
  · rcases hw with hw | hw
    · have := (h.dom g' _ hw).1; omega
    · have := h.hB; omega
  · rw [turnRole_ne e] at hk
    exact (h.dom k r hk).1

/-- The row of another slice value in the place of 'marks' (behind an append, or a cut). -/
theorem Rep.putM (h : Rep B w ρ b S V) {g' : Nat} {w1 : World} {v' : Value} {l : List Int} (ha : Keep (· = g') w w1) (hlt : g' < w1.heap.size) (hw : ρ g' = some .M ∨ w.heap.size ≤ g') (hG : RowG w1 3 1 v' l.length (l.map vI) (some g')) :
    Rep B (w1.setCell ⟨b, 6, none⟩ v') (turnRole ρ g' .M) b { S with marks := l } { V with m := v' } ∧ Path w ρ (w1.setCell ⟨b, 6, none⟩ v') (turnRole ρ g' .M) := by
  have hne : g' ≠ b := by
    rcases hw with hw | hw
    · exact fun e => by rw [e, h.rb] at hw; cases hw
    · have := heap_lt h.hb; omega
  have ho : Only (fun r => r = .S ∨ r = .M) ρ w (w1.setCell ⟨b, 6, none⟩ v') := by
    refine Keep.trans (b := w1) (ha.mono fun k hk e => ?_) (Keep.setCell w1 _ _ ⟨.S, h.rb, .inl rfl⟩)
    rcases hw with hw | hw
    · exact ⟨_, by rw [e]; exact hw, .inr rfl⟩
    · omega
  have hgr : Grow w ρ (w1.setCell ⟨b, 6, none⟩ v') (turnRole ρ g' .M) := by
    refine ⟨fun k hk => ?_, fun k r hk => ?_⟩
    · by_cases e : k = g'
      · subst e
        rcases hw with hw | hw
        · rw [turnRole_self, hw]
        · omega
      · exact turnRole_ne e
    · have hs : (w1.setCell ⟨b, 6, none⟩ v').heap.size = w1.heap.size := by simp [World.setCell]
      rw [hs]
      by_cases e : k = g'
      · omega
      · rw [turnRole_ne e] at hk
        exact Nat.lt_of_lt_of_le (h.dom k r hk).2 ha.size
  refine ⟨{
    hB := Nat.le_trans h.hB ho.size
    dom := fun k r hk => ⟨?_, hgr.new k r hk⟩
    hb := by
      have h1 : w1.heap[b]? = _ := (ha.block b (heap_lt h.hb) (Ne.symm hne)).trans h.hb
      exact setCell_heap h1 v'
    rb := by rw [turnRole_ne (Ne.symm hne)]; exact h.rb
    hc := h.hc.move ho hgr (fun e => by rcases e with e | e <;> cases e)
    hk := h.hk.move ho hgr (fun _ e => by rcases e with e | e <;> cases e)
    hw := h.hw.move ho hgr (fun e => by rcases e with e | e <;> cases e)
    hl := h.hl.move ho hgr (fun _ e => by rcases e with e | e <;> cases e)
    hi := h.hi.move ho hgr (fun e => by rcases e with e | e <;> cases e)
    hy := h.hy.move ho hgr (fun e => by rcases e with e | e <;> cases e)
    ht := h.ht.move ho hgr (fun e => by rcases e with e | e <;> cases e)
    hm := RowR.of (hG.same fun k e => by cases e; exact Below.heap_setCell _ _ _ _ hne) (turnRole_self _ _ _)
    hu := h.hu.move ho hgr (fun e => by rcases e with e | e <;> cases e)
    hp := h.hp.move ho hgr (fun e => by rcases e with e | e <;> cases e)
    hf := h.hf.move ho hgr (fun e => by rcases e with e | e <;> cases e)
    hg := h.hg.move ho hgr (fun _ e => by rcases e with e | e <;> cases e) }, Path.of h hgr ho (fun r e n h => by rcases e with e | e <;> cases e <;> cases h)⟩
  by_cases e : k = g'
  · rcases hw with hw | hw
    · have := (h.dom g' _ hw).1; omega
    · have := h.hB; omega
  · rw [turnRole_ne e] at hk
    exact (h.dom k r hk).1

/-- Another slice value in the place of 'trail', over memory that is as it was (a cut). -/
theorem Rep.cutT (h : Rep B w ρ b S V) {v' : Value} {l : List Int} (hG : RowR w ρ 3 1 v' l.length (l.map vI) .T) :
    Rep B (w.setCell ⟨b, 5, none⟩ v') ρ b { S with trail := l } { V with t := v' } ∧ Path w ρ (w.setCell ⟨b, 5, none⟩ v') ρ := by
  have ho : Only (· = .S) ρ w (w.setCell ⟨b, 5, none⟩ v') := Only.setCell (D := (· = .S)) w h.rb rfl _
  have hgr : Grow w ρ (w.setCell ⟨b, 5, none⟩ v') ρ := Grow.stay h.dom' ho.size
  refine ⟨{
    hB := Nat.le_trans h.hB ho.size
    dom := fun k r hk => ⟨(h.dom k r hk).1, hgr.new k r hk⟩
    hb := setCell_heap h.hb v'
    rb := h.rb
    hc := h.hc.move ho hgr (fun e => by cases e)
    hk := h.hk.move ho hgr (fun _ => fun e => by cases e)
    hw := h.hw.move ho hgr (fun e => by cases e)
    hl := h.hl.move ho hgr (fun _ => fun e => by cases e)
    hi := h.hi.move ho hgr (fun e => by cases e)
    hy := h.hy.move ho hgr (fun e => by cases e)
    ht := hG.move ho hgr (fun e => by cases e)
    hm := h.hm.move ho hgr (fun e => by cases e)
    hu := h.hu.move ho hgr (fun e => by cases e)
    hp := h.hp.move ho hgr (fun e => by cases e)
    hf := h.hf.move ho hgr (fun e => by cases e)
    hg := h.hg.move ho hgr (fun _ => fun e => by cases e) }, Path.of h hgr ho (fun r e n h => by cases e; cases h)⟩

/-- Another slice value in the place of 'marks', over memory that is as it was (a cut). -/
theorem Rep.cutM (h : Rep B w ρ b S V) {v' : Value} {l : List Int} (hG : RowR w ρ 3 1 v' l.length (l.map vI) .M) :
    Rep B (w.setCell ⟨b, 6, none⟩ v') ρ b { S with marks := l } { V with m := v' } ∧ Path w ρ (w.setCell ⟨b, 6, none⟩ v') ρ := by
  have ho : Only (· = .S) ρ w (w.setCell ⟨b, 6, none⟩ v') := Only.setCell (D := (· = .S)) w h.rb rfl _
  have hgr : Grow w ρ (w.setCell ⟨b, 6, none⟩ v') ρ := Grow.stay h.dom' ho.size
  refine ⟨{
    hB := Nat.le_trans h.hB ho.size
    dom := fun k r hk => ⟨(h.dom k r hk).1, hgr.new k r hk⟩
    hb := setCell_heap h.hb v'
    rb := h.rb
    hc := h.hc.move ho hgr (fun e => by cases e)
    hk := h.hk.move ho hgr (fun _ => fun e => by cases e)
    hw := h.hw.move ho hgr (fun e => by cases e)
    hl := h.hl.move ho hgr (fun _ => fun e => by cases e)
    hi := h.hi.move ho hgr (fun e => by cases e)
    hy := h.hy.move ho hgr (fun e => by cases e)
    ht := h.ht.move ho hgr (fun e => by cases e)
    hm := hG.move ho hgr (fun e => by cases e)
    hu := h.hu.move ho hgr (fun e => by cases e)
    hp := h.hp.move ho hgr (fun e => by cases e)
    hf := h.hf.move ho hgr (fun e => by cases e)
    hg := h.hg.move ho hgr (fun _ => fun e => by cases e) }, Path.of h hgr ho (fun r e n h => by cases e; cases h)⟩

theorem RowR.atOf {e size n g c : Nat} {v : Value} {xs : List Value} {r : Role} (h : RowR w ρ e size v n xs r) (hv : v = .slice (some ⟨g, 0, none⟩) n c) (hn : 0 < n) : RowG w e size v n xs (some g) ∧ ρ g = some r := by
  obtain ⟨g', c', hv', _, hr, hG⟩ := h.at hn
  rw [hv] at hv'
  injection hv' with e1 _ _
  injection e1 with e1
  injection e1 with e1 _ _
  subst e1
  exact ⟨hG, hr⟩
/-- A cut at the front part. -/
theorem RowR.cut {e n m : Nat} {v : Value} {xs : List Value} {r : Role} (h : RowR w ρ e 1 v n xs r) (hm : m ≤ n) : ∃ a cap, v = .slice a n cap ∧ n ≤ cap ∧ RowR w ρ e 1 (.slice a m cap) m (xs.take m) r := by
  obtain ⟨g, h1, h2⟩ := h
  cases g with
  | none =>
    obtain ⟨⟨a, rfl⟩, rfl, rfl⟩ := h1
    exact ⟨a, 0, rfl, Nat.le_refl _, none, ⟨⟨a, by rw [Nat.le_zero.1 hm]⟩, Nat.le_zero.1 hm, by simp⟩, fun k e => by cases e⟩
  | some g =>
    obtain ⟨cap, hv, hc, h3⟩ := h1.cut hm
    rw [Nat.mul_one] at h3
    exact ⟨_, cap, hv, hc, some g, h3, fun k e => by cases e; exact h2 g rfl⟩

theorem RowsR.push {vs : List Value} {ls : List (List Int)} {r : Nat → Role} (h : RowsR w ρ vs ls r) {v : Value} {l : List Int} (hl : RowR w ρ 3 1 v l.length (l.map vI) (r ls.length)) : RowsR w ρ (vs ++ [v]) (ls ++ [l]) r := by
  refine ⟨by simp [h.1], fun k u m hu hm => ?_⟩
  by_cases hk : k < ls.length
  · rw [List.getElem?_append_left hk] at hm
    rw [List.getElem?_append_left (by rw [h.1]; exact hk)] at hu
    exact h.2 k u m hu hm
  · rw [List.getElem?_append_right (by omega)] at hm
    rw [List.getElem?_append_right (by rw [h.1]; omega), h.1] at hu
    have hz : k - ls.length = 0 := by
      rcases Nat.eq_zero_or_pos (k - ls.length) with e | e
      · exact e
      · rw [List.getElem?_eq_none (by simp; omega)] at hm; cases hm
    rw [hz] at hm hu
    cases hm
    cases hu
    have : k = ls.length := by omega
    subst this
    exact hl
theorem RowsR.set {vs : List Value} {ls : List (List Int)} {r : Nat → Role} (h : RowsR w ρ vs ls r) {j : Nat} {v : Value} {l : List Int} (hl : RowR w ρ 3 1 v l.length (l.map vI) (r j)) : RowsR w ρ (vs.set j v) (ls.set j l) r := by
  refine ⟨by simp [h.1], fun k u m hu hm => ?_⟩
  rw [List.getElem?_set] at hu hm
  by_cases hk : j = k
  · subst hk
    rw [if_pos rfl] at hu hm
    split at hu
    · split at hm
      · cases hu; cases hm; exact hl
      · cases hm
    · cases hu
  · rw [if_neg hk] at hu hm
    exact h.2 k u m hu hm

/-- One row more in 'cls': its value at the end of the headers' row, behind an append. -/
theorem Rep.pushC (h : Rep B w ρ b S V) {g' gc : Nat} {w1 : World} {v' vc : Value} {c : List Int} (hc : RowG w 3 1 vc c.length (c.map vI) (some gc)) (hrc : ρ gc = some (.K S.cls.length))
    (ha : Keep (· = g') w w1) (hlt : g' < w1.heap.size) (hw : ρ g' = some .C ∨ w.heap.size ≤ g') (hG : RowG w1 35 1 v' (S.cls ++ [c]).length (V.cs ++ [vc]) (some g')) :
    Rep B (w1.setCell ⟨b, 1, none⟩ v') (turnRole ρ g' .C) b { S with cls := S.cls ++ [c] } { V with c := v', cs := V.cs ++ [vc] } ∧ Path w ρ (w1.setCell ⟨b, 1, none⟩ v') (turnRole ρ g' .C) := by
  have hne : g' ≠ b := by
    rcases hw with hw | hw
    · exact fun e => by rw [e, h.rb] at hw; cases hw
    · have := heap_lt h.hb; omega
  have ho : Only (fun r => r = .S ∨ r = .C) ρ w (w1.setCell ⟨b, 1, none⟩ v') := by
    refine Keep.trans (b := w1) (ha.mono fun k hk e => ?_) (Keep.setCell w1 _ _ ⟨.S, h.rb, .inl rfl⟩)
    rcases hw with hw | hw
    · exact ⟨_, by rw [e]; exact hw, .inr rfl⟩
    · omega
  have hgr : Grow w ρ (w1.setCell ⟨b, 1, none⟩ v') (turnRole ρ g' .C) := by
    refine ⟨fun k hk => ?_, fun k r hk => ?_⟩
    · by_cases e : k = g'
      · subst e
        rcases hw with hw | hw
        · rw [turnRole_self, hw]
        · omega
      · exact turnRole_ne e
    · have hs : (w1.setCell ⟨b, 1, none⟩ v').heap.size = w1.heap.size := by simp [World.setCell]
      rw [hs]
      by_cases e : k = g'
      · omega
      · rw [turnRole_ne e] at hk
        exact Nat.lt_of_lt_of_le (h.dom k r hk).2 ha.size
  refine ⟨{
    hB := Nat.le_trans h.hB ho.size
    dom := fun k r hk => ⟨?_, hgr.new k r hk⟩
    hb := by
      have h1 : w1.heap[b]? = _ := (ha.block b (heap_lt h.hb) (Ne.symm hne)).trans h.hb
      exact setCell_heap h1 v'
    rb := by rw [turnRole_ne (Ne.symm hne)]; exact h.rb
    hc := RowR.of (hG.same fun k e => by cases e; exact Below.heap_setCell _ _ _ _ hne) (turnRole_self _ _ _)
    hk := RowsR.push (h.hk.move ho hgr (fun _ e => by rcases e with e | e <;> cases e)) (RowR.move (RowR.of hc hrc) ho hgr (fun e => by rcases e with e | e <;> cases e))
    hw := h.hw.move ho hgr (fun e => by rcases e with e | e <;> cases e)
    hl := h.hl.move ho hgr (fun _ e => by rcases e with e | e <;> cases e)
    hi := h.hi.move ho hgr (fun e => by rcases e with e | e <;> cases e)
    hy := h.hy.move ho hgr (fun e => by rcases e with e | e <;> cases e)
    ht := h.ht.move ho hgr (fun e => by rcases e with e | e <;> cases e)
    hm := h.hm.move ho hgr (fun e => by rcases e with e | e <;> cases e)
    hu := h.hu.move ho hgr (fun e => by rcases e with e | e <;> cases e)
    hp := h.hp.move ho hgr (fun e => by rcases e with e | e <;> cases e)
    hf := h.hf.move ho hgr (fun e => by rcases e with e | e <;> cases e)
    hg := h.hg.move ho hgr (fun _ e => by rcases e with e | e <;> cases e) }, Path.of h hgr ho (fun r e n h => by rcases e with e | e <;> cases e <;> cases h)⟩
  by_cases e : k = g'
  · rcases hw with hw | hw
    · have := (h.dom g' _ hw).1; omega
    · have := h.hB; omega
  · rw [turnRole_ne e] at hk
    exact (h.dom k r hk).1

/-- One row more in 'proof': its value at the end of the headers' row, behind an append. -/
theorem Rep.pushF (h : Rep B w ρ b S V) {g' gc : Nat} {w1 : World} {v' vc : Value} {c : List Int} (hc : RowG w 3 1 vc c.length (c.map vI) (some gc)) (hrc : ρ gc = some (.G S.proof.length))
    (ha : Keep (· = g') w w1) (hlt : g' < w1.heap.size) (hw : ρ g' = some .F ∨ w.heap.size ≤ g') (hG : RowG w1 35 1 v' (S.proof ++ [c]).length (V.fs ++ [vc]) (some g')) :
    Rep B (w1.setCell ⟨b, 10, none⟩ v') (turnRole ρ g' .F) b { S with proof := S.proof ++ [c] } { V with f := v', fs := V.fs ++ [vc] } ∧ Path w ρ (w1.setCell ⟨b, 10, none⟩ v') (turnRole ρ g' .F) := by
  have hne : g' ≠ b := by
    rcases hw with hw | hw
    · exact fun e => by rw [e, h.rb] at hw; cases hw
    · have := heap_lt h.hb; omega
  have ho : Only (fun r => r = .S ∨ r = .F) ρ w (w1.setCell ⟨b, 10, none⟩ v') := by
    refine Keep.trans (b := w1) (ha.mono fun k hk e => ?_) (Keep.setCell w1 _ _ ⟨.S, h.rb, .inl rfl⟩)
    rcases hw with hw | hw
    · exact ⟨_, by rw [e]; exact hw, .inr rfl⟩
    · omega
  have hgr : Grow w ρ (w1.setCell ⟨b, 10, none⟩ v') (turnRole ρ g' .F) := by
    refine ⟨fun k hk => ?_, fun k r hk => ?_⟩
    · by_cases e : k = g'
      · subst e
        rcases hw with hw | hw
        · rw [turnRole_self, hw]
        · omega
      · exact turnRole_ne e
    · have hs : (w1.setCell ⟨b, 10, none⟩ v').heap.size = w1.heap.size := by simp [World.setCell]
      rw [hs]
      by_cases e : k = g'
      · omega
      · rw [turnRole_ne e] at hk
        exact Nat.lt_of_lt_of_le (h.dom k r hk).2 ha.size
  refine ⟨{
    hB := Nat.le_trans h.hB ho.size
    dom := fun k r hk => ⟨?_, hgr.new k r hk⟩
    hb := by
      have h1 : w1.heap[b]? = _ := (ha.block b (heap_lt h.hb) (Ne.symm hne)).trans h.hb
      exact setCell_heap h1 v'
    rb := by rw [turnRole_ne (Ne.symm hne)]; exact h.rb
    hc := h.hc.move ho hgr (fun e => by rcases e with e | e <;> cases e)
    hk := h.hk.move ho hgr (fun _ e => by rcases e with e | e <;> cases e)
    hw := h.hw.move ho hgr (fun e => by rcases e with e | e <;> cases e)
    hl := h.hl.move ho hgr (fun _ e => by rcases e with e | e <;> cases e)
    hi := h.hi.move ho hgr (fun e => by rcases e with e | e <;> cases e)
    hy := h.hy.move ho hgr (fun e => by rcases e with e | e <;> cases e)
    ht := h.ht.move ho hgr (fun e => by rcases e with e | e <;> cases e)
    hm := h.hm.move ho hgr (fun e => by rcases e with e | e <;> cases e)
    hu := h.hu.move ho hgr (fun e => by rcases e with e | e <;> cases e)
    hp := h.hp.move ho hgr (fun e => by rcases e with e | e <;> cases e)
    hf := RowR.of (hG.same fun k e => by cases e; exact Below.heap_setCell _ _ _ _ hne) (turnRole_self _ _ _)
    hg := RowsR.push (h.hg.move ho hgr (fun _ e => by rcases e with e | e <;> cases e)) (RowR.move (RowR.of hc hrc) ho hgr (fun e => by rcases e with e | e <;> cases e)) }, Path.of h hgr ho (fun r e n h => by rcases e with e | e <;> cases e <;> cases h)⟩
  by_cases e : k = g'
  · rcases hw with hw | hw
    · have := (h.dom g' _ hw).1; omega
    · have := h.hB; omega
  · rw [turnRole_ne e] at hk
    exact (h.dom k r hk).1

/-- The row of another slice value in the place of a watch row (behind an append). -/
theorem Rep.setL (h : Rep B w ρ b S V) {gW g' : Nat} {w1 : World} {v' : Value} {l : List Int} {j : Nat} (hrW : ρ gW = some .W) (hGW : RowG w 35 1 V.w S.watch.length V.ws (some gW))
    (ha : Keep (· = g') w w1) (hlt : g' < w1.heap.size) (hw : ρ g' = some (.L j) ∨ w.heap.size ≤ g') (hG : RowG w1 3 1 v' l.length (l.map vI) (some g')) :
    Rep B (w1.setCell ⟨gW, j, none⟩ v') (turnRole ρ g' (.L j)) b { S with watch := S.watch.set j l } { V with ws := V.ws.set j v' } ∧ Path w ρ (w1.setCell ⟨gW, j, none⟩ v') (turnRole ρ g' (.L j)) := by
  have hneW : gW ≠ g' := by
    rcases hw with hw | hw
    · exact fun e => by rw [← e, hrW] at hw; cases hw
    · have := hGW.lt; omega
  have hneb : b ≠ g' := by
    rcases hw with hw | hw
    · exact fun e => by rw [← e, h.rb] at hw; cases hw
    · have := heap_lt h.hb; omega
  have hnebW : b ≠ gW := fun e => by rw [← e, h.rb] at hrW; cases hrW
  have ho : Only (fun r => r = .W ∨ r = .L j) ρ w (w1.setCell ⟨gW, j, none⟩ v') := by
    refine Keep.trans (b := w1) (ha.mono fun k hk e => ?_) (Keep.setCell w1 _ _ ⟨.W, hrW, .inl rfl⟩)
    rcases hw with hw | hw
    · exact ⟨_, by rw [e]; exact hw, .inr rfl⟩
    · omega
  have hs : (w1.setCell ⟨gW, j, none⟩ v').heap.size = w1.heap.size := by simp [World.setCell]
  have hgr : Grow w ρ (w1.setCell ⟨gW, j, none⟩ v') (turnRole ρ g' (.L j)) := by
    refine ⟨fun k hk => ?_, fun k r hk => ?_⟩
    · by_cases e : k = g'
      · subst e
        rcases hw with hw | hw
        · rw [turnRole_self, hw]
        · omega
      · exact turnRole_ne e
    · rw [hs]
      by_cases e : k = g'
      · omega
      · rw [turnRole_ne e] at hk
        exact Nat.lt_of_lt_of_le (h.dom k r hk).2 ha.size
  have hGW1 : RowG w1 35 1 V.w S.watch.length V.ws (some gW) := hGW.same fun k e => by cases e; exact ha.block _ hGW.lt hneW
  have hl : ∀ k v m, V.ws[k]? = some v → S.watch[k]? = some m → k ≠ j → RowR (w1.setCell ⟨gW, j, none⟩ v') (turnRole ρ g' (.L j)) 3 1 v m.length (m.map vI) (.L k) := fun k v m hv hm hk =>
    (h.hl.2 k v m hv hm).move ho hgr (fun e => by rcases e with e | e <;> cases e; exact hk rfl)
  have hlj : RowR (w1.setCell ⟨gW, j, none⟩ v') (turnRole ρ g' (.L j)) 3 1 v' l.length (l.map vI) (.L j) := RowR.of (hG.same fun k e => by cases e; exact Below.heap_setCell _ _ _ _ (Ne.symm hneW)) (turnRole_self _ _ _)
  refine ⟨{
    hB := Nat.le_trans h.hB ho.size
    dom := fun k r hk => ⟨?_, hgr.new k r hk⟩
    hb := by
      rw [Below.heap_setCell _ _ _ _ hnebW, ha.block b (heap_lt h.hb) hneb]; exact h.hb
    rb := by rw [turnRole_ne hneb]; exact h.rb
    hc := h.hc.move ho hgr (fun e => by rcases e with e | e <;> cases e)
    hk := h.hk.move ho hgr (fun _ e => by rcases e with e | e <;> cases e)
    hw := by
      have := RowR.of (ρ := turnRole ρ g' (.L j)) (r := .W) (hGW1.set j v') (by rw [turnRole_ne hneW]; exact hrW)
      simpa using this
    hl := ?_
    hi := h.hi.move ho hgr (fun e => by rcases e with e | e <;> cases e)
    hy := h.hy.move ho hgr (fun e => by rcases e with e | e <;> cases e)
    ht := h.ht.move ho hgr (fun e => by rcases e with e | e <;> cases e)
    hm := h.hm.move ho hgr (fun e => by rcases e with e | e <;> cases e)
    hu := h.hu.move ho hgr (fun e => by rcases e with e | e <;> cases e)
    hp := h.hp.move ho hgr (fun e => by rcases e with e | e <;> cases e)
    hf := h.hf.move ho hgr (fun e => by rcases e with e | e <;> cases e)
    hg := h.hg.move ho hgr (fun _ e => by rcases e with e | e <;> cases e) }, Path.of h hgr ho (fun r e n h => by rcases e with e | e <;> cases e <;> cases h)⟩
  · by_cases e : k = g'
    · rcases hw with hw | hw
      · have := (h.dom g' _ hw).1; omega
      · have := h.hB; omega
    · rw [turnRole_ne e] at hk
      exact (h.dom k r hk).1
  · refine ⟨by simp [h.hl.1], fun k u m hu hm => ?_⟩
    rw [List.getElem?_set] at hu hm
    by_cases hk : j = k
    · subst hk
      rw [if_pos rfl] at hu hm
      split at hu
      · split at hm
        · cases hu; cases hm; exact hlj
        · cases hm
      · cases hu
    · rw [if_neg hk] at hu hm
      exact hl k u m hu hm (Ne.symm hk)

/-- A block of which the solver has let go. -/
def dropRole (ρ : Nat → Option Role) (gL : Option Nat) : Nat → Option Role := fun k => if gL = some k then some (.X 0) else ρ k
theorem dropRole_ne {ρ : Nat → Option Role} {gL : Option Nat} {k : Nat} (h : gL ≠ some k) : dropRole ρ gL k = ρ k := by simp [dropRole, h]
theorem dropRole_self {ρ : Nat → Option Role} {k : Nat} : dropRole ρ (some k) k = some (.X 0) := by simp [dropRole]
theorem RowR.drop {e size n : Nat} {v : Value} {xs : List Value} {r q : Role} {gL : Option Nat} (h : RowR w ρ e size v n xs r) (hL : ∀ k, gL = some k → ρ k = some q) (hq : q ≠ r) : RowR w (dropRole ρ gL) e size v n xs r := by
  obtain ⟨g, h1, h2⟩ := h
  exact ⟨g, h1, fun k hk => by rw [dropRole_ne (show gL ≠ some k from fun e => by have := hL k e; rw [h2 k hk] at this; cases this; exact hq rfl)]; exact h2 k hk⟩
theorem RowsR.drop {vs : List Value} {ls : List (List Int)} {r : Nat → Role} {q : Role} {gL : Option Nat} (h : RowsR w ρ vs ls r) (hL : ∀ k, gL = some k → ρ k = some q) (hq : ∀ k, q ≠ r k) : RowsR w (dropRole ρ gL) vs ls r :=
  ⟨h.1, fun k v l hv hl => (h.2 k v l hv hl).drop hL (hq k)⟩
/-- A watch row becomes empty; its old memory is left to the caller. -/
theorem Rep.dropL (h : Rep B w ρ b S V) {gW : Nat} {j : Nat} {a : Option Addr} {gL : Option Nat} (hrW : ρ gW = some .W) (hGW : RowG w 35 1 V.w S.watch.length V.ws (some gW)) (hL : ∀ k, gL = some k → ρ k = some (.L j)) :
    Rep B (w.setCell ⟨gW, j, none⟩ (.slice a 0 0)) (dropRole ρ gL) b { S with watch := S.watch.set j [] } { V with ws := V.ws.set j (.slice a 0 0) } ∧ Path w ρ (w.setCell ⟨gW, j, none⟩ (.slice a 0 0)) (dropRole ρ gL) := by
  have ho : Only (· = .W) ρ w (w.setCell ⟨gW, j, none⟩ (.slice a 0 0)) := Only.setCell (D := (· = .W)) w hrW rfl _
  have hgr : Grow w ρ (w.setCell ⟨gW, j, none⟩ (.slice a 0 0)) ρ := Grow.stay h.dom' ho.size
  have hne : b ≠ gW := fun e => by rw [← e, h.rb] at hrW; cases hrW
  have hLlt : ∀ k, gL = some k → B ≤ k ∧ k < w.heap.size := fun k hk => h.dom k _ (hL k hk)
  refine ⟨{
    hB := Nat.le_trans h.hB ho.size
    dom := fun k r hk => (by
      by_cases e : gL = some k
      · exact ⟨(hLlt k e).1, Nat.lt_of_lt_of_le (hLlt k e).2 ho.size⟩
      · rw [dropRole_ne e] at hk
        exact ⟨(h.dom k r hk).1, hgr.new k r hk⟩)
    hb := by rw [Below.heap_setCell _ _ _ _ hne]; exact h.hb
    rb := by rw [dropRole_ne (show gL ≠ some b from fun e => by have := hL b e; rw [h.rb] at this; cases this)]; exact h.rb
    hc := (h.hc.move ho hgr (fun e => by cases e)).drop hL (fun e => by cases e)
    hk := (h.hk.move ho hgr (fun _ e => by cases e)).drop hL (fun _ e => by cases e)
    hw := by
      have := (RowR.of (ρ := ρ) (r := .W) (hGW.set j (.slice a 0 0)) hrW).drop hL (fun e => by cases e)
      simpa using this
    hl := ?_
    hi := (h.hi.move ho hgr (fun e => by cases e)).drop hL (fun e => by cases e)
    hy := (h.hy.move ho hgr (fun e => by cases e)).drop hL (fun e => by cases e)
    ht := (h.ht.move ho hgr (fun e => by cases e)).drop hL (fun e => by cases e)
    hm := (h.hm.move ho hgr (fun e => by cases e)).drop hL (fun e => by cases e)
    hu := (h.hu.move ho hgr (fun e => by cases e)).drop hL (fun e => by cases e)
    hp := (h.hp.move ho hgr (fun e => by cases e)).drop hL (fun e => by cases e)
    hf := (h.hf.move ho hgr (fun e => by cases e)).drop hL (fun e => by cases e)
    hg := (h.hg.move ho hgr (fun _ e => by cases e)).drop hL (fun _ e => by cases e) }, ⟨fun k n hk => ?_, fun k r hk hr hro => ?_, ho.mono fun r e n h => by cases e; cases h⟩⟩
  · refine ⟨by simp [h.hl.1], fun k u m hu hm => ?_⟩
    rw [List.getElem?_set] at hu hm
    by_cases hk : j = k
    · subst hk
      rw [if_pos rfl] at hu hm
      split at hu
      · split at hm
        · cases hu; cases hm; exact ⟨none, ⟨⟨a, rfl⟩, rfl, rfl⟩, fun k e => by cases e⟩
        · cases hm
      · cases hu
    · rw [if_neg hk] at hu hm
      exact ((h.hl.2 k u m hu hm).move ho hgr (fun e => by cases e)).drop hL (fun e => by cases e; exact hk rfl)
  · rw [dropRole_ne (show gL ≠ some k from fun e => by have := hL k e; rw [hk] at this; cases this)]; exact hk
  · by_cases e : gL = some k
    · exact ⟨_, hL k e, fun n h => by cases h⟩
    · rw [dropRole_ne e] at hr
      exact ⟨r, hr, hro⟩

/-- A literal of a clause in memory. -/
theorem Rep.setK (h : Rep B w ρ b S V) {g j : Nat} {v : Value} {c : List Int} (hr : ρ g = some (.K j)) (hv : V.cs[j]? = some v) (hc : S.cls[j]? = some c) (hG : RowG w 3 1 v c.length (c.map vI) (some g)) (i : Nat) (x : Int) :
    Rep B (w.setCell ⟨g, i, none⟩ (vI x)) ρ b { S with cls := S.cls.set j (c.set i x) } V ∧ Path w ρ (w.setCell ⟨g, i, none⟩ (vI x)) ρ := by
  have ho : Only (· = .K j) ρ w (w.setCell ⟨g, i, none⟩ (vI x)) := Only.setCell (D := (· = .K j)) w hr rfl _
  have hgr : Grow w ρ (w.setCell ⟨g, i, none⟩ (vI x)) ρ := Grow.stay h.dom' ho.size
  have hne : b ≠ g := fun e => by rw [← e, h.rb] at hr; cases hr
  refine ⟨{
    hB := Nat.le_trans h.hB ho.size
    dom := fun k r hk => ⟨(h.dom k r hk).1, hgr.new k r hk⟩
    hb := by rw [Below.heap_setCell _ _ _ _ hne]; exact h.hb
    rb := h.rb
    hc := by
      have := h.hc.move ho hgr (fun e => by cases e)
      simpa using this
    hk := ?_
    hw := h.hw.move ho hgr (fun e => by cases e)
    hl := h.hl.move ho hgr (fun _ => fun e => by cases e)
    hi := h.hi.move ho hgr (fun e => by cases e)
    hy := h.hy.move ho hgr (fun e => by cases e)
    ht := h.ht.move ho hgr (fun e => by cases e)
    hm := h.hm.move ho hgr (fun e => by cases e)
    hu := h.hu.move ho hgr (fun e => by cases e)
    hp := h.hp.move ho hgr (fun e => by cases e)
    hf := h.hf.move ho hgr (fun e => by cases e)
    hg := h.hg.move ho hgr (fun _ => fun e => by cases e) }, Path.of h hgr ho (fun r e n h => by cases e; cases h)⟩
  refine ⟨by simp [h.hk.1], fun k u m hu hm => ?_⟩
  rw [List.getElem?_set] at hm
  by_cases hk : j = k
  · subst hk
    rw [if_pos rfl] at hm
    split at hm
    · cases hm
      rw [hv] at hu
      cases hu
      have := hG.set i (vI x)
      rw [map_set' vI] at this
      exact RowR.of (by simpa using this) hr
    · cases hm
  · rw [if_neg hk] at hm
    exact (h.hk.2 k u m hu hm).move ho hgr (fun e => by cases e; exact hk rfl)

end
end Go.Proofs.Ytfmoldfajmfieaa
