/-
  Several numbers more at the end of a row, out of another one.
-/
import Derived.Test.YtfmoldfajmfieaaSpreadF
import Derived.RegionTactic
namespace Go.Proofs.Ytfmoldfajmfieaa
open Go.RowKit
/-- append(v, u...): u shows the numbers r, from an address on. -/
theorem run_append_ints {w : World} {ty : TypeId} {v : Value} {l r : List Int} {g : Option Nat} {a : Option Addr} {c : Nat} (hG : RowG w 3 1 v l.length (l.map vI) g) (hl : l.length + r.length < 1099511627776)
    (hr : r = [] ∨ ∃ b o, a = some ⟨b, o, none⟩ ∧ ∀ j x, r[j]? = some x → w.cell? ⟨b, o + j, none⟩ = some (.int .i64 x)) :
    ∃ v' w', (Builtin.append_ #[35, 35] ty #[v, .slice a r.length c]).run Try.prog w = .ok v' w' ∧
      (r = [] ∧ v' = v ∧ w' = w ∨ ∃ g' c', v' = .slice (some ⟨g', 0, none⟩) (l.length + r.length) c' ∧ RowG w' 3 1 v' (l.length + r.length) ((l ++ r).map vI) (some g') ∧ AppTo w w' g g') := by
  obtain ⟨i, hi, hz, hsz, hby⟩ := info_of Try.inf3
  rcases Nat.eq_zero_or_pos r.length with h0 | h0
  · have hr0 := List.eq_nil_of_length_eq_zero h0
    subst hr0
    obtain ⟨a0, c0, rfl, hc0, _⟩ := hG.val
    refine ⟨_, w, ?_, .inl ⟨rfl, rfl, rfl⟩⟩
    cases a0 <;> cases a <;> simp [Builtin.append_, run_underlying Try.underlying35, sizeOf, typeInfo, hi, Builtin.lenOf, Builtin.firstCells, loadCells, loadCellsFrom, hc0, storeCells]
  · have hne : r ≠ [] := fun e => by rw [e] at h0; simp at h0
    rcases hr with hr | ⟨b, o, rfl, hr⟩
    · exact absurd hr hne
    · obtain ⟨v', w', g', hrun, hG', ha⟩ := run_append_rowG (P := Try.prog) w 35 ty 3 i (.int .i64 0) 1 8 Try.underlying35 hi hz hsz hby rfl v l.length (l.map vI) g hG ⟨b, o, none⟩ r.length c (r.map vI) (by simp) (fun j u hj => by
        rw [List.getElem?_map] at hj
        cases hx : r[j]? with
        | none => rw [hx] at hj; cases hj
        | some x =>
          rw [hx] at hj; cases hj
          have := hr j x hx
          have hadd : (⟨b, o, none⟩ : Addr).add j = ⟨b, o + j, none⟩ := by unfold Addr.add; split <;> simp_all
          rw [hadd]; exact this) (fun u hu => by
          obtain ⟨x, _, rfl⟩ := List.mem_map.1 hu; rfl) h0 (by unfold maxLen; omega) (by omega)
      rw [← List.map_append] at hG'
      have hG2 := hG'
      obtain ⟨c', cur, rfl, hrest⟩ := hG'
      exact ⟨_, w', hrun, .inr ⟨g', c', rfl, hG2, ha⟩⟩

theorem append_zero {ops : Array Oper} {rest : List Oper} {o : Oper} {a : Act} {Q : Exit → Act → World → Prop} {w : World} (hgd : o.guard = none) (s x : Operand)
    (ho : o.op = .call { callee := .builtin .append, args := #[s, x], argTypes := #[35, 35] }) (v : Value) (hs : a.eval s = v) {ax : Option Addr} {n c : Nat} (hx : a.eval x = .slice ax n c) (hn : n = 0)
    {l : List Int} {g : Option Nat} (hG : RowG w 3 1 v l.length (l.map vI) g) (hl : l.length < 1099511627776)
    (h : wpList Try.prog ops Q rest (a.put o.dst v) w) : wpList Try.prog ops Q (o :: rest) a w := by
  subst hn
  obtain ⟨v', w', hrun, hc⟩ := run_append_ints (r := []) (a := ax) (c := c) (ty := o.type) hG (by simpa using hl) (.inl rfl)
  rcases hc with ⟨_, rfl, rfl⟩ | ⟨g', c', _, _, ha⟩
  · exact Lib.wpList_append_run _ hgd s x 35 35 ho _ _ hs hx _ _ hrun h
  · obtain ⟨i, hi, hz, hsz, hby⟩ := info_of Try.inf3
    obtain ⟨a0, c0, rfl, hc0, _⟩ := hG.val
    have hrun2 : (Builtin.append_ #[35, 35] o.type #[.slice a0 l.length c0, .slice ax 0 c]).run Try.prog w = .ok (.slice a0 l.length c0) w := by
      cases a0 <;> cases ax <;> simp [Builtin.append_, run_underlying Try.underlying35, sizeOf, typeInfo, hi, Builtin.lenOf, Builtin.firstCells, loadCells, loadCellsFrom, hc0, storeCells]
    exact Lib.wpList_append_run _ hgd s x 35 35 ho _ _ hs hx _ _ hrun2 h
theorem append_more {ops : Array Oper} {rest : List Oper} {o : Oper} {a : Act} {Q : Exit → Act → World → Prop} {w : World} (hgd : o.guard = none) (s x : Operand)
    (ho : o.op = .call { callee := .builtin .append, args := #[s, x], argTypes := #[35, 35] }) (v : Value) (hs : a.eval s = v) {b p n c : Nat} (hx : a.eval x = .slice (some ⟨b, p, none⟩) n c)
    {l r : List Int} (hn : n = r.length) (h0 : r ≠ []) {g : Option Nat} (hG : RowG w 3 1 v l.length (l.map vI) g) (hl : l.length + r.length < 1099511627776)
    (hr : ∀ j x, r[j]? = some x → w.cell? ⟨b, p + j, none⟩ = some (.int .i64 x))
    (h : ∀ g' c' w', RowG w' 3 1 (.slice (some ⟨g', 0, none⟩) (l.length + r.length) c') (l.length + r.length) ((l ++ r).map vI) (some g') → AppTo w w' g g' → wpList Try.prog ops Q rest (a.put o.dst (.slice (some ⟨g', 0, none⟩) (l.length + r.length) c')) w') :
    wpList Try.prog ops Q (o :: rest) a w := by
  subst hn
  obtain ⟨v', w', hrun, hc⟩ := run_append_ints (r := r) (a := some ⟨b, p, none⟩) (c := c) (ty := o.type) hG hl (.inr ⟨b, p, rfl, hr⟩)
  rcases hc with ⟨h1, _⟩ | ⟨g', c', rfl, hG', ha⟩
  · exact absurd h1 h0
  · exact Lib.wpList_append_run _ hgd s x 35 35 ho _ _ hs hx _ _ hrun (h g' c' w' hG' ha)
/-- The same as a step of a region that draws its order. -/
theorem step_append_zero {ops : Array Oper} {o : Oper} {a : Act} {K : Act → World → Prop} {Q : Exit → Act → World → Prop} {E : Prop} {w : World} (hgd : o.guard = none) (s x : Operand)
    (ho : o.op = .call { callee := .builtin .append, args := #[s, x], argTypes := #[35, 35] }) (v : Value) (hs : a.eval s = v) {ax : Option Addr} {n c : Nat} (hx : a.eval x = .slice ax n c) (hn : n = 0)
    {l : List Int} {g : Option Nat} (hG : RowG w 3 1 v l.length (l.map vI) g)
    (h : K (a.put o.dst v) w) : if Region.wanted o (yielded ops a.tmps) = true then Oper.wp Try.prog o a w K Q else E := by
  have hw : Region.wanted o (yielded ops a.tmps) = true := by simp [Region.wanted, hgd]
  rw [if_pos hw]
  subst hn
  obtain ⟨i, hi, hz, hsz, hby⟩ := info_of Try.inf3
  obtain ⟨a0, c0, rfl, hc0, _⟩ := hG.val
  have hrun2 : (Builtin.append_ #[35, 35] o.type #[.slice a0 l.length c0, .slice ax 0 c]).run Try.prog w = .ok (.slice a0 l.length c0) w := by
    cases a0 <;> cases ax <;> simp [Builtin.append_, run_underlying Try.underlying35, sizeOf, typeInfo, hi, Builtin.lenOf, Builtin.firstCells, loadCells, loadCellsFrom, hc0, storeCells]
  exact Lib.wp_append_run _ s x 35 35 ho _ _ hs hx _ _ hrun2 h
theorem step_append_more {ops : Array Oper} {o : Oper} {a : Act} {K : Act → World → Prop} {Q : Exit → Act → World → Prop} {E : Prop} {w : World} (hgd : o.guard = none) (s x : Operand)
    (ho : o.op = .call { callee := .builtin .append, args := #[s, x], argTypes := #[35, 35] }) (v : Value) (hs : a.eval s = v) {b p n c : Nat} (hx : a.eval x = .slice (some ⟨b, p, none⟩) n c)
    {l r : List Int} (hn : n = r.length) (h0 : r ≠ []) {g : Option Nat} (hG : RowG w 3 1 v l.length (l.map vI) g) (hl : l.length + r.length < 1099511627776)
    (hr : ∀ j x, r[j]? = some x → w.cell? ⟨b, p + j, none⟩ = some (.int .i64 x))
    (h : ∀ g' c' w', RowG w' 3 1 (.slice (some ⟨g', 0, none⟩) (l.length + r.length) c') (l.length + r.length) ((l ++ r).map vI) (some g') → AppTo w w' g g' → K (a.put o.dst (.slice (some ⟨g', 0, none⟩) (l.length + r.length) c')) w') :
    if Region.wanted o (yielded ops a.tmps) = true then Oper.wp Try.prog o a w K Q else E := by
  have hw : Region.wanted o (yielded ops a.tmps) = true := by simp [Region.wanted, hgd]
  rw [if_pos hw]
  subst hn
  obtain ⟨v', w', hrun, hc⟩ := run_append_ints (r := r) (a := some ⟨b, p, none⟩) (c := c) (ty := o.type) hG hl (.inr ⟨b, p, rfl, hr⟩)
  rcases hc with ⟨h1, _⟩ | ⟨g', c', rfl, hG', ha⟩
  · exact absurd h1 h0
  · exact Lib.wp_append_run _ s x 35 35 ho _ _ hs hx _ _ hrun (h g' c' w' hG' ha)
end Go.Proofs.Ytfmoldfajmfieaa
