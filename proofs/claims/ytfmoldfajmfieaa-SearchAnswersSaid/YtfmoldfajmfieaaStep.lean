/-
  Steps of regions that draw their order: a call of a Go function under its contract; one value more at the end of a row.
-/
import Derived.Test.YtfmoldfajmfieaaTurnF
import Derived.RegionTactic
namespace Go.Proofs.Ytfmoldfajmfieaa
open Go.RowKit Go.Maps
theorem step_call {ops : Array Oper} {o : Oper} {a : Act} {K : Act → World → Prop} {Q : Exit → Act → World → Prop} {E : Prop} {w : World} (hgd : o.guard = none) (f : FuncId) (hen : ∀ args w, (callFunc f args).run Try.prog w = .ok (.enter f args) w) (xs : Array Operand) (ts : Array TypeId)
    (ho : o.op = .call { callee := .value (.func f), args := xs, argTypes := ts }) {vs : Array Value} (hvs : xs.map a.eval = vs) {R : Value → World → Prop}
    (hc : Calls Try.prog f vs w fun e w' => ∃ v, e = .returned v ∧ R v w') (h : ∀ v w', R v w' → K (a.put o.dst v) w') : if Region.wanted o (yielded ops a.tmps) = true then Oper.wp Try.prog o a w K Q else E := by
  have hw : Region.wanted o (yielded ops a.tmps) = true := by simp [Region.wanted, hgd]
  rw [if_pos hw]
  subst hvs
  obtain ⟨dst, op, type, pos, after, guard⟩ := o
  dsimp only at ho hgd
  subst ho
  subst hgd
  have e : (execOp a.eval { dst := dst, op := .call { callee := .value (.func f), args := xs, argTypes := ts }, type := type, pos := pos, after := after, guard := none : Oper }).run Try.prog w = .ok (.enter f (xs.map a.eval)) w := by
    go_simp
  unfold Oper.wp
  rw [e, Oper.upon_enter]
  refine hc.mono ?_
  rintro _ w' ⟨v, rfl, hr⟩
  exact h v w' hr
theorem enter61 : ∀ args w, (callFunc 61 args).run Try.prog w = .ok (.enter 61 args) w := fun _ _ => by go_simp
theorem step_append_one {ops : Array Oper} {o : Oper} {a : Act} {K : Act → World → Prop} {Q : Exit → Act → World → Prop} {E : Prop} {w : World} {y : Value} {nb : Nat} (hgd : o.guard = none) (s x : Operand)
    {t e : TypeId} {z : Value} {bytes : Nat} (ht : Try.prog.underlying t = some (.slice e)) (hinf : (Try.prog.info? e).map (fun i => (i.zero, i.size, i.bytes)) = some (some z, 1, bytes)) (hzs : z.cells.size = 1) (hby : bytes ≤ 64) (hy : y.oneCell' = true)
    (ho : o.op = .call { callee := .builtin .append, args := #[s, x], argTypes := #[t, t] }) (v : Value) (hs : a.eval s = v) (hx : a.eval x = .slice (some ⟨nb, 0, none⟩) 1 1) (hnb : nb = w.heap.size)
    {n : Nat} {xs : List Value} {g : Option Nat} (hG : RowG w e 1 v n xs g) (hl : n < 1099511627776)
    (h : ∀ c' w' g', RowG w' e 1 (.slice (some ⟨g', 0, none⟩) (n + 1) c') (n + 1) (xs ++ [y]) (some g') → AppTo w w' g g' → K (a.put o.dst (.slice (some ⟨g', 0, none⟩) (n + 1) c')) w') :
    if Region.wanted o (yielded ops a.tmps) = true then Oper.wp Try.prog o a (w.alloc (.cells #[y] e)) K Q else E := by
  have hw : Region.wanted o (yielded ops a.tmps) = true := by simp [Region.wanted, hgd]
  rw [if_pos hw]
  subst hnb
  obtain ⟨i, hi, hz, hsz, hb2⟩ := info_of hinf
  have hb : Below w.heap.size w (w.alloc (.cells #[y] e)) := (Below.refl _ _).alloc (Nat.le_refl _) _
  have hbb : (n + 1) * bytes ≤ (n + 1) * 64 := Nat.mul_le_mul_left _ hby
  obtain ⟨v', w', g', hrun, hG', ha⟩ := run_append_rowG (P := Try.prog) (w.alloc (.cells #[y] e)) t o.type e i z 1 bytes ht hi hz hsz hb2 hzs v n xs g (hG.same fun k e => by subst e; exact hb.block _ hG.lt)
    ⟨w.heap.size, 0, none⟩ 1 1 [y] rfl (fun j u hj => by
      match j, hj with
      | 0, hj => cases hj; exact cell_of_row _ _ 0 _ e (0, 0) (heap_alloc_new w _)
      | j + 1, hj => simp at hj) (fun u hu => by cases List.mem_singleton.1 hu; exact hy) (by omega) (by unfold maxLen; omega) (by omega)
  obtain ⟨c', cur, rfl, hrest⟩ := hG'
  exact Lib.wp_append_run _ s x t t ho _ _ hs hx _ _ hrun (h c' w' g' ⟨c', cur, rfl, hrest⟩ (ha.behind hb))
end Go.Proofs.Ytfmoldfajmfieaa
