/-
  Rows of clauses in new memory: what append makes of clauses that lie in old memory.
-/
import Derived.Test.YtfmoldfajmfieaaAwake
import Derived.Test.YtfmoldfajmfieaaRefs
namespace Go.Proofs.Ytfmoldfajmfieaa
open Go.RowKit
/-- A row of clauses in new memory; the clauses themselves are those of an older world. -/
structure ClsG (w0 w : World) (v : Value) (l : List (List Int)) (g : Option Nat) : Prop where
  row : ∃ fs, RowG w 35 1 v l.length fs g ∧ ∀ (k : Nat) u x, fs[k]? = some u → l[k]? = some x → ∃ a c, u = .slice a x.length c ∧ IntsAt w0 a x ∧ x.length ≤ 9223372036854775807
  new : ∀ k, g = some k → w0.heap.size ≤ k
  below : Below w0.heap.size w0 w
theorem ClsG.cls {w0 w : World} {v : Value} {l : List (List Int)} {g : Option Nat} (h : ClsG w0 w v l g) : ∃ a c, v = .slice a l.length c ∧ ClsAt w a l := by
  obtain ⟨fs, h1, h2⟩ := h.row
  obtain ⟨a, c, rfl, _, ha⟩ := h1.val
  refine ⟨a, c, rfl, ?_⟩
  cases g with
  | none =>
    obtain ⟨_, hl, _⟩ := h1
    exact .inl (List.eq_nil_of_length_eq_zero hl)
  | some g =>
    rw [ha g rfl]
    refine .inr ⟨g, 0, rfl, h1.lt, fun j x hx => ?_⟩
    have hj := (List.getElem?_eq_some_iff.1 hx).1
    obtain ⟨u, hu⟩ : ∃ u, fs[j]? = some u := ⟨_, List.getElem?_eq_getElem (by rw [h1.len]; omega)⟩
    obtain ⟨ac, cc, rfl, h3, h4⟩ := h2 j u x hu hx
    exact ⟨ac, cc, by rw [Nat.zero_add]; exact h1.cellAt hu, h3.below h.below, h4⟩
theorem ClsG.empty (w0 w : World) (a : Option Addr) (h : Below w0.heap.size w0 w) : ClsG w0 w (.slice a 0 0) [] none :=
  ⟨⟨[], ⟨⟨_, rfl⟩, rfl, rfl⟩, fun k u x h => by simp at h⟩, fun k h => (by cases h), h⟩
theorem ClsG.still {w0 w w' : World} {v : Value} {l : List (List Int)} {g : Option Nat} (h : ClsG w0 w v l g) (hb : Below w.heap.size w w') : ClsG w0 w' v l g := by
  obtain ⟨fs, h1, h2⟩ := h.row
  exact ⟨⟨fs, h1.same fun k e => by subst e; exact hb.block k h1.lt, h2⟩, h.new, h.below.trans (hb.mono h.below.size)⟩
theorem ClsG.grow {w0 w w' : World} {v v' : Value} {l r : List (List Int)} {g : Option Nat} {g' : Nat} {fs news : List Value} (h1 : RowG w 35 1 v l.length fs g)
    (h2 : ∀ (k : Nat) u x, fs[k]? = some u → l[k]? = some x → ∃ a c, u = .slice a x.length c ∧ IntsAt w0 a x ∧ x.length ≤ 9223372036854775807) (hnew : ∀ k, g = some k → w0.heap.size ≤ k) (hb : Below w0.heap.size w0 w)
    (h3 : ∀ (k : Nat) u x, news[k]? = some u → r[k]? = some x → ∃ a c, u = .slice a x.length c ∧ IntsAt w0 a x ∧ x.length ≤ 9223372036854775807)
    (hG : RowG w' 35 1 v' (l ++ r).length (fs ++ news) (some g')) (ha : AppTo w w' g g') : ClsG w0 w' v' (l ++ r) (some g') := by
  have hw7 : ∀ k, some g' = some k → w0.heap.size ≤ k := fun k e => by
    cases e
    rcases ha.who with h | h
    · exact hnew _ h
    · have := hb.size; omega
  have hfl : fs.length = l.length := by have := h1.len; omega
  refine ⟨⟨_, hG, fun k u x hu hx => ?_⟩, hw7, hb.trans (ha.keep.below hb.size fun k _ e => by have := hw7 g' rfl; omega)⟩
  rw [List.getElem?_append] at hu hx
  rw [hfl] at hu
  split at hu
  · next hk => rw [if_pos hk] at hx; exact h2 k u x hu hx
  · next hk => rw [if_neg hk] at hx; exact h3 _ u x hu hx
/-- append(v, u...) where u shows clauses. -/
theorem append_cls {ops : Array Oper} {rest : List Oper} {o : Oper} {a : Act} {Q : Exit → Act → World → Prop} {w0 w : World} (hgd : o.guard = none) (s x : Operand)
    (ho : o.op = .call { callee := .builtin .append, args := #[s, x], argTypes := #[22, 22] }) (v : Value) (hs : a.eval s = v) {ax : Option Addr} {n c : Nat} (hx : a.eval x = .slice ax n c)
    {l r m : List (List Int)} (hn : n = r.length) (hm : m = l ++ r) {g : Option Nat} (hG : ClsG w0 w v l g) (hl : l.length + r.length < 1099511627776) (hr : ClsAt w0 ax r)
    (h : ∀ a' c' w' g', ClsG w0 w' (.slice a' m.length c') m g' → wpList Try.prog ops Q rest (a.put o.dst (.slice a' m.length c')) w') :
    wpList Try.prog ops Q (o :: rest) a w := by
  subst hn hm
  obtain ⟨i, hi, hz, hsz, hby⟩ := info_of Try.inf35
  obtain ⟨fs, h1, h2⟩ := hG.row
  rcases Nat.eq_zero_or_pos r.length with h0 | h0
  · have hr0 := List.eq_nil_of_length_eq_zero h0
    subst hr0
    obtain ⟨a0, c0, rfl, hc0, _⟩ := h1.val
    have hrun2 : (Builtin.append_ #[22, 22] o.type #[.slice a0 l.length c0, .slice ax 0 c]).run Try.prog w = .ok (.slice a0 l.length c0) w := by
      cases a0 <;> cases ax <;> simp [Builtin.append_, run_underlying Try.underlying22, sizeOf, typeInfo, hi, Builtin.lenOf, Builtin.firstCells, loadCells, loadCellsFrom, hc0, storeCells]
    refine Lib.wpList_append_run _ hgd s x 22 22 ho _ _ hs hx _ _ hrun2 ?_
    have := h a0 c0 w g
    simp only [List.append_nil] at this
    exact this hG
  · rcases hr with hr | ⟨b, p, rfl, hbl, hr⟩
    · rw [hr] at h0; simp at h0
    · have hcell : ∀ (j : Nat) (y : List Int), r[j]? = some y → ∃ ac cc, w.cell? ⟨b, p + j, none⟩ = some (.slice ac y.length cc) ∧ IntsAt w0 ac y ∧ y.length ≤ 9223372036854775807 := fun j y hy => by
        obtain ⟨ac, cc, k1, k2, k3⟩ := hr j y hy
        exact ⟨ac, cc, bcell hG.below k1 hbl, k2, k3⟩
      obtain ⟨news, hnl, hnews⟩ : ∃ news : List Value, news.length = r.length ∧ ∀ j u, news[j]? = some u → w.cell? ⟨b, p + j, none⟩ = some u ∧ ∀ y, r[j]? = some y → ∃ ac cc, u = .slice ac y.length cc ∧ IntsAt w0 ac y ∧ y.length ≤ 9223372036854775807 := by
        refine ⟨(List.range r.length).map fun j => (w.cell? ⟨b, p + j, none⟩).getD (.bool false), by simp, fun j u hu => ?_⟩
        rw [List.getElem?_map] at hu
        obtain ⟨k, hk, rfl⟩ := Option.map_eq_some_iff.1 hu
        obtain ⟨hj, rfl⟩ := List.getElem?_eq_some_iff.1 hk
        simp only [List.length_range] at hj
        simp only [List.getElem_range]
        obtain ⟨y, hy⟩ : ∃ y, r[j]? = some y := ⟨_, List.getElem?_eq_getElem hj⟩
        obtain ⟨ac, cc, k1, k2, k3⟩ := hcell j y hy
        rw [k1]
        refine ⟨rfl, fun z hz => ?_⟩
        rw [hy] at hz
        cases hz
        exact ⟨ac, cc, rfl, k2, k3⟩
      obtain ⟨v', w', g', hrun, hG', ha⟩ := run_append_rowG (P := Try.prog) w 22 o.type 35 i (.slice none 0 0) 1 24 Try.underlying22 hi hz hsz hby rfl v l.length fs g h1 ⟨b, p, none⟩ r.length c news (by omega) (fun j u hu => by
          have hadd : (⟨b, p, none⟩ : Addr).add j = ⟨b, p + j, none⟩ := by unfold Addr.add; split <;> simp_all
          rw [hadd]; exact (hnews j u hu).1) (fun u hu => by
            obtain ⟨j, hj⟩ := List.mem_iff_getElem?.1 hu
            obtain ⟨y, hy⟩ : ∃ y, r[j]? = some y := ⟨_, List.getElem?_eq_getElem (by have := (List.getElem?_eq_some_iff.1 hj).1; omega)⟩
            obtain ⟨_, _, rfl, _⟩ := (hnews j u hj).2 y hy
            rfl) h0 (by unfold maxLen; omega) (by omega)
      rw [← List.length_append] at hG'
      have hG2 := ClsG.grow h1 h2 hG.new hG.below (r := r) (news := news) (fun k u y hu hy => (hnews k u hu).2 y hy) hG' ha
      obtain ⟨a', c', rfl, _⟩ := hG'.val
      exact Lib.wpList_append_run _ hgd s x 22 22 ho _ _ hs hx _ _ hrun (h a' c' w' _ hG2)
/-- append(v, x) where x is one clause. -/
theorem append_cls_one {ops : Array Oper} {rest : List Oper} {o : Oper} {a : Act} {Q : Exit → Act → World → Prop} {w0 w : World} (hgd : o.guard = none) (s x : Operand)
    (ho : o.op = .call { callee := .builtin .append, args := #[s, x], argTypes := #[22, 22] }) (v : Value) (hs : a.eval s = v) {nb : Nat} (hx : a.eval x = .slice (some ⟨nb, 0, none⟩) 1 1) (hnb : nb = w.heap.size)
    {l m : List (List Int)} {r : List Int} (hm : m = l ++ [r]) {g : Option Nat} (hG : ClsG w0 w v l g) (hl : l.length < 1099511627776) {ar : Option Addr} {n cr : Nat} (hn : n = r.length) (hr : IntsAt w0 ar r) (hrl : r.length ≤ 9223372036854775807)
    (h : ∀ a' c' w' g', ClsG w0 w' (.slice a' m.length c') m g' → wpList Try.prog ops Q rest (a.put o.dst (.slice a' m.length c')) w') :
    wpList Try.prog ops Q (o :: rest) a (w.alloc (.cells #[.slice ar n cr] 35)) := by
  subst hm hn
  obtain ⟨fs, h1, h2⟩ := hG.row
  refine append_one (y := .slice ar r.length cr) hgd s x Try.underlying22 Try.inf35 rfl (by omega) rfl ho v hs hx hnb h1 hl fun c' w' g' hG' ha => ?_
  have e : l.length + 1 = (l ++ [r]).length := by simp
  rw [e] at hG' ⊢
  exact h _ c' w' _ (ClsG.grow h1 h2 hG.new hG.below (r := [r]) (news := [.slice ar r.length cr]) (fun k u y hu hy => by
    match k, hu, hy with
    | 0, hu, hy => cases hu; cases hy; exact ⟨_, _, rfl, hr, hrl⟩
    | k + 1, hu, _ => simp at hu) hG' ha)
/-- The clauses of what is answered. -/
theorem AnsAt.proofAt {B : Nat} {w : World} {v : Value} {a : Ans} (h : AnsAt B w v a) : ∃ am cm ap cp, v = .agg #[.int .i64 a.is_, .int .i64 a.tries, .slice am a.model.length cm, .slice ap a.proof.length cp] ∧ BoolsAt w am a.model ∧ ClsAt w ap a.proof ∧ a.proof.length ≤ cp := by
  have hb := h.parts
  obtain ⟨vm, vp, rfl, ⟨g, h1, h2⟩, fs, g', h3, h4, h5, h6⟩ := h
  obtain ⟨am, cm, ap, cp, hv, hB⟩ := hb
  simp only [Value.agg.injEq, Array.mk.injEq, List.cons.injEq, and_true, true_and] at hv
  obtain ⟨rfl, rfl⟩ := hv
  refine ⟨am, cm, ap, cp, rfl, hB, ?_⟩
  obtain ⟨ap', cp', hv, hcp, hap⟩ := h3.val
  injection hv with e1 e2 e3
  subst e1 e3
  refine ⟨?_, hcp⟩
  cases g' with
  | none =>
    obtain ⟨_, hl, _⟩ := h3
    exact .inl (List.eq_nil_of_length_eq_zero hl)
  | some g' =>
    rw [hap g' rfl]
    refine .inr ⟨g', 0, rfl, h3.lt, fun j x hx => ?_⟩
    have hj := (List.getElem?_eq_some_iff.1 hx).1
    obtain ⟨u, hu⟩ : ∃ u, fs[j]? = some u := ⟨_, List.getElem?_eq_getElem (by omega)⟩
    obtain ⟨gg, hR, _⟩ := h6 j u x hu hx
    obtain ⟨ac, cc, rfl, hI⟩ := hR.intsAt
    refine ⟨ac, cc, by rw [Nat.zero_add]; exact h3.cellAt hu, hI, ?_⟩
    cases gg with
    | none => obtain ⟨_, hl, _⟩ := hR; omega
    | some gg => obtain ⟨_, _, _, _, h8, h9, _⟩ := hR; unfold maxLen at h9; omega
end Go.Proofs.Ytfmoldfajmfieaa
