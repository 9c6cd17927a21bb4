/-
  Rows of memory that a call owns, known block by block, and what an append, a store, a new block does to them. No program in sight.
-/
import Derived.WalkKit
import Derived.Laws.Rows
import Derived.Laws.OwnMore
import Derived.Lib.AppendZeros
import Derived.Deep.Draws
namespace Go.Proofs.Ytfmoldfajmfieaa
open Go.RowKit

/-- A slice value v of n elements of type e (size cells each) that reads as the cells xs; g: the block that it lies in, if it has room at all. -/
def RowG (w : World) (e : TypeId) (size : Nat) (v : Value) (n : Nat) (xs : List Value) : Option Nat → Prop
  | none => (∃ a, v = .slice a 0 0) ∧ n = 0 ∧ xs = []
  | some g => ∃ cap cur, v = .slice (some ⟨g, 0, none⟩) n cap ∧ w.heap[g]? = some (.cells cur e (0, 0)) ∧ n ≤ cap ∧ cap ≤ maxLen ∧ cur.size = cap * size ∧ cur.toList.take (n * size) = xs

/-- Only blocks in D have turned among those that were there; the streams are as they were. -/
structure Keep (D : Nat → Prop) (w w' : World) : Prop where
  os : w'.os = w.os
  tape : w'.tape = w.tape
  output : w'.output = w.output
  size : w.heap.size ≤ w'.heap.size
  block : ∀ k, k < w.heap.size → ¬ D k → w'.heap[k]? = w.heap[k]?

theorem Keep.refl (D : Nat → Prop) (w : World) : Keep D w w := ⟨rfl, rfl, rfl, Nat.le_refl _, fun _ _ _ => rfl⟩
theorem Keep.trans {D : Nat → Prop} {a b c : World} (h : Keep D a b) (k : Keep D b c) : Keep D a c :=
  ⟨k.os.trans h.os, k.tape.trans h.tape, k.output.trans h.output, Nat.le_trans h.size k.size, fun i hi hd => (k.block i (Nat.lt_of_lt_of_le hi h.size) hd).trans (h.block i hi hd)⟩
theorem Keep.mono {D E : Nat → Prop} {a b : World} (h : Keep D a b) (hDE : ∀ k, k < a.heap.size → D k → E k) : Keep E a b :=
  ⟨h.os, h.tape, h.output, h.size, fun k hk hd => h.block k hk fun hD => hd (hDE k hk hD)⟩
theorem Keep.alloc (D : Nat → Prop) (w : World) (o : Obj) : Keep D w (w.alloc o) := ⟨rfl, rfl, rfl, by simp, fun k hk _ => Below.heap_alloc w o k hk⟩
theorem Keep.drew (D : Nat → Prop) (w : World) : Keep D w w.drew := ⟨rfl, rfl, rfl, Nat.le_refl _, fun _ _ _ => rfl⟩
theorem Keep.drewN (D : Nat → Prop) (w : World) (n : Nat) : Keep D w (w.drewN n) := ⟨rfl, rfl, rfl, Nat.le_refl _, fun _ _ _ => rfl⟩
theorem Keep.setCell {D : Nat → Prop} (w : World) (a : Addr) (u : Value) (h : D a.block) : Keep D w (w.setCell a u) :=
  ⟨rfl, rfl, rfl, by simp [World.setCell], fun k _ hk => Below.heap_setCell w a u k fun e => hk (e ▸ h)⟩
theorem Keep.below {B : Nat} {D : Nat → Prop} {w w' : World} (h : Keep D w w') (hB : B ≤ w.heap.size) (hD : ∀ k, k < w.heap.size → D k → B ≤ k) : Below B w w' :=
  ⟨h.os, h.tape, h.output, h.size, fun k hk => h.block k (by omega) fun d => by have := hD k (by omega) d; omega⟩
theorem Keep.of_below {D : Nat → Prop} {w w' : World} (h : Below w.heap.size w w') : Keep D w w' := ⟨h.os, h.tape, h.output, h.size, fun k hk _ => h.block k hk⟩
theorem Below.of_keep {w w' : World} (h : Keep (fun _ => False) w w') : Below w.heap.size w w' := ⟨h.os, h.tape, h.output, h.size, fun k hk => h.block k hk (fun f => f)⟩
theorem Keep.cell {D : Nat → Prop} {w w' : World} (h : Keep D w w') {p : Addr} (hp : p.block < w.heap.size) (hd : ¬ D p.block) : w'.cell? p = w.cell? p := World.cell?_of_block (w := w) (h.block p.block hp hd)
theorem Keep.frozen {D : Nat → Prop} {w w' : World} (h : Keep D w w') {p : Addr} (hp : p.block < w.heap.size) (hd : ¬ D p.block) : w'.frozen? p = w.frozen? p := World.frozen?_of_block (w := w) (h.block p.block hp hd)

theorem heap_lt {w : World} {g : Nat} {o : Obj} (h : w.heap[g]? = some o) : g < w.heap.size := (Array.getElem?_eq_some_iff.1 h).1

/-- A store into a block that is known whole. -/
theorem setCell_heap {w : World} {g o : Nat} {cur : Array Value} {e : TypeId} {fr : Nat × Nat} (h : w.heap[g]? = some (.cells cur e fr)) (v : Value) :
    (w.setCell ⟨g, o, none⟩ v).heap[g]? = some (.cells (cur.setIfInBounds o v) e fr) := by
  simp [World.setCell, Array.getElem?_modify, h]

theorem setCell_self {w : World} {g o : Nat} {v : Value} (h : w.cell? ⟨g, o, none⟩ = some v) : w.setCell ⟨g, o, none⟩ v = w := by
  have hh : (w.setCell ⟨g, o, none⟩ v).heap = w.heap := by
    apply Array.ext_getElem?
    intro k
    by_cases e : k = g
    · subst e
      simp only [World.cell?] at h
      cases hk : w.heap[k]? with
      | none => rw [hk] at h; cases h
      | some ob =>
        rw [hk] at h
        cases ob with
        | cells c e fr =>
          simp at h
          rw [setCell_heap hk]
          obtain ⟨hlt, hv⟩ := Array.getElem?_eq_some_iff.1 h
          have : c.setIfInBounds o v = c := by
            apply Array.ext (by simp)
            intro i h1 h2
            rw [Array.getElem_setIfInBounds]
            split
            · next e => subst e; exact hv.symm
            · rfl
          rw [this]
        | _ => cases h
    · exact Below.heap_setCell _ _ _ _ e
  have e2 : w.setCell ⟨g, o, none⟩ v = { w with heap := (w.setCell ⟨g, o, none⟩ v).heap } := rfl
  rw [e2, hh]

namespace RowG
variable {w w' : World} {e : TypeId} {size n k : Nat} {v : Value} {xs : List Value} {g : Option Nat}
theorem len (h : RowG w e size v n xs g) : xs.length = n * size := by
  cases g with
  | none => obtain ⟨_, rfl, rfl⟩ := h; simp
  | some g =>
    obtain ⟨cap, cur, _, _, h1, _, h2, h3⟩ := h
    rw [← h3, List.length_take, Array.length_toList, h2]
    exact Nat.min_eq_left (Nat.mul_le_mul_right _ h1)
theorem lt (h : RowG w e size v n xs (some k)) : k < w.heap.size := by
  obtain ⟨cap, cur, _, h0, _⟩ := h
  exact heap_lt h0
theorem same (h : RowG w e size v n xs g) (hk : ∀ k, g = some k → w'.heap[k]? = w.heap[k]?) : RowG w' e size v n xs g := by
  cases g with
  | none => exact h
  | some g =>
    obtain ⟨cap, cur, hv, h0, r⟩ := h
    exact ⟨cap, cur, hv, (hk g rfl).trans h0, r⟩
theorem keep {D : Nat → Prop} (h : RowG w e size v n xs g) (hk : Keep D w w') (hd : ∀ k, g = some k → ¬ D k) : RowG w' e size v n xs g :=
  h.same fun k hg => hk.block k (by subst hg; exact h.lt) (hd k hg)
theorem some_of_pos (h : RowG w e size v n xs g) (hn : 0 < n) : ∃ k, g = some k := by
  cases g with
  | none => obtain ⟨_, rfl, _⟩ := h; omega
  | some g => exact ⟨g, rfl⟩
theorem size_le (h : RowG w e size v n xs g) : n ≤ maxLen := by
  cases g with
  | none => obtain ⟨_, rfl, _⟩ := h; omega
  | some g => obtain ⟨cap, cur, _, _, h1, h2, _⟩ := h; omega
/-- The value, written out. -/
theorem val (h : RowG w e size v n xs g) : ∃ a cap, v = .slice a n cap ∧ n ≤ cap ∧ ∀ k, g = some k → a = some ⟨k, 0, none⟩ := by
  cases g with
  | none => obtain ⟨⟨a, rfl⟩, rfl, _⟩ := h; exact ⟨a, 0, rfl, Nat.le_refl _, fun k hk => by cases hk⟩
  | some g => obtain ⟨cap, cur, rfl, _, h1, _⟩ := h; exact ⟨_, cap, rfl, h1, fun k hk => by cases hk; rfl⟩
theorem cellAt (h : RowG w e size v n xs (some k)) {j : Nat} {u : Value} (hj : xs[j]? = some u) : w.cell? ⟨k, j, none⟩ = some u := by
  obtain ⟨cap, cur, _, h0, _, _, _, h3⟩ := h
  rw [cell_of_row w k j cur e (0, 0) h0]
  rw [← h3, List.getElem?_take] at hj
  split at hj
  · simpa using hj
  · cases hj
theorem cellAtAdd (h : RowG w e size v n xs (some k)) {j : Nat} {u : Value} (hj : xs[j]? = some u) : w.cell? ((⟨k, 0, none⟩ : Addr).add j) = some u := by
  have hadd : (⟨k, 0, none⟩ : Addr).add j = ⟨k, j, none⟩ := by unfold Addr.add; split <;> simp_all
  rw [hadd]; exact h.cellAt hj
theorem free (h : RowG w e size v n xs (some k)) (j : Nat) (s : Option Nat) : w.frozen? ⟨k, j, s⟩ = false := by
  obtain ⟨cap, cur, _, h0, _⟩ := h
  simp [World.frozen?, h0]
theorem set (h : RowG w e size v n xs (some k)) (j : Nat) (u : Value) : RowG (w.setCell ⟨k, j, none⟩ u) e size v n (xs.set j u) (some k) := by
  obtain ⟨cap, cur, hv, h0, h1, h2, h3, h4⟩ := h
  refine ⟨cap, _, hv, setCell_heap h0 u, h1, h2, by simpa using h3, ?_⟩
  rw [Array.toList_setIfInBounds, ← h4, List.take_set]
/-- A cut at the front part: v[:m], m no more than n. -/
theorem cut (h : RowG w e size v n xs (some k)) {m : Nat} (hm : m ≤ n) : ∃ cap, v = .slice (some ⟨k, 0, none⟩) n cap ∧ n ≤ cap ∧ RowG w e size (.slice (some ⟨k, 0, none⟩) m cap) m (xs.take (m * size)) (some k) := by
  obtain ⟨cap, cur, hv, h0, h1, h2, h3, h4⟩ := h
  refine ⟨cap, hv, h1, cap, cur, rfl, h0, by omega, h2, h3, ?_⟩
  rw [← h4, List.take_take, Nat.min_eq_left (Nat.mul_le_mul_right _ hm)]
end RowG

/-- A new block that holds a row, whole. -/
theorem RowG.made {w : World} {e : TypeId} {size n : Nat} {cur : Array Value} (hc : cur.size = n * size) (hn : n ≤ maxLen) :
    RowG (w.alloc (.cells cur e (0, 0))) e size (.slice (some ⟨w.heap.size, 0, none⟩) n n) n cur.toList (some w.heap.size) :=
  ⟨n, cur, rfl, heap_alloc_new w _, Nat.le_refl _, hn, hc, List.take_of_length_le (by simp; omega)⟩

/-- What an append may have turned: the block that its result lies in, which is the old one or a new one. -/
structure AppTo (w w' : World) (g : Option Nat) (g' : Nat) : Prop where
  keep : Keep (· = g') w w'
  lt : g' < w'.heap.size
  who : g = some g' ∨ w.heap.size ≤ g'
theorem AppTo.behind {w w1 w' : World} {g : Option Nat} {g' : Nat} (h : AppTo w1 w' g g') (hb : Below w.heap.size w w1) : AppTo w w' g g' :=
  ⟨(Keep.of_below hb).trans h.keep, h.lt, h.who.imp id fun e => Nat.le_trans hb.size e⟩

section
variable {P : Program} (w : World)
theorem run_append_rowG (t ty e : TypeId) (i : TypeInfo) (z : Value) (size bytes : Nat) (ht : P.underlying t = some (.slice e)) (hi : P.info? e = some i) (hz : i.zero = some z)
    (hsize : i.size = size) (hby : i.bytes = bytes) (hzs : z.cells.size = size)
    (v : Value) (n : Nat) (xs : List Value) (g : Option Nat) (hown : RowG w e size v n xs g)
    (a : Addr) (m c : Nat) (news : List Value) (hl : news.length = m * size) (hnews : ∀ j u, news[j]? = some u → w.cell? (a.add j) = some u) (h1 : ∀ u ∈ news, u.oneCell' = true)
    (hm : 0 < m) (h63 : n + m ≤ maxLen) (hbytes : (n + m) * bytes ≤ 140737488355328) :
    ∃ v' w' g', (Builtin.append_ #[t, t] ty #[v, .slice (some a) m c]).run P w = .ok v' w' ∧ RowG w' e size v' (n + m) (xs ++ news) (some g') ∧ AppTo w w' g g' := by
  subst hsize
  subst hby
  have hsmall : n + m ≤ 9223372036854775807 := by simp only [maxLen] at h63; omega
  have hlen : (xs ++ news).length = (n + m) * i.size := by rw [List.length_append, hown.len, hl, Nat.add_mul]
  have grown : ∀ (old : Nat), old < n + m →
      RowG (w.drew.alloc (.cells (xs.toArray ++ news.toArray ++ Builtin.zeroCells z.cells (grownCap w (n + m) old e - (n + m))) e)) e i.size
        (.slice (some ⟨w.heap.size, 0, none⟩) (n + m) (grownCap w (n + m) old e)) (n + m) (xs ++ news) (some w.heap.size) ∧
      AppTo w (w.drew.alloc (.cells (xs.toArray ++ news.toArray ++ Builtin.zeroCells z.cells (grownCap w (n + m) old e - (n + m))) e)) g w.heap.size := by
    intro old ho
    have hge := grownCap_ge w (n + m) old e
    have hcm : grownCap w (n + m) old e ≤ maxLen := grownCap_le_maxLen w (n + m) old e h63
    refine ⟨⟨_, _, rfl, heap_alloc_new w.drew _, hge, hcm, ?_, ?_⟩, ⟨(Keep.drew _ w).trans (Keep.alloc _ _ _), by simp, .inr (Nat.le_refl _)⟩⟩
    · simp only [Array.size_append, List.size_toArray, size_zeroCells, hzs, hown.len, hl, ← Nat.add_mul]
      congr 1
      omega
    · simp only [Array.toList_append, List.append_assoc]
      rw [← List.append_assoc, ← hlen]
      exact List.take_left
  cases g with
  | none =>
    obtain ⟨⟨b, rfl⟩, rfl, rfl⟩ := hown
    have hgr := grown 0 (by omega)
    simp only [Nat.zero_add, List.nil_append, Array.empty_append] at hgr ⊢
    cases b with
    | none =>
      have hr := run_append_nil (P := P) w t ty e i z ht hi hz a m c news hl hnews (by omega) (by omega) (by have hb := hbytes; simp only [Nat.zero_add] at hb; omega)
      exact ⟨_, _, _, hr, hgr.1, hgr.2⟩
    | some b =>
      have hr := run_append_grow (P := P) w t ty e i z ht hi hz b 0 0 [] (by simp) (by intro j v hj; simp at hj) a m c news hl hnews (by omega) (by omega) (growslice_fits (by omega) hbytes)
      simp only [Nat.zero_add, Array.empty_append] at hr
      exact ⟨_, _, _, hr, hgr.1, hgr.2⟩
  | some g =>
    have h2 := hown
    obtain ⟨cap, cur, rfl, hg, hnc, hcm, hcs, htake⟩ := hown
    by_cases hroom : n + m ≤ cap
    · have hfit : n * i.size + news.length ≤ cur.size := by rw [hl, hcs, ← Nat.add_mul]; exact Nat.mul_le_mul_right _ hroom
      have hr := run_append_room (P := P) w t ty e i ht hi g n cap cur hg a m c news hl hnews h1 hroom hfit
      have hlt := heap_lt hg
      refine ⟨_, _, g, hr, ⟨_, _, rfl, setRow_heap w g cur _ e _ hg, hroom, hcm, ?_, ?_⟩, ⟨⟨rfl, rfl, rfl, by simp [World.setRow], fun k _ hk => setRow_other w g k _ hk⟩, by simpa [World.setRow] using hlt, .inl rfl⟩⟩
      · simp only [List.size_toArray, List.length_append, List.length_take, List.length_drop, Array.length_toList]
        omega
      · rw [htake, ← hlen]
        exact List.take_left
    · have holds : ∀ j u, xs[j]? = some u → w.cell? ((⟨g, 0, none⟩ : Addr).add j) = some u := fun j u hj => h2.cellAtAdd hj
      have hr := run_append_grow (P := P) w t ty e i z ht hi hz ⟨g, 0, none⟩ n cap xs (h2.len) holds a m c news hl hnews (by omega) (by omega) (growslice_fits (by omega) hbytes)
      have hgr := grown cap (by omega)
      exact ⟨_, _, _, hr, hgr.1, hgr.2⟩
end
end Go.Proofs.Ytfmoldfajmfieaa
