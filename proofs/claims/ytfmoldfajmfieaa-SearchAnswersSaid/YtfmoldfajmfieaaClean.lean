/-
  A clause, each literal once: cloned, sorted, and what is twice left out.
-/
import Derived.Test.YtfmoldfajmfieaaHas
import Derived.Test.YtfmoldfajmfieaaShelf
namespace Go.Proofs.Ytfmoldfajmfieaa
open Go.RowKit
def cleanL (l : List Int) : List Int := Lib.compact (l.mergeSort fun x y => decide (x ≤ y))

theorem putRow_heap {w : World} {g : Nat} {cur : Array Value} {e : TypeId} (h : w.heap[g]? = some (.cells cur e (0, 0))) (d : Array Int) :
    («Sort».putRow (Value.int .i64) w g 0 d).heap[g]? = some (.cells («Sort».putCells (Value.int .i64) 0 d cur) e (0, 0)) := by
  simp [«Sort».putRow, «Sort».mapBlock, Array.getElem?_modify, h, «Sort».onCells]
theorem putRow_other {w : World} {g k : Nat} (d : Array Int) (h : k ≠ g) : («Sort».putRow (Value.int .i64) w g 0 d).heap[k]? = w.heap[k]? := by
  simp only [«Sort».putRow, «Sort».mapBlock, Array.getElem?_modify]
  rw [if_neg (Ne.symm h)]
theorem putCells_take {d : List Int} {cur : Array Value} {n : Nat} (hd : d.length = n) (hn : n ≤ cur.size) : («Sort».putCells (Value.int .i64) 0 d.toArray cur).toList.take n = d.map vI := by
  apply List.ext_getElem
  · simp [«Sort».putCells]; omega
  · intro i h1 h2
    have hi : i < n := by simp at h2; omega
    simp [«Sort».putCells, vI, hi, hd]
theorem RowG.putRow {w : World} {n g c : Nat} {l d : List Int} (h : RowG w 3 1 (.slice (some ⟨g, 0, none⟩) n c) n (l.map vI) (some g)) (hd : d.length = n) :
    RowG («Sort».putRow (Value.int .i64) w g 0 d.toArray) 3 1 (.slice (some ⟨g, 0, none⟩) n c) n (d.map vI) (some g) := by
  obtain ⟨cap, cur, hv, h0, h1, h2, h3, h4⟩ := h
  refine ⟨cap, _, hv, putRow_heap h0 _, h1, h2, by simpa [«Sort».putCells] using h3, ?_⟩
  rw [Nat.mul_one]
  exact putCells_take hd (by rw [h3]; omega)
theorem keep_putRow (w : World) (g : Nat) (d : Array Int) : Keep (· = g) w («Sort».putRow (Value.int .i64) w g 0 d) :=
  ⟨rfl, rfl, rfl, by simp, fun _ _ hk => putRow_other d hk⟩
theorem RowG.holds {w : World} {n g c : Nat} {l : List Int} (h : RowG w 3 1 (.slice (some ⟨g, 0, none⟩) n c) n (l.map vI) (some g)) : «Sort».Holds (Value.int .i64) w g 0 l.toArray := by
  intro j hj
  have hj' : j < l.length := by simpa using hj
  refine ⟨?_, h.free _ _⟩
  rw [Nat.zero_add]
  refine h.cellAt ?_
  rw [List.getElem?_map, List.getElem?_eq_getElem hj']
  simp [vI, hj']
theorem ownsRow_rowG {w : World} {base n : Nat} {v : Value} {l : List Int} (h : w.ownsRow base 3 1 v n (l.map (Value.int .i64))) : ∃ g, RowG w 3 1 v n (l.map vI) g ∧ ∀ k, g = some k → base ≤ k := by
  obtain ⟨hl, h⟩ := h
  rcases h with ⟨rfl, rfl⟩ | ⟨g, cap, cur, hv, hb, h0, h1, h2, h3, h4⟩
  · exact ⟨none, ⟨⟨none, rfl⟩, rfl, List.eq_nil_of_length_eq_zero (by simpa using hl)⟩, fun k e => by cases e⟩
  · exact ⟨some g, ⟨cap, cur, hv, h0, h1, h2, h3, h4⟩, fun k e => by cases e; exact hb⟩
theorem RowG.len_int {w : World} {v : Value} {n : Nat} {l : List Int} {g : Option Nat} (h : RowG w 3 1 v n (l.map vI) g) : l.length = n := by
  have := h.len; simpa using this
theorem compact_le (l : List Int) : (Lib.compact l).length ≤ l.length := by
  unfold Lib.compact
  have : ∀ m, (Lib.compactUpTo l.toArray m).length ≤ m := by
    intro m
    induction m with
    | zero => simp [Lib.compactUpTo]
    | succ m ih =>
      rw [Lib.compactUpTo_succ, List.length_append]
      split <;> simp <;> omega
  exact this _

set_option maxHeartbeats 1000000 in
theorem clone61 (w : World) (a : Option Addr) (l : List Int) (c : Nat) (h : IntsAt w a l) (hn : l.length ≤ 1099511627776) :
    Calls Try.prog 61 #[.slice a l.length c] w fun e w' => ∃ v g, e = .returned v ∧ RowG w' 3 1 v l.length (l.map vI) g ∧ (∀ k, g = some k → w.heap.size ≤ k) ∧ Below w.heap.size w w' := by
  rcases h with rfl | ⟨b, o, rfl, hlt, hc⟩
  · cases a with
    | none =>
      refine (Try.slices_Clone_int_nil 0 c w).mono ?_
      rintro e w' ⟨rfl, rfl⟩
      exact ⟨_, none, rfl, ⟨⟨none, rfl⟩, rfl, rfl⟩, (fun k e => by cases e), Below.refl _ _⟩
    | some p =>
      refine (Try.slices_Clone_int_zero p c w).mono ?_
      rintro e w' ⟨v, rfl, ho, _, hb⟩
      obtain ⟨g, hg, hk⟩ := ownsRow_rowG (l := []) ho
      exact ⟨v, g, rfl, hg, hk, hb⟩
  · refine (Try.slices_Clone_int b o l.length c l w (Nat.le_refl _) (by omega) (fun j hj => hc j _ (by rw [List.getElem?_eq_getElem hj]; simp [List.getD, hj]))).mono ?_
    rintro e w' ⟨v, rfl, ho, _, hb⟩
    rw [List.take_length] at ho
    obtain ⟨g, hg, hk⟩ := ownsRow_rowG ho
    exact ⟨v, g, rfl, hg, hk, hb⟩

set_option maxHeartbeats 1000000 in
theorem sort62 (w : World) (v : Value) (l : List Int) (g : Option Nat) (h : RowG w 3 1 v l.length (l.map vI) g) (hlen : l.length < 4611686018427387904) :
    Calls Try.prog 62 #[v] w fun e w' => e = .returned (.tuple #[]) ∧ RowG w' 3 1 v l.length ((l.mergeSort fun x y => decide (x ≤ y)).map vI) g ∧ Keep (fun k => g = some k) w w' := by
  cases g with
  | none =>
    obtain ⟨⟨a, rfl⟩, hl, _⟩ := h
    obtain rfl := List.eq_nil_of_length_eq_zero hl
    refine (Try.slices_Sort_int_none a 0 w).mono ?_
    rintro e w' ⟨rfl, rfl⟩
    exact ⟨rfl, ⟨⟨a, rfl⟩, rfl, by simp⟩, Keep.refl _ _⟩
  | some g =>
    have h' := h
    obtain ⟨cap, cur, rfl, h0, h1, h2, h3, h4⟩ := h
    refine (Try.slices_Sort_int g 0 cap l w h'.holds h'.lt hlen).mono ?_
    rintro e w' ⟨rfl, n, os, rfl⟩
    have e1 : RowG («Sort».ahead w n) 3 1 (.slice (some ⟨g, 0, none⟩) l.length cap) l.length (l.map vI) (some g) := h'.same fun _ _ => rfl
    have e2 := e1.putRow (d := l.mergeSort fun x y => decide (x ≤ y)) (List.length_mergeSort _)
    refine ⟨rfl, e2.same fun k e => ?_, ?_⟩
    · cases e
      exact «Sort».heap_grow_old _ _ (by simpa using h'.lt)
    · refine Keep.trans (b := «Sort».ahead w n) ⟨rfl, rfl, rfl, Nat.le_refl _, fun _ _ _ => rfl⟩ (Keep.trans (b := «Sort».putRow (Value.int .i64) («Sort».ahead w n) g 0 (l.mergeSort fun x y => decide (x ≤ y)).toArray) ((keep_putRow _ g _).mono fun k _ e => by rw [e]) ?_)
      exact ⟨rfl, rfl, rfl, by simp, fun k hk _ => «Sort».heap_grow_old _ _ hk⟩

theorem compact63 (w : World) (v : Value) (l : List Int) (g : Option Nat) (h : RowG w 3 1 v l.length (l.map vI) g) (hlen : l.length < 4611686018427387904) :
    Calls Try.prog 63 #[v] w fun e w' => ∃ v', e = .returned v' ∧ RowG w' 3 1 v' (Lib.compact l).length ((Lib.compact l).map vI) g ∧ Keep (fun k => g = some k) w w' := by
  cases g with
  | none =>
    obtain ⟨⟨a, rfl⟩, hl, _⟩ := h
    obtain rfl := List.eq_nil_of_length_eq_zero hl
    refine (Try.slices_Compact_int_empty a 0 w).mono ?_
    rintro e w' ⟨rfl, rfl⟩
    exact ⟨_, rfl, ⟨⟨a, rfl⟩, rfl, by simp [Lib.compact, Lib.compactUpTo]⟩, Keep.refl _ _⟩
  | some g =>
    have h' := h
    obtain ⟨cap, cur, rfl, h0, h1, h2, h3, h4⟩ := h
    refine (Try.slices_Compact_int g 0 cap l w h'.holds (by omega) h1).mono ?_
    rintro e w' ⟨rfl, n, rfl⟩
    have e1 : RowG («Sort».ahead w n) 3 1 (.slice (some ⟨g, 0, none⟩) l.length cap) l.length (l.map vI) (some g) := h'.same fun _ _ => rfl
    have hle := compact_le l
    have e2 := e1.putRow (d := Lib.compact l ++ List.replicate (l.length - (Lib.compact l).length) 0) (by simp; omega)
    obtain ⟨cap', hv, _, e3⟩ := e2.cut hle
    injection hv with _ _ hcap
    subst hcap
    refine ⟨_, rfl, ?_, ?_⟩
    · rw [Nat.mul_one, List.map_append, List.take_append_of_le_length (by simp), List.take_of_length_le (by simp)] at e3
      exact e3
    · exact Keep.trans (b := «Sort».ahead w n) ⟨rfl, rfl, rfl, Nat.le_refl _, fun _ _ _ => rfl⟩ ((keep_putRow _ g _).mono fun k _ e => by rw [e])

set_option maxHeartbeats 1000000 in
/-- A clause, each literal once, in memory of its own. -/
theorem clean44 (w : World) (a : Option Addr) (l : List Int) (c : Nat) (h : IntsAt w a l) (hn : l.length ≤ 1099511627776) :
    Calls Try.prog 44 #[.slice a l.length c] w fun e w' => ∃ v g, e = .returned v ∧ RowG w' 3 1 v (cleanL l).length ((cleanL l).map vI) g ∧ (∀ k, g = some k → w.heap.size ≤ k) ∧ Below w.heap.size w w' := by
  go_enter Try.func44, Try.ntmps44
  go_wp2_with fail
  refine (clone61 w a l c h hn).mono ?_
  rintro e w1 ⟨v, g, rfl, h1, hg, hb1⟩
  go_wp2_with fail
  refine (sort62 w1 v l g h1 (by omega)).mono ?_
  rintro e w2 ⟨rfl, h2, hk2⟩
  go_wp2_with fail
  have h2' : RowG w2 3 1 v (l.mergeSort fun x y => decide (x ≤ y)).length ((l.mergeSort fun x y => decide (x ≤ y)).map vI) g := by rw [List.length_mergeSort]; exact h2
  refine (compact63 w2 v _ g h2' (by rw [List.length_mergeSort]; omega)).mono ?_
  rintro e w3 ⟨v', rfl, h3, hk3⟩
  go_wp2
  go_ret
  refine ⟨v', g, rfl, h3, hg, hb1.trans ?_⟩
  exact ((hk2.trans hk3).below hb1.size fun k _ e => hg k e)
end Go.Proofs.Ytfmoldfajmfieaa
