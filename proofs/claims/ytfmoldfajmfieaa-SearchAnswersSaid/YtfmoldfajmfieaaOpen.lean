/-
  What came in: a list of clauses, a model, out of a statement's arguments.
-/
import Derived.Test.YtfmoldfajmfieaaSmall
import Derived.Deep.Matrix
import Derived.Deep.Grids
import Derived.ProofKit
import Derived.OpenShut
import Derived.ChangeOld
namespace Go.Proofs.Ytfmoldfajmfieaa
open Go.RowKit Go.ChangeShapes Go.WideShapes Go.ChangeAt
theorem spot_none {w : World} {a : Addr} {v : Value} (h : w.cell? a = some v) : a = ⟨a.block, a.off, none⟩ := by
  obtain ⟨b, o, s⟩ := a
  cases s with
  | none => rfl
  | some s =>
    exfalso
    unfold World.cell? at h
    split at h
    · simp at h
    · cases h
theorem add_at {a : Addr} (h : a = ⟨a.block, a.off, none⟩) (j : Nat) : a.add j = ⟨a.block, a.off + j, none⟩ := by
  unfold Addr.add
  split
  · next e => subst e; exact h
  · rfl
theorem ints_of_cells {w : World} {A : Option Addr} {L C : Nat} {Z : List Int} (hLC : L ≤ C) (hZ : Z.length = C) (hnone : A = none → C = 0) (hc : ∀ a', A = some a' → ∀ c, c < C → w.cell? (a'.add c) = some (.int .i64 (Z.getD c 0))) : IntsAt w A (Z.take L) := by
  rcases Nat.eq_zero_or_pos L with h0 | h0
  · subst h0; exact .inl (by simp)
  · cases A with
    | none => have := hnone rfl; omega
    | some a =>
      have h := hc a rfl
      have hs := spot_none (a := a) (by have := h 0 (by omega); unfold Addr.add at this; simpa using this)
      refine .inr ⟨a.block, a.off, by rw [← hs], ?_, fun j x hx => ?_⟩
      · have := block_lt_of_cell (h 0 (by omega))
        unfold Addr.add at this
        simpa using this
      · rw [List.getElem?_take] at hx
        split at hx
        · have := h j (by have := (List.getElem?_eq_some_iff.1 hx).1; omega)
          rw [add_at hs, List.getD_eq_getElem?_getD, hx] at this
          exact this
        · cases hx
section
variable {H : Type} {enc : TypeId × Value → H} {w : World} {base : Nat} {held : Bool}
theorem open_cls {fuel : Nat} {a : Option Addr} {len cap : Nat} {x : DataW H × List MemPlace} (h : DataW.trod enc Try.prog w base (fun _ => true) held fuel 22 (Value.slice a len cap).cells.toList = some x) :
    ∃ l : List (List Int), len = l.length ∧ ClsAt w a l ∧ l.length ≤ 9223372036854775807 := by
  rcases Go.Deep.open_int_rows Try.underlying22 Try.underlying35 Try.underlying3 (by kernel_rfl) (by kernel_rfl) h with ⟨hcs, _⟩ | ⟨a', len', cap', A, L, C, Z, hcs, _, hl, hm, _, hrow⟩
  · simp [Value.cells] at hcs
    obtain ⟨rfl, rfl, rfl⟩ := hcs
    exact ⟨[], rfl, .inl rfl, by simp⟩
  · simp [Value.cells] at hcs
    obtain ⟨rfl, rfl, rfl⟩ := hcs
    refine ⟨(List.range len).map fun r => (Z r).take (L r), by simp, ?_, by simp only [maxLen] at hm; simp; omega⟩
    rcases Nat.eq_zero_or_pos len with h0 | h0
    · subst h0; exact .inl rfl
    · have hs := spot_none (a := a') (by have := (hrow 0 (by omega)).1; unfold Addr.add at this; simpa using this)
      refine .inr ⟨a'.block, a'.off, by rw [← hs], ?_, fun j c hc => ?_⟩
      · have := block_lt_of_cell (hrow 0 (by omega)).1
        unfold Addr.add at this
        simpa using this
      · rw [List.getElem?_map] at hc
        obtain ⟨r, hr, rfl⟩ := Option.map_eq_some_iff.1 hc
        have hjl : j < len := by have := (List.getElem?_eq_some_iff.1 hr).1; simpa using this
        have hrj : r = j := by have := (List.getElem?_eq_some_iff.1 hr).2; simpa using this.symm
        subst hrj
        obtain ⟨h1, h2, h3, h4, h5, h6, h7⟩ := hrow r (by omega)
        rw [add_at hs] at h1
        have hlen : ((Z r).take (L r)).length = L r := by rw [List.length_take]; omega
        refine ⟨A r, C r, by rw [hlen]; exact h1, ints_of_cells h2 h4 h6 (fun a' ha c hc => (h7 a' ha).2 c hc), ?_⟩
        rw [hlen]; simp only [maxLen] at h3; omega
theorem open_cls_w {fuel : Nat} {a : Option Addr} {len cap : Nat} {x : DataW H × List MemPlace} (h : DataW.trod enc Try.prog w base (fun _ => true) held fuel 22 (Value.slice a len cap).cells.toList = some x) :
    ∃ l : List (List Int), len = l.length ∧ ClsAt w a l ∧ l.length ≤ 9223372036854775807 ∧ ∀ x ∈ l, ∀ y ∈ x, (Lit.int .i64 y).wf = true := by
  rcases Go.Deep.open_int_rows Try.underlying22 Try.underlying35 Try.underlying3 (by kernel_rfl) (by kernel_rfl) h with ⟨hcs, _⟩ | ⟨a', len', cap', A, L, C, Z, hcs, _, hl, hm, _, hrow⟩
  · simp [Value.cells] at hcs
    obtain ⟨rfl, rfl, rfl⟩ := hcs
    exact ⟨[], rfl, .inl rfl, by simp, by simp⟩
  · simp [Value.cells] at hcs
    obtain ⟨rfl, rfl, rfl⟩ := hcs
    refine ⟨(List.range len).map fun r => (Z r).take (L r), by simp, ?_, by simp only [maxLen] at hm; simp; omega, ?_⟩
    · rcases Nat.eq_zero_or_pos len with h0 | h0
      · subst h0; exact .inl rfl
      · have hs := spot_none (a := a') (by have := (hrow 0 (by omega)).1; unfold Addr.add at this; simpa using this)
        refine .inr ⟨a'.block, a'.off, by rw [← hs], ?_, fun j c hc => ?_⟩
        · have := block_lt_of_cell (hrow 0 (by omega)).1
          unfold Addr.add at this
          simpa using this
        · rw [List.getElem?_map] at hc
          obtain ⟨r, hr, rfl⟩ := Option.map_eq_some_iff.1 hc
          have hjl : j < len := by have := (List.getElem?_eq_some_iff.1 hr).1; simpa using this
          have hrj : r = j := by have := (List.getElem?_eq_some_iff.1 hr).2; simpa using this.symm
          subst hrj
          obtain ⟨h1, h2, h3, h4, h5, h6, h7⟩ := hrow r (by omega)
          rw [add_at hs] at h1
          have hlen : ((Z r).take (L r)).length = L r := by rw [List.length_take]; omega
          refine ⟨A r, C r, by rw [hlen]; exact h1, ints_of_cells h2 h4 h6 (fun a' ha c hc => (h7 a' ha).2 c hc), ?_⟩
          rw [hlen]; simp only [maxLen] at h3; omega
    · intro x hx y hy
      obtain ⟨r, hr, rfl⟩ := List.mem_map.1 hx
      have hrl := List.mem_range.1 hr
      exact (hrow r (by omega)).2.2.2.2.1 y (List.mem_of_mem_take hy)
theorem open_ints_w {fuel : Nat} {a : Option Addr} {len cap : Nat} {x : DataW H × List MemPlace} (h : DataW.trod enc Try.prog w base (fun _ => true) held fuel 35 (Value.slice a len cap).cells.toList = some x) :
    ∃ l : List Int, len = l.length ∧ IntsAt w a l ∧ l.length ≤ 9223372036854775807 ∧ ∀ y ∈ l, (Lit.int .i64 y).wf = true := by
  rcases open_ints Try.underlying35 Try.underlying3 (by kernel_rfl) h with ⟨hcs, _⟩ | ⟨a', len', cap', zs, hcs, _, hl, hm, hz, _, hcell, hwz⟩
  · simp [Value.cells] at hcs
    obtain ⟨rfl, rfl, rfl⟩ := hcs
    exact ⟨[], rfl, .inl rfl, by simp, by simp⟩
  · simp [Value.cells] at hcs
    obtain ⟨rfl, rfl, rfl⟩ := hcs
    have hz : zs.length = cap := by simpa using hz
    refine ⟨zs.take len, by rw [List.length_take]; omega, ?_, by rw [List.length_take]; simp only [maxLen] at hm; omega, fun y hy => hwz y (List.mem_of_mem_take hy)⟩
    exact ints_of_cells hl hz (fun h => by cases h) (fun a'' ha c hc => by cases ha; exact hcell c (by omega))
theorem open_model {fuel : Nat} {a : Option Addr} {len cap : Nat} {x : DataW H × List MemPlace} (h : DataW.trod enc Try.prog w base (fun _ => true) held fuel 25 (Value.slice a len cap).cells.toList = some x) :
    ∃ m : List Bool, len = m.length ∧ BoolsAt w a m ∧ m.length ≤ 9223372036854775807 := by
  rcases Go.Deep.open_bools Try.underlying25 Try.underlying4 (by kernel_rfl) h with ⟨hcs, _⟩ | ⟨a', len', cap', B, hcs, _, hl, hm, _, hcell⟩
  · simp [Value.cells] at hcs
    obtain ⟨rfl, rfl, rfl⟩ := hcs
    exact ⟨[], rfl, .inl rfl, by simp⟩
  · simp [Value.cells] at hcs
    obtain ⟨rfl, rfl, rfl⟩ := hcs
    refine ⟨(List.range len).map B, by simp, ?_, by simp only [maxLen] at hm; simp; omega⟩
    rcases Nat.eq_zero_or_pos len with h0 | h0
    · subst h0; exact .inl rfl
    · have hs := spot_none (a := a') (by have := hcell 0 (by omega); unfold Addr.add at this; simpa using this)
      refine .inr ⟨a'.block, a'.off, by rw [← hs], ?_, fun j c hc => ?_⟩
      · have := block_lt_of_cell (hcell 0 (by omega))
        unfold Addr.add at this
        simpa using this
      · rw [List.getElem?_map] at hc
        obtain ⟨r, hr, rfl⟩ := Option.map_eq_some_iff.1 hc
        have hjl : j < len := by have := (List.getElem?_eq_some_iff.1 hr).1; simpa using this
        have hrj : r = j := by have := (List.getElem?_eq_some_iff.1 hr).2; simpa using this.symm
        subst hrj
        have := hcell r (by omega)
        rw [add_at hs] at this
        exact this
end
theorem wf_bounds {n : Int} (h : (Lit.int .i64 n).wf = true) : -9223372036854775808 ≤ n ∧ n ≤ 9223372036854775807 := by
  simp [Lit.wf, IntKind.min, IntKind.max, IntKind.bits, IntKind.signed] at h
  omega
end Go.Proofs.Ytfmoldfajmfieaa
