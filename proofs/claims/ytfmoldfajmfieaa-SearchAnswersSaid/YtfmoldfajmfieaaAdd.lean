/-
  A clause is added at the lowest level.
-/
import Derived.Test.YtfmoldfajmfieaaHas
namespace Go.Proofs.Ytfmoldfajmfieaa
open Go.RowKit
/-- A clause at the lowest level. -/
def Sol.add (S : Sol) (c : List Int) : Option (Sol × Bool) :=
  if ∀ x ∈ c, -1099511627776 < x ∧ x < 1099511627776 then
    if taut c = true then some (S, true) else
    match c with
    | [] => some (S, false)
    | [x] => S.hold x (-1)
    | c => (S.keep c).map fun p => (p.1, true)
  else none
theorem add_some {S S' : Sol} {c : List Int} {r : Bool} (h : S.add c = some (S', r)) : (∀ x ∈ c, -1099511627776 < x ∧ x < 1099511627776) ∧
    (taut c = true ∧ S' = S ∧ r = true ∨ taut c = false ∧ c = [] ∧ S' = S ∧ r = false ∨ taut c = false ∧ (∃ x, c = [x] ∧ S.hold x (-1) = some (S', r)) ∨ taut c = false ∧ 2 ≤ c.length ∧ r = true ∧ ∃ k, S.keep c = some (S', k)) := by
  unfold Sol.add at h
  split at h
  · next hx =>
    refine ⟨hx, ?_⟩
    cases ht : taut c with
    | true => rw [ht] at h; simp at h; exact .inl ⟨rfl, h.1.symm, h.2⟩
    | false =>
      rw [ht] at h
      simp only [Bool.false_eq_true, if_false] at h
      match c, h with
      | [], h => simp at h; exact .inr (.inl ⟨rfl, rfl, h.1.symm, h.2⟩)
      | [x], h => exact .inr (.inr (.inl ⟨rfl, x, rfl, h⟩))
      | x :: y :: r, h =>
        rw [Option.map_eq_some_iff] at h
        obtain ⟨⟨S2, k⟩, h1, h2⟩ := h
        simp only [Prod.mk.injEq] at h2
        obtain ⟨rfl, h2⟩ := h2
        exact .inr (.inr (.inr ⟨rfl, by simp, h2.symm, k, h1⟩))
  · cases h

set_option maxHeartbeats 1000000 in
theorem add43 {B : Nat} {w : World} {ρ : Nat → Option Role} {b : Nat} {S S' : Sol} {V : Vals} (hRep : Rep B w ρ b S V) {gc : Option Nat} {v : Value} {c : List Int} {r : Bool}
    (hc : RowG w 3 1 v c.length (c.map vI) gc) (hrc : ∀ k, gc = some k → ρ k = some (.K S.cls.length)) (ha : S.add c = some (S', r)) :
    Calls Try.prog 43 #[.pointer (some ⟨b, 0, none⟩), v] w fun e w' => e = .returned (.bool r) ∧ StepTo B w ρ b S' w' := by
  obtain ⟨hx, hcase⟩ := add_some ha
  obtain ⟨a, cc, rfl, hcc, hga⟩ := hc.val
  have hI : IntsAt w a c := IntsAt.of_row hc rfl
  have hsz := hc.size_le
  unfold maxLen at hsz
  have hb0 : Below w.heap.size w (w.alloc (.cells #[.slice a c.length cc] 35)) := (Below.refl _ _).alloc (Nat.le_refl _) _
  have r0 := hRep.below hb0
  have hI0 := hI.below hb0
  have hg0 : (w.alloc (.cells #[.slice a c.length cc] 35)).cell? ⟨w.heap.size, 0, none⟩ = some (.slice a c.length cc) := cell_of_row _ _ 0 _ 35 (0, 0) (heap_alloc_new w _)
  have hc0 : RowG (w.alloc (.cells #[.slice a c.length cc] 35)) 3 1 (.slice a c.length cc) c.length (c.map vI) gc := hc.same fun k e => hb0.block k (by subst e; exact hc.lt)
  rcases hcase with ⟨ht, rfl, rfl⟩ | ⟨ht, rfl, rfl, rfl⟩ | ⟨ht, x, rfl, hh⟩ | ⟨ht, h2, rfl, k, hk⟩
  · have HT := Lib.hid ht
    clear ht
    go_enter Try.func43, Try.ntmps43
    go_wp2_with (go_at_call 34; refine (containsFunc34_58 _ w.heap.size a c cc hx hg0 hI0 hsz).mono ?_; rw [HT.out]; rintro e w' ⟨rfl, rfl⟩)
    go_ret
    exact ⟨rfl, .of r0.1 r0.2⟩
  · have HT := Lib.hid ht
    clear ht
    go_enter Try.func43, Try.ntmps43
    go_wp2_with (go_at_call 34; refine (containsFunc34_58 _ w.heap.size a _ cc hx hg0 hI0 hsz).mono ?_; rw [HT.out]; rintro e w' ⟨rfl, rfl⟩)
    go_ret
    exact ⟨rfl, .of r0.1 r0.2⟩
  · have HT := Lib.hid ht
    clear ht
    have hx1 : ∃ g, a = some ⟨g, 0, none⟩ ∧ (w.alloc (.cells #[.slice a 1 cc] 35)).cell? ⟨g, 0, none⟩ = some (.int .i64 x) := by
      obtain ⟨g, hg⟩ := hc.some_of_pos (by simp)
      subst hg
      exact ⟨g, hga g rfl, hc0.cellAt rfl⟩
    obtain ⟨g, rfl, hcx⟩ := hx1
    go_enter Try.func43, Try.ntmps43
    go_wp2_with (first | (go_at_call 34; refine (containsFunc34_58 _ w.heap.size _ _ cc hx hg0 hI0 hsz).mono ?_; rw [HT.out]; rintro e w' ⟨rfl, rfl⟩) | (go_at_call 49; refine (hold49 r0.1 x (-1) r hh).mono ?_; rintro e w2 ⟨rfl, hst⟩))
    go_ret
    obtain ⟨ρ2, V2, r2, p2⟩ := hst
    exact ⟨rfl, .of r2 (r0.2.trans p2)⟩
  · have HT := Lib.hid ht
    clear ht
    obtain ⟨g, hg⟩ := hc.some_of_pos (by omega)
    subst hg
    obtain rfl := hga g rfl
    have hn0 : ((c.length : Int) == 0) = false := by simp; intro h; rw [h] at h2; simp at h2
    have hn1 : ((c.length : Int) == 1) = false := by simp; omega
    go_enter Try.func43, Try.ntmps43
    go_wp2_with (first | (go_at_call 34; refine (containsFunc34_58 _ w.heap.size _ _ cc hx hg0 hI0 hsz).mono ?_; rw [HT.out]; rintro e w' ⟨rfl, rfl⟩) | (go_at_call 60; refine (keep60 r0.1 hc0 (hrc g rfl) hk).mono ?_; rintro e w2 ⟨rfl, hst⟩))
    go_ret
    obtain ⟨ρ2, V2, r2, p2⟩ := hst
    exact ⟨rfl, .of r2 (r0.2.trans p2)⟩
end Go.Proofs.Ytfmoldfajmfieaa
