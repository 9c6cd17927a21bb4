/-
  The statement SearchModels, as a walk: of clauses that have a model it is never told that they have none.
-/
import Derived.Test.YtfmoldfajmfieaaAwake
namespace Go.Proofs.Ytfmoldfajmfieaa
open Go.RowKit
theorem small_len {l : List (List Int)} {a b c : Int} (h : smallOf l a b c = true) : (l.length : Int) ≤ a ∧ ∀ x ∈ l, (x.length : Int) ≤ b := by
  unfold smallOf at h
  simp only [Bool.and_eq_true, decide_eq_true_eq, List.all_eq_true] at h
  exact ⟨h.1.1, h.1.2⟩
set_option maxHeartbeats 4000000 in
set_option maxRecDepth 100000 in
theorem models6 (w : World) (a : Option Addr) (l : List (List Int)) (c : Nat) (h : ClsAt w a l) (hn : l.length ≤ 9223372036854775807) (am : Option Addr) (m : List Bool) (cm : Nat) (hm : BoolsAt w am m) (hmn : m.length ≤ 9223372036854775807) (tries : Int) (ht : -9223372036854775808 ≤ tries ∧ tries ≤ 9223372036854775807) :
    Calls Try.prog 6 #[.slice a l.length c, .slice am m.length cm, .int .i64 tries] w fun e w' => e = .returned (.bool true) ∧ Below w.heap.size w w' := by
  go_enter Try.func6, Try.ntmps6
  go_wp2_with fail
  refine (awake9 w).mono ?_
  rintro e w1 ⟨rfl, b1⟩
  have h1 := h.below b1
  have hm1 := hm.below b1
  cases hs : smallOf l 120 12 40 with
  | false =>
    have HS := Lib.hid hs
    clear hs
    go_wp2_with (go_at_call 10; refine (few10 _ a l c h1 hn).mono ?_; rw [HS.out]; rintro e w2 ⟨rfl, rfl⟩)
    go_ret
    exact ⟨rfl, b1⟩
  | true =>
    have HS := Lib.hid hs
    clear hs
    by_cases hml : 100 < m.length
    · go_wp2_with (go_at_call 10; refine (few10 _ a l c h1 hn).mono ?_; rw [HS.out]; rintro e w2 ⟨rfl, rfl⟩)
      go_ret
      exact ⟨rfl, b1⟩
    · by_cases htr : 1000 < tries
      · go_wp2_with (go_at_call 10; refine (few10 _ a l c h1 hn).mono ?_; rw [HS.out]; rintro e w2 ⟨rfl, rfl⟩)
        go_ret
        exact ⟨rfl, b1⟩
      · cases hh : holdsOf l m with
        | false =>
          have HH := Lib.hid hh
          clear hh
          go_wp2_with (first | (go_at_call 10; refine (few10 _ a l c h1 hn).mono ?_; rw [HS.out]; rintro e w2 ⟨rfl, rfl⟩) | (go_at_call 19; refine (holds19 _ a l c am m cm h1 hn hm1 hmn).mono ?_; rw [HH.out]; rintro e w2 ⟨rfl, b2⟩))
          go_ret
          exact ⟨rfl, b1.trans (b2.mono b1.size)⟩
        | true =>
          have HH := Lib.hid hh
          obtain ⟨hok, hM⟩ := holdsOf_iff.1 hh
          obtain ⟨hl1, hl2⟩ := small_len HS.out
          obtain ⟨mm, n, f, an, hnm, hsv, hR, _⟩ := solve_says hok (by omega) tries
          have hne : (an.is_ != 2) = true := by
            rcases hR.res with ⟨h, _⟩ | ⟨_, _, hP, q, hq⟩ | ⟨h, _⟩
            · simp [h]
            · exact absurd hM (no_model (ne_zero_of hok) hP hq)
            · simp [h]
          have HOK := Lib.hid hok
          have HNM := Lib.hid hnm
          have HSV := Lib.hid hsv
          have HL2 := Lib.hid hl2
          have hl3 : l.length ≤ 1099511627776 := by omega
          clear hh hok hM hl1 hl2 hnm hsv hR
          go_wp2_with (first | (go_at_call 10; refine (few10 _ a l c h1 hn).mono ?_; rw [HS.out]; rintro e w2 ⟨rfl, rfl⟩) | (go_at_call 19; refine (holds19 _ a l c am m cm h1 hn hm1 hmn).mono ?_; rw [HH.out]; rintro e w2 ⟨rfl, b2⟩))
          have h2 := h1.below b2
          refine (solve11_ok _ a l c tries h2 hl3 (fun x hx => by have := HL2.out x hx; omega) HOK.out mm n f HNM.out an HSV.out ht).mono ?_
          rintro e w3 ⟨v3, rfl, b3, A3⟩
          obtain ⟨a3, c3, p3, d3, rfl, _⟩ := A3.parts
          have B3 := b1.trans ((b2.mono b1.size).trans (b3.mono (Nat.le_trans b1.size b2.size)))
          clear A3
          go_wp2_with fail
          go_ret
          exact ⟨rfl, B3.alloc B3.size _⟩
end Go.Proofs.Ytfmoldfajmfieaa
