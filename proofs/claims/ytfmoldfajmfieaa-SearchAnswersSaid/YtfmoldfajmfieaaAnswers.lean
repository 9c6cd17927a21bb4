/-
  What a search answers: the walk.
-/
import Derived.Test.YtfmoldfajmfieaaCounter
import Derived.Test.YtfmoldfajmfieaaProofs
namespace Go.Proofs.Ytfmoldfajmfieaa
open Go.RowKit
theorem small_wrap (n : Nat) (h : (n : Int) ≤ 1048576) : wrap64 ((n : Int) + 1) = (n : Int) + 1 ∧ IntKind.i64.wrap ((n : Int) + 1) = (n : Int) + 1 ∧ n + 1 ≤ 9223372036854775807 := by
  refine ⟨by unfold wrap64; omega, by rw [IntKind.wrap_i64]; omega, by omega⟩
theorem small_most {l : List (List Int)} {a b c : Int} (h : smallOf l a b c = true) (hok : okAll l = true) : mostOf l ≤ c := by
  unfold smallOf at h
  rw [hok] at h
  simp only [Bool.and_eq_true, decide_eq_true_eq, Bool.not_true, Bool.false_or] at h
  exact h.2
set_option maxHeartbeats 4000000 in
set_option maxRecDepth 100000 in
theorem answers3 (w : World) (a : Option Addr) (l : List (List Int)) (c : Nat) (h : ClsAt w a l) (hn : l.length ≤ 9223372036854775807) (_hw : ∀ x ∈ l, ∀ y ∈ x, -9223372036854775808 ≤ y ∧ y ≤ 9223372036854775807)
    (tries : Int) (ht : -9223372036854775808 ≤ tries ∧ tries ≤ 9223372036854775807) :
    Calls Try.prog 3 #[.slice a l.length c, .int .i64 tries] w fun e w' => e = .returned (.bool true) ∧ Below w.heap.size w w' := by
  go_enter Try.func3, Try.ntmps3
  go_wp2_with fail
  refine (awake9 w).mono ?_
  rintro e w1 ⟨rfl, b1⟩
  have h1 := h.below b1
  cases hs : smallOf l 120 12 40 with
  | false =>
    have HS := Lib.hid hs
    clear hs
    go_wp2_with (go_at_call 10; refine (few10 _ a l c h1 hn).mono ?_; rw [HS.out]; rintro e w2 ⟨rfl, rfl⟩)
    go_ret
    exact ⟨rfl, b1⟩
  | true =>
    have HS := Lib.hid hs
    clear hs
    by_cases htr : 1000 < tries
    · go_wp2_with fail
      refine (few10 _ a l c h1 hn).mono ?_
      rw [HS.out]
      rintro e w2 ⟨rfl, rfl⟩
      go_wp2_with fail
      go_ret
      exact ⟨rfl, b1⟩
    · obtain ⟨hl1, hl2⟩ := small_len HS.out
      obtain ⟨an, er, hP, hC⟩ := solve_any l (by omega) (fun x hx => by have := hl2 x hx; omega) tries ht
      have HL2 := Lib.hid hl2
      have HC := Lib.hid hC
      have HP := Lib.hid hP
      obtain ⟨q1, q2⟩ := hP.tries (by omega)
      clear hl2 hC hP
      go_wp2_with fail
      refine (few10 _ a l c h1 hn).mono ?_
      rw [HS.out]
      rintro e w2 ⟨rfl, rfl⟩
      go_wp2_with fail
      refine (HC.out w2 a c h1).mono ?_
      rintro e w3 ⟨v, rfl, b3, A3⟩
      obtain ⟨am, cm, ap, cp, rfl, hB3, hp3, hcap⟩ := A3.proofAt
      have b3' := b1.trans (b3.mono b1.size)
      go_wp2_with fail
      have b4 : Below w3.heap.size w3 (w3.alloc (.cells #[.int .i64 an.is_, .int .i64 an.tries, .slice am an.model.length cm, .slice ap an.proof.length cp] 27)) := (Below.refl _ _).alloc (Nat.le_refl _) _
      have t4 := heap_alloc_new w3 (.cells #[.int .i64 an.is_, .int .i64 an.tries, .slice am an.model.length cm, .slice ap an.proof.length cp] 27)
      generalize w3.alloc (.cells #[.int .i64 an.is_, .int .i64 an.tries, .slice am an.model.length cm, .slice ap an.proof.length cp] 27) = w4 at *
      have B4 := b3'.trans (b4.mono b3'.size)
      have h4 := h.below B4
      have hB4 := hB3.below b4
      have hp4 := hp3.below b4
      generalize w3.heap.size = T at *
      clear A3 b3' hB3 hp3 b3 h1 b1 b4
      refine (right12 w4 a l c h4 hn).mono ?_
      rintro e w5 ⟨rfl, rfl⟩
      have htl := heap_lt t4
      have f0 : w5.cell? ⟨T, 0, none⟩ = some (.int .i64 an.is_) := cell_of_row _ _ 0 _ 27 (0, 0) t4
      have f1 : w5.cell? ⟨T, 1, none⟩ = some (.int .i64 an.tries) := cell_of_row _ _ 1 _ 27 (0, 0) t4
      have f2 : w5.cell? ⟨T, 2, none⟩ = some (.slice am an.model.length cm) := cell_of_row _ _ 2 _ 27 (0, 0) t4
      have f3 : w5.cell? ⟨T, 3, none⟩ = some (.slice ap an.proof.length cp) := cell_of_row _ _ 3 _ 27 (0, 0) t4
      have HPA := Lib.hid (And.intro hp4 hcap)
      clear t4 hp4 hcap
      rcases HP.out with ⟨hok, rfl, n, hnm, hR, _⟩ | ⟨hok, rfl, rfl⟩
      · rw [hok]
        have HOK := Lib.hid hok
        have HNM := Lib.hid hnm
        have HR := Lib.hid hR
        obtain ⟨k1, k2⟩ := mostOf_le hok
        have hT : max 0 (min tries 65536) = max tries 0 := by omega
        have q3 : an.tries ≤ max tries 0 := by have := hR.t1; omega
        rcases hR.res with ⟨his, hml, hM, hpr⟩ | ⟨his, hml, hPr, p, hpp⟩ | ⟨his, hat, hml, hpr⟩
        · rw [his] at f0
          rw [hml] at f2
          rw [hpr] at f3
          have g2 := fun u : Bel w5 => u.cell f2 htl
          have g3 := fun u : Bel w5 => u.cell f3 htl
          obtain ⟨hwr, hwr2, hml2⟩ := small_wrap n (by rw [← hnm]; exact k2)
          rw [← hml] at hml2
          have H13 : ∀ u : Bel w5, Calls Try.prog 13 #[.slice a l.length c] u.1 fun e w' => e = .returned (.int .i64 n) ∧ w' = u.1 := fun u => by
            have := most13 u.1 a l c (h4.below u.2) hn hok
            rwa [hnm] at this
          have H14 : ∀ u : Bel w5, Calls Try.prog 14 #[.slice a l.length c, .slice am (n + 1) cm] u.1 fun e w' => e = .returned (.bool true) ∧ w' = u.1 := fun u => by
            have := holds14 u.1 a l c am an.model cm (h4.below u.2) hn (hB4.below u.2) hml2
            rwa [hml, holdsOf_iff.2 ⟨hok, hM⟩] at this
          clear hnm hR hok HP HC hM HR HNM
          go_wp2_with fail
          refine region_quiet (by kernel_rfl) (by kernel_rfl) ?_
          repeat (first | go_big_quiet_step (first | exact quiet_same (H13 _) | exact quiet_same (H14 _)) | quiet_step (first | exact quiet_same (H13 _) | exact quiet_same (H14 _)))
          refine wpQuiet_nil ?_
          rintro w' ⟨u, rfl⟩
          go_wp2_with fail
          go_ret
          exact ⟨rfl, B4.trans (u.2.mono B4.size)⟩
        · rw [his] at f0
          rw [hml] at f2
          have hH : Hid (Calls Try.prog 15 #[.slice a l.length c, .slice ap an.proof.length cp] w5 fun e w' => e = .returned (.bool true) ∧ Below w5.heap.size w5 w') := Lib.hid (by
            have hlen := hR.len
            have hokp : ∀ x ∈ an.proof, (∀ y ∈ x, okLit y = true) ∧ x.length ≤ 1000000 := fun x hx => by
              obtain ⟨i, hi⟩ := List.mem_iff_getElem?.1 hx
              obtain ⟨_, h2, h3⟩ := hPr i x hi
              have hn40 : (n : Int) ≤ 40 := by rw [← hnm]; exact small_most HS.out hok
              clear q3 hT hlen k1 k2 q1 q2 his f0 f1 f2 f3
              refine ⟨fun y hy => ?_, ?_⟩
              · have := h2 y hy
                unfold IsLit at this
                unfold okLit
                simp
                omega
              · omega
            refine proof15 w5 a l c h4 (by omega) hok (fun x hx => by have := HL2.out x hx; omega) ap an.proof cp HPA.out.1 (by omega) HPA.out.2 ?_ (fun x hx => (hokp x hx).2) (fun i d hd => (hPr i d hd).1) p hpp
            unfold okAll
            rw [List.all_eq_true]
            intro x hx
            rw [List.all_eq_true]
            exact (hokp x hx).1)
          clear hnm hR hok HP HC hPr hpp HR HNM
          go_wp2_with fail
          refine hH.out.mono ?_
          rintro e w6 ⟨rfl, b6⟩
          go_wp2_with fail
          go_ret
          exact ⟨rfl, B4.trans (b6.mono B4.size)⟩
        · rw [his] at f0
          rw [hml] at f2
          rw [hpr] at f3
          have hat' : an.tries = max tries 0 := by rw [hat, hT]
          clear hnm hR hok HP HC HR HNM
          go_wp2_with fail
          go_ret
          exact ⟨rfl, B4⟩
      · rw [hok]
        clear hok HP HC
        go_wp2_with fail
        go_ret
        exact ⟨rfl, B4⟩
end Go.Proofs.Ytfmoldfajmfieaa
