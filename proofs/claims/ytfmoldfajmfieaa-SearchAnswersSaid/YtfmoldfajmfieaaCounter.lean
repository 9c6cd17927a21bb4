/-
  A counter of tries: the walks.
-/
import Derived.Test.YtfmoldfajmfieaaModels
import Derived.Test.YtfmoldfajmfieaaHoldsR
import Derived.Laws.LoneSync
namespace Go.Proofs.Ytfmoldfajmfieaa
open Go.RowKit Go.Maps
theorem add32 (w : World) (g : Nat) (x d : Int) (h : w.cell? ⟨g, 0, none⟩ = some (.int .i64 x)) (hf : w.frozen? ⟨g, 0, none⟩ = false) (hb : 0 ≤ x ∧ x ≤ 1000000 ∧ 0 ≤ d ∧ d ≤ 1000000) :
    Calls Try.prog 32 #[.pointer (some ⟨g, 0, none⟩), .int .i64 d] w fun e w' => e = .returned (.int .i64 (x + d)) ∧ w' = w.setCell ⟨g, 0, none⟩ (.int .i64 (x + d)) := by
  have hw : wrap64 (x + d) = x + d := by unfold wrap64; omega
  have hadd := run_call_add (P := Try.prog) Try.func52 (by kernel_rfl) (by kernel_rfl) (by kernel_rfl) .i64 (by kernel_rfl) (y := d) (s := x + d) h hf (by simp [go_sem]; rw [IntKind.wrap_i64]; omega)
  go_enter Try.func32, Try.ntmps32
  go_wp2
  go_ret
  exact ⟨rfl, rfl⟩
theorem load33 (w : World) (g : Nat) (x : Int) (h : w.cell? ⟨g, 0, none⟩ = some (.int .i64 x)) :
    Calls Try.prog 33 #[.pointer (some ⟨g, 0, none⟩)] w fun e w' => e = .returned (.int .i64 x) ∧ w' = w := by
  have hl := run_call_load (P := Try.prog) Try.func53 (by kernel_rfl) (by kernel_rfl) (by kernel_rfl) .i64 (by kernel_rfl) h
  go_enter Try.func33, Try.ntmps33
  go_wp2
  go_ret
  exact ⟨rfl, rfl⟩
theorem tries18 (w : World) (g : Nat) (x : Int) (h : w.cell? ⟨g, 0, none⟩ = some (.int .i64 x)) :
    Calls Try.prog 18 #[.pointer (some ⟨g, 0, none⟩)] w fun e w' => e = .returned (.int .i64 x) ∧ w' = w := by
  go_enter Try.func18, Try.ntmps18
  go_wp2_with (refine (load33 w g x h).mono ?_; rintro e w' ⟨rfl, rfl⟩)
  go_ret
  exact ⟨rfl, rfl⟩
/-- What a search answers, be the clauses right or not. -/
def SolveP (l : List (List Int)) (tries : Int) (an : Ans) (er : Int) : Prop :=
  (okAll l = true ∧ er = 0 ∧ ∃ n : Nat, mostOf l = n ∧ Right n l 0 (max 0 (min tries 65536)) an ∧ ∀ N, Count n (usedB l) N → an.is_ = 0 → max 0 (min tries 65536) < 3 ^ N) ∨ (okAll l = false ∧ er = 3 ∧ an = ⟨0, 0, [], []⟩)
theorem solve_any (l : List (List Int)) (hn : l.length ≤ 1000) (hl : ∀ x ∈ l, x.length ≤ 1000) (tries : Int) (ht : -9223372036854775808 ≤ tries ∧ tries ≤ 9223372036854775807) : ∃ an er, SolveP l tries an er ∧ ∀ (w : World) (a : Option Addr) (c : Nat), ClsAt w a l →
    Calls Try.prog 11 #[.slice a l.length c, .int .i64 tries] w fun e w' => ∃ v, e = .returned (.tuple #[v, .int .i64 er]) ∧ Below w.heap.size w w' ∧ AnsAt w.heap.size w' v an := by
  cases hok : okAll l with
  | true =>
    obtain ⟨m, n, f, an, hnm, hsv, hR, hN⟩ := solve_says hok (by omega) tries
    refine ⟨an, 0, .inl ⟨hok, rfl, n, hnm, hR, hN⟩, fun w a c h => solve11_ok w a l c tries h (by omega) (fun x hx => by have := hl x hx; omega) hok m n f hnm an hsv ht⟩
  | false =>
    refine ⟨⟨0, 0, [], []⟩, 3, .inr ⟨hok, rfl, rfl⟩, fun w a c h => (solve11_bad w a l c tries h (by omega) hok).mono ?_⟩
    rintro e w' ⟨rfl, hb⟩
    exact ⟨_, rfl, hb, _, _, rfl, ⟨none, ⟨⟨_, rfl⟩, rfl, rfl⟩, fun _ h => (by cases h)⟩, [], none, ⟨⟨_, rfl⟩, rfl, rfl⟩, fun _ h => (by cases h), rfl, fun k u l h => (by simp at h)⟩
theorem SolveP.tries {l : List (List Int)} {tries : Int} {an : Ans} {er : Int} (h : SolveP l tries an er) (_ht : tries ≤ 100000) : 0 ≤ an.tries ∧ an.tries ≤ 100000 := by
  rcases h with ⟨_, _, n, _, hR, _⟩ | ⟨_, _, rfl⟩
  · have := hR.t0; have := hR.t1; omega
  · exact ⟨Int.le_refl _, by decide⟩
theorem enter32 : ∀ args w, (callFunc 32 args).run Try.prog w = .ok (.enter 32 args) w := fun _ _ => by go_simp
set_option maxHeartbeats 4000000 in
set_option maxRecDepth 100000 in
theorem count17 (w : World) (g : Nat) (x : Int) (cs : Array Value) (hg : w.heap[g]? = some (.cells cs 44 (0, 0))) (hcs : cs[0]? = some (.int .i64 x)) (hx : 0 ≤ x ∧ x ≤ 500000) (a : Option Addr) (l : List (List Int)) (c : Nat) (h : ClsAt w a l) (tries : Int) (ht : tries ≤ 100000) (an : Ans) (er : Int) (hP : SolveP l tries an er)
    (hC : ∀ (w : World) (a : Option Addr) (c : Nat), ClsAt w a l → Calls Try.prog 11 #[.slice a l.length c, .int .i64 tries] w fun e w' => ∃ v, e = .returned (.tuple #[v, .int .i64 er]) ∧ Below w.heap.size w w' ∧ AnsAt w.heap.size w' v an) :
    Calls Try.prog 17 #[.pointer (some ⟨g, 0, none⟩), .slice a l.length c, .int .i64 tries] w fun e w' => ∃ v, e = .returned (.tuple #[v, .int .i64 er]) ∧ AnsAt w.heap.size w' v an ∧ w'.heap[g]? = some (.cells (cs.setIfInBounds 0 (.int .i64 (x + an.tries))) 44 (0, 0)) ∧ Keep (fun k => k = g ∨ w.heap.size ≤ k) w w' := by
  obtain ⟨ht0, ht1⟩ := hP.tries ht
  have HC := Lib.hid hC
  clear hC hP
  go_enter Try.func17, Try.ntmps17
  go_wp2_with fail
  have hb1 : Below w.heap.size w (w.alloc (.cells #[.int .i64 0, .int .i64 0, .slice none 0 0, .slice none 0 0] 27)) := (Below.refl _ _).alloc (Nat.le_refl _) _
  have hc1 := heap_alloc_new w (.cells #[.int .i64 0, .int .i64 0, .slice none 0 0, .slice none 0 0] 27)
  refine (HC.out _ a c (h.below hb1)).mono ?_
  rintro e w2 ⟨v, rfl, b2, A2⟩
  obtain ⟨a2, c2, p2, d2, rfl, _⟩ := A2.parts
  have hgl := heap_lt hg
  have hg2 : w2.heap[g]? = some (.cells cs 44 (0, 0)) := by rw [b2.block g (by simp; omega), hb1.block g hgl]; exact hg
  have hr2 : w2.heap[w.heap.size]? = some (.cells #[.int .i64 0, .int .i64 0, .slice none 0 0, .slice none 0 0] 27 (0, 0)) := by rw [b2.block _ (by simp)]; exact hc1
  have B2 : Below w.heap.size w w2 := hb1.trans (b2.mono (by simp))
  have hs2 : w.heap.size + 1 ≤ w2.heap.size := by have := b2.size; simpa using this
  have hA2 : AnsAt (w.heap.size + 1) w2 (.agg #[.int .i64 an.is_, .int .i64 an.tries, .slice a2 an.model.length c2, .slice p2 an.proof.length d2]) an := by simpa using A2
  clear b2 hc1 hb1 A2
  go_wp2_with fail
  have hb3 : Below w2.heap.size w2 (w2.alloc (.cells #[.int .i64 an.is_, .int .i64 an.tries, .slice a2 an.model.length c2, .slice p2 an.proof.length d2] 27)) := (Below.refl _ _).alloc (Nat.le_refl _) _
  have hT3 := heap_alloc_new w2 (.cells #[.int .i64 an.is_, .int .i64 an.tries, .slice a2 an.model.length c2, .slice p2 an.proof.length d2] 27)
  generalize hw3 : w2.alloc (.cells #[.int .i64 an.is_, .int .i64 an.tries, .slice a2 an.model.length c2, .slice p2 an.proof.length d2] 27) = w3 at *
  have hg3 : w3.heap[g]? = some (.cells cs 44 (0, 0)) := by rw [hb3.block g (by omega)]; exact hg2
  have hr3 : w3.heap[w.heap.size]? = some (.cells #[.int .i64 0, .int .i64 0, .slice none 0 0, .slice none 0 0] 27 (0, 0)) := by rw [hb3.block _ (by omega)]; exact hr2
  have hs3 : w3.heap.size = w2.heap.size + 1 := by rw [← hw3]; simp
  have B3 : Below w.heap.size w w3 := B2.trans (hb3.mono (by omega))
  have hA3 := hA2.below (Keep.of_below (D := fun _ => False) hb3) (fun k _ f => f.elim)
  generalize w2.heap.size = T8 at *
  generalize hR : w.heap.size = R at *
  clear hw3 hb3 B2 hg2 hr2 hA2 h
  have hd : Keep (fun k => k = g) w3 (w3.drew.setCell ⟨g, 0, none⟩ (.int .i64 (x + an.tries))) := Keep.trans (b := w3.drew) (Keep.drew _ w3) (Keep.setCell (D := fun k => k = g) w3.drew ⟨g, 0, none⟩ _ rfl)
  have hg4 : (w3.drew.setCell ⟨g, 0, none⟩ (.int .i64 (x + an.tries))).heap[g]? = some (.cells (cs.setIfInBounds 0 (.int .i64 (x + an.tries))) 44 (0, 0)) := setCell_heap (w := w3.drew) hg3 _
  have H32 : Calls Try.prog 32 #[.pointer (some ⟨g, 0, none⟩), .int .i64 an.tries] w3.drew fun e w' => ∃ v, e = .returned v ∧ v = .int .i64 (x + an.tries) ∧ w' = w3.drew.setCell ⟨g, 0, none⟩ (.int .i64 (x + an.tries)) := by
    refine (add32 w3.drew g x an.tries ?_ ?_ (by omega)).mono ?_
    · rw [cell_of_row w3.drew g 0 cs 44 (0, 0) hg3]; exact hcs
    · have hg3d : w3.drew.heap[g]? = some (.cells cs 44 (0, 0)) := hg3
      unfold World.frozen?
      rw [hg3d]
      rfl
    · rintro e w' ⟨h1, h2⟩
      exact ⟨_, h1, rfl, h2⟩
  generalize hw4 : w3.drew.setCell ⟨g, 0, none⟩ (.int .i64 (x + an.tries)) = w4 at *
  have hT4 : w4.heap[T8]? = some (.cells #[.int .i64 an.is_, .int .i64 an.tries, .slice a2 an.model.length c2, .slice p2 an.proof.length d2] 27 (0, 0)) := by rw [hd.block T8 (by omega) (by omega)]; exact hT3
  have hr4 : w4.heap[R]? = some (.cells #[.int .i64 0, .int .i64 0, .slice none 0 0, .slice none 0 0] 27 (0, 0)) := by rw [hd.block R (by omega) (by omega)]; exact hr3
  have t1 : w3.cell? ⟨T8, 1, none⟩ = some (.int .i64 an.tries) := cell_of_row _ _ 1 _ 27 (0, 0) hT3
  have k0 : w4.cell? ⟨T8, 0, none⟩ = some (.int .i64 an.is_) := cell_of_row _ _ 0 _ 27 (0, 0) hT4
  have k1 : w4.cell? ⟨T8, 1, none⟩ = some (.int .i64 an.tries) := cell_of_row _ _ 1 _ 27 (0, 0) hT4
  have k2 : w4.cell? ⟨T8, 2, none⟩ = some (.slice a2 an.model.length c2) := cell_of_row _ _ 2 _ 27 (0, 0) hT4
  have k3 : w4.cell? ⟨T8, 3, none⟩ = some (.slice p2 an.proof.length d2) := cell_of_row _ _ 3 _ 27 (0, 0) hT4
  have r0 : w4.cell? ⟨R, 0, none⟩ = some (.int .i64 0) := cell_of_row _ _ 0 _ 27 (0, 0) hr4
  have r1 : w4.cell? ⟨R, 1, none⟩ = some (.int .i64 0) := cell_of_row _ _ 1 _ 27 (0, 0) hr4
  have r2 : w4.cell? ⟨R, 2, none⟩ = some (.slice none 0 0) := cell_of_row _ _ 2 _ 27 (0, 0) hr4
  have r3 : w4.cell? ⟨R, 3, none⟩ = some (.slice none 0 0) := cell_of_row _ _ 3 _ 27 (0, 0) hr4
  have f0 : ∀ o s, w4.frozen? ⟨R, o, s⟩ = false := fun o s => by simp [World.frozen?, hr4]
  have HD := Lib.hid hd
  have HG4 := Lib.hid hg4
  have HW4 := Lib.hid hw4
  clear hd hg4 hw4
  go_region_law (refine step_call rfl 32 enter32 _ _ rfl (by go_simp) H32 ?_; rintro _ w5 ⟨rfl, rfl⟩)
  all_goals
    go_wp2_with fail
    obtain ⟨w9, hw9, c9, k9⟩ := four hr4 (.int .i64 an.is_) (.int .i64 an.tries) (.slice a2 an.model.length c2) (.slice p2 an.proof.length d2)
    rw [← hw9]
    refine bodyPost_ret (results_cell_row_tmp rfl _ _ R 27 _ (0, 0) _ rfl c9 Try.underlying27 rfl (by kernel_rfl)) rfl ?_
    have hd9 : Keep (fun k => k = g ∨ k = R) w3 w9 := (HD.out.mono fun k _ e => .inl e).trans (k9.mono fun k _ e => .inr e)
    refine ⟨_, rfl, ?_, ?_, ?_⟩
    · rw [hR]
      exact (hA3.below hd9 fun k _ e => by omega).mono (by omega)
    · rw [k9.block g (heap_lt HG4.out) (by omega)]; exact HG4.out
    · rw [hR]
      exact ((Keep.of_below (D := fun k => k = g ∨ R ≤ k) (hR ▸ B3)).trans (hd9.mono fun k _ e => by omega))
set_option maxHeartbeats 4000000 in
set_option maxRecDepth 100000 in
theorem counts5 (w : World) (a : Option Addr) (l : List (List Int)) (c : Nat) (h : ClsAt w a l) (hn : l.length ≤ 9223372036854775807) (_hw : ∀ x ∈ l, ∀ y ∈ x, -9223372036854775808 ≤ y ∧ y ≤ 9223372036854775807)
    (a' : Option Addr) (l' : List (List Int)) (c' : Nat) (h' : ClsAt w a' l') (hn' : l'.length ≤ 9223372036854775807) (_hw' : ∀ x ∈ l', ∀ y ∈ x, -9223372036854775808 ≤ y ∧ y ≤ 9223372036854775807) (tries : Int) (ht : -9223372036854775808 ≤ tries ∧ tries ≤ 9223372036854775807) :
    Calls Try.prog 5 #[.slice a l.length c, .slice a' l'.length c', .int .i64 tries] w fun e w' => e = .returned (.bool true) ∧ Below w.heap.size w w' := by
  go_enter Try.func5, Try.ntmps5
  go_wp2_with fail
  refine (awake9 w).mono ?_
  rintro e w1 ⟨rfl, b1⟩
  have h1 := h.below b1
  have h1' := h'.below b1
  cases hs : smallOf l 120 12 40 with
  | false =>
    have HS := Lib.hid hs
    clear hs
    go_wp2_with (go_at_call 10; refine (few10 _ a l c h1 hn).mono ?_; rw [HS.out]; rintro e w2 ⟨rfl, rfl⟩)
    go_ret
    exact ⟨rfl, b1⟩
  | true =>
    have HS := Lib.hid hs
    clear hs
    cases hs' : smallOf l' 120 12 40 with
    | false =>
      have HS' := Lib.hid hs'
      clear hs'
      go_wp2_with fail
      refine (few10 _ a l c h1 hn).mono ?_
      rw [HS.out]
      rintro e w2 ⟨rfl, rfl⟩
      go_wp2_with fail
      refine (few10 _ a' l' c' h1' hn').mono ?_
      rw [HS'.out]
      rintro e w2 ⟨rfl, rfl⟩
      go_wp2_with fail
      go_ret
      exact ⟨rfl, b1⟩
    | true =>
      have HS' := Lib.hid hs'
      clear hs'
      by_cases htr : 1000 < tries
      · go_wp2_with fail
        refine (few10 _ a l c h1 hn).mono ?_
        rw [HS.out]
        rintro e w2 ⟨rfl, rfl⟩
        go_wp2_with fail
        refine (few10 _ a' l' c' h1' hn').mono ?_
        rw [HS'.out]
        rintro e w2 ⟨rfl, rfl⟩
        go_wp2_with fail
        go_ret
        exact ⟨rfl, b1⟩
      · obtain ⟨hl1, hl2⟩ := small_len HS.out
        obtain ⟨hl1', hl2'⟩ := small_len HS'.out
        obtain ⟨an, er, hP, hC⟩ := solve_any l (by omega) (fun x hx => by have := hl2 x hx; omega) tries ht
        obtain ⟨an', er', hP', hC'⟩ := solve_any l' (by omega) (fun x hx => by have := hl2' x hx; omega) tries ht
        have ht1 : tries ≤ 100000 := by omega
        have HC := Lib.hid hC
        have HC' := Lib.hid hC'
        have HP := Lib.hid hP
        have HP' := Lib.hid hP'
        obtain ⟨q1, q2⟩ := hP.tries ht1
        obtain ⟨q1', q2'⟩ := hP'.tries ht1
        clear hl1 hl2 hl1' hl2' hC hC' hP hP'
        go_wp2_with fail
        refine (few10 _ a l c h1 hn).mono ?_
        rw [HS.out]
        rintro e w2 ⟨rfl, rfl⟩
        go_wp2_with fail
        refine (few10 _ a' l' c' h1' hn').mono ?_
        rw [HS'.out]
        rintro e w2 ⟨rfl, rfl⟩
        go_wp2_with fail
        have bA : Below w2.heap.size w2 (w2.alloc (.cells #[.int .i64 0] 44)) := (Below.refl _ _).alloc (Nat.le_refl _) _
        have gA := heap_alloc_new w2 (.cells #[.int .i64 0] 44)
        have sA : (w2.alloc (.cells #[.int .i64 0] 44)).heap.size = w2.heap.size + 1 := by simp
        have B3 := b1.trans (bA.mono b1.size)
        generalize w2.alloc (.cells #[.int .i64 0] 44) = w3 at *
        generalize hgE : w2.heap.size = g at *
        have hwg : w.heap.size ≤ g := by rw [← hgE]; exact b1.size
        clear bA h1 h1' b1 hgE
        refine (count17 w3 g 0 _ gA rfl (by omega) a l c (h.below B3) tries ht1 an er HP.out HC.out).mono ?_
        rintro e w4 ⟨v4, rfl, A4, g4, k4⟩
        have B4 : Below w.heap.size w w4 := B3.trans (k4.below B3.size fun k _ e => by have := B3.size; omega)
        have s4 := k4.size
        have A4 : AnsAt (g + 1) w4 v4 an := A4.mono (by omega)
        obtain ⟨am, cm, ap, cp, rfl, _⟩ := A4.parts
        have g4 : w4.heap[g]? = some (.cells #[.int .i64 an.tries] 44 (0, 0)) := by rw [g4]; simp
        clear k4 gA B3
        go_wp2_with fail
        have b5 : Below w4.heap.size w4 (w4.alloc (.cells #[.int .i64 an.is_, .int .i64 an.tries, .slice am an.model.length cm, .slice ap an.proof.length cp] 27)) := (Below.refl _ _).alloc (Nat.le_refl _) _
        have t5 := heap_alloc_new w4 (.cells #[.int .i64 an.is_, .int .i64 an.tries, .slice am an.model.length cm, .slice ap an.proof.length cp] 27)
        have z5 : (w4.alloc (.cells #[.int .i64 an.is_, .int .i64 an.tries, .slice am an.model.length cm, .slice ap an.proof.length cp] 27)).heap.size = w4.heap.size + 1 := by simp
        generalize w4.alloc (.cells #[.int .i64 an.is_, .int .i64 an.tries, .slice am an.model.length cm, .slice ap an.proof.length cp] 27) = w5 at *
        have A5 := A4.below (Keep.of_below (D := fun _ => False) b5) (fun k _ f => f.elim)
        have g5 : w5.heap[g]? = some (.cells #[.int .i64 an.tries] 44 (0, 0)) := by rw [b5.block g (by omega)]; exact g4
        have B5 := B4.trans (b5.mono (by omega))
        generalize hT : w4.heap.size = T8 at *
        clear b5 A4 g4 B4
        refine (tries18 w5 g an.tries (by rw [cell_of_row w5 g 0 _ 44 (0, 0) g5]; rfl)).mono ?_
        rintro e w5 ⟨rfl, rfl⟩
        go_wp2_with fail
        refine (count17 w5 g an.tries _ g5 rfl (by omega) a' l' c' (h'.below B5) tries ht1 an' er' HP'.out HC'.out).mono ?_
        rintro e w6 ⟨v6, rfl, A6', g6, k6⟩
        have s6 := k6.size
        have B6 : Below w.heap.size w w6 := B5.trans (k6.below (by omega) fun k _ e => by omega)
        obtain ⟨am', cm', ap', cp', rfl, _⟩ := A6'.parts
        have g6 : w6.heap[g]? = some (.cells #[.int .i64 (an.tries + an'.tries)] 44 (0, 0)) := by rw [g6]; simp
        have t6 : w6.heap[T8]? = _ := (k6.block T8 (by omega) (by omega)).trans t5
        have A6 := A5.below k6 (fun k _ e => by omega)
        clear A6' k6 g5 t5 A5 B5
        go_wp2_with fail
        have b7 : Below w6.heap.size w6 (w6.alloc (.cells #[.int .i64 an'.is_, .int .i64 an'.tries, .slice am' an'.model.length cm', .slice ap' an'.proof.length cp'] 27)) := (Below.refl _ _).alloc (Nat.le_refl _) _
        have u7 := heap_alloc_new w6 (.cells #[.int .i64 an'.is_, .int .i64 an'.tries, .slice am' an'.model.length cm', .slice ap' an'.proof.length cp'] 27)
        have z7 : (w6.alloc (.cells #[.int .i64 an'.is_, .int .i64 an'.tries, .slice am' an'.model.length cm', .slice ap' an'.proof.length cp'] 27)).heap.size = w6.heap.size + 1 := by simp
        generalize w6.alloc (.cells #[.int .i64 an'.is_, .int .i64 an'.tries, .slice am' an'.model.length cm', .slice ap' an'.proof.length cp'] 27) = w7 at *
        have A7 := A6.below (Keep.of_below (D := fun _ => False) b7) (fun k _ f => f.elim)
        have g7 : w7.heap[g]? = _ := (b7.block g (by omega)).trans g6
        have t7 : w7.heap[T8]? = _ := (b7.block T8 (by omega)).trans t6
        have B7 := B6.trans (b7.mono (by omega))
        generalize hU : w6.heap.size = T11 at *
        clear b7 A6 g6 t6 B6
        refine (HC.out w7 a c (h.below B7)).mono ?_
        rintro e w8 ⟨v8, rfl, b8, A8'⟩
        obtain ⟨am8, cm8, ap8, cp8, rfl, _⟩ := A8'.parts
        have A8 := A7.below (Keep.of_below (D := fun _ => False) b8) (fun k _ f => f.elim)
        have s8 := b8.size
        have g8 : w8.heap[g]? = _ := (b8.block g (by omega)).trans g7
        have t8 : w8.heap[T8]? = _ := (b8.block T8 (by omega)).trans t7
        have u8 : w8.heap[T11]? = _ := (b8.block T11 (by omega)).trans u7
        have B8 := B7.trans (b8.mono (by omega))
        clear b8 A8' A7 g7 t7 u7 B7
        go_wp2_with fail
        have b9 : Below w8.heap.size w8 (w8.alloc (.cells #[.int .i64 an.is_, .int .i64 an.tries, .slice am8 an.model.length cm8, .slice ap8 an.proof.length cp8] 27)) := (Below.refl _ _).alloc (Nat.le_refl _) _
        have z9 : (w8.alloc (.cells #[.int .i64 an.is_, .int .i64 an.tries, .slice am8 an.model.length cm8, .slice ap8 an.proof.length cp8] 27)).heap.size = w8.heap.size + 1 := by simp
        generalize w8.alloc (.cells #[.int .i64 an.is_, .int .i64 an.tries, .slice am8 an.model.length cm8, .slice ap8 an.proof.length cp8] 27) = w9 at *
        have A9 := A8.below (Keep.of_below (D := fun _ => False) b9) (fun k _ f => f.elim)
        have g9 : w9.heap[g]? = _ := (b9.block g (by omega)).trans g8
        have t9 : w9.heap[T8]? = _ := (b9.block T8 (by omega)).trans t8
        have u9 : w9.heap[T11]? = _ := (b9.block T11 (by omega)).trans u8
        have B9 := B8.trans (b9.mono (by omega))
        generalize hU9 : w8.heap.size = T13 at *
        clear b9 A8 g8 t8 u8 B8
        refine (HC'.out w9 a' c' (h'.below B9)).mono ?_
        rintro e w10 ⟨v10, rfl, b10, A10'⟩
        obtain ⟨am10, cm10, ap10, cp10, rfl, _⟩ := A10'.parts
        have A10 := A9.below (Keep.of_below (D := fun _ => False) b10) (fun k _ f => f.elim)
        have s10 := b10.size
        have g10 : w10.heap[g]? = _ := (b10.block g (by omega)).trans g9
        have t10 : w10.heap[T8]? = _ := (b10.block T8 (by omega)).trans t9
        have u10 : w10.heap[T11]? = _ := (b10.block T11 (by omega)).trans u9
        have B10 := B9.trans (b10.mono (by omega))
        clear b10 A10' A9 g9 t9 u9 B9
        go_wp2_with fail
        have b11 : Below w10.heap.size w10 (w10.alloc (.cells #[.int .i64 an'.is_, .int .i64 an'.tries, .slice am10 an'.model.length cm10, .slice ap10 an'.proof.length cp10] 27)) := (Below.refl _ _).alloc (Nat.le_refl _) _
        have z11 : (w10.alloc (.cells #[.int .i64 an'.is_, .int .i64 an'.tries, .slice am10 an'.model.length cm10, .slice ap10 an'.proof.length cp10] 27)).heap.size = w10.heap.size + 1 := by simp
        generalize w10.alloc (.cells #[.int .i64 an'.is_, .int .i64 an'.tries, .slice am10 an'.model.length cm10, .slice ap10 an'.proof.length cp10] 27) = w11 at *
        have A11 := A10.below (Keep.of_below (D := fun _ => False) b11) (fun k _ f => f.elim)
        have g11 : w11.heap[g]? = _ := (b11.block g (by omega)).trans g10
        have t11 : w11.heap[T8]? = _ := (b11.block T8 (by omega)).trans t10
        have u11 : w11.heap[T11]? = _ := (b11.block T11 (by omega)).trans u10
        have B11 := B10.trans (b11.mono (by omega))
        generalize hU11 : w10.heap.size = T15 at *
        clear b11 A10 g10 t10 u10 B10
        have hgl := heap_lt g11
        have htl := heap_lt t11
        have hul := heap_lt u11
        obtain ⟨am0, cm0, ap0, cp0, he, hBm⟩ := A11.parts
        obtain ⟨⟨rfl, rfl⟩, rfl, rfl⟩ : (am0 = am ∧ cm0 = cm) ∧ ap0 = ap ∧ cp0 = cp := by simpa using he.symm
        have q0 : w11.cell? ⟨g, 0, none⟩ = some (.int .i64 (an.tries + an'.tries)) := cell_of_row _ _ 0 _ 44 (0, 0) g11
        have q8 : w11.cell? ⟨T8, 1, none⟩ = some (.int .i64 an.tries) := cell_of_row _ _ 1 _ 27 (0, 0) t11
        have q80 : w11.cell? ⟨T8, 0, none⟩ = some (.int .i64 an.is_) := cell_of_row _ _ 0 _ 27 (0, 0) t11
        have q82 : w11.cell? ⟨T8, 2, none⟩ = some (.slice am0 an.model.length cm0) := cell_of_row _ _ 2 _ 27 (0, 0) t11
        have q11 : w11.cell? ⟨T11, 1, none⟩ = some (.int .i64 an'.tries) := cell_of_row _ _ 1 _ 27 (0, 0) u11
        have f0 := fun u : Bel w11 => u.cell q0 hgl
        have f8 := fun u : Bel w11 => u.cell q8 htl
        have f80 := fun u : Bel w11 => u.cell q80 htl
        have f82 := fun u : Bel w11 => u.cell q82 htl
        have f11 := fun u : Bel w11 => u.cell q11 hul
        have hwr : wrap64 (an.tries + an'.tries) = an.tries + an'.tries := by unfold wrap64; omega
        have hwr2 : IntKind.i64.wrap (an.tries + an'.tries) = an.tries + an'.tries := by rw [IntKind.wrap_i64]; omega
        have e1 : (er != er) = false := by simp
        have e2 : (er' != er') = false := by simp
        have e3 : (an.tries != an.tries) = false := by simp
        have e4 : (an.tries + an'.tries != an.tries + an'.tries) = false := by simp
        clear q0 q8 q80 q82 q11 g11 t11 u11 A11 he
        refine region_quiet (by kernel_rfl) (by kernel_rfl) ?_
        repeat (first | go_big_quiet_step (exact quiet_same (tries18 _ _ _ (f0 _))) | quiet_step (exact quiet_same (tries18 _ _ _ (f0 _))))
        refine wpQuiet_nil ?_
        rintro w' ⟨u, rfl⟩
        have BU : Below w.heap.size w u.1 := B11.trans (u.2.mono B11.size)
        have HU := fun (v : Bel w11) => h.below (B11.trans (v.2.mono B11.size))
        have k0 := f80 u
        have k2 := f82 u
        have bu := fun (v : Bel u.1) => v.cell k0 (Nat.lt_of_lt_of_le htl u.2.size)
        have bu2 := fun (v : Bel u.1) => v.cell k2 (Nat.lt_of_lt_of_le htl u.2.size)
        by_cases hi : an.is_ = 1
        · obtain ⟨hml, hht⟩ : an.model.length ≤ 9223372036854775807 ∧ holdsOf l an.model = true := by
            rcases HP.out with ⟨hok, _, n, hnm, hR, _⟩ | ⟨_, _, rfl⟩
            · rcases hR.res with ⟨_, hm, hM, _⟩ | ⟨h2, _⟩ | ⟨h2, _⟩
              · have := mostOf_le hok
                exact ⟨by omega, holdsOf_iff.2 ⟨hok, hM⟩⟩
              · omega
              · omega
            · simp at hi
          have HH : ∀ v : Bel u.1, Calls Try.prog 14 #[.slice a l.length c, .slice am0 an.model.length cm0] v.1 fun e w' => e = .returned (.bool true) ∧ w' = v.1 := fun v => by
            have := holds14 v.1 a l c am0 an.model cm0 (h.below (BU.trans (v.2.mono BU.size))) hn ((hBm.below u.2).below v.2) hml
            rwa [hht] at this
          have e5 : (an.is_ != 1) = false := by rw [hi]; rfl
          clear hi hht
          go_wp2_with fail
          refine (HH (Bel.self _)).mono ?_
          rintro e w' ⟨rfl, rfl⟩
          go_wp2_with fail
          go_ret
          exact ⟨rfl, BU⟩
        · have e5 : (an.is_ != 1) = true := by simp [hi]
          clear hi
          go_wp2_with fail
          go_ret
          exact ⟨rfl, BU⟩
end Go.Proofs.Ytfmoldfajmfieaa
