/-
  A model, or a proof: the walk of the search's entry.
-/
import Derived.Test.YtfmoldfajmfieaaFresh
import Derived.Laws.ResultCell
namespace Go.Proofs.Ytfmoldfajmfieaa
open Go.RowKit Go.Maps
theorem results_cell_row_tmp {P : Program} {fn : Func} {p u : Tmp} {ty : TypeId} (h : fn.results = #[.cell p ty, .tmp u]) (tmps : Array Value) (w : World) (g : Nat) (t : TypeId) (cs : Array Value) (fr : Nat × Nat) (d : TypeDesc)
    (hp : tmps.getD p undef = .pointer (some ⟨g, 0, none⟩)) (hg : w.heap[g]? = some (.cells cs t fr))
    (hu : P.underlying ty = some d) (hd : (match d with | .struct _ | .array _ _ => true | _ => false) = true) (hi : (P.info? ty).map (·.size) = some cs.size) :
    (results fn tmps).run P w = .ok (.tuple #[.agg cs, tmps.getD u undef]) w := by
  rw [results_cell_tmp h, hp]
  simp [asAddr, run_loadVar_row w g t ty cs fr d hg hu hd hi]
theorem ClsAt.below {w w' : World} {a : Option Addr} {l : List (List Int)} (h : ClsAt w a l) (hb : Below w.heap.size w w') : ClsAt w' a l := by
  rcases h with h | ⟨b, o, ha, hlt, h⟩
  · exact .inl h
  · refine .inr ⟨b, o, ha, Nat.lt_of_lt_of_le hlt hb.size, fun j c hc => ?_⟩
    obtain ⟨ac, cc, h1, h2, h3⟩ := h j c hc
    exact ⟨ac, cc, bcell hb h1 hlt, h2.below hb, h3⟩
theorem AnsAt.below {B : Nat} {w w' : World} {v : Value} {a : Ans} (h : AnsAt B w v a) {D : Nat → Prop} (hk : Keep D w w') (hD : ∀ k, k < w.heap.size → D k → k < B) : AnsAt B w' v a := by
  obtain ⟨vm, vp, rfl, ⟨g, h1, h2⟩, fs, g', h3, h4, h5, h6⟩ := h
  have hx : ∀ {k : Nat}, k < w.heap.size → B ≤ k → ¬ D k := fun hk1 hk2 hd => by have := hD _ hk1 hd; omega
  refine ⟨vm, vp, rfl, ⟨g, h1.keep hk (fun k e => ?_), h2⟩, fs, g', h3.keep hk (fun k e => ?_), h4, h5, fun k u l hu hl => ?_⟩
  · subst e; exact hx h1.lt (h2 k rfl)
  · subst e; exact hx h3.lt (h4 k rfl)
  · obtain ⟨g2, e1, e2⟩ := h6 k u l hu hl
    exact ⟨g2, e1.keep hk (fun k e => by subst e; exact hx e1.lt (e2 k rfl)), e2⟩
theorem AnsAt.mono {B B' : Nat} {w : World} {v : Value} {a : Ans} (h : AnsAt B w v a) (hB : B' ≤ B) : AnsAt B' w v a := by
  obtain ⟨vm, vp, rfl, ⟨g, h1, h2⟩, fs, g', h3, h4, h5, h6⟩ := h
  refine ⟨vm, vp, rfl, ⟨g, h1, fun k e => Nat.le_trans hB (h2 k e)⟩, fs, g', h3, fun k e => Nat.le_trans hB (h4 k e), h5, fun k u l hu hl => ?_⟩
  obtain ⟨g2, e1, e2⟩ := h6 k u l hu hl
  exact ⟨g2, e1, fun k e => Nat.le_trans hB (e2 k e)⟩
set_option maxHeartbeats 4000000 in
set_option maxRecDepth 100000 in
theorem solve11_bad (w : World) (a : Option Addr) (l : List (List Int)) (c : Nat) (tries : Int) (h : ClsAt w a l) (hn : l.length ≤ 9223372036854775807) (hok : okAll l = false) :
    Calls Try.prog 11 #[.slice a l.length c, .int .i64 tries] w fun e w' => e = .returned (.tuple #[.agg #[.int .i64 0, .int .i64 0, .slice none 0 0, .slice none 0 0], .int .i64 3]) ∧ Below w.heap.size w w' := by
  have HE : errOf l = 3 := by unfold errOf; rw [hok]; rfl
  go_enter Try.func11, Try.ntmps11
  go_wp2_with fail
  have hb1 : Below w.heap.size w (w.alloc (.cells #[.int .i64 0, .int .i64 0, .slice none 0 0, .slice none 0 0] 27)) := (Below.refl _ _).alloc (Nat.le_refl _) _
  refine (right25 _ a l c (h.below hb1) hn).mono ?_
  rintro e w1 ⟨rfl, rfl⟩
  rw [HE]
  have hc1 := heap_alloc_new w (.cells #[.int .i64 0, .int .i64 0, .slice none 0 0, .slice none 0 0] 27)
  go_wp2_with fail
  refine bodyPost_ret (results_cell_row_tmp rfl _ _ w.heap.size 27 _ (0, 0) _ rfl hc1 Try.underlying27 rfl (by kernel_rfl)) rfl ?_
  exact ⟨rfl, hb1⟩
set_option maxHeartbeats 4000000 in
set_option maxRecDepth 100000 in
theorem solve11_ok (w : World) (a : Option Addr) (l : List (List Int)) (c : Nat) (tries : Int) (h : ClsAt w a l) (hn : l.length ≤ 1099511627776) (hl : ∀ x ∈ l, x.length ≤ 1099511627776) (hok : okAll l = true) (m n f : Nat) (hnm : mostOf l = n)
    (an : Ans) (ha : solveF cleanL m n f l tries = some an) (ht : -9223372036854775808 ≤ tries ∧ tries ≤ 9223372036854775807) :
    Calls Try.prog 11 #[.slice a l.length c, .int .i64 tries] w fun e w' => ∃ v, e = .returned (.tuple #[v, .int .i64 0]) ∧ Below w.heap.size w w' ∧ AnsAt w.heap.size w' v an := by
  have HE : errOf l = 0 := by unfold errOf; rw [hok]; rfl
  unfold solveF at ha
  rw [Option.bind_eq_some_iff] at ha
  obtain ⟨⟨S, r⟩, hf, hr⟩ := ha
  have HF := Lib.hid hf
  have HR := Lib.hid hr
  have HOK := Lib.hid hok
  have HNM := Lib.hid hnm
  have HLL := Lib.hid hl
  clear hf hr hok hnm hl
  go_enter Try.func11, Try.ntmps11
  go_wp2_with fail
  have hb1 : Below w.heap.size w (w.alloc (.cells #[.int .i64 0, .int .i64 0, .slice none 0 0, .slice none 0 0] 27)) := (Below.refl _ _).alloc (Nat.le_refl _) _
  have h1 := h.below hb1
  refine (right25 _ a l c h1 (by omega)).mono ?_
  rintro e w1 ⟨rfl, rfl⟩
  rw [HE]
  have hc1 := heap_alloc_new w (.cells #[.int .i64 0, .int .i64 0, .slice none 0 0, .slice none 0 0] 27)
  generalize hw1 : w.alloc (.cells #[.int .i64 0, .int .i64 0, .slice none 0 0, .slice none 0 0] 27) = w1 at *
  have hs1 : w1.heap.size = w.heap.size + 1 := by rw [← hw1]; simp
  clear hw1
  go_wp2_with fail
  refine (fresh26 w1 a l c h1 hn HLL.out HOK.out n m HNM.out S r HF.out).mono ?_
  rintro e w2 ⟨b, ρ, V, rfl, r2, b2⟩
  have hc2 : w2.heap[w.heap.size]? = some (.cells #[.int .i64 0, .int .i64 0, .slice none 0 0, .slice none 0 0] 27 (0, 0)) := by rw [b2.block _ (by omega)]; exact hc1
  have c0 : w2.cell? ⟨w.heap.size, 0, none⟩ = some (.int .i64 0) := cell_of_row _ _ 0 _ 27 (0, 0) hc2
  have c1 : w2.cell? ⟨w.heap.size, 1, none⟩ = some (.int .i64 0) := cell_of_row _ _ 1 _ 27 (0, 0) hc2
  have c2 : w2.cell? ⟨w.heap.size, 2, none⟩ = some (.slice none 0 0) := cell_of_row _ _ 2 _ 27 (0, 0) hc2
  have c3 : w2.cell? ⟨w.heap.size, 3, none⟩ = some (.slice none 0 0) := cell_of_row _ _ 3 _ 27 (0, 0) hc2
  have f0 : ∀ o s, w2.frozen? ⟨w.heap.size, o, s⟩ = false := fun o s => by simp [World.frozen?, hc2]
  have b02 : Below w.heap.size w w2 := hb1.trans (b2.mono (by omega))
  generalize hg : w.heap.size = g at *
  have hgl := heap_lt hc2
  cases r with
  | false =>
    have hr := HR.out
    simp only [Bool.false_eq_true, if_false, Option.some.injEq] at hr
    subst hr
    go_wp2_with fail
    obtain ⟨w9, hw9, c9, k9⟩ := four hc2 (.int .i64 2) (.int .i64 0) (.slice none 0 0) (.slice (some ⟨w2.heap.size + 1, 0, none⟩) 1 1)
    rw [← hw9]
    have hs9 : w9.heap.size = w2.heap.size := by rw [hw9]; simp [World.setCell]
    have c10 := heap_push (o' := .cells #[.slice (some ⟨w2.heap.size, 0, none⟩) 0 0] 35) (heap_push (o' := .cells #[] 3) c9)
    refine bodyPost_ret (results_cell_row_tmp rfl _ _ g 27 _ (0, 0) _ rfl c10 Try.underlying27 rfl (by kernel_rfl)) rfl ?_
    have hgs : g ≤ w2.heap.size := by rw [← hg]; exact b02.size
    have hb9 : Below g w w9 := b02.trans (k9.below hgs fun k _ e => by omega)
    refine ⟨_, rfl, ?_, ?_⟩
    · rw [hg]; exact ((hb9.alloc (by omega) _).alloc (by simp; omega) _)
    · refine ⟨_, _, rfl, ⟨none, ⟨⟨_, rfl⟩, rfl, rfl⟩, fun _ h => (by cases h)⟩, [.slice (some ⟨w2.heap.size, 0, none⟩) 0 0], some (w2.heap.size + 1), rowOf (heap_top _ _ (by simp; omega)) rfl rfl (by unfold maxLen; omega) rfl, fun k e => (by cases e; omega), rfl, fun k u l hu hl => ?_⟩
      match k, hu, hl with
      | 0, hu, hl =>
        simp at hu hl
        subst hu
        subst hl
        exact ⟨none, ⟨⟨_, rfl⟩, rfl, rfl⟩, fun _ h => by cases h⟩
      | k + 1, hu, hl => simp at hu
  | true =>
    have hr := HR.out
    simp only [if_true] at hr
    have HR2 := Lib.hid hr
    clear hr HR
    have fin : ∀ T : Int, T = max 0 (min tries 65536) → 0 ≤ T ∧ T < 1099511627776 ∧ Calls Try.prog 27 #[.pointer (some ⟨b, 0, none⟩), .int .i64 T] w2 fun e w' => ∃ am cm ap cp, e = .returned (.agg #[.int .i64 an.is_, .int .i64 an.tries, .slice am an.model.length cm, .slice ap an.proof.length cp]) ∧ Below w1.heap.size w2 w' ∧ AnsAt w1.heap.size w' (.agg #[.int .i64 an.is_, .int .i64 an.tries, .slice am an.model.length cm, .slice ap an.proof.length cp]) an := fun T hT => by
      subst hT
      refine ⟨by omega, by omega, (run27 r2 m f _ an (by omega) (by omega) HR2.out).mono ?_⟩
      rintro e w' ⟨v, rfl, hb, hA⟩
      have hA' := hA
      obtain ⟨vm, vp, rfl, ⟨_, hm, _⟩, _, _, hp, _⟩ := hA
      obtain ⟨am, cm, rfl, _⟩ := hm.val
      obtain ⟨ap, cp, rfl, _⟩ := hp.val
      exact ⟨am, cm, ap, cp, rfl, hb, hA'⟩
    have FIN := Lib.hid fin
    clear fin
    obtain ⟨_, _, hC⟩ := FIN.out _ rfl
    go_wp2_with fail
    refine hC.mono ?_
    rintro e w3 ⟨am, cm, ap, cp, rfl, b3, hA⟩
    have hc3 : w3.heap[g]? = some (.cells #[.int .i64 0, .int .i64 0, .slice none 0 0, .slice none 0 0] 27 (0, 0)) := by rw [b3.block _ (by omega)]; exact hc2
    have d0 : w3.cell? ⟨g, 0, none⟩ = some (.int .i64 0) := cell_of_row _ _ 0 _ 27 (0, 0) hc3
    have d1 : w3.cell? ⟨g, 1, none⟩ = some (.int .i64 0) := cell_of_row _ _ 1 _ 27 (0, 0) hc3
    have d2 : w3.cell? ⟨g, 2, none⟩ = some (.slice none 0 0) := cell_of_row _ _ 2 _ 27 (0, 0) hc3
    have d3 : w3.cell? ⟨g, 3, none⟩ = some (.slice none 0 0) := cell_of_row _ _ 3 _ 27 (0, 0) hc3
    have f3 : ∀ o s, w3.frozen? ⟨g, o, s⟩ = false := fun o s => by simp [World.frozen?, hc3]
    go_wp2_with fail
    obtain ⟨w9, hw9, c9, k9⟩ := four hc3 (.int .i64 an.is_) (.int .i64 an.tries) (.slice am an.model.length cm) (.slice ap an.proof.length cp)
    rw [← hw9]
    refine bodyPost_ret (results_cell_row_tmp rfl _ _ g 27 _ (0, 0) _ rfl c9 Try.underlying27 rfl (by kernel_rfl)) rfl ?_
    have hgs : g ≤ w2.heap.size := by rw [← hg]; exact b02.size
    refine ⟨_, rfl, ?_, ?_⟩
    · rw [hg]; exact b02.trans ((b3.mono (by omega)).trans (k9.below (by have := b3.size; omega) fun k _ e => by omega))
    · rw [hg]; exact (hA.below k9 fun k _ e => by omega).mono (by omega)
end Go.Proofs.Ytfmoldfajmfieaa
