/-
  The document's example of a search: the walk.
-/
import Derived.Test.YtfmoldfajmfieaaSays
import Derived.Test.YtfmoldfajmfieaaSolve
namespace Go.Proofs.Ytfmoldfajmfieaa
open Go.RowKit
def ex1 : List (List Int) := [[1, 2], [-1, 2], [1, -2], [-1, -2]]
def ex2 : List (List Int) := [[1], [-2, -1]]
theorem ex1_says {an : Ans} {n : Nat} (hn : mostOf ex1 = n) (hR : Right n ex1 0 (max 0 (min 9 65536)) an) (hN : ∀ N, Count n (usedB ex1) N → an.is_ = 0 → (max 0 (min 9 65536) : Int) < 3 ^ N) : an.is_ = 2 ∧ 0 < an.proof.length := by
  have h2 : n = 2 := by have : mostOf ex1 = 2 := by decide
                        omega
  subst h2
  rcases hR.res with ⟨_, _, hM, _⟩ | ⟨h, _, _, p, hp⟩ | ⟨h, _⟩
  · exfalso
    obtain ⟨x1, m1, t1⟩ := hM [1, 2] (by decide)
    obtain ⟨x2, m2, t2⟩ := hM [-1, 2] (by decide)
    obtain ⟨x3, m3, t3⟩ := hM [1, -2] (by decide)
    obtain ⟨x4, m4, t4⟩ := hM [-1, -2] (by decide)
    have v1 : vr 1 = 1 := by decide
    have v2 : vr 2 = 2 := by decide
    have v3 : vr (-1) = 1 := by decide
    have v4 : vr (-2) = 2 := by decide
    simp only [List.mem_cons, List.not_mem_nil, or_false] at m1 m2 m3 m4
    unfold litIn at t1 t2 t3 t4
    rcases m1 with rfl | rfl <;> rcases m2 with rfl | rfl <;> rcases m3 with rfl | rfl <;> rcases m4 with rfl | rfl <;> simp only [v1, v2, v3, v4] at t1 t2 t3 t4 <;> simp_all
  · exact ⟨h, by rw [hp]; simp⟩
  · have := hN 2 (count_all 2 _) h
    omega
theorem ex2_says {an : Ans} {n : Nat} (hn : mostOf ex2 = n) (hR : Right n ex2 0 (max 0 (min 9 65536)) an) (hN : ∀ N, Count n (usedB ex2) N → an.is_ = 0 → (max 0 (min 9 65536) : Int) < 3 ^ N) :
    an.is_ = 1 ∧ an.model.length = 3 ∧ an.model[1]? = some true ∧ an.model[2]? = some false := by
  have h2 : n = 2 := by have : mostOf ex2 = 2 := by decide
                        omega
  subst h2
  rcases hR.res with ⟨h, hl, hM, _⟩ | ⟨h, _, hP, p, hp⟩ | ⟨h, _⟩
  · obtain ⟨x1, m1, t1⟩ := hM [1] (by decide)
    obtain ⟨x2, m2, t2⟩ := hM [-2, -1] (by decide)
    have v1 : vr 1 = 1 := by decide
    have v3 : vr (-1) = 1 := by decide
    have v4 : vr (-2) = 2 := by decide
    simp only [List.mem_cons, List.not_mem_nil, or_false] at m1 m2
    unfold litIn at t1 t2
    subst m1
    obtain ⟨b1, e1⟩ : ∃ b, an.model[1]? = some b := ⟨_, List.getElem?_eq_getElem (by omega)⟩
    obtain ⟨b2, e2⟩ : ∃ b, an.model[2]? = some b := ⟨_, List.getElem?_eq_getElem (by omega)⟩
    rcases m2 with rfl | rfl <;> simp only [v1, v3, v4] at t1 t2 <;> simp_all
  · exfalso
    exact no_model (m := [false, true, false]) (by decide) hP hp (by
      intro d hd
      simp only [ex2, List.mem_cons, List.not_mem_nil, or_false] at hd
      rcases hd with rfl | rfl
      · exact ⟨1, by decide, litB_iff.1 (by decide)⟩
      · exact ⟨-2, by decide, litB_iff.1 (by decide)⟩)
  · have := hN 2 (count_all 2 _) h
    omega
theorem intsOf {W : World} {k : Nat} {cs : Array Value} {c : List Int} (h : W.heap[k]? = some (.cells cs 3 (0, 0))) (hcs : cs.toList = c.map vI) : IntsAt W (some ⟨k, 0, none⟩) c :=
  .inr ⟨k, 0, rfl, heap_lt h, fun j x hx => by
    rw [Nat.zero_add, cell_of_row W k j cs 3 (0, 0) h, ← Array.getElem?_toList, hcs, List.getElem?_map, hx]; rfl⟩
/-- A list of clauses that was made. -/
theorem clsOf {W : World} {k : Nat} {cs : Array Value} {l : List (List Int)} (h : W.heap[k]? = some (.cells cs 35 (0, 0))) (rows : ∀ (j : Nat) c, l[j]? = some c → ∃ kj cj, cs[j]? = some (.slice (some ⟨kj, 0, none⟩) c.length cj) ∧ IntsAt W (some ⟨kj, 0, none⟩) c ∧ c.length ≤ 9223372036854775807) : ClsAt W (some ⟨k, 0, none⟩) l :=
  .inr ⟨k, 0, rfl, heap_lt h, fun j c hc => by
    obtain ⟨kj, cj, h1, h2, h3⟩ := rows j c hc
    exact ⟨some ⟨kj, 0, none⟩, cj, by rw [Nat.zero_add, cell_of_row W k j cs 35 (0, 0) h]; exact h1, h2, h3⟩⟩
/-- The answer's parts, to be read. -/
theorem AnsAt.parts {B : Nat} {w : World} {v : Value} {a : Ans} (h : AnsAt B w v a) : ∃ am cm ap cp, v = .agg #[.int .i64 a.is_, .int .i64 a.tries, .slice am a.model.length cm, .slice ap a.proof.length cp] ∧ BoolsAt w am a.model := by
  obtain ⟨vm, vp, rfl, ⟨g, h1, h2⟩, fs, g', h3, h4, h5, h6⟩ := h
  obtain ⟨am, cm, rfl, _, ham⟩ := h1.val
  obtain ⟨ap, cp, rfl, _⟩ := h3.val
  refine ⟨am, cm, ap, cp, rfl, ?_⟩
  cases g with
  | none =>
    obtain ⟨_, hl, _⟩ := h1
    exact .inl (List.eq_nil_of_length_eq_zero hl)
  | some g =>
    rw [ham g rfl]
    exact .inr ⟨g, 0, rfl, h1.lt, fun j x hx => by rw [Nat.zero_add]; exact h1.cellAt (by rw [List.getElem?_map, hx]; rfl)⟩
set_option maxHeartbeats 4000000 in
set_option maxRecDepth 100000 in
theorem awake9 (w : World) : Calls Try.prog 9 #[] w fun e w' => e = .returned (.bool true) ∧ Below w.heap.size w w' := by
  obtain ⟨m1, n1, f1, an1, hn1, hs1, hr1, hN1⟩ := solve_says (l := ex1) (by decide) (by decide) 9
  obtain ⟨m2, n2, f2, an2, hn2, hs2, hr2, hN2⟩ := solve_says (l := ex2) (by decide) (by decide) 9
  obtain ⟨hi1, hp1⟩ := ex1_says hn1 hr1 hN1
  obtain ⟨hi2, hm2, hb1, hb2⟩ := ex2_says hn2 hr2 hN2
  have HS1 := Lib.hid hs1
  have HS2 := Lib.hid hs2
  have HN1 := Lib.hid hn1
  have HN2 := Lib.hid hn2
  have HB1 := Lib.hid hb1
  have HB2 := Lib.hid hb2
  have HI1 := Lib.hid hi1
  have HI2 := Lib.hid hi2
  have HM2 := Lib.hid hm2
  have hp1' : (0 : Int) < (an1.proof.length : Int) := by omega
  clear hr1 hr2 hN1 hN2 hs1 hs2 hn1 hn2 hb1 hb2 hi1 hi2 hm2
  go_enter Try.func9, Try.ntmps9
  go_wp2_with fail
  have hB0 : Below w.heap.size w (((((w.alloc (.cells #[.int .i64 1, .int .i64 2] 3)).alloc (.cells #[.int .i64 (-1), .int .i64 2] 3)).alloc (.cells #[.int .i64 1, .int .i64 (-2)] 3)).alloc (.cells #[.int .i64 (-1), .int .i64 (-2)] 3)).alloc
      (.cells #[.slice (some ⟨w.heap.size, 0, none⟩) 2 2, .slice (some ⟨w.heap.size + 1, 0, none⟩) 2 2, .slice (some ⟨w.heap.size + 1 + 1, 0, none⟩) 2 2, .slice (some ⟨w.heap.size + 1 + 1 + 1, 0, none⟩) 2 2] 35)) :=
    (((((Below.refl _ _).alloc (Nat.le_refl _) _).alloc (by simp) _).alloc (by simp; omega) _).alloc (by simp; omega) _).alloc (by simp; omega) _
  have hC0 : ClsAt (((((w.alloc (.cells #[.int .i64 1, .int .i64 2] 3)).alloc (.cells #[.int .i64 (-1), .int .i64 2] 3)).alloc (.cells #[.int .i64 1, .int .i64 (-2)] 3)).alloc (.cells #[.int .i64 (-1), .int .i64 (-2)] 3)).alloc
      (.cells #[.slice (some ⟨w.heap.size, 0, none⟩) 2 2, .slice (some ⟨w.heap.size + 1, 0, none⟩) 2 2, .slice (some ⟨w.heap.size + 1 + 1, 0, none⟩) 2 2, .slice (some ⟨w.heap.size + 1 + 1 + 1, 0, none⟩) 2 2] 35)) (some ⟨w.heap.size + 1 + 1 + 1 + 1, 0, none⟩) ex1 := by
    refine clsOf (heap_top _ _ (by simp)) fun j c hc => ?_
    match j, hc with
    | 0, hc => cases hc; exact ⟨_, _, rfl, intsOf (heap_push (heap_push (heap_push (heap_push (heap_top _ _ rfl))))) rfl, by decide⟩
    | 1, hc => cases hc; exact ⟨_, _, rfl, intsOf (heap_push (heap_push (heap_push (heap_top _ _ (by simp))))) rfl, by decide⟩
    | 2, hc => cases hc; exact ⟨_, _, rfl, intsOf (heap_push (heap_push (heap_top _ _ (by simp)))) rfl, by decide⟩
    | 3, hc => cases hc; exact ⟨_, _, rfl, intsOf (heap_push (heap_top _ _ (by simp))) rfl, by decide⟩
    | j + 4, hc => simp [ex1] at hc
  refine (solve11_ok _ _ ex1 4 9 hC0 (by decide) (by decide) (by decide) m1 n1 f1 HN1.out an1 HS1.out (by decide)).mono ?_
  rintro e w1 ⟨v1, rfl, b1, A1⟩
  obtain ⟨am1, cm1, ap1, cp1, rfl, _⟩ := A1.parts
  rw [HI1.out]
  have B1 := hB0.trans (b1.mono hB0.size)
  clear hB0 hC0 b1 A1
  go_wp2_with fail
  have hB2 : Below w1.heap.size w1 ((((w1.alloc (.cells #[.int .i64 2, .int .i64 an1.tries, .slice am1 an1.model.length cm1, .slice ap1 an1.proof.length cp1] 27)).alloc (.cells #[.int .i64 1] 3)).alloc (.cells #[.int .i64 (-2), .int .i64 (-1)] 3)).alloc (.cells #[.slice (some ⟨w1.heap.size + 1, 0, none⟩) 1 1, .slice (some ⟨w1.heap.size + 1 + 1, 0, none⟩) 2 2] 35)) :=
    ((((Below.refl _ _).alloc (Nat.le_refl _) _).alloc (by simp) _).alloc (by simp; omega) _).alloc (by simp; omega) _
  have hC2 : ClsAt ((((w1.alloc (.cells #[.int .i64 2, .int .i64 an1.tries, .slice am1 an1.model.length cm1, .slice ap1 an1.proof.length cp1] 27)).alloc (.cells #[.int .i64 1] 3)).alloc (.cells #[.int .i64 (-2), .int .i64 (-1)] 3)).alloc (.cells #[.slice (some ⟨w1.heap.size + 1, 0, none⟩) 1 1, .slice (some ⟨w1.heap.size + 1 + 1, 0, none⟩) 2 2] 35)) (some ⟨w1.heap.size + 1 + 1 + 1, 0, none⟩) ex2 := by
    refine clsOf (heap_top _ _ (by simp)) fun j c hc => ?_
    match j, hc with
    | 0, hc => cases hc; exact ⟨_, _, rfl, intsOf (heap_push (heap_push (heap_top _ _ (by simp)))) rfl, by decide⟩
    | 1, hc => cases hc; exact ⟨_, _, rfl, intsOf (heap_push (heap_top _ _ (by simp))) rfl, by decide⟩
    | j + 2, hc => simp [ex2] at hc
  have hT2 : ((((w1.alloc (.cells #[.int .i64 2, .int .i64 an1.tries, .slice am1 an1.model.length cm1, .slice ap1 an1.proof.length cp1] 27)).alloc (.cells #[.int .i64 1] 3)).alloc (.cells #[.int .i64 (-2), .int .i64 (-1)] 3)).alloc (.cells #[.slice (some ⟨w1.heap.size + 1, 0, none⟩) 1 1, .slice (some ⟨w1.heap.size + 1 + 1, 0, none⟩) 2 2] 35)).heap[w1.heap.size]? = some (.cells #[.int .i64 2, .int .i64 an1.tries, .slice am1 an1.model.length cm1, .slice ap1 an1.proof.length cp1] 27 (0, 0)) := heap_push (heap_push (heap_push (heap_top _ _ rfl)))
  have hL2 : w1.heap.size < ((((w1.alloc (.cells #[.int .i64 2, .int .i64 an1.tries, .slice am1 an1.model.length cm1, .slice ap1 an1.proof.length cp1] 27)).alloc (.cells #[.int .i64 1] 3)).alloc (.cells #[.int .i64 (-2), .int .i64 (-1)] 3)).alloc (.cells #[.slice (some ⟨w1.heap.size + 1, 0, none⟩) 1 1, .slice (some ⟨w1.heap.size + 1 + 1, 0, none⟩) 2 2] 35)).heap.size := by simp; omega
  refine (solve11_ok _ _ ex2 2 9 hC2 (by decide) (by decide) (by decide) m2 n2 f2 HN2.out an2 HS2.out (by decide)).mono ?_
  rintro e w2 ⟨v2, rfl, b2, A2⟩
  obtain ⟨am2, cm2, ap2, cp2, rfl, hBo⟩ := A2.parts
  rw [HI2.out]
  have B2 := B1.trans ((hB2.mono B1.size).trans (b2.mono (Nat.le_trans B1.size hB2.size)))
  have hT3 := (b2.block _ hL2).trans hT2
  have t0 : w2.cell? ⟨w1.heap.size, 0, none⟩ = some (.int .i64 2) := cell_of_row _ _ 0 _ 27 (0, 0) hT3
  have t3 : w2.cell? ⟨w1.heap.size, 3, none⟩ = some (.slice ap1 an1.proof.length cp1) := cell_of_row _ _ 3 _ 27 (0, 0) hT3
  have hL3 : w1.heap.size < w2.heap.size := Nat.lt_of_lt_of_le hL2 b2.size
  clear hB2 hC2 hT2 hL2 b2 A2 B1 hT3
  obtain ⟨bm, om, rfl, hbm, hcm⟩ : ∃ b o, am2 = some ⟨b, o, none⟩ ∧ b < w2.heap.size ∧ ∀ j x, an2.model[j]? = some x → w2.cell? ⟨b, o + j, none⟩ = some (.bool x) := by
    rcases hBo with h | h
    · have := HM2.out; rw [h] at this; simp at this
    · exact h
  have d1 := hcm 1 _ HB1.out
  have d2 := hcm 2 _ HB2.out
  generalize hlen : an2.model.length = lm at *
  obtain rfl : lm = 3 := HM2.out
  have x0 := bcell ((Below.refl _ w2).alloc (Nat.le_refl _) (.cells #[.int .i64 1, .int .i64 an2.tries, .slice (some ⟨bm, om, none⟩) 3 cm2, .slice ap2 an2.proof.length cp2] 27)) t0 hL3
  have x3 := bcell ((Below.refl _ w2).alloc (Nat.le_refl _) (.cells #[.int .i64 1, .int .i64 an2.tries, .slice (some ⟨bm, om, none⟩) 3 cm2, .slice ap2 an2.proof.length cp2] 27)) t3 hL3
  have x1 := bcell ((Below.refl _ w2).alloc (Nat.le_refl _) (.cells #[.int .i64 1, .int .i64 an2.tries, .slice (some ⟨bm, om, none⟩) 3 cm2, .slice ap2 an2.proof.length cp2] 27)) d1 hbm
  have x2 := bcell ((Below.refl _ w2).alloc (Nat.le_refl _) (.cells #[.int .i64 1, .int .i64 an2.tries, .slice (some ⟨bm, om, none⟩) 3 cm2, .slice ap2 an2.proof.length cp2] 27)) d2 hbm
  clear hcm hBo t0 t3 d1 d2 hlen
  go_wp2_with fail
  go_ret
  exact ⟨rfl, B2.alloc B2.size _⟩
end Go.Proofs.Ytfmoldfajmfieaa
