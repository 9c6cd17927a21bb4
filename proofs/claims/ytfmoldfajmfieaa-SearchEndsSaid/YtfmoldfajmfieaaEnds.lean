/-
  The statement SearchEnds, as a walk: how many variables there are, how many tries are enough, and what is found with them.
-/
import Derived.Test.YtfmoldfajmfieaaModels
import Derived.Test.YtfmoldfajmfieaaSeen
import Derived.Maps.OwnSet
namespace Go.Proofs.Ytfmoldfajmfieaa
open Go.RowKit Go.Maps
/-- The variable of a number, be it a literal or none. -/
def vw (x : Int) : Int := if x < 0 then wrap64 (-x) else x
theorem vw_ok {x : Int} (h : okLit x = true) : vw x = vr x := by
  unfold okLit at h
  simp at h
  unfold vw vr wrap64
  split <;> omega
theorem vw_bounds {x : Int} (h : -9223372036854775808 ≤ x ∧ x ≤ 9223372036854775807) : -9223372036854775808 ≤ vw x ∧ vw x ≤ 9223372036854775807 := by
  unfold vw wrap64
  split <;> omega
theorem var29w (x : Int) (w : World) : Calls Try.prog 29 #[.int .i64 x] w fun e w' => e = .returned (.int .i64 (vw x)) ∧ w' = w := by
  by_cases h : x < 0
  · go_enter Try.func29, Try.ntmps29
    go_wp2
    go_ret
    exact ⟨ret_int (by unfold vw; rw [if_pos (by omega)]), rfl⟩
  · go_enter Try.func29, Try.ntmps29
    go_wp2
    go_ret
    exact ⟨ret_int (by unfold vw; rw [if_neg (by omega)]), rfl⟩
/-- One more of some variables, each once. -/
def addV (acc : List Int) (x : Int) : List Int := if vw x ∈ acc then acc else vw x :: acc
def addC (acc : List Int) (c : List Int) : List Int := c.foldl addV acc
/-- The variables of clauses, each once. -/
def varsOf (l : List (List Int)) : List Int := l.foldl addC []
theorem addV_mem {acc : List Int} {x v : Int} : v ∈ addV acc x ↔ v ∈ acc ∨ v = vw x := by
  unfold addV
  split
  · next h => constructor
              · exact .inl
              · rintro (h' | rfl)
                · exact h'
                · exact h
  · simp [or_comm]
theorem addC_mem {c : List Int} : ∀ {acc : List Int} {v : Int}, v ∈ addC acc c ↔ v ∈ acc ∨ ∃ x ∈ c, v = vw x := by
  induction c with
  | nil => simp [addC]
  | cons x c ih =>
    intro acc v
    show v ∈ addC (addV acc x) c ↔ _
    rw [ih, addV_mem]
    simp only [List.mem_cons, exists_eq_or_imp]
    rw [or_assoc]
theorem varsOf_mem {l : List (List Int)} {v : Int} : v ∈ varsOf l ↔ ∃ c ∈ l, ∃ x ∈ c, v = vw x := by
  have : ∀ (l : List (List Int)) (acc : List Int), v ∈ l.foldl addC acc ↔ v ∈ acc ∨ ∃ c ∈ l, ∃ x ∈ c, v = vw x := fun l => by
    induction l with
    | nil => simp
    | cons c l ih =>
      intro acc
      rw [List.foldl_cons, ih, addC_mem]
      simp only [List.mem_cons, exists_eq_or_imp]
      rw [or_assoc]
  have h := this l []
  simpa [varsOf] using h
theorem nodup_sub : ∀ {l D : List Int}, l.Nodup → (∀ x ∈ l, x ∈ D) → l.length ≤ D.length
  | [], D, _, _ => by simp
  | x :: l, D, h, hs => by
    rw [List.nodup_cons] at h
    have hx := hs x (by simp)
    have := nodup_sub (l := l) (D := D.erase x) h.2 (fun y hy => by
      have hne : y ≠ x := fun e => h.1 (e ▸ hy)
      exact (List.mem_erase_of_ne hne).2 (hs y (by simp [hy])))
    rw [List.length_erase_of_mem hx] at this
    have := List.length_pos_of_mem hx
    simp; omega
theorem count_vars (n : Nat) {l : List (List Int)} (hok : okAll l = true) {m : List (List Int)} (hm : ∀ c ∈ l, c ∈ m) : Count n (usedB l) (varsOf m).length := fun k h1 h2 => nodup_sub h1 fun v hv => by
  have h3 := (h2 v hv).1
  unfold usedB at h3
  rw [List.any_eq_true] at h3
  obtain ⟨c, hc, h4⟩ := h3
  rw [List.any_eq_true] at h4
  obtain ⟨x, hx, h5⟩ := h4
  exact varsOf_mem.2 ⟨c, hm c hc, x, hx, by rw [vw_ok (okAll_at hok hc hx)]; exact (beq_iff_eq.1 h5).symm⟩
theorem addC_len {c : List Int} : ∀ {acc : List Int}, (addC acc c).length ≤ acc.length + c.length := by
  induction c with
  | nil => simp [addC]
  | cons x c ih =>
    intro acc
    show (addC (addV acc x) c).length ≤ _
    have := ih (acc := addV acc x)
    have h : (addV acc x).length ≤ acc.length + 1 := by unfold addV; split <;> simp
    simp only [List.length_cons]
    omega
theorem varsOf_len {l : List (List Int)} {k : Nat} (h : ∀ c ∈ l, c.length ≤ k) : (varsOf l).length ≤ k * l.length := by
  have : ∀ (l : List (List Int)) (acc : List Int), (∀ c ∈ l, c.length ≤ k) → (l.foldl addC acc).length ≤ acc.length + k * l.length := fun l => by
    induction l with
    | nil => simp
    | cons c l ih =>
      intro acc h
      have h1 := ih (addC acc c) (fun d hd => h d (by simp [hd]))
      have h2 := addC_len (c := c) (acc := acc)
      have h3 := h c (by simp)
      simp only [List.foldl_cons, List.length_cons, Nat.mul_add]
      omega
  simpa [varsOf] using this l [] h
/-- The map of the variables that were met, in memory. -/
def VarsAt (w : World) (g : Nat) (acc : List Int) (n : Nat) : Prop := ∃ D : DataW Unit, w.ownsMap Try.prog 3 (plainElem Try.prog 3) g n D ∧ Tidy D ∧ (∀ v, has D (.int .i64 v) = decide (v ∈ acc)) ∧ size D = acc.length
theorem VarsAt.made (w : World) : VarsAt (w.alloc (.map #[] 0)) w.heap.size [] 0 := ⟨_, World.ownsMap_made _ _ _ _, tidy_empty, fun v => by simp [has_eq], rfl⟩
theorem VarsAt.lt {w : World} {g : Nat} {acc : List Int} {n : Nat} (h : VarsAt w g acc n) : g < w.heap.size := by obtain ⟨D, h, _⟩ := h; exact h.lt
/-- m[v]++. -/
theorem vars_step {ops : Array Oper} {rest : List Oper} {o : Oper} {a : Act} {Q : Exit → Act → World → Prop} {w : World} (hg : o.guard = none) (m x y : Operand) (hop : o.op = Op.mapUpdate 62 m x y)
    {g : Nat} (hm : a.eval m = .map (some g)) {acc : List Int} {n : Nat} (hown : VarsAt w g acc n) (hn : n < 1099511627776) {v z : Int} (hx : a.eval x = .int .i64 (vw v)) (hy : a.eval y = .int .i64 z) (hv : -9223372036854775808 ≤ vw v ∧ vw v ≤ 9223372036854775807) (hz : -9223372036854775808 ≤ z ∧ z ≤ 9223372036854775807)
    (h : ∀ w', VarsAt w' g (addV acc v) (n + 1) → Keep (· = g) w w' → wpList Try.prog ops Q rest (a.put o.dst undef) w') : wpList Try.prog ops Q (o :: rest) a w := by
  obtain ⟨D, h1, h2, h3, h4⟩ := hown
  refine wpList_mapUpdate_own w hg m x y 62 hop 3 3 Try.law3 Try.underlying62 _ g _ _ hm h1 (by unfold maxLen; omega) (.int .i64 (vw v)) (.int .i64 z) (.int .i64 (vw v)) hx hy (keyOf_int_mk Try.underlying3 (WalkArith.wf_i64 hv)) _ [] (plainElem_int Try.underlying3 (WalkArith.wf_i64 hz)) ?_
  intro w' hown' hgr
  have hk : WideAt.IsKeyLit (.int .i64 (vw v)) := by unfold WideAt.IsKeyLit; trivial
  refine h w' ⟨_, hown', h2.put hk _, fun u => ?_, ?_⟩ ⟨hgr.os, hgr.tape, hgr.output, hgr.size, fun k hk hne => hgr.block k hk (by simpa using hne)⟩
  · by_cases e : u = vw v
    · subst e
      rw [has_put_same h2.isMap hk]
      simp [addV_mem]
    · rw [has_put_other (by simpa using e), h3]
      simp [addV_mem, e]
  · rw [size_put h2, h3, h4]
    unfold addV
    by_cases e : vw v ∈ acc
    · simp [e]
    · simp [e]
theorem vars_look {ops : Array Oper} {rest : List Oper} {o : Oper} {a : Act} {Q : Exit → Act → World → Prop} {w : World} (hg : o.guard = none) (m x : Operand) (hop : o.op = Op.lookup 62 m x false)
    {g : Nat} (hm : a.eval m = .map (some g)) {acc : List Int} {n : Nat} (hown : VarsAt w g acc n) {v : Int} (hx : a.eval x = .int .i64 v) (hv : -9223372036854775808 ≤ v ∧ v ≤ 9223372036854775807)
    (h : ∀ c, wpList Try.prog ops Q rest (a.put o.dst (.int .i64 c)) w) : wpList Try.prog ops Q (o :: rest) a w := by
  obtain ⟨D, h1, _⟩ := hown
  refine wpList_lookup_own_int w hg m x 62 hop 3 3 .i64 Try.law3 Try.underlying62 Try.underlying3 (Try.zero3 _) g _ _ hm h1 (.int .i64 v) (.int .i64 v) hx (keyOf_int_mk Try.underlying3 (WalkArith.wf_i64 (by omega))) ?_
  intro c' _ _
  exact h c'
/-- How many there are. -/
theorem VarsAt.len {w : World} {g : Nat} {acc : List Int} {n : Nat} (h : VarsAt w g acc n) : ∃ es clock, w.heap[g]? = some (.map es clock) ∧ es.size = acc.length := by
  obtain ⟨D, ⟨es, clock, h1, _, _, rfl⟩, _, _, h4⟩ := h
  refine ⟨es, clock, h1, ?_⟩
  rw [size_eq, length_sorted] at h4
  simpa using h4
set_option maxHeartbeats 4000000 in
set_option maxRecDepth 100000 in
theorem vars16 (w : World) (a : Option Addr) (l : List (List Int)) (c : Nat) (h : ClsAt w a l) (hn : l.length ≤ 1000) (hl : ∀ x ∈ l, x.length ≤ 1000) (hw : ∀ x ∈ l, ∀ y ∈ x, -9223372036854775808 ≤ y ∧ y ≤ 9223372036854775807) :
    Calls Try.prog 16 #[.slice a l.length c] w fun e w' => e = .returned (.int .i64 ((varsOf l).length : Int)) ∧ Below w.heap.size w w' := by
  have HW := Lib.hid hw
  have HL := Lib.hid hl
  clear hw hl
  have hb0 : Below w.heap.size w (w.alloc (.map #[] 0)) := (Below.refl _ _).alloc (Nat.le_refl _) _
  have hv0 := VarsAt.made w
  have hC : ∀ (j : Nat) (x : List Int), Hid (l[j]? = some x) → ∃ b o, a = some ⟨b, o, none⟩ ∧ b < w.heap.size ∧ ∃ ac cc, w.cell? ⟨b, o + j, none⟩ = some (.slice ac x.length cc) ∧ IntsAt w ac x := fun j x hx => by
    rcases h with h | ⟨b, o, ha, hb, hc⟩
    · have := hx.out; rw [h] at this; simp at this
    · obtain ⟨ac, cc, h1, h2, _⟩ := hc j x hx.out
      exact ⟨b, o, ha, hb, ac, cc, h1, h2⟩
  clear h
  have hmm := @run_makeMap Try.prog
  go_enter Try.func16, Try.ntmps16
  go_wp2_with fail
  generalize w.alloc (.map #[] 0) = w1 at *
  obtain ⟨g, hgE⟩ : ∃ g, w.heap.size = g := ⟨_, rfl⟩
  have hg : w.heap.size ≤ g := by omega
  rw [hgE] at hv0 ⊢
  go_loopg [4] l.length (fun kq v4 w' => ∃ (i n : Nat), v4 = .int .i64 i ∧ i ≤ l.length ∧ l.length ≤ kq + i ∧ n ≤ 1000 * i ∧ Below w.heap.size w w' ∧ VarsAt w' g ((l.take i).foldl addC []) n)
  case atStart => exact ⟨0, 0, rfl, Nat.zero_le _, by omega, by omega, hb0, hv0⟩
  case round =>
    clear hv0 hb0
    obtain ⟨i, n, rfl, hi, hkq, hni, hb, hv⟩ := hrel
    by_cases hil : i < l.length
    · obtain ⟨x, hx⟩ : ∃ x, l[i]? = some x := ⟨_, List.getElem?_eq_getElem hil⟩
      have HX := Lib.hid hx
      obtain ⟨b, o, rfl, hbl, ac, cc, cx, hI⟩ := hC i x HX
      have hxl := HL.out x (List.mem_of_getElem? hx)
      clear hx
      have cx' := bcell hb cx hbl
      rcases hI with rfl | ⟨b2, o2, rfl, hb2, hI⟩
      · have HT : Hid ((l.take (i + 1)).foldl addC [] = (l.take i).foldl addC []) := Lib.hid (by rw [foldl_take _ _ HX.out]; rfl)
        go_wp2_with fail
        refine wp_loop_rounds 1 ?_
        rw [rounds_succ]
        go_wp2_with fail
        go_roundg (gk - 1)
        case measure => omega
        case rel => exact ⟨i + 1, n, by go_num, by omega, by omega, by omega, hb, by rw [HT.out]; exact hv⟩
      · have hI2 := fun (j : Nat) (y : Int) (h : Hid (x[j]? = some y)) => hI j y h.out
        clear hI
        obtain ⟨g0, hg0⟩ : ∃ g, g = gk := ⟨_, rfl⟩
        go_wp2_with fail
        go_loopg [5] x.length (fun kr v5 w' => ∃ (j n2 : Nat), v5 = .int .i64 j ∧ j ≤ x.length ∧ x.length ≤ kr + j ∧ n2 ≤ 1000 * i + j ∧ Below w.heap.size w w' ∧ VarsAt w' g (addC ((l.take i).foldl addC []) (x.take j)) n2)
        case atStart => exact ⟨0, n, rfl, Nat.zero_le _, by omega, by omega, hb, hv⟩
        case round =>
          clear hv hb cx'
          obtain ⟨j, n2, rfl, hj, hkr, hnj, hb3, hv3⟩ := hrel
          have cx3 := bcell hb3 cx hbl
          by_cases hjl : j < x.length
          · obtain ⟨y, hy⟩ : ∃ y, x[j]? = some y := ⟨_, List.getElem?_eq_getElem hjl⟩
            have HY := Lib.hid hy
            have cy := bcell hb3 (hI2 j y HY) hb2
            have hvr := vw_bounds (HW.out x (List.mem_of_getElem? HX.out) y (List.mem_of_getElem? hy))
            have HT : Hid (addC ((l.take i).foldl addC []) (x.take (j + 1)) = addV (addC ((l.take i).foldl addC []) (x.take j)) y) := Lib.hid (by unfold addC; rw [foldl_take _ _ HY.out])
            clear hy
            go_wp2_with (first | (go_at_call 29; refine (var29w y _).mono ?_; rintro e w' ⟨rfl, rfl⟩) | (at_lookup; refine vars_look rfl _ _ rfl rfl hv3 rfl hvr ?_; intro cz) | (at_mapUpdate; refine vars_step rfl _ _ _ rfl rfl hv3 (by omega) rfl rfl hvr (by unfold wrap64; omega) ?_; intro w4 hV4 hk4))
            go_roundg (gk - 1)
            case measure => omega
            case rel =>
              exact ⟨j + 1, n2 + 1, by go_num, by omega, by omega, by omega, hb3.trans (hk4.below hb3.size fun k _ e => by subst e; exact hg), by rw [HT.out]; exact hV4⟩
          · have HT : Hid ((l.take (i + 1)).foldl addC [] = addC ((l.take i).foldl addC []) (x.take j)) := Lib.hid (by
              have e : x.take j = x := List.take_of_length_le (by omega)
              rw [foldl_take _ _ HX.out, e])
            go_wp2_with fail
            go_roundg (g0 - 1)
            case measure => omega
            case rel => exact ⟨i + 1, n2, by go_num, by omega, by omega, by omega, hb3, by rw [HT.out]; exact hv3⟩
    · have HT : Hid ((l.take i).foldl addC [] = varsOf l) := Lib.hid (by rw [List.take_of_length_le (by omega)]; rfl)
      rw [HT.out] at hv
      obtain ⟨D, hD, _, _, hsz⟩ := hv
      have hln := hD.len Try.underlying62 3
      rw [hsz] at hln
      go_wp2_with fail
      go_ret
      exact ⟨rfl, hb⟩
/-- How many tries are enough; r: what is answered. -/
def EnoughR (v r : Int) : Prop := (20000 < r) ∨ (0 ≤ v ∧ r ≤ 20000 ∧ r = 3 ^ v.toNat)
set_option maxHeartbeats 1000000 in
theorem enough20 (w : World) (v : Nat) (hv : v ≤ 1000000) : Calls Try.prog 20 #[.int .i64 v, .int .i64 20000] w fun e w' => ∃ r : Int, e = .returned (.int .i64 r) ∧ w' = w ∧ EnoughR v r ∧ r ≤ 60000 ∧ 0 ≤ r := by
  have pw : ∀ i, i < 11 → ((3 : Int) ^ i ≤ 59049 ∧ (3 : Int) ^ i ≠ 20000 ∧ 1 ≤ (3 : Int) ^ i ∧ (10 ≤ i → 20000 < (3 : Int) ^ i)) := by decide
  have PW := Lib.hid pw
  clear pw
  go_enter Try.func20, Try.ntmps20
  go_wp2
  go_loopg [5, 6] 11 (fun kq v5 v6 w' => ∃ (i : Nat) (n : Int), v5 = .int .i64 n ∧ v6 = .int .i64 i ∧ i ≤ v ∧ i < 11 ∧ 11 ≤ kq + i ∧ w' = w ∧ Hid (n = 3 ^ i) ∧ 1 ≤ n ∧ n ≤ 59049)
  case atStart => exact ⟨0, 1, rfl, rfl, by omega, by omega, by omega, rfl, Lib.hid rfl, by omega, by omega⟩
  case round =>
    obtain ⟨i, n, rfl, rfl, hi, hi11, hkq, rfl, HN, hn1, hn2⟩ := hrel
    obtain ⟨p1, p2, p3, p4⟩ := PW.out i hi11
    have hne : n ≠ 20000 := by rw [HN.out]; exact p2
    have hbig : 10 ≤ i → 20000 < n := by rw [HN.out]; exact p4
    by_cases hiv : (i : Int) < (v : Int)
    · by_cases hnm : n < 20000
      · have hi10 : i < 10 := by omega
        have HN2 : Hid (3 * n = 3 ^ (i + 1)) := Lib.hid (by rw [HN.out, Int.pow_succ]; omega)
        have hn3 : 3 * n ≤ 59049 := by have := (PW.out (i + 1) (by omega)).1; have := HN2.out; omega
        have hw : wrap64 (3 * n) = 3 * n := by unfold wrap64; omega
        clear p1 p2 p3 p4 hbig
        go_wp2
        go_roundg (gk - 1)
        case measure => omega
        case rel => exact ⟨i + 1, 3 * n, rfl, by go_num, by omega, by omega, by omega, rfl, HN2, by omega, hn3⟩
      · have hgt : 20000 < n := by omega
        clear p1 p2 p3 p4 hbig
        go_wp2
        go_ret
        exact ⟨20001, rfl, rfl, .inl (by omega), by omega, by omega⟩
    · have hiv' : i = v := by omega
      subst hiv'
      by_cases hnm : 20000 < n
      · clear p1 p2 p3 p4 hbig
        go_wp2
        go_ret
        exact ⟨20001, rfl, rfl, .inl (by omega), by omega, by omega⟩
      · clear p1 p2 p3 p4 hbig
        go_wp2
        go_ret
        exact ⟨n, rfl, rfl, .inr ⟨by omega, by omega, by rw [HN.out]; simp⟩, by omega, by omega⟩
set_option maxHeartbeats 4000000 in
set_option maxRecDepth 100000 in
theorem ends7 (w : World) (a : Option Addr) (l : List (List Int)) (c : Nat) (h : ClsAt w a l) (hn : l.length ≤ 9223372036854775807) (hw : ∀ x ∈ l, ∀ y ∈ x, -9223372036854775808 ≤ y ∧ y ≤ 9223372036854775807) :
    Calls Try.prog 7 #[.slice a l.length c] w fun e w' => e = .returned (.bool true) ∧ Below w.heap.size w w' := by
  have HW := Lib.hid hw
  clear hw
  go_enter Try.func7, Try.ntmps7
  go_wp2_with fail
  refine (awake9 w).mono ?_
  rintro e w1 ⟨rfl, b1⟩
  have h1 := h.below b1
  cases hs : smallOf l 120 12 40 with
  | false =>
    have HS := Lib.hid hs
    clear hs
    go_wp2_with (go_at_call 10; refine (few10 _ a l c h1 hn).mono ?_; rw [HS.out]; rintro e w2 ⟨rfl, rfl⟩)
    go_ret
    exact ⟨rfl, b1⟩
  | true =>
    have HS := Lib.hid hs
    clear hs
    cases hok : okAll l with
    | false =>
      have HOK := Lib.hid hok
      clear hok
      go_wp2_with (first | (go_at_call 10; refine (few10 _ a l c h1 hn).mono ?_; rw [HS.out]; rintro e w2 ⟨rfl, rfl⟩) | (go_at_call 12; refine (right12 _ a l c h1 hn).mono ?_; rw [HOK.out]; rintro e w2 ⟨rfl, rfl⟩))
      go_ret
      exact ⟨rfl, b1⟩
    | true =>
      have HOK := Lib.hid hok
      clear hok
      obtain ⟨hl1, hl2⟩ := small_len HS.out
      have HL2 := Lib.hid hl2
      have hl3 : l.length ≤ 1000 := by omega
      have hvl : (varsOf l).length ≤ 1000000 := by
        have h3 := varsOf_len (l := l) (k := 12) (fun x hx => by have := hl2 x hx; omega)
        omega
      clear hl1 hl2
      go_wp2_with (first | (go_at_call 10; refine (few10 _ a l c h1 hn).mono ?_; rw [HS.out]; rintro e w2 ⟨rfl, rfl⟩) | (go_at_call 12; refine (right12 _ a l c h1 hn).mono ?_; rw [HOK.out]; rintro e w2 ⟨rfl, rfl⟩) | (go_at_call 16; refine (vars16 _ a l c h1 hl3 (fun x hx => by have := HL2.out x hx; omega) HW.out).mono ?_; rintro e w2 ⟨rfl, b2⟩) | (go_at_call 20; refine (enough20 _ (varsOf l).length hvl).mono ?_; rintro e w3 ⟨r, rfl, rfl, hE, hr1, hr0⟩; by_cases hr : 20000 < r))
      · go_ret
        exact ⟨rfl, b1.trans (b2.mono b1.size)⟩
      · have hr3 : r = 3 ^ (varsOf l).length := by
          rcases hE with h | ⟨_, _, h⟩
          · exact absurd h (by omega)
          · simpa using h
        obtain ⟨mm, n, f, an, hnm, hsv, hR, hN⟩ := solve_says HOK.out (by omega) r
        have hT : max 0 (min r 65536) = r := by omega
        have hi0 : an.is_ ≠ 0 := fun e => by
          have := hN _ (count_vars n HOK.out (fun c hc => hc)) e
          rw [hT, hr3] at this
          exact Int.lt_irrefl _ this
        have hi : (an.is_ = 1 ∧ holdsOf l an.model = true) ∨ (an.is_ = 2 ∧ holdsOf l an.model = false) := by
          rcases hR.res with ⟨h, _, hM, _⟩ | ⟨h, hm, hP, q, hq⟩ | ⟨h, _⟩
          · exact .inl ⟨h, holdsOf_iff.2 ⟨HOK.out, hM⟩⟩
          · refine .inr ⟨h, ?_⟩
            rw [← Bool.not_eq_true]
            exact fun hh => no_model (ne_zero_of HOK.out) hP hq (holdsOf_iff.1 hh).2
          · exact absurd h hi0
        have HI := Lib.hid hi
        have HNM := Lib.hid hnm
        have HSV := Lib.hid hsv
        have hmn : an.model.length ≤ 9223372036854775807 := by
          rcases hR.res with ⟨_, h, _⟩ | ⟨_, h, _⟩ | ⟨_, _, h, _⟩
          · have := mostOf_le HOK.out
            omega
          · rw [h]; simp
          · rw [h]; simp
        clear hi hi0 hT hr3 hN hR hnm hsv hE
        have h2 := h1.below b2
        refine (solve11_ok _ a l c r h2 (by omega) (fun x hx => by have := HL2.out x hx; omega) HOK.out mm n f HNM.out an HSV.out (by omega)).mono ?_
        rintro e w4 ⟨v4, rfl, b4, A4⟩
        obtain ⟨a4, c4, p4, d4, rfl, hBm⟩ := A4.parts
        have B4 := b1.trans ((b2.mono b1.size).trans (b4.mono (Nat.le_trans b1.size b2.size)))
        have hb5 : Below w4.heap.size w4 (w4.alloc (.cells #[.int .i64 an.is_, .int .i64 an.tries, .slice a4 an.model.length c4, .slice p4 an.proof.length d4] 27)) := (Below.refl _ _).alloc (Nat.le_refl _) _
        have hc5 := heap_alloc_new w4 (.cells #[.int .i64 an.is_, .int .i64 an.tries, .slice a4 an.model.length c4, .slice p4 an.proof.length d4] 27)
        have h5 := (h2.below b4).below hb5
        have hBm5 := hBm.below hb5
        have B5 := B4.trans (hb5.mono B4.size)
        clear A4 h1 h2 hBm b4 b2 B4 hb5
        go_wp2_with fail
        generalize w4.alloc (.cells #[.int .i64 an.is_, .int .i64 an.tries, .slice a4 an.model.length c4, .slice p4 an.proof.length d4] 27) = w5 at *
        generalize w4.heap.size = g at *
        have hg5 := heap_lt hc5
        have t0 : w5.cell? ⟨g, 0, none⟩ = some (.int .i64 an.is_) := cell_of_row _ _ 0 _ 27 (0, 0) hc5
        have t2 : w5.cell? ⟨g, 2, none⟩ = some (.slice a4 an.model.length c4) := cell_of_row _ _ 2 _ 27 (0, 0) hc5
        have t0' := fun u : Bel w5 => u.cell t0 hg5
        have t2' := fun u : Bel w5 => u.cell t2 hg5
        have hH : ∀ u : Bel w5, Calls Try.prog 19 #[.slice a l.length c, .slice a4 an.model.length c4] u.1 fun e w' => e = .returned (.bool (holdsOf l an.model)) ∧ Below u.1.heap.size u.1 w' := fun u => holds19 u.1 a l c a4 an.model c4 (h5.below u.2) hn (hBm5.below u.2) hmn
        clear t0 t2 hc5
        rcases HI.out with ⟨hi, hh⟩ | ⟨hi, hh⟩
        · have e1 : (an.is_ != 0) = true := by rw [hi]; rfl
          have e2 : (an.is_ == 1) = true := by rw [hi]; rfl
          rw [hh] at hH
          clear hi hh
          refine region_quiet (by kernel_rfl) (by kernel_rfl) ?_
          repeat (first | go_big_quiet_step (exact quiet_below (hH _)) | quiet_step (exact quiet_below (hH _)))
          refine wpQuiet_nil ?_
          rintro w' ⟨u, rfl⟩
          go_wp2_with fail
          go_ret
          exact ⟨rfl, B5.trans (u.2.mono B5.size)⟩
        · have e1 : (an.is_ != 0) = true := by rw [hi]; rfl
          have e2 : (an.is_ == 1) = false := by rw [hi]; rfl
          rw [hh] at hH
          clear hi hh
          refine region_quiet (by kernel_rfl) (by kernel_rfl) ?_
          repeat (first | go_big_quiet_step (exact quiet_below (hH _)) | quiet_step (exact quiet_below (hH _)))
          refine wpQuiet_nil ?_
          rintro w' ⟨u, rfl⟩
          go_wp2_with fail
          go_ret
          exact ⟨rfl, B5.trans (u.2.mono B5.size)⟩
end Go.Proofs.Ytfmoldfajmfieaa
