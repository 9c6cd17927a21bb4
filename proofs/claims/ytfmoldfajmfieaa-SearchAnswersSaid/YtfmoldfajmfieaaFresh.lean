/-
  A solver of clauses: made, and the clauses added one by one.
-/
import Derived.Test.YtfmoldfajmfieaaRight
import Derived.Test.YtfmoldfajmfieaaRun
import Derived.Test.YtfmoldfajmfieaaClean
import Derived.Deep.DeepCutAuto
namespace Go.Proofs.Ytfmoldfajmfieaa
open Go.RowKit Go.Maps
/-- make([]T, n): one equation for every world. -/
theorem make_eq {P : Program} {t e : TypeId} {z : Value} {size bytes : Nat} (ht : P.underlying t = some (.slice e)) (hinfo : (P.info? e).map (fun i => (i.zero, i.size, i.bytes)) = some (some z, size, bytes))
    (n : Nat) (L : Int) (hL : L = n) (hb : bytes * n ≤ 281474976710656) (h63 : n ≤ 9223372036854775807) :
    ∃ C : Array Value, C = madeCells z.cells (n * size) ∧ ∀ W : World, (Instr.makeSlice t (.int .i64 L) (.int .i64 L)).run P W = .ok (.slice (some ⟨W.heap.size, 0, none⟩) n n) (W.alloc (.cells C e)) := by
  obtain ⟨i, hi, hzz⟩ := Option.map_eq_some_iff.1 hinfo
  simp only [Prod.mk.injEq] at hzz
  obtain ⟨hz, hs, hby⟩ := hzz
  subst hL
  refine ⟨_, rfl, fun W => ?_⟩
  have hb' : (i.bytes : Int) * (n : Int) ≤ 281474976710656 := by
    have h : ((i.bytes * n : Nat) : Int) ≤ 281474976710656 := by rw [hby]; omega
    rwa [Int.natCast_mul] at h
  have hrun := run_make (P := P) W t e i z ht hi hz .i64 .i64 n n (by omega) (Int.le_refl _) hb' (by omega)
  simpa only [Int.toNat_natCast, hs] using hrun
theorem madeCells_list {z : Array Value} {v : Value} (hz : 0 < z.size) (h : ∀ i, i < z.size → z[i]! = v) (n : Nat) : (madeCells z n).toList = List.replicate n v := by
  apply List.ext_getElem
  · simp [madeCells]
  · intro i h1 h2
    have := h (i % z.size) (Nat.mod_lt _ hz)
    simp only [List.getElem_replicate]
    simpa [madeCells] using this
theorem mc_one (v : Value) (hv : v.cells = #[v]) (n : Nat) : (madeCells v.cells (n * 1)).toList = List.replicate n v := by
  rw [hv, Nat.mul_one]
  refine madeCells_list (by simp) (fun i hi => ?_) n
  simp at hi
  subst hi
  rfl
theorem mc_two (n : Nat) : (madeCells (Value.agg #[.int .i64 0, .int .i64 0]).cells n).toList = List.replicate n (vI 0) := by
  have e : (Value.agg #[.int .i64 0, .int .i64 0]).cells = #[vI 0, vI 0] := by simp [Value.cells, vI]
  rw [e]
  refine madeCells_list (by simp) (fun i hi => ?_) n
  simp at hi
  have : i = 0 ∨ i = 1 := by omega
  rcases this with rfl | rfl <;> rfl
theorem vY_replicate (k : Nat) : vY (List.replicate k ((0 : Int), (0 : Int))) = List.replicate (k * 2) (vI 0) := by
  induction k with
  | zero => rfl
  | succ k ih =>
    rw [List.replicate_succ, show (k + 1) * 2 = k * 2 + 2 by omega]
    unfold vY at ih ⊢
    rw [List.flatMap_cons, ih]; rfl
/-- The blocks of a new solver, ahead of its two tables. -/
structure Made1 (n : Nat) (CY CU CP : Array Value) (w0 w : World) (b gY gU gP : Nat) : Prop where
  below : Below w0.heap.size w0 w
  hb : w.heap[b]? = some (.cells #[.int .i64 n, .slice none 0 0, .slice none 0 0, .slice none 0 0, .slice (some ⟨gY, 0, none⟩) (n + 1) (n + 1), .slice none 0 0, .slice none 0 0, .int .i64 0, .slice (some ⟨gU, 0, none⟩) (n + 1) (n + 1), .slice (some ⟨gP, 0, none⟩) (n + 1) (n + 1), .slice none 0 0] 75 (0, 0))
  hY : w.heap[gY]? = some (.cells CY 99 (0, 0))
  hU : w.heap[gU]? = some (.cells CU 3 (0, 0))
  hP : w.heap[gP]? = some (.cells CP 4 (0, 0))
  old : w0.heap.size ≤ b ∧ w0.heap.size ≤ gY ∧ w0.heap.size ≤ gU ∧ w0.heap.size ≤ gP
  ne : b ≠ gY ∧ b ≠ gU ∧ b ≠ gP ∧ gY ≠ gU ∧ gY ≠ gP ∧ gU ≠ gP
theorem heap_push {w : World} {o o' : Obj} {k : Nat} (h : w.heap[k]? = some o) : (w.alloc o').heap[k]? = some o := by
  rw [Below.heap_alloc _ _ _ (heap_lt h)]; exact h
theorem heap_top (w : World) (o : Obj) {k : Nat} (h : k = w.heap.size) : (w.alloc o).heap[k]? = some o := by
  subst h; exact heap_alloc_new w o
/-- .., with its two tables. -/
structure Made2 (n : Nat) (CY CU CP CW CI : Array Value) (w0 w : World) (b gY gU gP gW gI : Nat) : Prop where
  below : Below w0.heap.size w0 w
  hb : w.heap[b]? = some (.cells #[.int .i64 n, .slice none 0 0, .slice (some ⟨gW, 0, none⟩) (2 * n + 2) (2 * n + 2), .slice (some ⟨gI, 0, none⟩) (2 * n + 2) (2 * n + 2), .slice (some ⟨gY, 0, none⟩) (n + 1) (n + 1), .slice none 0 0, .slice none 0 0, .int .i64 0, .slice (some ⟨gU, 0, none⟩) (n + 1) (n + 1), .slice (some ⟨gP, 0, none⟩) (n + 1) (n + 1), .slice none 0 0] 75 (0, 0))
  hY : w.heap[gY]? = some (.cells CY 99 (0, 0))
  hU : w.heap[gU]? = some (.cells CU 3 (0, 0))
  hP : w.heap[gP]? = some (.cells CP 4 (0, 0))
  hW : w.heap[gW]? = some (.cells CW 35 (0, 0))
  hI : w.heap[gI]? = some (.cells CI 4 (0, 0))
  old : w0.heap.size ≤ b ∧ w0.heap.size ≤ gY ∧ w0.heap.size ≤ gU ∧ w0.heap.size ≤ gP ∧ w0.heap.size ≤ gW ∧ w0.heap.size ≤ gI
  ne : b ≠ gY ∧ b ≠ gU ∧ b ≠ gP ∧ gY ≠ gU ∧ gY ≠ gP ∧ gU ≠ gP ∧ b < gW ∧ gY < gW ∧ gU < gW ∧ gP < gW ∧ b < gI ∧ gY < gI ∧ gU < gI ∧ gP < gI ∧ gW ≠ gI
theorem Made1.two {n : Nat} {CY CU CP : Array Value} {w0 w : World} {b gY gU gP : Nat} (h : Made1 n CY CU CP w0 w b gY gU gP) {CW CI : Array Value} {W : World} {gW gI : Nat}
    (hb : Below w.heap.size ((w.setCell ⟨b, 2, none⟩ (.slice (some ⟨gW, 0, none⟩) (2 * n + 2) (2 * n + 2))).setCell ⟨b, 3, none⟩ (.slice (some ⟨gI, 0, none⟩) (2 * n + 2) (2 * n + 2))) W)
    (hW : W.heap[gW]? = some (.cells CW 35 (0, 0))) (hI : W.heap[gI]? = some (.cells CI 4 (0, 0))) (h1 : w.heap.size ≤ gW) (h2 : w.heap.size ≤ gI) (hne : gW ≠ gI) :
    Made2 n CY CU CP CW CI w0 W b gY gU gP gW gI := by
  have lb := heap_lt h.hb
  have lY := heap_lt h.hY
  have lU := heap_lt h.hU
  have lP := heap_lt h.hP
  obtain ⟨n1, n2, n3, n4, n5, n6⟩ := h.ne
  obtain ⟨o1, o2, o3, o4⟩ := h.old
  have hk : Keep (· = b) w ((w.setCell ⟨b, 2, none⟩ (.slice (some ⟨gW, 0, none⟩) (2 * n + 2) (2 * n + 2))).setCell ⟨b, 3, none⟩ (.slice (some ⟨gI, 0, none⟩) (2 * n + 2) (2 * n + 2))) :=
    (Keep.setCell (D := (· = b)) w ⟨b, 2, none⟩ _ rfl).trans (Keep.setCell (D := (· = b)) _ ⟨b, 3, none⟩ _ rfl)
  have hw0 := h.below.size
  refine ⟨h.below.trans ((hk.below hw0 fun k _ e => by subst e; exact o1).trans (hb.mono hw0)), ?_, ?_, ?_, ?_, hW, hI, ⟨o1, o2, o3, o4, by omega, by omega⟩, ⟨n1, n2, n3, n4, n5, n6, by omega, by omega, by omega, by omega, by omega, by omega, by omega, by omega, hne⟩⟩
  · rw [hb.block b lb, setCell_heap (setCell_heap h.hb _)]; rfl
  · rw [hb.block gY lY, hk.block gY lY (fun e => n1 e.symm)]; exact h.hY
  · rw [hb.block gU lU, hk.block gU lU (fun e => n2 e.symm)]; exact h.hU
  · rw [hb.block gP lP, hk.block gP lP (fun e => n3 e.symm)]; exact h.hP
theorem allocs (X : World) (o1 o2 : Obj) (sz : Nat) (hs : X.heap.size = sz) : Below sz X ((X.alloc o1).alloc o2).drew ∧ ((X.alloc o1).alloc o2).drew.heap[sz]? = some o1 ∧ ((X.alloc o1).alloc o2).drew.heap[sz + 1]? = some o2 := by
  subst hs
  exact ⟨(((Below.refl _ _).alloc (Nat.le_refl _) _).alloc (by simp) _).drew, heap_push (heap_top _ _ rfl), heap_top _ _ (by simp)⟩
theorem Made1.x {n : Nat} {CY CU CP : Array Value} {w0 w : World} {b gY gU gP : Nat} (h : Made1 n CY CU CP w0 w b gY gU gP) (CW CI : Array Value) :
    Made2 n CY CU CP CW CI w0 ((((w.setCell ⟨b, 2, none⟩ (.slice (some ⟨w.heap.size, 0, none⟩) (2 * n + 2) (2 * n + 2))).setCell ⟨b, 3, none⟩ (.slice (some ⟨w.heap.size + 1, 0, none⟩) (2 * n + 2) (2 * n + 2))).alloc (.cells CW 35)).alloc (.cells CI 4)).drew b gY gU gP w.heap.size (w.heap.size + 1) := by
  obtain ⟨h1, h2, h3⟩ := allocs ((w.setCell ⟨b, 2, none⟩ (.slice (some ⟨w.heap.size, 0, none⟩) (2 * n + 2) (2 * n + 2))).setCell ⟨b, 3, none⟩ (.slice (some ⟨w.heap.size + 1, 0, none⟩) (2 * n + 2) (2 * n + 2))) (.cells CW 35) (.cells CI 4) w.heap.size (by simp [World.setCell])
  exact h.two h1 h2 h3 (Nat.le_refl _) (by omega) (by omega)
theorem Made1.y {n : Nat} {CY CU CP : Array Value} {w0 w : World} {b gY gU gP : Nat} (h : Made1 n CY CU CP w0 w b gY gU gP) (CW CI : Array Value) :
    Made2 n CY CU CP CW CI w0 ((((w.setCell ⟨b, 2, none⟩ (.slice (some ⟨w.heap.size + 1, 0, none⟩) (2 * n + 2) (2 * n + 2))).setCell ⟨b, 3, none⟩ (.slice (some ⟨w.heap.size, 0, none⟩) (2 * n + 2) (2 * n + 2))).alloc (.cells CI 4)).alloc (.cells CW 35)).drew b gY gU gP (w.heap.size + 1) w.heap.size := by
  obtain ⟨h1, h2, h3⟩ := allocs ((w.setCell ⟨b, 2, none⟩ (.slice (some ⟨w.heap.size + 1, 0, none⟩) (2 * n + 2) (2 * n + 2))).setCell ⟨b, 3, none⟩ (.slice (some ⟨w.heap.size, 0, none⟩) (2 * n + 2) (2 * n + 2))) (.cells CI 4) (.cells CW 35) w.heap.size (by simp [World.setCell])
  exact h.two h1 h3 h2 (by omega) (Nat.le_refl _) (by omega)
theorem rowOf {w : World} {g n size : Nat} {e : TypeId} {cur : Array Value} {xs : List Value} (hg : w.heap[g]? = some (.cells cur e (0, 0))) (hs : cur.toList = xs) (hl : xs.length = n * size) (hn : n ≤ maxLen) {m : Nat} (hm : m = n) :
    RowG w e size (.slice (some ⟨g, 0, none⟩) n n) m xs (some g) := by
  subst hm
  subst hs
  exact ⟨m, cur, rfl, hg, Nat.le_refl _, hn, by rw [← hl, Array.length_toList], List.take_of_length_le (by omega)⟩
/-- The solver without clauses, in memory. -/
theorem Made2.rep {n : Nat} {CY CU CP CW CI : Array Value} {w0 w : World} {b gY gU gP gW gI : Nat} (h : Made2 n CY CU CP CW CI w0 w b gY gU gP gW gI) (hn : n ≤ 1048576)
    (eY : CY.toList = List.replicate ((n + 1) * 2) (vI 0)) (eU : CU.toList = List.replicate (n + 1) (vI 0)) (eP : CP.toList = List.replicate (n + 1) (vB false)) (eW : CW.toList = List.replicate (2 * n + 2) (.slice none 0 0)) (eI : CI.toList = List.replicate (2 * n + 2) (vB false)) :
    ∃ ρ V, Rep w0.heap.size w ρ b (Sol.none n) V := by
  obtain ⟨n1, n2, n3, n4, n5, n6, n7, n8, n9, n10, n11, n12, n13, n14, n15⟩ := h.ne
  obtain ⟨o1, o2, o3, o4, o5, o6⟩ := h.old
  have lb := heap_lt h.hb
  have lY := heap_lt h.hY
  have lU := heap_lt h.hU
  have lP := heap_lt h.hP
  have lW := heap_lt h.hW
  have lI := heap_lt h.hI
  have sY : CY.size = (n + 1) * 2 := by rw [← Array.length_toList, eY]; simp
  have sU : CU.size = n + 1 := by rw [← Array.length_toList, eU]; simp
  have sP : CP.size = n + 1 := by rw [← Array.length_toList, eP]; simp
  have sW : CW.size = 2 * n + 2 := by rw [← Array.length_toList, eW]; simp
  have sI : CI.size = 2 * n + 2 := by rw [← Array.length_toList, eI]; simp
  refine ⟨fun k => if k = b then some .S else if k = gY then some .Y else if k = gU then some .U else if k = gP then some .P else if k = gW then some .W else if k = gI then some .I else none,
    ⟨.slice none 0 0, .slice (some ⟨gW, 0, none⟩) (2 * n + 2) (2 * n + 2), .slice (some ⟨gI, 0, none⟩) (2 * n + 2) (2 * n + 2), .slice (some ⟨gY, 0, none⟩) (n + 1) (n + 1), .slice none 0 0, .slice none 0 0, .slice (some ⟨gU, 0, none⟩) (n + 1) (n + 1), .slice (some ⟨gP, 0, none⟩) (n + 1) (n + 1), .slice none 0 0, [], List.replicate (2 * n + 2) (.slice none 0 0), []⟩, ?_⟩
  refine ⟨h.below.size, fun k r hk => ?_, h.hb, if_pos rfl, ?_, ⟨rfl, fun k v l hv => by simp at hv⟩, ?_, ?_, ?_, ?_, ?_, ?_, ?_, ?_, ?_, ⟨rfl, fun k v l hv => by simp at hv⟩⟩
  · repeat' split at hk
    all_goals first | (cases hk; done) | (subst_vars; omega)
  · exact ⟨none, ⟨⟨_, rfl⟩, rfl, rfl⟩, fun _ h => by cases h⟩
  · refine ⟨some gW, rowOf h.hW (by rw [eW]) (by simp) (by unfold maxLen; omega) (by simp [Sol.none]), fun k e => ?_⟩
    cases e
    show (if gW = b then _ else _) = _
    simp [show gW ≠ b by omega, show gW ≠ gY by omega, show gW ≠ gU by omega, show gW ≠ gP by omega]
  · refine ⟨by simp [Sol.none], fun k v l hv hl => ?_⟩
    have e1 := (List.mem_replicate.1 (List.mem_of_getElem? hv)).2
    have e2 := (List.mem_replicate.1 (List.mem_of_getElem? hl)).2
    subst e1
    subst e2
    exact ⟨none, ⟨⟨_, rfl⟩, rfl, rfl⟩, fun _ h => by cases h⟩
  · refine ⟨some gI, rowOf h.hI (by rw [eI]; simp [Sol.none]) (by simp [Sol.none]) (by unfold maxLen; omega) (by simp [Sol.none]), fun k e => ?_⟩
    cases e
    show (if gI = b then _ else _) = _
    simp [show gI ≠ b by omega, show gI ≠ gY by omega, show gI ≠ gU by omega, show gI ≠ gP by omega, show gI ≠ gW by omega]
  · refine ⟨some gY, rowOf h.hY (by rw [eY]; simp [Sol.none, vY_replicate]) (by simp [vY_replicate, Sol.none]) (by unfold maxLen; omega) (by simp [Sol.none]), fun k e => ?_⟩
    cases e
    show (if gY = b then _ else _) = _
    simp [show gY ≠ b by omega]
  · exact ⟨none, ⟨⟨_, rfl⟩, rfl, rfl⟩, fun _ h => by cases h⟩
  · exact ⟨none, ⟨⟨_, rfl⟩, rfl, rfl⟩, fun _ h => by cases h⟩
  · refine ⟨some gU, rowOf h.hU (by rw [eU]; simp [Sol.none]) (by simp [Sol.none]) (by unfold maxLen; omega) (by simp [Sol.none]), fun k e => ?_⟩
    cases e
    show (if gU = b then _ else _) = _
    simp [show gU ≠ b by omega, show gU ≠ gY by omega]
  · refine ⟨some gP, rowOf h.hP (by rw [eP]; simp [Sol.none]) (by simp [Sol.none]) (by unfold maxLen; omega) (by simp [Sol.none]), fun k e => ?_⟩
    cases e
    show (if gP = b then _ else _) = _
    simp [show gP ≠ b by omega, show gP ≠ gY by omega, show gP ≠ gU by omega]
  · exact ⟨none, ⟨⟨_, rfl⟩, rfl, rfl⟩, fun _ h => by cases h⟩
set_option maxHeartbeats 4000000 in
set_option maxRecDepth 100000 in
theorem fresh26 (w : World) (a : Option Addr) (l : List (List Int)) (c : Nat) (h : ClsAt w a l) (hn : l.length ≤ 1099511627776) (hl : ∀ x ∈ l, x.length ≤ 1099511627776) (hok : okAll l = true) (n m : Nat) (hnm : mostOf l = n) (S : Sol) (r : Bool)
    (hf : Sol.fresh cleanL m n l = some (S, r)) :
    Calls Try.prog 26 #[.slice a l.length c] w fun e w' => ∃ b ρ V, e = .returned (.tuple #[.pointer (some ⟨b, 0, none⟩), .bool r]) ∧ Rep w.heap.size w' ρ b S V ∧ Below w.heap.size w w' := by
  have hm := mostOf_le hok
  have hn20 : n ≤ 1048576 := by omega
  have HF := Lib.hid hf
  clear hf
  go_enter Try.func26, Try.ntmps26
  go_wp2_with fail
  refine (most42 w a l c h (by omega) hok).mono ?_
  rintro e w1 ⟨rfl, rfl⟩
  rw [hnm]
  have HNM := Lib.hid hnm
  clear hnm hm
  have hw1 : IntKind.i64.wrap ((n : Int) + 1) = (n : Int) + 1 := by rw [IntKind.wrap_i64]; omega
  have hw2 : wrap64 ((n : Int) + 1) = (n : Int) + 1 := by unfold wrap64; omega
  have hw3 : IntKind.i64.wrap (2 * (n : Int)) = 2 * (n : Int) := by rw [IntKind.wrap_i64]; omega
  have hw4 : IntKind.i64.wrap (2 * (n : Int) + 2) = 2 * (n : Int) + 2 := by rw [IntKind.wrap_i64]; omega
  obtain ⟨CY, hCY, mkY⟩ := make_eq (P := Try.prog) Try.underlying69 Try.inf99 (n + 1) ((n : Int) + 1) (by omega) (by omega) (by omega)
  obtain ⟨CU, hCU, mkU⟩ := make_eq (P := Try.prog) Try.underlying35 Try.inf3 (n + 1) ((n : Int) + 1) (by omega) (by omega) (by omega)
  obtain ⟨CP, hCP, mkP⟩ := make_eq (P := Try.prog) Try.underlying25 Try.inf4 (n + 1) ((n : Int) + 1) (by omega) (by omega) (by omega)
  obtain ⟨CW, hCW, mkW⟩ := make_eq (P := Try.prog) Try.underlying22 Try.inf35 (2 * n + 2) (2 * (n : Int) + 2) (by omega) (by omega) (by omega)
  obtain ⟨CI, hCI, mkI⟩ := make_eq (P := Try.prog) Try.underlying25 Try.inf4 (2 * n + 2) (2 * (n : Int) + 2) (by omega) (by omega) (by omega)
  have HCY := Lib.hid hCY
  have HCU := Lib.hid hCU
  have HCP := Lib.hid hCP
  have HCW := Lib.hid hCW
  have HCI := Lib.hid hCI
  clear hCY hCU hCP hCW hCI
  go_wp2_with fail
  go_cut [5] (fun v5 w' => ∃ b gY gU gP, v5 = .pointer (some ⟨b, 0, none⟩) ∧ Made1 n CY CU CP w1 w' b gY gU gP)
  case first =>
    go_region
    all_goals
      go_wp2_with fail
      go_meet
      first
      | exact ⟨w1.heap.size + 1 + 1 + 1, w1.heap.size, w1.heap.size + 1, w1.heap.size + 1 + 1, rfl, ⟨((((Below.refl _ _).alloc (Nat.le_refl _) _).alloc (by simp) _).alloc (by simp; omega) _).alloc (by simp; omega) _ |>.drew, heap_top _ _ (by simp), heap_push (heap_push (heap_push (heap_top _ _ rfl))), heap_push (heap_push (heap_top _ _ (by simp))), heap_push (heap_top _ _ (by simp)), by omega, by omega⟩⟩
      | exact ⟨w1.heap.size + 1 + 1 + 1, w1.heap.size, w1.heap.size + 1 + 1, w1.heap.size + 1, rfl, ⟨((((Below.refl _ _).alloc (Nat.le_refl _) _).alloc (by simp) _).alloc (by simp; omega) _).alloc (by simp; omega) _ |>.drew, heap_top _ _ (by simp), heap_push (heap_push (heap_push (heap_top _ _ rfl))), heap_push (heap_top _ _ (by simp)), heap_push (heap_push (heap_top _ _ (by simp))), by omega, by omega⟩⟩
      | exact ⟨w1.heap.size + 1 + 1 + 1, w1.heap.size + 1, w1.heap.size, w1.heap.size + 1 + 1, rfl, ⟨((((Below.refl _ _).alloc (Nat.le_refl _) _).alloc (by simp) _).alloc (by simp; omega) _).alloc (by simp; omega) _ |>.drew, heap_top _ _ (by simp), heap_push (heap_push (heap_top _ _ (by simp))), heap_push (heap_push (heap_push (heap_top _ _ rfl))), heap_push (heap_top _ _ (by simp)), by omega, by omega⟩⟩
      | exact ⟨w1.heap.size + 1 + 1 + 1, w1.heap.size + 1, w1.heap.size + 1 + 1, w1.heap.size, rfl, ⟨((((Below.refl _ _).alloc (Nat.le_refl _) _).alloc (by simp) _).alloc (by simp; omega) _).alloc (by simp; omega) _ |>.drew, heap_top _ _ (by simp), heap_push (heap_push (heap_top _ _ (by simp))), heap_push (heap_top _ _ (by simp)), heap_push (heap_push (heap_push (heap_top _ _ rfl))), by omega, by omega⟩⟩
      | exact ⟨w1.heap.size + 1 + 1 + 1, w1.heap.size + 1 + 1, w1.heap.size, w1.heap.size + 1, rfl, ⟨((((Below.refl _ _).alloc (Nat.le_refl _) _).alloc (by simp) _).alloc (by simp; omega) _).alloc (by simp; omega) _ |>.drew, heap_top _ _ (by simp), heap_push (heap_top _ _ (by simp)), heap_push (heap_push (heap_push (heap_top _ _ rfl))), heap_push (heap_push (heap_top _ _ (by simp))), by omega, by omega⟩⟩
      | exact ⟨w1.heap.size + 1 + 1 + 1, w1.heap.size + 1 + 1, w1.heap.size + 1, w1.heap.size, rfl, ⟨((((Below.refl _ _).alloc (Nat.le_refl _) _).alloc (by simp) _).alloc (by simp; omega) _).alloc (by simp; omega) _ |>.drew, heap_top _ _ (by simp), heap_push (heap_top _ _ (by simp)), heap_push (heap_push (heap_top _ _ (by simp))), heap_push (heap_push (heap_push (heap_top _ _ rfl))), by omega, by omega⟩⟩
  case rest =>
    obtain ⟨b, gY, gU, gP, rfl, h1⟩ := hcut
    clear mkY mkU mkP
    have c2 : wc.cell? ⟨b, 2, none⟩ = some (.slice none 0 0) := cell_of_row _ _ 2 _ 75 (0, 0) h1.hb
    have c3 : wc.cell? ⟨b, 3, none⟩ = some (.slice none 0 0) := cell_of_row _ _ 3 _ 75 (0, 0) h1.hb
    have f2 : ∀ o s, wc.frozen? ⟨b, o, s⟩ = false := fun o s => by simp [World.frozen?, h1.hb]
    have hb1 : Below wc.heap.size wc ((wc.alloc (.cells CW 35)).alloc (.cells CI 4)) := ((Below.refl _ _).alloc (Nat.le_refl _) _).alloc (by simp) _
    have hb2 : Below wc.heap.size wc ((wc.alloc (.cells CI 4)).alloc (.cells CW 35)) := ((Below.refl _ _).alloc (Nat.le_refl _) _).alloc (by simp) _
    have hbl := heap_lt h1.hb
    have y1 := bcell hb1 c2 hbl
    have y2 := bcell hb1 c3 hbl
    have y3 := bcell hb2 c2 hbl
    have y4 := bcell hb2 c3 hbl
    have y5 : ∀ o s, ((wc.alloc (.cells CW 35)).alloc (.cells CI 4)).frozen? ⟨b, o, s⟩ = false := fun o s => by simp [World.frozen?, hb1.block b hbl, h1.hb]
    have y6 : ∀ o s, ((wc.alloc (.cells CI 4)).alloc (.cells CW 35)).frozen? ⟨b, o, s⟩ = false := fun o s => by simp [World.frozen?, hb2.block b hbl, h1.hb]
    go_wp2_with fail
    go_cut [] (fun w' => ∃ gW gI, Made2 n CY CU CP CW CI w1 w' b gY gU gP gW gI)
    case first =>
      go_region
      all_goals
        go_wp2_with fail
        go_meet
        first
        | exact ⟨_, _, h1.x CW CI⟩
        | exact ⟨_, _, h1.y CW CI⟩
    case rest =>
      obtain ⟨gW, gI, h2⟩ := hcut
      clear y1 y2 y3 y4 y5 y6 hb1 hb2 hbl f2 c2 c3 h1
      obtain ⟨ρ0, V0, r0⟩ := h2.rep hn20 (by rw [HCY.out]; exact mc_two _) (by rw [HCU.out]; exact mc_one _ rfl _) (by rw [HCP.out]; exact mc_one _ rfl _) (by rw [HCW.out]; exact mc_one _ rfl _) (by rw [HCI.out]; exact mc_one _ rfl _)
      have b0 := h2.below
      clear h2 HCY HCU HCP HCW HCI mkI mkW
      have HF' := HF.out
      unfold Sol.fresh at HF'
      rw [Option.bind_eq_some_iff] at HF'
      obtain ⟨⟨Sx, rx⟩, hadds, HF2⟩ := HF'
      have HADDS := Lib.hid hadds
      have HF3 := Lib.hid HF2
      have HCA := Lib.hid h
      have HLL := Lib.hid hl
      have hwl := b0.size
      clear hadds HF2 HF h hl hok HNM
      go_wp2_with fail
      go_loopg [40] l.length (fun kq v40 w' => ∃ (i : Nat) (S1 : Sol) (ρ1 : Nat → Option Role) (V1 : Vals), v40 = .int .i64 i ∧ i ≤ l.length ∧ l.length ≤ kq + i ∧ Rep w1.heap.size w' ρ1 b S1 V1 ∧ Below w1.heap.size w1 w' ∧ Hid (S1.adds cleanL (l.drop i) = some (Sx, rx)))
      case atStart => exact ⟨0, _, ρ0, V0, rfl, Nat.zero_le _, by omega, r0, b0, HADDS⟩
      case round =>
        obtain ⟨i, S1, ρ1, V1, rfl, hi, hkq, r1, b1, HA⟩ := hrel
        clear r0 b0 HADDS hwl
        by_cases hil : i < l.length
        · obtain ⟨x, hx⟩ : ∃ x, l[i]? = some x := ⟨_, List.getElem?_eq_getElem hil⟩
          obtain ⟨b2, o2, rfl, hb2, hcx⟩ : ∃ b o, a = some ⟨b, o, none⟩ ∧ b < w1.heap.size ∧ ∀ j c, l[j]? = some c → ∃ ac cc, w1.cell? ⟨b, o + j, none⟩ = some (.slice ac c.length cc) ∧ IntsAt w1 ac c ∧ c.length ≤ 9223372036854775807 := by
            rcases HCA.out with h | h
            · rw [h] at hil; simp at hil
            · exact h
          obtain ⟨ac, cc, cx, hI, _⟩ := hcx i x hx
          have cx := bcell b1 cx hb2
          have hI := hI.below b1
          have hxl := HLL.out x (List.mem_of_getElem? hx)
          have hdrop : l.drop i = x :: l.drop (i + 1) := by
            rw [List.drop_eq_getElem_cons hil, (List.getElem?_eq_some_iff.1 hx).2]
          have H := HA.out
          rw [hdrop, Sol.adds, Option.bind_eq_some_iff] at H
          obtain ⟨⟨S2, r2⟩, hadd, H⟩ := H
          have HADD := Lib.hid hadd
          have HH := Lib.hid H
          clear hadd H hdrop hcx hx HA
          go_wp2_with fail
          refine (clean44 wr ac x cc hI hxl).mono ?_
          rintro e w3 ⟨v3, g3, rfl, hG3, hg3, hb3⟩
          obtain ⟨r3, p3⟩ := r1.below hb3
          have hB1 := r1.hB
          obtain ⟨ρ4, r4, hr4, b4⟩ : ∃ ρ4, Rep w1.heap.size w3 ρ4 b S1 V1 ∧ (∀ k, g3 = some k → ρ4 k = some (.K S1.cls.length)) ∧ Below w1.heap.size w1 w3 := by
            have hbb : Below w1.heap.size w1 w3 := b1.trans (hb3.mono hB1)
            cases g3 with
            | none => exact ⟨ρ1, r3, fun k e => (by cases e), hbb⟩
            | some k =>
              have hk := hg3 k rfl
              exact ⟨_, r3.turn (g := k) (fun r hr => by have := r1.dom' k r hr; omega) (.K S1.cls.length) (by omega) hG3.lt, fun j e => (by cases e; exact turnRole_self _ _ _), hbb⟩
          clear r3 p3 r1 cx hI b1
          obtain ⟨a3, c3, rfl, _⟩ := hG3.val
          go_wp2_with fail
          refine (add43 r4 hG3 hr4 HADD.out).mono ?_
          rintro e w5 ⟨rfl, ρ5, V5, r5, p5⟩
          have b5 : Below w1.heap.size w1 w5 := b4.trans (p5.toBelow r4.dom r4.hB)
          clear r4 hG3 hr4 b4 p5
          cases r2 with
          | true =>
            go_wp2_with fail
            go_roundg (gk - 1)
            case measure => omega
            case rel => exact ⟨i + 1, S2, ρ5, V5, by go_num, by omega, by omega, r5, b5, Lib.hid (by have := HH.out; simpa using this)⟩
          | false =>
            go_wp2_with fail
            refine bodyPost_ret (results_tmp2 rfl _ _ _) rfl ?_
            have e1 := HH.out
            simp only [Bool.false_eq_true, if_false, Option.some.injEq, Prod.mk.injEq] at e1
            obtain ⟨rfl, rfl⟩ := e1
            have e2 := HF3.out
            simp only [Bool.false_eq_true, if_false, Option.some.injEq, Prod.mk.injEq] at e2
            obtain ⟨rfl, rfl⟩ := e2
            exact ⟨b, ρ5, V5, rfl, r5, b5⟩
        · have H := HA.out
          rw [List.drop_of_length_le (by omega), Sol.adds] at H
          simp only [Option.some.injEq, Prod.mk.injEq] at H
          obtain ⟨rfl, rfl⟩ := H
          have e2 := HF3.out
          simp only [if_true] at e2
          rw [Option.map_eq_some_iff] at e2
          obtain ⟨⟨S6, k6⟩, hsp, e2⟩ := e2
          simp only [Prod.mk.injEq] at e2
          obtain ⟨rfl, rfl⟩ := e2
          have HSP := Lib.hid hsp
          clear hsp HA HF3
          by_cases hk : k6 = -1
          · subst hk
            go_wp2_with fail
            refine (spread45 r1 m (-1) HSP.out).mono ?_
            rintro e w6 ⟨rfl, ρ6, V6, r6, p6⟩
            have b6 : Below w1.heap.size w1 w6 := b1.trans (p6.toBelow r1.dom r1.hB)
            go_wp2_with fail
            refine bodyPost_ret (results_tmp2 rfl _ _ _) rfl ?_
            exact ⟨b, rfl, ⟨ρ6, V6, r6⟩, b6⟩
          · have hk1 : (k6 == -1) = false := beq_eq_false_iff_ne.2 hk
            have hk2 : decide (k6 = -1) = false := by simp [hk]
            go_wp2_with fail
            refine (spread45 r1 m k6 HSP.out).mono ?_
            rintro e w6 ⟨rfl, ρ6, V6, r6, p6⟩
            have b6 : Below w1.heap.size w1 w6 := b1.trans (p6.toBelow r1.dom r1.hB)
            go_wp2_with fail
            refine bodyPost_ret (results_tmp2 rfl _ _ _) rfl ?_
            exact ⟨b, ρ6, V6, by simp [hk2], r6, b6⟩
end Go.Proofs.Ytfmoldfajmfieaa
