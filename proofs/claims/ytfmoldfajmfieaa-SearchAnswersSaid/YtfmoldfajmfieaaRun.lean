/-
  The search, till all have values, or nothing can, or there were enough tries: the walk.
-/
import Derived.Test.YtfmoldfajmfieaaRunF
import Derived.Test.YtfmoldfajmfieaaTurn
import Derived.Test.YtfmoldfajmfieaaSpread
import Derived.Deep.RegionLaw
import Derived.Deep.RegionWith
namespace Go.Proofs.Ytfmoldfajmfieaa
open Go.RowKit Go.Maps
/-- What was found, in memory that is no older than B. -/
def AnsAt (B : Nat) (w : World) (v : Value) (a : Ans) : Prop :=
  ∃ vm vp, v = .agg #[.int .i64 a.is_, .int .i64 a.tries, vm, vp] ∧ (∃ g, RowG w 4 1 vm a.model.length (a.model.map vB) g ∧ ∀ k, g = some k → B ≤ k) ∧
    ∃ fs g, RowG w 35 1 vp a.proof.length fs g ∧ (∀ k, g = some k → B ≤ k) ∧ fs.length = a.proof.length ∧
      ∀ (k : Nat) u l, fs[k]? = some u → a.proof[k]? = some l → ∃ g, RowG w 3 1 u l.length (l.map vI) g ∧ ∀ k, g = some k → B ≤ k
/-- The search at a round: the solver, what is to be answered (block gO), the result's place (block gR). -/
structure RunAt (B : Nat) (w0 : World) (b gO gR : Nat) (ρ : Nat → Option Role) (V : Vals) (S : Sol) (t : Int) (w : World) : Prop where
  rep : Rep B w ρ b S V
  rO : ρ gO = some (.X 7)
  rR : ρ gR = some (.X 8)
  below : Below B w0 w
  cO : w.heap[gO]? = some (.cells #[.int .i64 0, .int .i64 t, .slice none 0 0, .slice none 0 0] 27 (0, 0))
  cR : w.heap[gR]? = some (.cells #[.int .i64 0, .int .i64 0, .slice none 0 0, .slice none 0 0] 27 (0, 0))
section
variable {B : Nat} {w0 w w' : World} {b gO gR : Nat} {ρ : Nat → Option Role} {V : Vals} {S S' : Sol} {t : Int}
theorem Path.toBelow {ρ' : Nat → Option Role} (hp : Path w ρ w' ρ') (hd : ∀ k r, ρ k = some r → B ≤ k ∧ k < w.heap.size) (hB : B ≤ w.heap.size) : Below B w w' :=
  hp.only.below hB fun k _ ⟨r, h1, _⟩ => (hd k r h1).1
theorem RunAt.step (h : RunAt B w0 b gO gR ρ V S t w) (hs : StepTo B w ρ b S' w') : ∃ ρ' V', RunAt B w0 b gO gR ρ' V' S' t w' := by
  obtain ⟨ρ', V', r, p⟩ := hs
  refine ⟨ρ', V', r, p.x _ _ h.rO, p.x _ _ h.rR, h.below.trans ((p.toBelow h.rep.dom h.rep.hB).mono (Nat.le_refl _)), ?_, ?_⟩
  · rw [p.only.block gO (heap_lt h.cO) fun ⟨r, h1, h2⟩ => by rw [h.rO] at h1; cases h1; exact h2 7 rfl]; exact h.cO
  · rw [p.only.block gR (heap_lt h.cR) fun ⟨r, h1, h2⟩ => by rw [h.rR] at h1; cases h1; exact h2 8 rfl]; exact h.cR
theorem RunAt.quiet (h : RunAt B w0 b gO gR ρ V S t w) (hb : Below w.heap.size w w') : RunAt B w0 b gO gR ρ V S t w' :=
  ⟨h.rep.quiet hb, h.rO, h.rR, h.below.trans (hb.mono h.rep.hB), by rw [hb.block gO (heap_lt h.cO)]; exact h.cO, by rw [hb.block gR (heap_lt h.cR)]; exact h.cR⟩
theorem RunAt.ne (h : RunAt B w0 b gO gR ρ V S t w) : gO ≠ gR ∧ b ≠ gO ∧ b ≠ gR := by
  refine ⟨fun e => ?_, fun e => ?_, fun e => ?_⟩
  · have := h.rO; rw [e, h.rR] at this; simp at this
  · have := h.rO; rw [← e, h.rep.rb] at this; simp at this
  · have := h.rR; rw [← e, h.rep.rb] at this; simp at this
/-- One try more. -/
theorem RunAt.tick (h : RunAt B w0 b gO gR ρ V S t w) (t' : Int) : RunAt B w0 b gO gR ρ V S t' (w.setCell ⟨gO, 1, none⟩ (.int .i64 t')) := by
  have hk : Keep (· = gO) w (w.setCell ⟨gO, 1, none⟩ (.int .i64 t')) := Keep.setCell (D := (· = gO)) w ⟨gO, 1, none⟩ _ rfl
  refine ⟨h.rep.localX hk h.rO, h.rO, h.rR, h.below.trans (hk.below h.rep.hB fun k _ e => by subst e; exact (h.rep.dom _ _ h.rO).1), ?_, ?_⟩
  · rw [setCell_heap h.cO]; rfl
  · rw [hk.block gR (heap_lt h.cR) h.ne.1.symm]; exact h.cR
theorem RunAt.start (hR : Rep B w ρ b S V) : RunAt B w b (w.heap.size + 1) w.heap.size (turnRole (turnRole ρ w.heap.size (.X 8)) (w.heap.size + 1) (.X 7)) V S 0
    ((w.alloc (.cells #[.int .i64 0, .int .i64 0, .slice none 0 0, .slice none 0 0] 27)).alloc (.cells #[.int .i64 0, .int .i64 0, .slice none 0 0, .slice none 0 0] 27)) := by
  have hb : Below w.heap.size w ((w.alloc (.cells #[.int .i64 0, .int .i64 0, .slice none 0 0, .slice none 0 0] 27)).alloc (.cells #[.int .i64 0, .int .i64 0, .slice none 0 0, .slice none 0 0] 27)) :=
    ((Below.refl _ _).alloc (Nat.le_refl _) _).alloc (by simp) _
  have hB := hR.hB
  have h1 := (hR.quiet hb).turn (g := w.heap.size) (fun r hr => by have := hR.dom' _ _ hr; omega) (.X 8) hB (by simp; omega)
  have h2 := h1.turn (g := w.heap.size + 1) (fun r hr => by
    unfold turnRole at hr
    rw [if_neg (by omega)] at hr
    have := hR.dom' _ _ hr; omega) (.X 7) (by omega) (by simp)
  refine ⟨h2, turnRole_self _ _ _, by rw [turnRole_ne (by omega), turnRole_self], hb.mono hB, ?_, ?_⟩
  · have := heap_alloc_new (w.alloc (.cells #[.int .i64 0, .int .i64 0, .slice none 0 0, .slice none 0 0] 27)) (.cells #[.int .i64 0, .int .i64 0, .slice none 0 0, .slice none 0 0] 27)
    simpa using this
  · rw [Below.heap_alloc _ _ _ (by simp)]; exact heap_alloc_new w _
/-- An append to the proof leaves the result's place. -/
theorem RunAt.app (h : RunAt B w0 b gO gR ρ V S t w) {W w7 : World} {gF : Option Nat} {g7 : Nat} (hb : Below w.heap.size w W) (ha : AppTo W w7 gF g7) (hr : ∀ k, gF = some k → ρ k = some .F) :
    (∀ k r, ρ k = some r → r ≠ .F → w7.heap[k]? = w.heap[k]? ∧ k ≠ g7) ∧ Below B w w7 ∧ B ≤ g7 := by
  have hk : ∀ k r, ρ k = some r → r ≠ .F → k ≠ g7 := fun k r hr1 hne e => by
    subst e
    rcases ha.who with hw | hw
    · have := hr k hw; rw [hr1] at this; cases this; exact hne rfl
    · have := h.rep.dom' k r hr1; have := hb.size; omega
  have hg7 : B ≤ g7 := by
    rcases ha.who with hw | hw
    · exact (h.rep.dom _ _ (hr g7 hw)).1
    · have := h.rep.hB; have := hb.size; omega
  refine ⟨fun k r hr1 hne => ⟨?_, hk k r hr1 hne⟩, (hb.mono h.rep.hB).trans (ha.keep.below (Nat.le_trans h.rep.hB hb.size) fun k _ e => by subst e; exact hg7), hg7⟩
  have hlt := h.rep.dom' k r hr1
  rw [ha.keep.block k (Nat.lt_of_lt_of_le hlt hb.size) (hk k r hr1 hne), hb.block k hlt]
/-- The four cells of a block that is known whole, written. -/
theorem four {w : World} {g : Nat} {a0 a1 a2 a3 : Value} (h : w.heap[g]? = some (.cells #[a0, a1, a2, a3] 27 (0, 0))) (v0 v1 v2 v3 : Value) :
    ∃ w', w' = (((w.setCell ⟨g, 0, none⟩ v0).setCell ⟨g, 1, none⟩ v1).setCell ⟨g, 2, none⟩ v2).setCell ⟨g, 3, none⟩ v3 ∧ w'.heap[g]? = some (.cells #[v0, v1, v2, v3] 27 (0, 0)) ∧ Keep (· = g) w w' := by
  have k1 : Keep (· = g) w (w.setCell ⟨g, 0, none⟩ v0) := Keep.setCell (D := (· = g)) w ⟨g, 0, none⟩ _ rfl
  have k2 := k1.trans (Keep.setCell (D := (· = g)) (w.setCell ⟨g, 0, none⟩ v0) ⟨g, 1, none⟩ v1 rfl)
  have k3 := k2.trans (Keep.setCell (D := (· = g)) ((w.setCell ⟨g, 0, none⟩ v0).setCell ⟨g, 1, none⟩ v1) ⟨g, 2, none⟩ v2 rfl)
  have k4 := k3.trans (Keep.setCell (D := (· = g)) (((w.setCell ⟨g, 0, none⟩ v0).setCell ⟨g, 1, none⟩ v1).setCell ⟨g, 2, none⟩ v2) ⟨g, 3, none⟩ v3 rfl)
  refine ⟨_, rfl, ?_, k4⟩
  rw [setCell_heap (setCell_heap (setCell_heap (setCell_heap h v0) v1) v2) v3]; rfl
/-- The answer 'no', with the proof and the empty clause at its end. -/
theorem RunAt.no (h : RunAt B w0 b gO gR ρ V S t w) {w7 : World} {gF : Option Nat} {g7 c7 : Nat} {vF : Value} (_hGF : RowG w 35 1 vF S.proof.length V.fs gF)
    (h7 : (∀ k r, ρ k = some r → r ≠ .F → w7.heap[k]? = w.heap[k]? ∧ k ≠ g7) ∧ Below B w w7 ∧ B ≤ g7) {u0 : Nat}
    (hG7 : RowG w7 35 1 (.slice (some ⟨g7, 0, none⟩) (S.proof.length + 1) c7) (S.proof.length + 1) (V.fs ++ [.slice (some ⟨u0, 0, none⟩) 0 0]) (some g7)) {w9 : World} (hk : Keep (· = gR) w7 w9) :
    Below B w0 w9 ∧ AnsAt B w9 (.agg #[.int .i64 2, .int .i64 t, .slice none 0 0, .slice (some ⟨g7, 0, none⟩) (S.proof.length + 1) c7]) ⟨2, t, [], S.proof ++ [[]]⟩ := by
  obtain ⟨hold, hb, hB7⟩ := h7
  have hRB := (h.rep.dom _ _ h.rR).1
  have hRB7 : gR ≠ g7 := (hold _ _ h.rR (by simp)).2
  have hfl : V.fs.length = S.proof.length := h.rep.hg.1
  refine ⟨h.below.trans (hb.trans (hk.below (Nat.le_trans h.rep.hB hb.size) fun k _ e => by subst e; exact hRB)), _, _, rfl, ⟨none, ⟨⟨_, rfl⟩, rfl, rfl⟩, fun _ h => (by cases h)⟩, V.fs ++ [.slice (some ⟨u0, 0, none⟩) 0 0], some g7, ?_, fun k e => (by cases e; exact hB7), by simp [hfl], ?_⟩
  · have := hG7.keep hk (fun k e => by cases e; exact fun e' => hRB7 e'.symm)
    simpa using this
  · intro k u l hu hl
    rw [List.getElem?_append] at hu hl
    split at hu
    · next hkl =>
      rw [if_pos (by omega)] at hl
      obtain ⟨g, hg, hr⟩ := h.rep.hg.2 k u l hu hl
      refine ⟨g, hg.same fun j e => ?_, fun j e => (h.rep.dom _ _ (hr j e)).1⟩
      have hrj := hr j e
      have h1 := hold j _ hrj (by simp)
      have hjR : j ≠ gR := fun e' => by rw [e', h.rR] at hrj; cases hrj
      have hjl := h.rep.dom' j _ hrj
      rw [hk.block j (Nat.lt_of_lt_of_le hjl hb.size) hjR, h1.1]
    · next hkl =>
      rw [if_neg (by omega)] at hl
      have e1 : k - V.fs.length = 0 := by
        have := (List.getElem?_eq_some_iff.1 hu).1
        simp at this; omega
      have e2 : k - S.proof.length = 0 := by omega
      rw [e1] at hu
      rw [e2] at hl
      simp at hu hl
      subst hu
      subst hl
      exact ⟨none, ⟨⟨_, rfl⟩, rfl, rfl⟩, fun _ h => (by cases h)⟩
end
theorem modelFrom_len {S : Sol} : ∀ (n : Nat) (v : Int) (m : List Bool), S.modelFrom n v = some m → m.length = n
  | 0, v, m, h => by simp [Sol.modelFrom] at h; subst h; rfl
  | n + 1, v, m, h => by
    rw [Sol.modelFrom, Option.bind_eq_some_iff] at h
    obtain ⟨t, _, h⟩ := h
    rw [Option.map_eq_some_iff] at h
    obtain ⟨m', h1, rfl⟩ := h
    simp [modelFrom_len n _ m' h1]
theorem model_len {S : Sol} {m : List Bool} (h : S.model = some m) : m.length ≤ maxLen := by
  unfold Sol.model at h
  split at h
  · next hv =>
    rw [Option.map_eq_some_iff] at h
    obtain ⟨m', h1, rfl⟩ := h
    have := modelFrom_len _ _ _ h1
    simp only [List.length_cons, maxLen]
    omega
  · cases h
theorem enter48 : ∀ args w, (callFunc 48 args).run Try.prog w = .ok (.enter 48 args) w := fun _ _ => by go_simp
set_option maxHeartbeats 4000000 in
set_option maxRecDepth 100000 in
theorem run27 {B : Nat} {w : World} {ρ : Nat → Option Role} {b : Nat} {S : Sol} {V : Vals} (hRep : Rep B w ρ b S V) (m f : Nat) (T : Int) (a : Ans) (hT : T < 1099511627776) (hT0 : 0 ≤ T) (hr : S.run m T f 0 = some a) :
    Calls Try.prog 27 #[.pointer (some ⟨b, 0, none⟩), .int .i64 T] w fun e w' => ∃ v, e = .returned v ∧ Below B w w' ∧ AnsAt B w' v a := by
  have HS := Lib.hid hr
  clear hr
  go_enter Try.func27, Try.ntmps27
  go_wp2_with fail
  have h0 := RunAt.start hRep
  generalize hgO : w.heap.size + 1 = gO at h0 ⊢
  generalize hgR : w.heap.size = gR at h0 ⊢
  generalize hw1 : (w.alloc (.cells #[.int .i64 0, .int .i64 0, .slice none 0 0, .slice none 0 0] 27)).alloc (.cells #[.int .i64 0, .int .i64 0, .slice none 0 0, .slice none 0 0] 27) = w1 at h0 ⊢
  clear hgO hgR hw1
  go_loopg [] f (fun kq w' => ∃ (S1 : Sol) (t1 : Int) (ρ1 : Nat → Option Role) (V1 : Vals), RunAt B w b gO gR ρ1 V1 S1 t1 w' ∧ 0 ≤ t1 ∧ t1 ≤ T ∧ Hid (Sol.run m T kq S1 t1 = some a))
  case atStart => exact ⟨S, 0, _, _, h0, Int.le_refl _, hT0, HS⟩
  case round =>
    clear HS h0 hRep
    obtain ⟨S1, t1, ρ1, V1, h1, ht0, ht1, HA⟩ := hrel
    cases gk with
    | zero => exact absurd HA.out (by simp [Sol.run])
    | succ k1 =>
      have H := HA.out
      clear HA
      simp only [Sol.run] at H
      rw [Option.bind_eq_some_iff] at H
      obtain ⟨⟨S2, k⟩, hsp, H⟩ := H
      have HSP := Lib.hid hsp
      have HH := Lib.hid H
      clear hsp H
      go_wp2_with fail
      refine (spread45 h1.rep m k HSP.out).mono ?_
      rintro e w2 ⟨rfl, hst⟩
      obtain ⟨ρ2, V2, h2⟩ := h1.step hst
      clear h1 hst HSP
      have cT : w2.cell? ⟨gO, 1, none⟩ = some (.int .i64 t1) := cell_of_row _ _ 1 _ 27 (0, 0) h2.cO
      have hbl := heap_lt h2.rep.hb
      have cO0 : w2.cell? ⟨gO, 0, none⟩ = some (.int .i64 0) := cell_of_row _ _ 0 _ 27 (0, 0) h2.cO
      have cO2 : w2.cell? ⟨gO, 2, none⟩ = some (.slice none 0 0) := cell_of_row _ _ 2 _ 27 (0, 0) h2.cO
      have cO3 : w2.cell? ⟨gO, 3, none⟩ = some (.slice none 0 0) := cell_of_row _ _ 3 _ 27 (0, 0) h2.cO
      have cR0 : w2.cell? ⟨gR, 0, none⟩ = some (.int .i64 0) := cell_of_row _ _ 0 _ 27 (0, 0) h2.cR
      have cR1 : w2.cell? ⟨gR, 1, none⟩ = some (.int .i64 0) := cell_of_row _ _ 1 _ 27 (0, 0) h2.cR
      have cR2 : w2.cell? ⟨gR, 2, none⟩ = some (.slice none 0 0) := cell_of_row _ _ 2 _ 27 (0, 0) h2.cR
      have cR3 : w2.cell? ⟨gR, 3, none⟩ = some (.slice none 0 0) := cell_of_row _ _ 3 _ 27 (0, 0) h2.cR
      have fR : ∀ o s, w2.frozen? ⟨gR, o, s⟩ = false := fun o s => by simp [World.frozen?, h2.cR]
      have fO : ∀ o s, w2.frozen? ⟨gO, o, s⟩ = false := fun o s => by simp [World.frozen?, h2.cO]
      obtain ⟨aM, cM, hvM, _⟩ := h2.rep.hm.val
      have c6 := h2.rep.cell 6 V2.m rfl
      rw [hvM] at c6
      by_cases hk : k = -1
      · subst hk
        have hk1 : ((-1 : Int) != -1) = false := rfl
        have H := HH.out
        clear HH
        simp only [ne_eq, not_true_eq_false, if_false] at H
        rw [Option.bind_eq_some_iff] at H
        obtain ⟨v, hv, H⟩ := H
        have HV := Lib.hid hv
        clear hv
        by_cases hv0 : v = 0
        · subst hv0
          rw [if_pos rfl, Option.map_eq_some_iff] at H
          obtain ⟨md, hmd, hA⟩ := H
          have HMD := Lib.hid hmd
          have HA := Lib.hid hA
          clear hmd hA
          go_wp2_with fail
          refine (next47 h2.rep m 0 HV.out).mono ?_
          rintro e w3 ⟨rfl, hb3⟩
          have h3 := h2.quiet hb3
          clear h2 hb3 cT cO0 cO2 cO3 cR0 cR1 cR2 cR3 fR fO hbl c6 hvM
          have cT : w3.cell? ⟨gO, 1, none⟩ = some (.int .i64 t1) := cell_of_row _ _ 1 _ 27 (0, 0) h3.cO
          have cR0 : w3.cell? ⟨gR, 0, none⟩ = some (.int .i64 0) := cell_of_row _ _ 0 _ 27 (0, 0) h3.cR
          have cR1 : w3.cell? ⟨gR, 1, none⟩ = some (.int .i64 0) := cell_of_row _ _ 1 _ 27 (0, 0) h3.cR
          have cR2 : w3.cell? ⟨gR, 2, none⟩ = some (.slice none 0 0) := cell_of_row _ _ 2 _ 27 (0, 0) h3.cR
          have cR3 : w3.cell? ⟨gR, 3, none⟩ = some (.slice none 0 0) := cell_of_row _ _ 3 _ 27 (0, 0) h3.cR
          have fR : ∀ o s, w3.frozen? ⟨gR, o, s⟩ = false := fun o s => by simp [World.frozen?, h3.cR]
          have HC : Calls Try.prog 48 #[.pointer (some ⟨b, 0, none⟩)] w3.drew fun e w' => ∃ v, e = .returned v ∧ ∃ g, v = .slice (some ⟨g, 0, none⟩) md.length md.length ∧ Below w3.heap.size w3 w' ∧ w3.heap.size ≤ g ∧ w'.heap[g]? = some (.cells (md.map vB).toArray 4 (0, 0)) := by
            have hbd : Below w3.heap.size w3 w3.drew := (Below.refl _ _).drew
            refine (model48 (h3.rep.quiet hbd) md HMD.out).mono ?_
            rintro e w' ⟨g, rfl, h1, h2, h3⟩
            exact ⟨_, rfl, g, rfl, hbd.trans h1, h2, h3⟩
          go_wp2_with fail
          go_region_law (refine step_call rfl 48 enter48 _ _ rfl (by go_simp) HC ?_; rintro _ w4 ⟨g4, rfl, hb4, hg4, hc4⟩; have h4 := h3.quiet hb4; have e0 : w4.cell? ⟨gR, 0, none⟩ = some (.int .i64 0) := cell_of_row _ _ 0 _ 27 (0, 0) h4.cR; have e1 : w4.cell? ⟨gR, 1, none⟩ = some (.int .i64 0) := cell_of_row _ _ 1 _ 27 (0, 0) h4.cR; have e2 : w4.cell? ⟨gR, 2, none⟩ = some (.slice none 0 0) := cell_of_row _ _ 2 _ 27 (0, 0) h4.cR; have e3 : w4.cell? ⟨gR, 3, none⟩ = some (.slice none 0 0) := cell_of_row _ _ 3 _ 27 (0, 0) h4.cR; have e4 : ∀ o s, w4.frozen? ⟨gR, o, s⟩ = false := fun o s => (by simp [World.frozen?, h4.cR]); have e5 : w4.cell? ⟨gO, 1, none⟩ = some (.int .i64 t1) := cell_of_row _ _ 1 _ 27 (0, 0) h4.cO)
          all_goals
            go_wp2_with fail
            obtain ⟨w9, hw9, c9, k9⟩ := four h4.cR (.int .i64 1) (.int .i64 t1) (.slice (some ⟨g4, 0, none⟩) md.length md.length) (.slice none 0 0)
            rw [← hw9]
            have ha := HA.out
            subst ha
            have hgB : gR < g4 := by have := h3.rep.dom' _ _ h3.rR; omega
            refine bodyPost_ret (results_cell_row rfl _ _ gR 27 _ (0, 0) _ rfl c9 Try.underlying27 rfl (by kernel_rfl)) rfl ⟨_, rfl, ?_, _, _, rfl, ⟨some g4, ?_, fun k e => ?_⟩, [], none, ⟨⟨_, rfl⟩, rfl, rfl⟩, fun _ h => (by cases h), rfl, fun k u l h => (by simp at h)⟩
            · exact h4.below.trans (k9.below h4.rep.hB fun k _ e => by subst e; exact (h4.rep.dom _ _ h4.rR).1)
            · have hml : md.length ≤ maxLen := model_len HMD.out
              refine ⟨md.length, (md.map vB).toArray, rfl, ?_, Nat.le_refl _, hml, by simp, by rw [Nat.mul_one]; exact List.take_of_length_le (by simp)⟩
              rw [k9.block g4 (heap_lt hc4) (by omega)]; exact hc4
            · cases e
              have := h3.rep.hB; omega
        · rw [if_neg hv0] at H
          obtain ⟨⟨hv1, hml⟩, H⟩ : (0 ≤ v ∧ S2.marks.length < 1099511627776) ∧ _ := by
            split at H
            · next h => exact ⟨h, H⟩
            · cases H
          rw [Option.bind_eq_some_iff] at H
          obtain ⟨ph, hph, H⟩ := H
          rw [Option.bind_eq_some_iff] at H
          obtain ⟨⟨S5, rb⟩, hq, H⟩ := H
          have HPH := Lib.hid hph
          have HQ := Lib.hid hq
          have HH := Lib.hid H
          have hv2 : (v == 0) = false := beq_eq_false_iff_ne.2 hv0
          clear hph hq H hv0
          go_wp2_with fail
          refine (next47 h2.rep m v HV.out).mono ?_
          rintro e w3 ⟨rfl, hb3⟩
          have h3 := h2.quiet hb3
          clear h2 hb3 cT cO0 cO2 cO3 cR0 cR1 cR2 cR3 fR fO hbl c6 hvM
          have hpl := (List.getElem?_eq_some_iff.1 HPH.out).1
          obtain ⟨gP, cP, hvP, _, hrP, hGP⟩ := h3.rep.hp.at (by omega)
          have c9 := h3.rep.cell 9 V2.p rfl
          rw [hvP] at c9
          have cph : w3.cell? ⟨gP, v.toNat, none⟩ = some (.bool ph) := hGP.cellAt (by rw [List.getElem?_map, HPH.out]; rfl)
          have hv3 : v < (S2.phase.length : Int) := by omega
          have hpmax := hGP.size_le
          simp only [maxLen] at hpmax
          have hneg : wrap64 (-v) = -v := by unfold wrap64; omega
          clear hpl
          obtain ⟨aM, cM, hvM, _⟩ := h3.rep.hm.val
          obtain ⟨gM, hGM, hrM⟩ := h3.rep.hm
          obtain ⟨aT, cT, hvT, _⟩ := h3.rep.ht.val
          have c6 := h3.rep.cell 6 V2.m rfl
          have c5 := h3.rep.cell 5 V2.t rfl
          rw [hvT] at c5
          have HW := Lib.hid (h3.quiet ((Below.refl _ w3).drew))
          have HRW := Lib.hid (h3.rep.quiet ((Below.refl _ w3).drew))
          have HGM := Lib.hid (hGM.same (w' := w3.drew) fun _ _ => rfl)
          have hbl := heap_lt h3.rep.hb
          rw [hvM] at c6 HGM
          have x1 := bcell (((Below.refl _ w3).alloc (Nat.le_refl _) (.cells #[.int .i64 (S2.trail.length : Int)] 3))) c6 hbl
          have x2 := bcell (((Below.refl _ w3).alloc (Nat.le_refl _) (.cells #[.int .i64 (S2.trail.length : Int)] 3))) c5 hbl
          clear hGM hGP
          cases ph with
          | true =>
            have HQ2 : Hid (({ S2 with marks := S2.marks ++ [(S2.trail.length : Int)] } : Sol).hold v (-1) = some (S5, rb)) := Lib.hid (by have := HQ.out; simpa using this)
            clear HQ
            go_wp2_with fail
            go_region_law (refine step_append_one (w := w3.drew) rfl _ _ Try.underlying35 Try.inf3 rfl (by omega) rfl rfl _ rfl rfl rfl HGM.out hml ?_; intro c7 w7 g7 hG7 ha7; have q7 := (HRW.out.appCell ha7 hrM (by simp) 6 V2.m rfl).1; have q8 := (HRW.out.appCell ha7 hrM (by simp) 6 V2.m rfl).2)
            all_goals
              go_wp2_with fail
              have hG8 : RowG w7 3 1 (.slice (some ⟨g7, 0, none⟩) (S2.marks.length + 1) c7) (S2.marks ++ [(S2.trail.length : Int)]).length ((S2.marks ++ [(S2.trail.length : Int)]).map vI) (some g7) := by
                rw [List.map_append, List.length_append]; exact hG7
              obtain ⟨r8, p8⟩ := HRW.out.putM ha7.keep ha7.lt (ha7.role hrM) hG8
              obtain ⟨ρ8, V8, h8⟩ := HW.out.step ⟨_, _, r8, p8⟩
              refine (hold49 h8.rep v (-1) rb HQ2.out).mono ?_
              rintro e w9 ⟨rfl, hst⟩
              obtain ⟨ρ9, V9, h9⟩ := h8.step hst
              go_wp2_with fail
              go_roundg k1
              case measure => omega
              case rel => exact ⟨S5, t1, ρ9, V9, h9, ht0, ht1, HH⟩
          | false =>
            have HQ2 : Hid (({ S2 with marks := S2.marks ++ [(S2.trail.length : Int)] } : Sol).hold (-v) (-1) = some (S5, rb)) := Lib.hid (by have := HQ.out; simpa using this)
            clear HQ
            go_wp2_with fail
            go_region_law (refine step_append_one (w := w3.drew) rfl _ _ Try.underlying35 Try.inf3 rfl (by omega) rfl rfl _ rfl rfl rfl HGM.out hml ?_; intro c7 w7 g7 hG7 ha7; have q7 := (HRW.out.appCell ha7 hrM (by simp) 6 V2.m rfl).1; have q8 := (HRW.out.appCell ha7 hrM (by simp) 6 V2.m rfl).2)
            all_goals
              go_wp2_with fail
              have hG8 : RowG w7 3 1 (.slice (some ⟨g7, 0, none⟩) (S2.marks.length + 1) c7) (S2.marks ++ [(S2.trail.length : Int)]).length ((S2.marks ++ [(S2.trail.length : Int)]).map vI) (some g7) := by
                rw [List.map_append, List.length_append]; exact hG7
              obtain ⟨r8, p8⟩ := HRW.out.putM ha7.keep ha7.lt (ha7.role hrM) hG8
              obtain ⟨ρ8, V8, h8⟩ := HW.out.step ⟨_, _, r8, p8⟩
              refine (hold49 h8.rep (-v) (-1) rb HQ2.out).mono ?_
              rintro e w9 ⟨rfl, hst⟩
              obtain ⟨ρ9, V9, h9⟩ := h8.step hst
              go_wp2_with fail
              go_roundg k1
              case measure => omega
              case rel => exact ⟨S5, t1, ρ9, V9, h9, ht0, ht1, HH⟩
      · have hk1 : (k != -1) = true := by simp [hk]
        have H := HH.out
        clear HH
        simp only [ne_eq, hk, not_false_eq_true, if_true] at H
        by_cases h0 : S2.marks.length = 0
        · rw [if_pos h0] at H
          have h01 : ((S2.marks.length : Int) == 0) = true := by rw [h0]; rfl
          clear h0
          obtain ⟨hpl, H⟩ : S2.proof.length < 1099511627776 ∧ _ := by
            split at H
            · next h => exact ⟨h, H⟩
            · cases H
          have H := Lib.hid H
          obtain ⟨aF, cF, hvF, _⟩ := h2.rep.hf.val
          obtain ⟨gF, hGF, hrF⟩ := h2.rep.hf
          have cf := h2.rep.cell 10 V2.f rfl
          have HGF' := hGF
          rw [hvF] at cf hGF
          go_wp2_with fail
          have hbA : Below w2.heap.size w2 (w2.alloc (.cells #[] 3)).drew := ((Below.refl _ _).alloc (Nat.le_refl _) _).drew
          have hGFA : RowG (w2.alloc (.cells #[] 3)).drew 35 1 (.slice aF S2.proof.length cF) S2.proof.length V2.fs gF := hGF.same fun k e => hbA.block _ (by subst e; exact hGF.lt)
          have HGF := Lib.hid hGFA
          have HBA := Lib.hid hbA
          have HNB : Hid (w2.heap.size + 1 = (w2.alloc (.cells #[] 3)).drew.heap.size) := Lib.hid (by simp [World.drew])
          have hb2 : Below w2.heap.size w2 ((w2.alloc (.cells #[] 3)).alloc (.cells #[.slice (some ⟨w2.heap.size, 0, none⟩) 0 0] 35)) := ((Below.refl _ _).alloc (Nat.le_refl _) _).alloc (by simp) _
          have hOl := heap_lt h2.cO
          have x1 : (w2.alloc (.cells #[] 3)).cell? ⟨gO, 1, none⟩ = some (.int .i64 t1) := bcell ((Below.refl _ _).alloc (Nat.le_refl _) _) cT hOl
          have x2 : ((w2.alloc (.cells #[] 3)).alloc (.cells #[.slice (some ⟨w2.heap.size, 0, none⟩) 0 0] 35)).cell? ⟨gO, 1, none⟩ = some (.int .i64 t1) := bcell hb2 cT hOl
          have x3 : (w2.alloc (.cells #[] 3)).cell? ⟨b, 10, none⟩ = some (.slice aF S2.proof.length cF) := bcell ((Below.refl _ _).alloc (Nat.le_refl _) _) cf hbl
          have x4 : ((w2.alloc (.cells #[] 3)).alloc (.cells #[.slice (some ⟨w2.heap.size, 0, none⟩) 0 0] 35)).cell? ⟨b, 10, none⟩ = some (.slice aF S2.proof.length cF) := bcell hb2 cf hbl
          clear hGFA hbA hb2 hOl
          go_region_law (first | (refine step_append_one (w := (w2.alloc (.cells #[] 3)).drew) rfl _ _ Try.underlying22 Try.inf35 rfl (by omega) rfl rfl _ rfl rfl HNB.out HGF.out hpl ?_; intro c7 w7 g7 hG7 ha7; have h7 := Lib.hid (h2.app HBA.out ha7 hrF); have c7R := ((h7.out.1 _ _ h2.rR (by simp)).1).trans h2.cR; have e5 : w7.cell? ⟨gO, 1, none⟩ = some (.int .i64 t1) := cell_of_row _ _ 1 _ 27 (0, 0) (((h7.out.1 _ _ h2.rO (by simp)).1).trans h2.cO); have e0 : w7.cell? ⟨gR, 0, none⟩ = some (.int .i64 0) := cell_of_row _ _ 0 _ 27 (0, 0) c7R; have e1 : w7.cell? ⟨gR, 1, none⟩ = some (.int .i64 0) := cell_of_row _ _ 1 _ 27 (0, 0) c7R; have e2 : w7.cell? ⟨gR, 2, none⟩ = some (.slice none 0 0) := cell_of_row _ _ 2 _ 27 (0, 0) c7R; have e3 : w7.cell? ⟨gR, 3, none⟩ = some (.slice none 0 0) := cell_of_row _ _ 3 _ 27 (0, 0) c7R; have e4 : ∀ o s, w7.frozen? ⟨gR, o, s⟩ = false := fun o s => (by simp [World.frozen?, c7R])))
          all_goals
            go_wp2_with fail
            obtain ⟨w9, hw9, c9, k9⟩ := four c7R (.int .i64 2) (.int .i64 t1) (.slice none 0 0) (.slice (some ⟨g7, 0, none⟩) (S2.proof.length + 1) c7)
            rw [← hw9]
            have ha := Option.some.inj H.out
            subst ha
            obtain ⟨z1, z2⟩ := h2.no HGF' h7.out hG7 k9
            exact bodyPost_ret (results_cell_row rfl _ _ gR 27 _ (0, 0) _ rfl c9 Try.underlying27 rfl (by kernel_rfl)) rfl ⟨_, rfl, z1, z2⟩
        · rw [if_neg h0] at H
          have h01 : ((S2.marks.length : Int) == 0) = false := beq_eq_false_iff_ne.2 (by omega)
          clear h0
          by_cases ht : t1 = T
          · rw [if_pos ht] at H
            have H := Lib.hid H
            have ht2 : (t1 == T) = true := by simp [ht]
            clear ht
            go_wp2_with fail
            obtain ⟨w9, hw9, c9, k9⟩ := four h2.cR (.int .i64 0) (.int .i64 t1) (.slice none 0 0) (.slice none 0 0)
            rw [← hw9]
            have ha := Option.some.inj H.out
            subst ha
            refine bodyPost_ret (results_cell_row rfl _ _ gR 27 _ (0, 0) _ rfl c9 Try.underlying27 rfl (by kernel_rfl)) rfl ?_
            refine ⟨_, rfl, h2.below.trans (k9.below h2.rep.hB fun k _ e => by subst e; exact (h2.rep.dom _ _ h2.rR).1), _, _, rfl, ⟨none, ⟨⟨_, rfl⟩, rfl, rfl⟩, fun _ h => by cases h⟩, [], none, ⟨⟨_, rfl⟩, rfl, rfl⟩, fun _ h => (by cases h), rfl, fun k u l h => (by simp at h)⟩
          · rw [if_neg ht] at H
            have H := Lib.hid H
            have ht2 : (t1 == T) = false := by simp [ht]
            have ht3 : t1 + 1 ≤ T := by omega
            have hw1 : wrap64 (t1 + 1) = t1 + 1 := by unfold wrap64; omega
            clear ht
            have H := H.out
            rw [Option.bind_eq_some_iff] at H
            obtain ⟨S3, htu, H⟩ := H
            have HTU := Lib.hid htu
            have HH := Lib.hid H
            clear htu H
            go_wp2_with fail
            have h3 := h2.tick (t1 + 1)
            refine (turn46 h3.rep m k HTU.out).mono ?_
            rintro e w4 ⟨rfl, hst⟩
            obtain ⟨ρ4, V4, h4⟩ := h3.step hst
            go_wp2_with fail
            go_roundg k1
            case measure => omega
            case rel => exact ⟨S3, t1 + 1, ρ4, V4, h4, by omega, ht3, HH⟩
end Go.Proofs.Ytfmoldfajmfieaa
