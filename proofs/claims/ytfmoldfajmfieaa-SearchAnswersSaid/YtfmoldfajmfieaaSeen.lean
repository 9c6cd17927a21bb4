/-
  The map of the variables that were seen, in memory: a look-up, a store.
-/
import Derived.Test.YtfmoldfajmfieaaLearnF
namespace Go.Proofs.Ytfmoldfajmfieaa
open Go.RowKit Go.Maps
theorem Try.law3 : Keyed Try.prog 3 := int_keyed Try.underlying3
theorem Try.zero3 (w : World) : (zeroValue 3).run Try.prog w = .ok (.int .i64 0) w := by kernel_rfl
/-- Block g is the map of what was seen. -/
def SeenAt (w : World) (g : Nat) (l : List Int) : Prop := w.ownsMap Try.prog 3 (plainElem Try.prog 3) g l.length (seenD l)
theorem SeenAt.lt {w : World} {g : Nat} {l : List Int} (h : SeenAt w g l) : g < w.heap.size := World.ownsMap.lt h
theorem SeenAt.same {w w' : World} {g : Nat} {l : List Int} (h : SeenAt w g l) (hk : w'.heap[g]? = w.heap[g]?) : SeenAt w' g l := by
  obtain ⟨es, clock, h0, h1⟩ := h
  exact ⟨es, clock, hk.trans h0, h1⟩
theorem SeenAt.made (w : World) : SeenAt (w.alloc (.map #[] 0)) w.heap.size [] := World.ownsMap_made _ _ _ _
theorem SeenAt.path {w w' : World} {ρ ρ' : Nat → Option Role} {g : Nat} {l : List Int} {m : Nat} (h : SeenAt w g l) (hr : ρ g = some (.X m)) (hp : Path w ρ w' ρ') : SeenAt w' g l ∧ ρ' g = some (.X m) :=
  ⟨h.same (hp.only.block g h.lt fun ⟨r, h1, h2⟩ => by rw [hr] at h1; cases h1; exact h2 m rfl), hp.x g m hr⟩

theorem lookup_seen {ops : Array Oper} {rest : List Oper} {o : Oper} {a : Act} {Q : Exit → Act → World → Prop} {w : World} (hg : o.guard = none) (m x : Operand) (hop : o.op = Op.lookup 62 m x false)
    {g : Nat} (hm : a.eval m = .map (some g)) {l : List Int} (hown : SeenAt w g l) {v : Int} (hx : a.eval x = .int .i64 v) (hv : -9223372036854775808 ≤ v ∧ v ≤ 9223372036854775807) (c : Int) (hc : (if v ∈ l then (1 : Int) else 0) = c)
    (h : wpList Try.prog ops Q rest (a.put o.dst (.int .i64 c)) w) : wpList Try.prog ops Q (o :: rest) a w := by
  refine wpList_lookup_own_int w hg m x 62 hop 3 3 .i64 Try.law3 Try.underlying62 Try.underlying3 (Try.zero3 _) g _ _ hm hown (.int .i64 v) (.int .i64 v) hx (keyOf_int_mk Try.underlying3 (WalkArith.wf_i64 (by omega))) ?_
  intro c' hat _
  rw [seen_at] at hat
  injection hat with hat
  injection hat with _ hat
  rw [← hat, hc]
  exact h
theorem store_seen {ops : Array Oper} {rest : List Oper} {o : Oper} {a : Act} {Q : Exit → Act → World → Prop} {w : World} (hg : o.guard = none) (m x y : Operand) (hop : o.op = Op.mapUpdate 62 m x y)
    {g : Nat} (hm : a.eval m = .map (some g)) {l : List Int} (hown : SeenAt w g l) (hl : l.length < 1099511627776) {v : Int} (hx : a.eval x = .int .i64 v) (hy : a.eval y = .int .i64 1) (hv : -9223372036854775808 ≤ v ∧ v ≤ 9223372036854775807)
    (h : ∀ w', SeenAt w' g (v :: l) → Keep (· = g) w w' → wpList Try.prog ops Q rest (a.put o.dst undef) w') : wpList Try.prog ops Q (o :: rest) a w := by
  refine wpList_mapUpdate_own w hg m x y 62 hop 3 3 Try.law3 Try.underlying62 _ g _ _ hm hown (by unfold maxLen; omega) (.int .i64 v) (.int .i64 1) (.int .i64 v) hx hy (keyOf_int_mk Try.underlying3 (WalkArith.wf_i64 (by omega))) _ [] (plainElem_int Try.underlying3 (by decide)) ?_
  intro w' hown' hgr
  exact h w' hown' ⟨hgr.os, hgr.tape, hgr.output, hgr.size, fun k hk hne => hgr.block k hk (by simpa using hne)⟩

section
variable {B : Nat} {w w1 w2 : World} {ρ ρ1 : Nat → Option Role} {b : Nat} {S : Sol} {V : Vals} {g : Nat}
/-- A block of the caller's own turns, or is new. -/
theorem Rep.local (h : Rep B w ρ b S V) (hk : Keep (· = g) w w2) (hlt : g < w2.heap.size) (hr : (∃ m, ρ g = some (.X m)) ∨ w.heap.size ≤ g) (m : Nat) : Rep B w2 (turnRole ρ g (.X m)) b S V := by
  have hB : B ≤ g := by
    rcases hr with ⟨m', hm⟩ | hr
    · exact (h.dom g _ hm).1
    · have := h.hB; omega
  have h1 : Rep B w2 ρ b S V := by
    refine h.stay (D := fun r => ∃ n, r = .X n) ?_ (Grow.stay h.dom' hk.size) (fun k r hk => (h.dom k r hk).1) (fun _ h => h)
    refine hk.mono fun k hkl e => ?_
    subst e
    rcases hr with ⟨m', hm⟩ | hr
    · exact ⟨_, hm, m', rfl⟩
    · omega
  refine h1.turn (fun r hr' => ?_) _ hB hlt
  rcases hr with ⟨m', hm⟩ | hr
  · rw [hm] at hr'; cases hr'; exact ⟨m', rfl⟩
  · have := h.dom' g r hr'; omega
theorem Rep.localX (h : Rep B w ρ b S V) (hk : Keep (· = g) w w2) {m : Nat} (hr : ρ g = some (.X m)) : Rep B w2 ρ b S V := by
  refine h.stay (D := fun r => ∃ n, r = .X n) ?_ (Grow.stay h.dom' hk.size) (fun k r hk => (h.dom k r hk).1) (fun _ h => h)
  exact hk.mono fun k hkl e => by subst e; exact ⟨_, hr, m, rfl⟩
theorem Path.localX (h : Path w ρ w1 ρ1) (hk : Keep (· = g) w1 w2) (hg : w.heap.size ≤ g) : Path w ρ w2 ρ1 :=
  ⟨h.x, h.own, ⟨hk.os.trans h.only.os, hk.tape.trans h.only.tape, hk.output.trans h.only.output, Nat.le_trans h.only.size hk.size, fun k hkl hn =>
    (hk.block k (Nat.lt_of_lt_of_le hkl h.only.size) (by omega)).trans (h.only.block k hkl hn)⟩⟩
theorem Path.local (h : Path w ρ w1 ρ1) (hd : ∀ k r, ρ k = some r → k < w.heap.size) (hk : Keep (· = g) w1 w2) (hg : w.heap.size ≤ g) (r : Role) : Path w ρ w2 (turnRole ρ1 g r) := by
  refine ⟨fun k n hx => ?_, fun k q hkl hq ho => ?_, ⟨hk.os.trans h.only.os, hk.tape.trans h.only.tape, hk.output.trans h.only.output, Nat.le_trans h.only.size hk.size, fun k hkl hn => ?_⟩⟩
  · have := hd k _ hx
    rw [turnRole_ne (by omega)]; exact h.x k n hx
  · rw [turnRole_ne (by omega)] at hq
    exact h.own k q hkl hq ho
  · exact (hk.block k (Nat.lt_of_lt_of_le hkl h.only.size) (by omega)).trans (h.only.block k hkl hn)
end
end Go.Proofs.Ytfmoldfajmfieaa
