/-
  Does a list of clauses prove? The walks.
-/
import Derived.Test.YtfmoldfajmfieaaSpreadW
namespace Go.Proofs.Ytfmoldfajmfieaa
open Go.RowKit
theorem neg_ok {x : Int} (h : okLit x = true) : okLit (-x) = true := by
  unfold okLit at *; simp at *; omega
/-- A clause follows one by one: found. -/
theorem follows31 (w : World) (a : Option Addr) (l : List (List Int)) (c : Nat) (h : ClsAt w a l) (hn : l.length ≤ 1000000) (hok : okAll l = true) (hll : ∀ x ∈ l, x.length ≤ 1000000)
    (a' : Option Addr) (f : List Int) (c' : Nat) (h' : IntsAt w a' f) (hn' : f.length ≤ 1000000) (hok' : ∀ x ∈ f, okLit x = true) (hr : Rup l f) :
    Calls Try.prog 31 #[.slice a l.length c, .slice a' f.length c'] w fun e w' => e = .returned (.bool true) ∧ Below w.heap.size w w' := by
  have H51 := turned51 w a' f c' h' hn' (fun x hx => by have := hok' x hx; unfold okLit at this; simp at this; omega)
  have HS : ∀ (w2 : World) (v : Value) (g : Option Nat), Below w.heap.size w w2 → RowG w2 3 1 v f.length ((f.map fun x => -x).map vI) g →
      Calls Try.prog 50 #[.slice a l.length c, v] w2 fun e w' => ∃ u, e = .returned (.tuple #[u, .bool false]) ∧ Below w2.heap.size w2 w' := fun w2 v g hb hG => by
    have e : f.length = (f.map fun x => -x).length := by simp
    rw [e] at hG
    obtain ⟨a2, c2, rfl, hI⟩ := hG.intsAt
    refine (spread50 w2 a l c (h.below hb) hn hok hll a2 (f.map fun x => -x) c2 hI (by simpa using hn') (fun x hx => ?_)).mono ?_
    · obtain ⟨y, hy, rfl⟩ := List.mem_map.1 hx
      exact neg_ok (hok' y hy)
    · rintro e w' ⟨v, ok, rfl, hb', hA⟩
      cases ok with
      | false => exact ⟨_, rfl, hb'⟩
      | true =>
        obtain ⟨A, hcl, hA⟩ := hA rfl
        exact absurd (fun x hx => hA (-x) (List.mem_map.2 ⟨x, hx, rfl⟩)) (hr A hcl)
  have HS' := Lib.hid HS
  have H51' := Lib.hid H51
  clear HS H51 hok' hr hll
  go_enter Try.func31, Try.ntmps31
  go_wp2_with fail
  refine H51'.out.mono ?_
  rintro e w2 ⟨v, g, rfl, hG, _, hb⟩
  go_wp2_with fail
  refine (HS'.out w2 v g hb hG).mono ?_
  rintro e w3 ⟨u, rfl, hb3⟩
  go_wp2_with fail
  go_ret
  exact ⟨rfl, hb.trans (hb3.mono hb.size)⟩
theorem ClsAt.cut {w : World} {b o : Nat} {l : List (List Int)} {i : Nat} {d : List Int} (hb : b < w.heap.size) (hd : l[i]? = Option.some d)
    (hc : ∀ (j : Nat) (c : List Int), l[j]? = Option.some c → ∃ ac cc, w.cell? ⟨b, o + j, Option.none⟩ = Option.some (.slice ac c.length cc) ∧ IntsAt w ac c ∧ c.length ≤ 9223372036854775807) : ClsAt w (Option.some ⟨b, o + i, Option.none⟩) [d] := by
  refine .inr ⟨b, o + i, rfl, hb, fun j c hj => ?_⟩
  match j, hj with
  | 0, hj => cases hj; exact hc i d hd
  | j + 1, hj => simp at hj
set_option maxHeartbeats 4000000 in
set_option maxRecDepth 100000 in
/-- A list of clauses that prove: found. -/
theorem proof15 (w : World) (a : Option Addr) (l : List (List Int)) (c : Nat) (h : ClsAt w a l) (hn : l.length ≤ 100000) (hok : okAll l = true) (hll : ∀ x ∈ l, x.length ≤ 1000000)
    (a' : Option Addr) (p : List (List Int)) (c' : Nat) (h' : ClsAt w a' p) (hn' : p.length ≤ 100000) (hcap : p.length ≤ c') (hok' : okAll p = true) (hll' : ∀ x ∈ p, x.length ≤ 1000000)
    (hr : ∀ (i : Nat) (d : List Int), p[i]? = some d → Rup (l ++ p.take i) d) (q : List (List Int)) (hq : p = q ++ [[]]) :
    Calls Try.prog 15 #[.slice a l.length c, .slice a' p.length c'] w fun e w' => e = .returned (.bool true) ∧ Below w.heap.size w w' := by
  have hpl : 0 < p.length := by rw [hq]; simp
  have hlast : Hid (p[p.length - 1]? = some []) := Lib.hid (by rw [hq]; simp)
  have HR := Lib.hid hr
  have HOK := Lib.hid hok
  have HOK' := Lib.hid hok'
  have HLL := Lib.hid hll
  have HLL' := Lib.hid hll'
  have HP := Lib.hid h'
  clear hr hok hok' hll hll' hq q
  rcases h' with h0 | ⟨b, o, rfl, hbl, hc⟩
  · rw [h0] at hpl; simp at hpl
  · have hC := fun (j : Nat) (d : List Int) (h : Hid (p[j]? = some d)) => hc j d h.out
    clear hc
    have HM1 : Hid (l = [] ++ l) := Lib.hid rfl
    have hb0 : Below w.heap.size w (w.alloc (.cells #[] 35)) := (Below.refl _ _).alloc (Nat.le_refl _) _
    have hG0 := ClsG.empty w (w.alloc (.cells #[] 35)) (some ⟨w.heap.size, 0, none⟩) hb0
    clear hb0
    go_enter Try.func15, Try.ntmps15
    go_wp2_with (at_builtin; refine append_cls (w0 := w) (m := l) rfl _ _ rfl _ rfl rfl rfl HM1.out hG0 (by simp; omega) h ?_; intro a4 c4 w4 g4 hG4; clear hG0 HM1)
    go_loopg [5, 6] p.length (fun kq v5 v6 w' => ∃ (i : Nat) (g : Option Nat) (m : List (List Int)), v6 = .int .i64 i ∧ i ≤ p.length ∧ p.length ≤ kq + i ∧ m = l ++ p.take i ∧ ClsG w w' v5 m g)
    case atStart => exact ⟨0, g4, l, rfl, Nat.zero_le _, by omega, by simp, hG4⟩
    case round =>
      clear hG4
      obtain ⟨i, g, m, rfl, hi, hkq, hm, hG⟩ := hrel
      by_cases hil : i < p.length
      · obtain ⟨d, hd⟩ : ∃ d, p[i]? = some d := ⟨_, List.getElem?_eq_getElem hil⟩
        have HD := Lib.hid hd
        obtain ⟨ad, cd, cx, hId, hdl9⟩ := hC i d HD
        have hdm := List.mem_of_getElem? hd
        obtain ⟨a5, c5, rfl, hC5⟩ := hG.cls
        have hokd : ∀ x ∈ d, okLit x = true := fun x hx => okAll_at HOK'.out hdm hx
        have hdl := HLL'.out d hdm
        have hokm : okAll m = true := by
          rw [hm]
          refine okAll_append HOK.out ?_
          unfold okAll
          rw [List.all_eq_true]
          intro x hx
          rw [List.all_eq_true]
          exact fun y hy => okAll_at HOK'.out (List.mem_of_mem_take hx) hy
        have hml : ∀ x ∈ m, x.length ≤ 1000000 := fun x hx => by
          rw [hm] at hx
          rcases List.mem_append.1 hx with hx | hx
          · exact HLL.out x hx
          · exact HLL'.out x (List.mem_of_mem_take hx)
        have hmn : m.length ≤ 200000 := by rw [hm]; simp; omega
        have hrd : Rup m d := by rw [hm]; exact HR.out i d hd
        have hb := hG.below
        have cx' := bcell hb cx hbl
        have hc12 : Calls Try.prog 12 #[.slice (some ⟨b, o + i, none⟩) 1 (c' - i)] wr fun e w' => e = .returned (.bool true) ∧ w' = wr := by
          have h2 := right12 wr (some ⟨b, o + i, none⟩) [d] (c' - i) (ClsAt.below (ClsAt.cut hbl hd fun j x hj => hC j x (Lib.hid hj)) hb) (by simp)
          rw [okAll_one hokd] at h2
          exact h2
        have hc31 := follows31 wr a5 m c5 hC5 (by omega) hokm hml ad d cd (hId.below hb) hdl hokd hrd
        have HM : Hid (m ++ [d] = l ++ p.take (i + 1)) := Lib.hid (by rw [hm, List.take_add_one, hd, List.append_assoc]; rfl)
        obtain ⟨m2, hm2⟩ : ∃ m2, m2 = m ++ [d] := ⟨_, rfl⟩
        have HM2 := Lib.hid hm2
        have HC31 := Lib.hid hc31
        have HC12 := Lib.hid hc12
        have hc1 : i + 1 ≤ c' := by omega
        have HCX := Lib.hid cx
        clear hd hdm cx hokd hokm hml hrd hc12 hc31 hm hm2 hC5
        go_wp2_with fail
        refine HC12.out.mono ?_
        rintro e w2 ⟨rfl, rfl⟩
        go_wp2_with fail
        refine HC31.out.mono ?_
        rintro e w3 ⟨rfl, hb3⟩
        have hG3 := hG.still hb3
        have cx3 := bcell (hb.trans (hb3.mono hb.size)) HCX.out hbl
        have hmm : m.length < 1099511627776 := by omega
        clear hG hb hb3 cx'
        go_wp2_with (at_builtin; refine append_cls_one (w0 := w) (m := m2) rfl _ _ rfl _ rfl rfl rfl HM2.out hG3 hmm rfl hId (by omega) ?_; intro a7 c7 w7 g7 hG7)
        go_roundg (gk - 1)
        case measure => omega
        case rel => exact ⟨i + 1, g7, m2, by go_num, by omega, by omega, by rw [HM2.out]; exact HM.out, hG7⟩
      · obtain ⟨ad, cd, cx, _, _⟩ := hC (p.length - 1) [] hlast
        have cx' := bcell hG.below cx hbl
        have hb := hG.below
        have hp1 : (p.length : Int) - 1 = ((p.length - 1 : Nat) : Int) := by omega
        clear cx hG
        go_wp2_with fail
        go_ret
        exact ⟨rfl, hb⟩
end Go.Proofs.Ytfmoldfajmfieaa
