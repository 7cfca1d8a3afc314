/-
  The walk of the document's Same of towers' rows, of rows that are the same. Conditions: the form's own reach.
-/
import Derived.Test.YtbaobiniianamaaRefTower
import Derived.Test.YtbaobiniianamaaRefHalve
import Derived.Test.YtbaobiniianamaaSettle
namespace Go.Proofs.Ytbaobiniianamaa
open Go.RowKit

/-- Rows that are read. -/
structure RowsR (w : World) (rv : Value) (n : Nat) (vs : List Value) (rows : List (List Int)) : Prop where
  top : Rd w 1 rv n vs
  n_eq : n = rows.length
  len : vs.length = rows.length
  rd : ∀ j (h : j < vs.length) (h' : j < rows.length), Rd w 1 vs[j] rows[j].length (ints rows[j])
theorem RowsR.chg {w w1 : World} {rv : Value} {n : Nat} {vs : List Value} {rows : List (List Int)} {F : List Nat} (h : RowsR w rv n vs rows) (k : Chg F w w1) (h1 : ∀ b ∈ blkOf rv, b ∉ F) (h2 : ∀ v ∈ vs, ∀ b ∈ blkOf v, b ∉ F) : RowsR w1 rv n vs rows :=
  ⟨h.top.chg k h1, h.n_eq, h.len, fun j hj hj' => (h.rd j hj hj').chg k (h2 _ (List.getElem_mem hj))⟩
theorem RowsR.nil {w w1 : World} {rv : Value} {n : Nat} {vs : List Value} {rows : List (List Int)} (h : RowsR w rv n vs rows) (k : Chg [] w w1) : RowsR w1 rv n vs rows := h.chg k (by simp) (by simp)
theorem RowsR.at {w : World} {rv : Value} {n : Nat} {vs : List Value} {rows : List (List Int)} (h : RowsR w rv n vs rows) {j : Nat} (hj : j < rows.length) :
    ∃ g o c so sc, rv = .slice (some ⟨g, o, none⟩) n c ∧ w.cell? ⟨g, o + j, none⟩ = some (.slice so rows[j].length sc) ∧ Rd w 1 (.slice so rows[j].length sc) rows[j].length (ints rows[j]) := by
  have hl := h.len
  have hn := h.n_eq
  have hj' : j < vs.length := by omega
  obtain ⟨ao, cap, hv⟩ := h.top.shape
  subst hv
  obtain ⟨b, o, rfl, hc⟩ := h.top.addr (by omega)
  obtain ⟨so, sc, hs⟩ := (h.rd j hj' hj).shape
  refine ⟨b, o, cap, so, sc, rfl, ?_, hs ▸ h.rd j hj' hj⟩
  rw [hc j (by omega), List.getElem?_eq_getElem hj', hs]
theorem RT.rowsR {w : World} {p W word used : Nat} {rv : Value} {vs : List Value} {rows : List (List Int)} (h : RT w p rv vs W word used rows) : RowsR w rv rows.length vs rows :=
  ⟨h.own.rd, rfl, h.len, h.rd⟩
theorem Tow.rowsR {w : World} {p tp : Nat} {rv : Value} {vs : List Value} {D : TwD} (h : Tow w p tp rv vs D) : RowsR w rv D.rows.length vs D.rows :=
  ⟨h.own.rd, rfl, h.rows.1, fun j hj hj' => (h.rows.2.1 j hj hj').rd⟩

set_option maxRecDepth 100000 in
set_option maxHeartbeats 2000000 in
theorem ref21_same (w : World) (ao bo : Option Addr) (ca cb n : Nat) (xs ys : List Value) (rows : List (List Int)) (ha : RowsR w (.slice ao n ca) n xs rows) (hb : RowsR w (.slice bo n cb) n ys rows) (hN : rows.flatten.length ≤ 100000) (hR : n ≤ 100000) :
    Calls Try.prog 36 #[.slice ao n ca, .slice bo n cb] w fun e w' => e = .returned (.bool true) ∧ Chg [] w w' := by
  have HA := Lib.hid ha
  have HB := Lib.hid hb
  have HN := Lib.hid hN
  clear ha hb hN
  have hnn : ((n : Int) != (n : Int)) = false := by simp
  go_enter Try.func36, Try.ntmps36
  go_wp2
  go_loopw [13] (fun i wx => ∃ (k : Nat), k ≤ n ∧ i = .int .i64 (k : Nat) ∧ Chg [] w wx) (fun i _ => n - (intOf i).toNat)
  case atStart => exact ⟨0, Nat.zero_le _, rfl, Chg.refl _ _⟩
  case round =>
    obtain ⟨k, hk, rfl, hch⟩ := hrel
    by_cases hlt : k < n
    · have hkr : k < rows.length := by have := HA.out.n_eq; omega
      obtain ⟨g, o, c, so, sc, hv, x0, hx⟩ := (HA.out.nil hch).at hkr
      obtain ⟨g2, o2, c2, so2, sc2, hv2, y0, hy⟩ := (HB.out.nil hch).at hkr
      simp only [Value.slice.injEq, true_and] at hv hv2
      obtain ⟨rfl, rfl⟩ := hv
      obtain ⟨rfl, rfl⟩ := hv2
      have hml : rows[k].length ≤ 100000 := Nat.le_trans (flat_le hkr) HN.out
      have HSM := Lib.hid (fun u (hu : Chg [] wr u) => ref20_same u so sc so2 sc2 rows[k] rows[k].length rfl (hx.chg hu (by simp)) (hy.chg hu (by simp)) (by omega))
      clear hx hy
      generalize rows[k].length = m at *
      have hch := Lib.hid hch
      go_wp2
      go_region_with (first | (go_at_call 16; refine (HSM.out _ (by with_reducible (repeat (first | exact Chg.refl _ _ | apply Chg.drew)))).mono ?_; rintro e w2 ⟨rfl, hc2⟩))
      all_goals
        have hcc : Chg [] wr w2 := Chg.trans (by with_reducible (repeat (first | exact Chg.refl _ _ | apply Chg.drew))) hc2
        have HCC := Lib.hid (hch.out.trans hcc)
        go_wp2
        exact ⟨⟨k + 1, by omega, by go_num, HCC.out⟩, by simp [intOf]; omega⟩
    · obtain rfl : k = n := by omega
      go_wp2
      go_ret
      exact ⟨rfl, hch⟩
end Go.Proofs.Ytbaobiniianamaa
