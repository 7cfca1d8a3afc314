/-
  Plain law: how close Quantile is, and what Rank tells, of all values that were put. Conditions: none.
-/
import Derived.Test.YtkcldhimjnehdaaGkBuild
namespace Go.Proofs.Ytkcldhimjnehdaa

namespace GkD
theorem flush_vals (D : GkD) : D.flush.vals.length = D.total := by
  obtain ⟨-, -, h3, h4⟩ := D.flush_same
  rw [← h3, GkD.total, h4]
  rfl
theorem flush_up (D : GkD) (x : Int) : upC D.flush.vals x = upC D.all x := by
  have h := D.flush_all x
  rw [GkD.all, D.flush_same.2.2.2, List.append_nil] at h
  exact h
theorem rank_is {D : GkD} (hok : D.ok) (x : Int) : (rankF 0 D.flush.row x).1 ≤ upC D.all x ∧ upC D.all x ≤ (rankF 0 D.flush.row x).2 := by
  have ho := flush_ok0 hok
  rw [← flush_up]
  refine rank_ok x D.flush.row 0 ho.placed.all (Nat.zero_le _) (fun h => ?_) (fun s hs => ⟨ho.placed.most s hs, ?_⟩)
  · have h2 := ho.placed.none (by rw [h]; rfl)
    rw [h2]
    exact Nat.le_refl _
  · have := totS_spF0 D.flush.row
    rw [totS, hs] at this
    rw [← ho.fine.total, ← this]
theorem near_is {D : GkD} (hok : D.ok) {t : Nat} (h1 : 1 ≤ t) (h2 : t ≤ D.total) :
    upC D.all (foundX t D.flush.row - 1) + 1 ≤ upC D.all (foundX t D.flush.row) ∧
      max (upC D.all (foundX t D.flush.row - 1) + 1 - t) (t - upC D.all (foundX t D.flush.row)) * D.den ≤ D.num * D.total := by
  have ho := flush_ok0 hok
  have hv := flush_vals D
  have hu := flush_up D
  obtain ⟨e1, e2, -, -⟩ := D.flush_same
  have ht := ho.fine.total
  have hf := ho.fine.first
  have hp := ho.placed
  have hg := ho.tight
  rw [e1, e2, hv] at hg
  simp only [← hu]
  generalize D.flush.vals = A at *
  generalize D.flush.row = R at *
  cases R with
  | nil =>
    have : tot ([] : List Tp) = 0 := rfl
    omega
  | cons p row =>
    have h3 := find_close (t := t) hp (hf p rfl) hg h1 (by omega)
    dsimp only at h3
    rw [← foundX_cons] at h3
    obtain ⟨a1, a2, a3⟩ := h3
    rw [unC_up1] at a1 a3
    refine ⟨a3, lim_half ?_⟩
    omega
end GkD
theorem valsG_up (num den : Nat) (l : List Vl) (x : Int) : upC (valsG num den l).all x = upS x l := by
  have h := GkD.vals_all x l (GkD.new num den)
  have h0 : upC (GkD.new num den).all x = 0 := rfl
  rw [h0, Nat.zero_add] at h
  exact h
end Go.Proofs.Ytkcldhimjnehdaa
