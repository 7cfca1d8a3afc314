/-
  Plain law: what Put makes of a tower, and what stays true of it. Conditions: none.
-/
import Derived.Test.YtbaobiniianamaaTower
import Derived.Test.YtbaobiniianamaaPlainReq3
namespace Go.Proofs.Ytbaobiniianamaa

/-- A tower with one value more, and with so many. -/
def TwD.add (D : TwD) (x : Int) : TwD := { D with rows := D.rows.set 0 (D.rows.getD 0 [] ++ [x]), total := D.total + 1 }
def TwD.put1 (D : TwD) (x : Int) : TwD := (D.add x).settled
def TwD.putN (D : TwD) (x : Int) : Nat → TwD
  | 0 => D
  | k + 1 => (D.putN x k).put1 x
/-- What bounds a tower: its rows, and its coins. -/
def TwD.fits (D : TwD) (M : Nat) : Prop := 1 ≤ D.rows.length ∧ D.rows.length ≤ D.used + 1 ∧ D.used + D.rows.flatten.length ≤ M
theorem TwD.put1_fits {D : TwD} {M : Nat} (x : Int) (hW : 4 ≤ D.W) (h : D.fits M) : (D.put1 x).fits (M + 1) := by
  obtain ⟨h1, h2, h3⟩ := h
  have hs := settle_fits (W := D.W) (c := coinB D.word) hW (s := (D.used, D.rows.set 0 (D.rows.getD 0 [] ++ [x]))) (by simpa using h1) (by simpa using h2)
  have e : (D.rows.set 0 (D.rows.getD 0 [] ++ [x])).flatten.length = D.rows.flatten.length + 1 := by
    cases hr : D.rows with
    | nil => rw [hr] at h1; simp at h1
    | cons r l => simp; omega
  simp only at hs
  rw [e] at hs
  exact ⟨hs.1, hs.2.1, by have := hs.2.2; show _ ≤ _; simp only [TwD.put1, TwD.settled, TwD.at, TwD.add]; omega⟩
theorem TwD.putN_W (D : TwD) (x : Int) (k : Nat) : (D.putN x k).W = D.W ∧ (D.putN x k).word = D.word ∧ (D.putN x k).total = D.total + k := by
  induction k with
  | zero => exact ⟨rfl, rfl, rfl⟩
  | succ k ih => exact ⟨ih.1, ih.2.1, by show (D.putN x k).total + 1 = _; omega⟩
theorem TwD.putN_fits {D : TwD} {M : Nat} (x : Int) (hW : 4 ≤ D.W) (h : D.fits M) (k : Nat) : (D.putN x k).fits (M + k) := by
  induction k with
  | zero => exact h
  | succ k ih => exact TwD.put1_fits x (by rw [(D.putN_W x k).1]; exact hW) ih

theorem TwD.add_size {D : TwD} (x : Int) (h1 : 1 ≤ D.rows.length) : (D.add x).rows.flatten.length = D.rows.flatten.length + 1 ∧ (D.add x).rows.length = D.rows.length := by
  unfold TwD.add
  cases hr : D.rows with
  | nil => rw [hr] at h1; simp at h1
  | cons r l => simp; omega
end Go.Proofs.Ytbaobiniianamaa
