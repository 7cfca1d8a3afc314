/-
  (*Tower).Join of whatever two towers of one width. Conditions: the form's own reach.
-/
import Derived.Test.YtbaobiniianamaaReqJoin
import Derived.Test.YtbaobiniianamaaReqSmall
namespace Go.Proofs.Ytbaobiniianamaa
open Go.RowKit

set_option maxRecDepth 100000 in
set_option maxHeartbeats 1000000 in
theorem req_join0 (w : World) (p tp : Nat) (rv : Value) (vs : List Value) (D : TwD) (ht : Tow w p tp rv vs D) (q tq : Nat) (qv : Value) (us : List Value) (O : TwD) (ho : Tow w q tq qv us O)
    (hWW : D.W = O.W) (hz : O.total = 0) :
    Calls Try.prog 29 #[.pointer (some ⟨p, 0, none⟩), .pointer (some ⟨q, 0, none⟩)] w fun e w' => e = .returned (.int .i64 0) ∧ Chg [] w w' := by
  obtain ⟨c0, c1, c2, c3, c4, c5, c6⟩ := ht.cells
  obtain ⟨k0, k1, k2, k3, k4, k5, k6⟩ := ho.cells
  rw [← hWW] at k0
  rw [hz] at k4
  have e2 : ((D.W : Int) != (D.W : Int)) = false := by simp
  clear ht ho hWW hz
  go_enter Try.func29, Try.ntmps29
  go_wp2_with fail
  go_quiet (fail)
  go_wp2
  go_ret
  exact ⟨rfl, (Chg.refl [] w).drewN _⟩

/-- What Join leaves: of an empty other one nothing new. -/
def TwD.joinZ (D O : TwD) : TwD := if O.total = 0 then D else D.join O
theorem TwD.joinZ_fine {D O : TwD} {W word word2 n m : Nat} (hW : 4 ≤ W) (hd : D.fine W word n) (ho : O.fine W word2 m) : (D.joinZ O).fine W word (n + m) := by
  unfold TwD.joinZ
  split
  · next h =>
    have h1 := ho.tot
    obtain rfl : m = 0 := by omega
    exact hd
  · exact TwD.join_fine hW hd ho
theorem TwD.fine.few8 {D : TwD} {W word n : Nat} (h : D.fine W word n) (hn : n ≤ 500) : D.rows.length ≤ 8 := by
  have h1 := h.few
  by_cases h2 : D.rows.length ≤ 8
  · exact h2
  · have h3 : 2 ^ 9 ≤ 2 ^ D.rows.length := Nat.pow_le_pow_right (by omega) (by omega)
    have h4 : (2 : Nat) ^ 9 = 512 := by decide
    omega
theorem TwD.joinZ_tells {D O : TwD} {x : Int} {W word word2 n n2 m m2 : Nat} (hW : 4 ≤ W) (h4 : W % 4 = 0) (hd : D.fine W word n) (ho : O.fine W word2 n2) (h1 : D.tells x m) (h2 : O.tells x m2) : (D.joinZ O).tells x (m + m2) := by
  unfold TwD.joinZ
  split
  · next h =>
    have e1 := ho.tot
    obtain rfl : n2 = 0 := by omega
    have e2 := h2.2.2
    have e3 := rankR_le x O.rows
    have e4 := aboveR_le O.rows
    rw [ho.sum] at e3 e4
    rw [ho.W_eq] at e2
    have e5 : rankR x O.rows = 0 := by omega
    have e6 : aboveR O.rows = 0 := by simpa using e4
    rw [e5, e6] at e2
    have e7 : m2 * (W / 2) = 0 := by simpa using e2
    rcases Nat.mul_eq_zero.1 e7 with e8 | e8
    · subst e8; exact h1
    · omega
  · exact TwD.join_tells hW h4 hd ho h1 h2

theorem req_joinZ (w : World) (p tp : Nat) (rv : Value) (vs : List Value) (D : TwD) (ht : Tow w p tp rv vs D) (q tq : Nat) (qv : Value) (us : List Value) (O : TwD) (ho : Tow w q tq qv us O) (hdis : ∀ b ∈ fp p tp rv vs, b ∉ fp q tq qv us)
    (W word word2 n m : Nat) (hd : D.fine W word n) (hf : O.fine W word2 m) (hW : 4 ≤ W) (hW2 : W ≤ 64) (hword : word < 18446744073709551616) (hn : n ≤ 500) (hm : m ≤ 500) (hu : D.used ≤ 1000000) :
    Calls Try.prog 29 #[.pointer (some ⟨p, 0, none⟩), .pointer (some ⟨q, 0, none⟩)] w fun e w' => e = .returned (.int .i64 0) ∧ ∃ rv' vs', Tow w' p tp rv' vs' (D.joinZ O) ∧ Mv (fp p tp rv vs) w (fp p tp rv' vs') w' := by
  by_cases hz : O.total = 0
  · refine (req_join0 w p tp rv vs D ht q tq qv us O ho (by rw [hd.W_eq, hf.W_eq]) hz).mono ?_
    rintro e w' ⟨rfl, hc⟩
    exact ⟨rfl, rv, vs, by rw [TwD.joinZ, if_pos hz]; exact ht.chg hc (by simp), Mv.of_chg (hc.mono (by simp))⟩
  · have h1 := hd.flat
    have h2 := hf.flat
    have h3 := hd.few8 hn
    have h4 := hf.few8 hm
    have h5 := hd.tot
    have h6 := hf.tot
    rw [TwD.joinZ, if_neg hz]
    exact req_join w p tp rv vs D ht q tq qv us O ho hdis (by rw [hd.W_eq, hf.W_eq]) (by rw [hd.W_eq]; exact hW) (by rw [hd.W_eq]; exact hW2) (by rw [hd.word_eq]; exact hword) (by omega) (by rw [hd.W_eq]; omega) hu (by omega) (by omega) (by omega)
end Go.Proofs.Ytbaobiniianamaa
