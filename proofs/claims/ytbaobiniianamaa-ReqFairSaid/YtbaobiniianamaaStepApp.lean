/-
  append as one step of a region that draws its order. Conditions: none.
-/
import Derived.Test.YtbaobiniianamaaBase2
namespace Go.Proofs.Ytbaobiniianamaa
open Go.RowKit

theorem step_append_src {P : Program} {ops : Array Oper} {w : World} {o : Oper} {a : Act} {K : Act → World → Prop} {Q : Exit → Act → World → Prop} {E : Prop} (hg : o.guard = none) (s x : Operand) (t u : TypeId)
    (ho : o.op = .call { callee := .builtin .append, args := #[s, x], argTypes := #[t, u] })
    (e : TypeId) (z : Value) (size bytes : Nat) (ht : P.underlying t = some (.slice e)) (hinfo : (P.info? e).map (fun i => (i.zero, i.size, i.bytes)) = some (some z, size, bytes))
    (hzs : z.cells.size = size) (hsz : 0 < size)
    (v : Value) (n : Nat) (xs : List Value) (hs : a.eval s = v) (hown : Own w e size v n xs)
    (xv : Value) (m : Nat) (news : List Value) (hx : a.eval x = xv) (hsrc : Src P w u size xv m news) (h1 : ∀ y ∈ news, y.oneCell' = true)
    (h63 : n + m ≤ maxLen) (hbytes : (n + m) * bytes ≤ 140737488355328)
    (h : ∀ ao cap w', Own w' e size (.slice ao (n + m) cap) (n + m) (xs ++ news) → Chg (blkOf v) w w' → (∀ b ∈ abl ao, b ∈ blkOf v ∨ w.heap.size ≤ b) → K (a.put o.dst (.slice ao (n + m) cap)) w') :
    if Region.wanted o (yielded ops a.tmps) = true then Oper.wp P o a w K Q else E := by
  obtain ⟨i, hi, hz0, hz1, hz2⟩ := info_parts hinfo
  obtain ⟨v', w', hr, h2, h3, h4⟩ := run_append_src (P := P) w t u o.type e i z size bytes ht hi hz0 hz1 hz2 hzs hsz v n xs hown xv m news hsrc h1 h63 hbytes
  obtain ⟨ao, cap, rfl⟩ := h2.shape
  have hw : Region.wanted o (yielded ops a.tmps) = true := by simp [Region.wanted, hg]
  rw [if_pos hw]
  have hK := h ao cap w' h2 h3 (fun b hb => by
    rcases h4 with h4 | h4
    · left; rw [← h4]; simpa using hb
    · right
      rw [blkOf_slice] at h4
      rw [h4] at hb
      simp at hb
      omega)
  unfold Oper.wp
  simp [execOp, ho, resolve, invoke, builtin, hs, hx, hr, Result.andThen]
  exact hK

end Go.Proofs.Ytbaobiniianamaa
