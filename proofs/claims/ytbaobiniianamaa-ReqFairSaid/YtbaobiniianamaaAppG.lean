/-
  append at an operation that has a guard. Conditions: none.
-/
import Derived.Test.YtbaobiniianamaaBase
namespace Go.Proofs.Ytbaobiniianamaa
open Go.RowKit

/-- The same at the operation, for a walk. -/
theorem wpList_append_srcG {P : Program} (w : World) {ops : Array Oper} {rest : List Oper} {o : Oper} {a : Act} {Q : Exit → Act → World → Prop} (hgd : Region.wanted o (yielded ops a.tmps) = true) (s x : Operand) (t u : TypeId)
    (ho : o.op = .call { callee := .builtin .append, args := #[s, x], argTypes := #[t, u] })
    (e : TypeId) (z : Value) (size bytes : Nat) (ht : P.underlying t = some (.slice e)) (hinfo : (P.info? e).map (fun i => (i.zero, i.size, i.bytes)) = some (some z, size, bytes))
    (hzs : z.cells.size = size) (hsz : 0 < size)
    (v : Value) (n : Nat) (xs : List Value) (hs : a.eval s = v) (hown : Own w e size v n xs)
    (xv : Value) (m : Nat) (news : List Value) (hx : a.eval x = xv) (hsrc : Src P w u size xv m news) (h1 : ∀ y ∈ news, y.oneCell' = true)
    (h63 : n + m ≤ maxLen) (hbytes : (n + m) * bytes ≤ 140737488355328)
    (h : ∀ ao cap w', Own w' e size (.slice ao (n + m) cap) (n + m) (xs ++ news) → Chg (blkOf v) w w' → (∀ b ∈ abl ao, b ∈ blkOf v ∨ w.heap.size ≤ b) → wpList P ops Q rest (a.put o.dst (.slice ao (n + m) cap)) w') : wpList P ops Q (o :: rest) a w := by
  obtain ⟨i, hi, hz0, hz1, hz2⟩ := info_parts hinfo
  obtain ⟨v', w', hr, h2, h3, h4⟩ := run_append_src (P := P) w t u o.type e i z size bytes ht hi hz0 hz1 hz2 hzs hsz v n xs hown xv m news hsrc h1 h63 hbytes
  obtain ⟨ao, cap, rfl⟩ := h2.shape
  refine wpList_step fun _ hK => ?_
  rw [if_pos hgd]
  unfold Oper.wp execOp
  simp only [ho, resolve, invoke, builtin, Sem.run_bind, Sem.run_pure, Result.andThen_ok, List.map_toArray, List.map_cons, List.map_nil, hs, hx, hr]
  refine hK _ _ (h ao cap w' h2 h3 (fun b hb => ?_))
  rcases h4 with h4 | h4
  · left; rw [← h4]; simpa using hb
  · right
    rw [blkOf_slice] at h4
    rw [h4] at hb
    simp at hb
    omega

theorem Own.cap_le {w : World} {e : TypeId} {size n m c : Nat} {ao : Option Addr} {xs : List Value} (h : Own w e size (.slice ao m c) n xs) : n ≤ c ∧ m = n := by
  obtain ⟨_, ⟨h0, rfl⟩ | ⟨g, o, cap, cur, h0, _, h1, _⟩⟩ := h
  · simp only [Value.slice.injEq] at h0
    omega
  · simp only [Value.slice.injEq] at h0
    omega
end Go.Proofs.Ytbaobiniianamaa
