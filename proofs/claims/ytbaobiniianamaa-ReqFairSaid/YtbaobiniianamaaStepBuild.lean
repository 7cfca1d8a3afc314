/-
  Literal slices of numbers at an operation of a drawn region. Conditions: none.
-/
import Derived.Test.YtbaobiniianamaaCoins
import Derived.Test.YtbaobiniianamaaInts
namespace Go.Proofs.Ytbaobiniianamaa
open Go.RowKit

set_option maxRecDepth 100000 in
theorem step_build0 {ops : Array Oper} {w : World} {o : Oper} {a : Act} {K : Act → World → Prop} {Q : Exit → Act → World → Prop} {E : Prop} (hg : o.guard = none)
    (ho : o.op = .buildSlice 22 0 #[])
    (h : ∀ g w', Own w' 2 1 (.slice (some ⟨g, 0, none⟩) 0 0) 0 (ints []) → Chg [] w w' → w.heap.size ≤ g → K (a.put o.dst (.slice (some ⟨g, 0, none⟩) 0 0)) w') :
    if Region.wanted o (yielded ops a.tmps) = true then Oper.wp Try.prog o a w K Q else E := by
  obtain ⟨dst, op, ty, pos, af, gd⟩ := o
  simp only at hg ho h
  subst hg ho
  have H := h w.heap.size (w.alloc (.cells #[] 2)) (Own.lit w 2 1 0 #[] rfl (by decide)) ((Chg.refl [] w).alloc _) (Nat.le_refl _)
  clear h
  go_simp
  exact H
set_option maxRecDepth 100000 in
theorem step_build1 {ops : Array Oper} {w : World} {o : Oper} {a : Act} {K : Act → World → Prop} {Q : Exit → Act → World → Prop} {E : Prop} (hg : o.guard = none) (t : Tmp)
    (ho : o.op = .buildSlice 22 1 #[(0, .tmp t)]) (x : Int) (hx : a.eval (.tmp t) = .int .i64 x)
    (h : ∀ g w', Own w' 2 1 (.slice (some ⟨g, 0, none⟩) 1 1) 1 (ints [x]) → Chg [] w w' → w.heap.size ≤ g → K (a.put o.dst (.slice (some ⟨g, 0, none⟩) 1 1)) w') :
    if Region.wanted o (yielded ops a.tmps) = true then Oper.wp Try.prog o a w K Q else E := by
  obtain ⟨dst, op, ty, pos, af, gd⟩ := o
  simp only at hg ho h
  subst hg ho
  have H := h w.heap.size (w.alloc (.cells #[.int .i64 x] 2)) (Own.lit w 2 1 1 #[.int .i64 x] rfl (by decide)) ((Chg.refl [] w).alloc _) (Nat.le_refl _)
  clear h
  have hx' : a.tmps[t]?.getD undef = .int .i64 x := by simpa [Act.eval] using hx
  clear hx
  go_simp
  exact H
end Go.Proofs.Ytbaobiniianamaa
