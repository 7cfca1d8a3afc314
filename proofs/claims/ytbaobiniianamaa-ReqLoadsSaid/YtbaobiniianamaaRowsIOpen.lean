/-
  How a row of rows of int64 is opened. Conditions: the form's own reach.
-/
import Derived.Test.YtbaobiniianamaaRowsS
import Derived.Test.YtbaobiniianamaaIntsOpen
import Derived.Test.YtbaobiniianamaaReqJoin
namespace Go.Proofs.Ytbaobiniianamaa
open Go.ChangeShapes Go.WideShapes Go.ChangeAt Go.RowKit

theorem cells_intsR : Try.prog.cellsOf 22 = 1 := by kernel_rfl
theorem fst_flat (rs : List (Value × List Int)) : (rs.map fun r : Value × List Int => [r.1]).flatten = rs.map Prod.fst := by
  induction rs with
  | nil => rfl
  | cons x a ih => rw [List.map_cons, List.flatten_cons, ih]; rfl
section
variable {H : Type} {enc : TypeId × Value → H} {W : World}
set_option maxRecDepth 100000 in
theorem irow_open {v : Value} {d : DataW H} {ps : List MemPlace} (hs : ∃ a0 len0 cp, v = .slice a0 len0 cp)
    (hd : DataW.Trod enc Try.prog W 0 (fun _ => true) true 22 v d ps) (hr : Reached Try.prog 22 d) :
    ∃ r : Value × List Int, [v] = [r.1] ∧ Rd W 1 r.1 r.2.length (ints r.2) := by
  obtain ⟨ao, cap, xs, rfl, h1, h2, h3, _, h4⟩ := open_rowsS Try.underlying22 hs hd hr (by rw [cells_i64]; omega)
  obtain ⟨a, rfl, ha⟩ := choose_list (f := fun k : Int => [Value.int .i64 k]) (p := fun _ => True) (fun x hx => by
    obtain ⟨_, n, y, hy, _⟩ := h4 x hx
    obtain ⟨k, e0, _, _⟩ := DataW.trod_int Try.underlying2 hy
    exact ⟨k, e0, trivial⟩)
  rw [cells_i64, ints_flat] at h1
  rw [List.length_map] at h1 ⊢
  exact ⟨⟨.slice ao a.length cap, a⟩, rfl, h1⟩
set_option maxRecDepth 100000 in
theorem irows_open {v : Value} {d : DataW H} {ps : List MemPlace} {r : Reach} {b0 : Nat} (hval : Value.okWide Try.prog W r b0 47 v)
    (hd : DataW.Trod enc Try.prog W 0 (fun _ => true) true 47 v d ps) (hr : Reached Try.prog 47 d) :
    ∃ (ao : Option Addr) (cap : Nat) (xs : List Value) (rws : List (List Int)), v = .slice ao rws.length cap ∧ RowsR W (.slice ao rws.length cap) rws.length xs rws := by
  obtain ⟨ao, cap, xs, rfl, h1, h2, h3, _, h4⟩ := open_rows Try.underlying47 hval hd hr (by rw [cells_intsR]; omega)
  obtain ⟨rs, rfl, hrs⟩ := choose_list (f := fun q : Value × List Int => [q.1]) (p := fun q => Rd W 1 q.1 q.2.length (ints q.2)) (fun x hx => by
    obtain ⟨_, n, y, hy, hre⟩ := h4 x hx
    rcases Go.Deep.open_slice Try.underlying22 hy with ⟨hcs, _⟩ | ⟨a, len, cp, m, n', D, Pl, hcs, _⟩
    · subst hcs
      exact irow_open ⟨_, _, _, rfl⟩ ⟨n, by simpa [Value.cells] using hy⟩ hre
    · subst hcs
      exact irow_open ⟨_, _, _, rfl⟩ ⟨n, by simpa [Value.cells] using hy⟩ hre)
  rw [cells_intsR, fst_flat] at h1
  rw [List.length_map] at *
  refine ⟨ao, cap, rs.map Prod.fst, rs.map Prod.snd, by rw [List.length_map], ?_⟩
  rw [List.length_map]
  refine ⟨h1, by rw [List.length_map], by rw [List.length_map, List.length_map], fun j hj hj' => ?_⟩
  rw [List.getElem_map, List.getElem_map]
  exact hrs _ (List.getElem_mem _)
end
end Go.Proofs.Ytbaobiniianamaa
