/-
  The walk of the law QuillParts. Conditions: the form's own reach.
-/
import Derived.Test.YtgpnnfgaphcklaaLaw04Put
import Derived.Test.YtgpnnfgaphcklaaBase2
namespace Go.Proofs.Ytgpnnfgaphcklaa
open Go.RowKit

theorem law_putn (w : World) (ao : Option Addr) (cap : Nat) (l : List Itm) (n : Nat) (hn : n = l.length) (hok : ∀ i ∈ l, i.ok) (hr : Rd w 4 (.slice ao n cap) n (itmCells l)) (hl : l.length ≤ 120) (ht : itmTot l ≤ 8192) :
    Calls Try.prog 21 #[.slice ao n cap] w fun e w' => e = .returned (.tuple #[.string ⟨(itmEnc l).toArray⟩, .string ⟨(itmEnc l).toArray⟩]) ∧ Chg [] w w' := by
  subst hn
  exact law_put w ao cap l hok hr hl ht

theorem under_items : Try.prog.underlying 22 = some (.slice 58) := by kernel_rfl
theorem info_item : (Try.prog.info? 58).map (fun i => (i.zero, i.size, i.bytes)) = some (some (.agg #[.int .i64 0, .int .u64 0, .int .i64 0, .string ⟨#[]⟩]), 4, 40) := by kernel_rfl

set_option maxRecDepth 100000 in
set_option maxHeartbeats 1000000 in
theorem law_QuillParts (w : World) (ao : Option Addr) (ca : Nat) (a : List Itm) (ha : ∀ i ∈ a, i.ok)
    (hra : Rd w 4 (.slice ao a.length ca) a.length (itmCells a)) (_hao : Old w.heap.size (.slice ao a.length ca) a.length) (hla : a.length * 40 ≤ 140737488351232)
    (bo : Option Addr) (cb : Nat) (b : List Itm) (hb : ∀ i ∈ b, i.ok)
    (hrb : Rd w 4 (.slice bo b.length cb) b.length (itmCells b)) (hbo : Old w.heap.size (.slice bo b.length cb) b.length) (hlb : b.length * 40 ≤ 140737488351232) :
    Calls Try.prog 3 #[.slice ao a.length ca, .slice bo b.length cb] w fun e w' => e = .returned (.bool true) ∧ Chg [] w w' := by
  go_enter Try.func3, Try.ntmps3
  go_wp2_with fail
  refine (law_alive w).mono ?_
  rintro e w1 ⟨rfl, hc1⟩
  go_wp2_with fail
  refine (law_great w1 ao ca a ha (hra.chg hc1 (by simp)) hla).mono ?_
  rintro e w2 ⟨rfl, hc2⟩
  have hc2 := hc1.trans hc2
  clear hc1
  by_cases hga : 4096 < itmTot a ∨ 60 < a.length
  · have h1 : decide (4096 < itmTot a ∨ 60 < a.length) = true := by simpa using hga
    rw [h1]
    clear hga h1
    go_wp2
    go_ret
    exact ⟨rfl, hc2⟩
  have h1 : decide (4096 < itmTot a ∨ 60 < a.length) = false := by simpa using hga
  rw [h1]
  clear h1
  go_wp2_with fail
  refine (law_great w2 bo cb b hb (hrb.chg hc2 (by simp)) hlb).mono ?_
  rintro e w3 ⟨rfl, hc3⟩
  have hc3 := hc2.trans hc3
  clear hc2
  by_cases hgb : 4096 < itmTot b ∨ 60 < b.length
  · have h1 : decide (4096 < itmTot b ∨ 60 < b.length) = true := by simpa using hgb
    rw [h1]
    clear hgb h1 hga
    go_wp2
    go_ret
    exact ⟨rfl, hc3⟩
  have h1 : decide (4096 < itmTot b ∨ 60 < b.length) = false := by simpa using hgb
  rw [h1]
  clear h1
  have hla' : a.length ≤ 60 := by omega
  have hlb' : b.length ≤ 60 := by omega
  have hta : itmTot a ≤ 4096 := by omega
  have htb : itmTot b ≤ 4096 := by omega
  clear hga hgb
  by_cases h60 : 60 < a.length + b.length
  · go_wp2
    go_ret
    exact ⟨rfl, hc3⟩
  go_wp2_with fail
  refine (law_put w3 ao ca a ha (hra.chg hc3 (by simp)) (by omega) (by omega)).mono ?_
  rintro e w4 ⟨rfl, hc4⟩
  have hc4 := hc3.trans hc4
  clear hc3
  go_wp2_with fail
  refine (law_put w4 bo cb b hb (hrb.chg hc4 (by simp)) (by omega) (by omega)).mono ?_
  rintro e w5 ⟨rfl, hc5⟩
  have hc5 := hc4.trans hc5
  clear hc4
  have hra5 := (hra.chg hc5 (by simp)).alloc (.cells #[] 58)
  have hrb5 := (hrb.chg hc5 (by simp)).alloc (.cells #[] 58)
  have hl5 := Own.lit w5 58 4 0 #[] rfl (by simp [maxLen])
  have HB := Lib.hid (hbo.mono hc5.size)
  clear hbo hra hrb
  go_wp2_with (first
    | (at_builtin; refine wpList_append_src _ rfl (.tmp 38) (.tmp 39) 22 22 rfl 58 _ 4 40 under_items info_item rfl (by decide) (.slice (some ⟨w5.heap.size, 0, none⟩) 0 0) 0 [] rfl hl5 (.slice ao a.length ca) a.length (itmCells a) rfl (Src.of_rd under_items hra5) (itmCells_oneCell a) (by unfold maxLen; omega) (by omega) ?_; go_must (intro ao1 cp1 w6 ho1 hg1 hf1; simp only [Nat.zero_add, List.nil_append] at ho1; have hrb6 := hrb5.chg_old hg1 HB.out (by intro x hx; simp at hx; omega)))
    | (at_builtin; go_must (refine wpList_append_src _ rfl (.tmp 40) (.tmp 41) 22 22 rfl 58 _ 4 40 under_items info_item rfl (by decide) (.slice ao1 a.length cp1) a.length (itmCells a) rfl ho1 (.slice bo b.length cb) b.length (itmCells b) rfl (Src.of_rd under_items hrb6) (itmCells_oneCell b) (by unfold maxLen; omega) (by omega) ?_; intro ao2 cp2 w7 ho2 hg2 hf2)))
  have hc7 : Chg [] w w7 := by
    have h6 : Chg [] w w6 := (hc5.alloc (.cells #[] 58)).trans' hg1 (by intro x hx; simp at hx; right; rw [hx]; exact hc5.size)
    refine h6.trans' hg2 (fun x hx => .inr ?_)
    rcases hf1 x (by simpa using hx) with h | h
    · simp at h; have := hc5.size; omega
    · have := hc5.size; simp at h; omega
  rw [← itmCells_append] at ho2
  have hr7 := ho2.rd
  clear ho2 hg2 hf2 ho1 hg1 hf1 hra5 hrb5 hl5 HB
  go_wp2_with fail
  refine (law_putn w7 ao2 cp2 (a ++ b) _ (by simp) (fun i hi => (List.mem_append.1 hi).elim (ha i) (hb i)) hr7 (by simp; omega) (by rw [itmTot_append]; omega)).mono ?_
  rintro e w8 ⟨rfl, hc8⟩
  rw [itmEnc_append]
  have h1 := itmEnc_len a ha
  have h2 := itmEnc_len b hb
  go_wp2
  go_ret
  exact ⟨by simp [ByteArray.mk_append_mk], hc7.trans hc8⟩
end Go.Proofs.Ytgpnnfgaphcklaa
