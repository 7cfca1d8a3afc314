/-
  The walk of the law QuillWrites. Conditions: the form's own reach.
-/
import Derived.Test.YtgpnnfgaphcklaaQuillNumbersW
import Derived.Test.YtgpnnfgaphcklaaBase2
namespace Go.Proofs.Ytgpnnfgaphcklaa
open Go.RowKit

theorem itmEnc_drop (l : List Itm) (k : Nat) (h : k < l.length) : itmEnc (l.drop k) = (l[k]).enc ++ itmEnc (l.drop (k + 1)) := by
  rw [List.drop_eq_getElem_cons h]
  simp only [itmEnc, List.map_cons, List.flatten_cons]

set_option maxRecDepth 100000 in
set_option maxHeartbeats 2000000 in
theorem law_QuillWrites (w : World) (ao : Option Addr) (ca : Nat) (l : List Itm) (hok : ∀ i ∈ l, i.ok)
    (hr : Rd w 4 (.slice ao l.length ca) l.length (itmCells l)) (_hao : Old w.heap.size (.slice ao l.length ca) l.length) (hl : l.length * 40 ≤ 140737488351232) :
    Calls Try.prog 8 #[.slice ao l.length ca] w fun e w' => e = .returned (.bool true) ∧ Chg [] w w' := by
  go_enter Try.func8, Try.ntmps8
  go_wp2_with fail
  refine (law_alive w).mono ?_
  rintro e w1 ⟨rfl, hc1⟩
  go_wp2_with fail
  refine (law_great w1 ao ca l hok (hr.chg hc1 (by simp)) hl).mono ?_
  rintro e w2 ⟨rfl, hc2⟩
  have hc2 := hc1.trans hc2
  clear hc1
  by_cases hga : 4096 < itmTot l ∨ 60 < l.length
  · have h1 : decide (4096 < itmTot l ∨ 60 < l.length) = true := by simpa using hga
    rw [h1]
    clear hga h1
    go_wp2
    go_ret
    exact ⟨rfl, hc2⟩
  have h1 : decide (4096 < itmTot l ∨ 60 < l.length) = false := by simpa using hga
  rw [h1]
  clear h1
  have hl60 : l.length ≤ 60 := by omega
  have ht : itmTot l ≤ 4096 := by omega
  clear hga
  go_wp2_with fail
  refine (law_put w2 ao ca l hok (hr.chg hc2 (by simp)) (by omega) (by omega)).mono ?_
  rintro e w3 ⟨rfl, hc3⟩
  have hc3 := hc2.trans hc3
  clear hc2
  have hlen := itmEnc_len l hok
  have hs3 := hc3.size
  go_wp2_with fail
  refine (eye_on w3 _).mono ?_
  rintro e w4 ⟨rfl, he4, hc4⟩
  have hc4 := hc3.trans hc4
  clear hc3
  go_wp2
  have hsz : ∀ k, (itmEnc (l.drop k)).length ≤ 4696 := fun k => by
    have h1 := itmEnc_len (l.drop k) (fun i hi => hok i (List.mem_of_mem_drop hi))
    have h2 : itmTot (l.drop k) ≤ itmTot l := by
      have : itmTot l = itmTot (l.take k) + itmTot (l.drop k) := by
        conv => lhs; rw [← List.take_append_drop k l]
        simp only [itmTot, List.map_append, List.sum_append]
      omega
    simp only [List.length_drop] at h1
    omega
  have HSZ := Lib.hid hsz
  clear hsz hlen
  go_loopw [25] (fun i wr => ∃ k : Nat, k ≤ l.length ∧ i = .int .i64 (k : Nat) ∧ EyeAt wr w3.heap.size (some (itmEnc (l.drop k))) ∧ Chg [] w wr) (fun i _ => l.length - (intOf i).toNat)
  case atStart => exact ⟨0, Nat.zero_le _, rfl, by simpa using he4, hc4⟩
  case round =>
    obtain ⟨k, hk, rfl, he, hch⟩ := hrel
    by_cases hlt : k < l.length
    · have hr1 := hr.chg hch (by simp)
      obtain ⟨b, o, rfl, hc⟩ := hr1.addr (by omega)
      obtain ⟨c0, c1, c2, c3⟩ := itm_at hc hlt
      have hd := itmEnc_drop l k hlt
      have hi := hok l[k] (List.getElem_mem _)
      have hsz1 := HSZ.out k
      rw [hd] at he hsz1
      have hsz2 := HSZ.out (k + 1)
      generalize l[k] = it at *
      clear hr1 hr hc hok hd he4 hc4
      obtain ⟨i0, i1, i2, i3, i4, i5⟩ := hi
      generalize hrest : itmEnc (l.drop (k + 1)) = rest at *
      have HDR : Hid (itmEnc (l.drop (k + 1)) = rest) := hrest
      clear hrest
      rw [List.length_append] at hsz1
      have heA := he.chg (w1 := wr.alloc (.cells #[.int .i64 it.k, .int .u64 it.u, .int .i64 it.x, .string ⟨it.s.toArray⟩] 58)) ((Chg.refl [] wr).alloc _) (by simp)
      have HC := Lib.hid (hch.alloc (.cells #[.int .i64 it.k, .int .u64 it.u, .int .i64 it.x, .string ⟨it.s.toArray⟩] 58))
      have hba := Blk.alloc_new wr #[.int .i64 it.k, .int .u64 it.u, .int .i64 it.x, .string ⟨it.s.toArray⟩] 58
      have hne : w3.heap.size < wr.heap.size := Blk.lt he
      clear he hch
      by_cases h0 : it.k = 0
      · have henc : it.enc = natB it.u := by unfold Itm.enc; rw [if_pos h0]
        have t0 : (it.k == 0) = true := by simp [h0]
        rw [henc] at heA hsz1
        have e1 := eNat_natB (n := it.u) (most := 18446744073709551615) (by omega) rest
        rw [if_pos (by omega)] at e1
        have E := Lib.hid e1
        have HE : Hid (EyeAt (World.drew (wr.alloc (.cells #[.int .i64 it.k, .int .u64 it.u, .int .i64 it.x, .string ⟨it.s.toArray⟩] 58))) _ _) := heA
        clear h0 henc e1 heA
        have d1 := hba.cell 1
        go_wp2_with fail
        go_region_held3 (fun wx => wx.cell? ⟨wr.heap.size, 1, none⟩ = some (.int .u64 it.u)) (first | assumption | exact d1) (first | (go_at_call 25; refine (eye_nat _ w3.heap.size 18446744073709551615 _ (by omega) HE.out (by intro l h; cases h; rw [List.length_append]; omega)).mono ?_; rintro e w5 ⟨rfl, he5, hc5⟩; rw [E.out] at he5 ⊢; have hd5 : w5.cell? ⟨wr.heap.size, 1, none⟩ = some (.int .u64 it.u) := hc5.cell (w := World.drew (wr.alloc _)) d1 (by simp; omega)))
        go_wp2
        have hc6 : Chg [] w w5 := (HC.out).drew.trans' hc5 (by simp; omega)
        exact ⟨⟨k + 1, by omega, by go_num, by rw [HDR.out]; exact he5, hc6⟩, by simp [intOf]; omega⟩
      · have t0 : (it.k == 0) = false := by simp [h0]
        by_cases h1 : it.k = 1
        · have henc : it.enc = natB (zig it.x) := by unfold Itm.enc; rw [if_neg h0, if_pos h1]
          have t1 : (it.k == 1) = true := by simp [h1]
          rw [henc] at heA hsz1
          have hz := zig_lt i3 i4
          have e1 := eNat_natB (n := zig it.x) (most := 18446744073709551615) hz rest
          rw [if_pos (by omega)] at e1
          have E := Lib.hid e1
          have HE : Hid (EyeAt (World.drew (wr.alloc (.cells #[.int .i64 it.k, .int .u64 it.u, .int .i64 it.x, .string ⟨it.s.toArray⟩] 58))) _ _) := heA
          clear h0 h1 henc e1 heA
          have d1 := hba.cell 2
          go_wp2_with fail
          go_region_held3 (fun wx => wx.cell? ⟨wr.heap.size, 2, none⟩ = some (.int .i64 it.x)) (first | assumption | exact d1) (first | (go_at_call 39; refine (eye_int _ w3.heap.size _ HE.out (by intro l h; cases h; rw [List.length_append]; omega)).mono ?_; rintro e w5 ⟨rfl, he5, hc5⟩; rw [E.out] at he5 ⊢; simp only [zag_zig]; have hd5 : w5.cell? ⟨wr.heap.size, 2, none⟩ = some (.int .i64 it.x) := hc5.cell (w := World.drew (wr.alloc _)) d1 (by simp; omega)))
          go_wp2
          have hc6 : Chg [] w w5 := (HC.out).drew.trans' hc5 (by simp; omega)
          exact ⟨⟨k + 1, by omega, by go_num, by rw [HDR.out]; exact he5, hc6⟩, by simp [intOf]; omega⟩
        · have t1 : (it.k == 1) = false := by simp [h1]
          by_cases h2 : it.k = 2
          · have henc : it.enc = it.s := by unfold Itm.enc; rw [if_neg h0, if_neg h1, if_pos h2]
            have t2 : (it.k == 2) = true := by simp [h2]
            rw [henc] at heA hsz1
            have E := Lib.hid (show eRaw it.s.length (some (it.s ++ rest)) = (it.s, some rest) from by
              show (if _ then _ else _) = _
              rw [if_pos (by simp; omega)]
              simp)
            have HE : Hid (EyeAt (World.drew (wr.alloc (.cells #[.int .i64 it.k, .int .u64 it.u, .int .i64 it.x, .string ⟨it.s.toArray⟩] 58))) _ _) := heA
            clear h0 h1 h2 henc heA
            have d1 := hba.cell 3
            go_wp2_with fail
            go_region_held3 (fun wx => wx.cell? ⟨wr.heap.size, 3, none⟩ = some (.string ⟨it.s.toArray⟩)) (first | assumption | exact d1) (first | (go_at_call 38; refine (eye_raw _ w3.heap.size _ it.s.length HE.out (by intro l h; cases h; rw [List.length_append]; omega)).mono ?_; rintro e w5 ⟨rfl, he5, hc5⟩; rw [E.out] at he5 ⊢; have hd5 : w5.cell? ⟨wr.heap.size, 3, none⟩ = some (.string ⟨it.s.toArray⟩) := hc5.cell (w := World.drew (wr.alloc _)) d1 (by simp; omega)))
            go_wp2
            have hc6 : Chg [] w w5 := (HC.out).drew.trans' hc5 (by simp; omega)
            exact ⟨⟨k + 1, by omega, by go_num, by rw [HDR.out]; exact he5, hc6⟩, by simp [intOf]; omega⟩
          · have henc : it.enc = [] := by unfold Itm.enc; rw [if_neg h0, if_neg h1, if_neg h2]
            have t2 : (it.k == 2) = false := by simp [h2]
            rw [henc, List.nil_append] at heA
            have HE := Lib.hid heA
            clear h0 h1 h2 henc heA
            go_wp2
            exact ⟨⟨k + 1, by omega, by go_num, by rw [HDR.out]; exact HE.out, HC.out⟩, by simp [intOf]; omega⟩
    · obtain rfl : k = l.length := by omega
      rw [List.drop_length] at he
      have he' : EyeAt wr w3.heap.size (some []) := he
      go_wp2_with fail
      refine (eye_over wr w3.heap.size _ he').mono ?_
      rintro e w6 ⟨rfl, rfl⟩
      go_wp2_with fail
      refine (eye_bad wr w3.heap.size _ he').mono ?_
      rintro e w6 ⟨rfl, rfl⟩
      go_wp2_with fail
      refine (eye_left wr w3.heap.size _ he').mono ?_
      rintro e w6 ⟨rfl, rfl⟩
      go_wp2
      go_ret
      exact ⟨rfl, hch⟩
end Go.Proofs.Ytgpnnfgaphcklaa
