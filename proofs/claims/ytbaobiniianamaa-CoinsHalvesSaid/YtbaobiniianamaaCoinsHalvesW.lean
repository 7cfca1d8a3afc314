/-
  The walk of the law CoinsHalves. Conditions: the form's own reach.
-/
import Derived.Test.YtbaobiniianamaaRefSplit
import Derived.Test.YtbaobiniianamaaRefHalve
import Derived.Test.YtbaobiniianamaaOwnSet
import Derived.Test.YtbaobiniianamaaAppG
namespace Go.Proofs.Ytbaobiniianamaa
open Go.RowKit

theorem Rd.old {w : World} {size n : Nat} {v : Value} {xs : List Value} (h : Rd w size v n xs) (hs : 0 < size) : Old w.heap.size v n := by
  intro x hx
  by_cases h0 : n = 0
  · exact .inr h0
  · obtain ⟨ao, cap, rfl⟩ := h.shape
    obtain ⟨b, o, rfl, hc⟩ := h.addr (by omega)
    simp only [blkOf_some, List.mem_singleton] at hx
    subst hx
    have hp : 0 < n * size := Nat.mul_pos (by omega) hs
    have h1 := hc 0 hp
    rw [List.getElem?_eq_getElem (by rw [h.1]; exact hp)] at h1
    exact .inl (World.block_lt_of_cell? w _ h1)
theorem Own.cut' {w : World} {e : TypeId} {ao : Option Addr} {n c : Nat} {xs : List Int} (h : Own w e 1 (.slice ao n c) n (ints xs)) {m : Nat} (hm : m ≤ n) : Own w e 1 (.slice ao m m) m (ints (xs.take m)) := by
  have h' := h
  obtain ⟨hx, ⟨h0, hn⟩ | ⟨g', o', cp, cur, h0, hg, h1, h2, h3, h4⟩⟩ := h
  · simp only [Value.slice.injEq] at h0
    obtain ⟨rfl, rfl, rfl⟩ := h0
    obtain rfl : m = 0 := by omega
    exact ⟨by simp, .inl ⟨rfl, rfl⟩⟩
  · simp only [Value.slice.injEq] at h0
    obtain ⟨rfl, _, rfl⟩ := h0
    exact (h'.cut hm).1
theorem ints_set (l : List Int) (j : Nat) (x : Int) : (ints l).set j (.int .i64 x) = ints (l.set j x) := by simp [ints, List.map_set]

set_option maxRecDepth 100000 in
set_option maxHeartbeats 2000000 in
theorem law_CoinsHalves (w : World) (ao : Option Addr) (cap : Nat) (l : List Int) (hr : Rd w 1 (.slice ao l.length cap) l.length (ints l)) (hl : l.length ≤ 140737488351232) (k : Int) (_h0 : -9223372036854775808 ≤ k) (_h1 : k < 9223372036854775808) (sec : Bool) :
    Calls Try.prog 3 #[.slice ao l.length cap, .int .i64 k, .bool sec] w fun e w' => e = .returned (.bool true) ∧ Chg [] w w' := by
  clear _h0 _h1
  go_enter Try.func3, Try.ntmps3
  go_wp2_with fail
  refine (law20_alive w).mono ?_
  rintro e w1 ⟨rfl, hc1⟩
  by_cases h100 : 100 < l.length
  · have hd : decide ((100 : Int) < (l.length : Int)) = true := decide_eq_true (by omega)
    clear h100
    go_wp2
    go_ret
    exact ⟨rfl, hc1⟩
  have hd : decide ((100 : Int) < (l.length : Int)) = false := decide_eq_false (by omega)
  have HR1 := Lib.hid (hr.chg hc1 (by simp))
  have HRO := Lib.hid (hr.old (by omega))
  have hl100 : l.length ≤ 100 := by omega
  obtain ⟨m, hm⟩ : ∃ m, m = keepI l.length k := ⟨_, rfl⟩
  have hmn : m ≤ l.length := by rw [hm, keepI, keepN]; split <;> omega
  have heven : (l.length - m) % 2 = 0 := by
    have := (keepN_le (n := l.length) (k := min k.toNat l.length) (Nat.min_le_right _ _)).2.2.2
    rw [hm, keepI]
    unfold keepN at *
    rw [Nat.min_assoc, Nat.min_self] at this
    exact this
  have HM := Lib.hid hm
  have HSL := Lib.hid (show (sortL l).length = l.length from (sort_ok l).2.2)
  have HEV := Lib.hid heven
  clear hm h100 hr hl heven
  generalize hn : l.length = n at *
  have HN := Lib.hid hn
  have HHL := Lib.hid (halveL_len l sec)
  clear hn
  go_wp2_with (at_builtin; go_must (refine wpList_append_src _ rfl (.tmp 18) (.tmp 19) 22 22 rfl 2 _ 1 8 under_ints info_i64 rfl (by decide) (.slice (some ⟨w1.heap.size, 0, none⟩) 0 0) 0 (ints []) rfl (Own.lit w1 2 1 0 #[] rfl (by unfold maxLen; omega)) (.slice ao n cap) n (ints l) rfl (Src.of_rd under_ints (HR1.out.alloc _)) (ints_oneCell _) (by unfold maxLen; omega) (by omega) ?_; intro a2 c2 w2 ho2 hg2 hf2))
  have hc2 : Chg [] w w2 := hc1.trans (((Chg.refl [] w1).alloc _).trans' hg2 (by simp))
  have hr2 := HR1.out.chg (((Chg.refl [] w1).alloc _).trans' hg2 (by simp)) (F := []) (by simp)
  have how : Own w2 2 1 (.slice a2 n c2) n (ints l) := by simpa [ints] using ho2
  have hfw : ∀ b ∈ abl a2, w1.heap.size ≤ b := fun b hb => by
    rcases hf2 b hb with h | h
    · simp at h; omega
    · simp at h; omega
  have hs1 := hc1.size
  have hold : Old w.heap.size (.slice ao n cap) n := HRO.out
  have hlt2 : ∀ b ∈ abl a2, b < w2.heap.size := fun b hb => how.lt b (by simpa using hb)
  clear ho2 hg2 hf2 hc1 HR1
  have HS := Lib.hid (coins_split w2 ao cap l n HN.out.symm k m HM.out hr2 (by omega))
  go_wp2_with fail
  refine HS.out.mono ?_
  rintro e w3 ⟨a3, c3, a4, c4, rfl, ho, hb, hc3, hf3, hf4, ⟨c5, hall⟩, hg, hcm⟩
  subst hcm
  have HG := Lib.hid hg
  clear hg
  have hr3 := hr2.chg hc3 (by simp)
  have hlt3 : ∀ b ∈ abl a3, b < w3.heap.size := fun b hb => ho.lt b (by simpa using hb)
  have how3 := how.chg hc3 (by simp)
  have hs2 := hc2.size
  have hs3 := hc3.size
  have hc3 := hc2.trans hc3
  clear hr2 how hc2 HS
  have HS := Lib.hid (ref20_split w3 ao cap l n HN.out.symm k c3 HM.out hr3 (by omega))
  go_wp2_with fail
  refine HS.out.mono ?_
  rintro e w4 ⟨a6, c6, a7, c7, rfl, hc, hd', hc4, hf6, hf7⟩
  have hr4 := hr3.chg hc4 (by simp)
  have how4 := how3.chg hc4 (by simp)
  have ho4 := ho.chg hc4 (by simp)
  have hb4 := hb.chg hc4 (by simp)
  have hall4 := hall.chg hc4 (by simp)
  have hs4 := hc4.size
  have hc4 := hc3.trans hc4
  clear hr3 how3 ho hb hall hc3 HS
  have HA := Lib.hid (show ((sortL l).take c3).length = c3 from by rw [List.length_take, HSL.out]; omega)
  have HB := Lib.hid (show ((sortL l).drop c3).length = n - c3 from by rw [List.length_drop, HSL.out])
  have HS := Lib.hid (ref20_same w4 a3 c3 a6 c6 ((sortL l).take c3) c3 HA.out.symm ho4.rd hc (by omega))
  go_wp2_with fail
  refine HS.out.mono ?_
  rintro e w5 ⟨rfl, hc5⟩
  have HS := Lib.hid (ref20_same w5 a4 c4 a7 c7 ((sortL l).drop c3) (n - c3) HB.out.symm (hb4.chg hc5 (by simp)) (hd'.chg hc5 (by simp)) (by omega))
  go_wp2_with fail
  refine HS.out.mono ?_
  rintro e w6 ⟨rfl, hc6⟩
  have hc6' := (hc4.trans hc5).trans hc6
  have hc56 := hc5.trans hc6
  have hr6 := hr4.chg hc56 (by simp)
  have how6 := how4.chg hc56 (by simp)
  have hall6 := hall4.chg hc56 (by simp)
  have hcc6 := hc.chg hc56 (by simp)
  have hs6 := hc56.size
  have hev : (((n - c3 : Nat) : Int) % 2 != 0) = false := by rw [bne_eq_false_iff_eq]; have := HEV.out; omega
  clear hr4 how4 hall4 hc hd' hc56 hc5 hc6 hc4 HS ho4 hb4
  have HS := Lib.hid (coins_halve w6 ao cap l sec (by rw [HN.out]; exact hr6) (by rw [HN.out]; omega))
  rw [HN.out] at HS
  go_wp2_with fail
  refine HS.out.mono ?_
  rintro e w7 ⟨a8, c8, rfl, ho8, hc7, hf8⟩
  have hr7 := hr6.chg hc7 (by simp)
  have HS := Lib.hid (ref20_halve w7 ao cap l n HN.out.symm sec hr7 (by omega))
  go_wp2_with fail
  refine HS.out.mono ?_
  rintro e w8 ⟨a9, c9, rfl, ho9, hc8, hf9⟩
  have ho8' := ho8.chg hc8 (by simp)
  have HS := Lib.hid (ref20_same w8 a8 c8 a9 c9 (halveL l sec) (halveL l sec).length rfl ho8'.rd ho9.rd (by have := HHL.out; have := HN.out; omega))
  have hHN := HHL.out
  rw [HN.out] at hHN
  generalize halveL l sec = HL at *
  generalize HL.length = hlen at *
  go_wp2_with fail
  refine HS.out.mono ?_
  rintro e w9 ⟨rfl, hc9⟩
  have hc79 := (hc7.trans hc8).trans hc9
  have hr9 := hr6.chg hc79 (by simp)
  have how9 := how6.chg hc79 (by simp)
  have hall9 := hall6.chg hc79 (by simp)
  have hcc9 := hcc6.chg hc79 (by simp)
  have hc9' := hc6'.trans hc79
  clear hc7 hc8 hc9 hc79 hr6 hr7 how6 hall6 hcc6 hc6' ho8 ho9 ho8' HS hf8 hf9
  have HS0 := Lib.hid hall9
  clear hall9
  have h3o : ∀ b ∈ abl a3, w.heap.size ≤ b := fun b hb => by have := hf3 b hb; omega
  have h3n2 : ∀ b ∈ abl a2, b ∉ abl a3 := fun b hb h => by have := hf3 b h; have := hlt2 b hb; omega
  have h3n6 : ∀ b ∈ abl a6, b ∉ abl a3 := fun b hb h => by have := hf6 b hb; have := hlt3 b h; omega
  clear hs1 hs2 hs3 hs4 hs6 hlt2 hlt3 hf3 hf4 hf6 hf7 hfw hev
  have hn0 : n - c3 ≤ 100 := by omega
  generalize hdd : n - c3 = d at *
  have HD := Lib.hid hdd
  clear hdd
  go_wp2
  go_loopw [61] (fun j wx => ∃ (i : Nat) (S : List Int), i ≤ d ∧ j = .int .i64 (i : Nat) ∧ Own wx 2 1 (.slice a3 n c5) n (ints S) ∧ Hid (S.take c3 = (sortL l).take c3) ∧ Chg (abl a3) w9 wx) (fun j _ => d - (intOf j).toNat)
  case atStart => exact ⟨0, sortL l, Nat.zero_le _, rfl, HS0.out, Lib.hid rfl, Chg.refl _ _⟩
  case round =>
    obtain ⟨i, S, hi, rfl, ho, HT, hch⟩ := hrel
    by_cases hlt : i < d
    · rcases HG.out with hg | ⟨g, o, rfl, rfl⟩
      · omega
      have hSl : S.length = n := by simpa using ho.1
      have hj : c3 + i < S.length := by have := HD.out; omega
      have hc0 := ho.cells (c3 + i) (by omega)
      rw [show (ints S)[c3 + i]? = some (.int .i64 S[c3 + i]) from by simp [ints, hj], ← Nat.add_assoc] at hc0
      have hf0 := ho.free (o + c3 + i)
      have hset := ho.set (c3 + i) (.int .i64 7)
      rw [ints_set, ← Nat.add_assoc] at hset
      have HT2 := Lib.hid (show (S.set (c3 + i) 7).take c3 = (sortL l).take c3 from by
        rw [List.take_set, HT.out, List.set_eq_of_length_le]
        rw [List.length_take]; omega)
      have hch2 := hch.setCell (a := ⟨g, o + c3 + i, none⟩) (.inl (by simp)) (.int .i64 7)
      generalize S[c3 + i] = p at *
      clear hSl hj HS0 h3n2 h3n6 h3o
      go_wp2
      exact ⟨⟨i + 1, S.set (c3 + i) 7, by omega, by go_num, hset, HT2, hch2⟩, by simp [intOf]; omega⟩
    · obtain rfl : i = d := by omega
      have hco := ho.cut' hmn
      rw [HT.out] at hco
      have hcc := hc9'.trans' hch (fun b hb => .inr (h3o b hb))
      have hrx := hr9.chg_old hch hold h3o
      have hwx := how9.chg hch (by simpa using h3n2)
      have hcx := hcc9.chg hch (by simpa using h3n6)
      clear hch ho hr9 how9 hcc9 hc9' HS0 h3n2 HT
      have HS := Lib.hid (ref20_same wr ao cap a2 c2 l n HN.out.symm hrx hwx.rd (by omega))
      go_wp2_with fail
      refine HS.out.mono ?_
      rintro e w10 ⟨rfl, hc10⟩
      have hco := hco.chg hc10 (by simp)
      have hcx := hcx.chg hc10 (by simp)
      have hcc := hcc.trans hc10
      have hA := HA.out
      generalize (sortL l).take c3 = A at *
      have hrd : Rd (w10.alloc (.cells #[.int .i64 5] 2)) 1 (.slice (some ⟨w10.heap.size, 0, none⟩) 1 1) 1 (ints [5]) := Rd.lit1 w10 (.int .i64 5) 2 1
      have HAL := Lib.hid hA
      clear hA
      go_wp2_with (at_builtin; go_must (refine wpList_append_srcG _ (by rfl) (.tmp 72) (.tmp 73) 22 22 rfl 2 _ 1 8 under_ints info_i64 rfl (by decide) (.slice a3 c3 c3) c3 (ints A) rfl (hco.alloc _) (.slice (some ⟨w10.heap.size, 0, none⟩) 1 1) 1 (ints [5]) rfl (Src.of_rd under_ints hrd) (ints_oneCell _) (by unfold maxLen; omega) (by omega) ?_; intro a5 cc w11 ho11 hg11 hf11; have hcap : (c3 : Int) ≤ (cc : Int) := (by have := (Own.cap_le ho11).1; omega)))
      have hr11 : Rd w11 1 (.slice a5 c3 cc) c3 (ints A) := by
        have h1 := (Own.cut' (xs := A ++ [5]) (by simpa [ints] using ho11) (show c3 ≤ c3 + 1 by omega)).rd
        rw [List.take_left' HAL.out] at h1
        exact h1.cap cc
      have hcc2 : Chg [] w w11 := (hcc.alloc _).trans' hg11 (fun b hb => .inr (h3o b (by simpa using hb)))
      have hcx2 := (hcx.alloc (.cells #[.int .i64 5] 2)).chg hg11 (by simpa using h3n6)
      have HS := Lib.hid (ref20_same w11 a5 cc a6 c6 A c3 HAL.out.symm hr11 hcx2 (by omega))
      clear hg11 hf11 ho11 hcx hco hcc hrd
      refine HS.out.mono ?_
      rintro e w12 ⟨rfl, hc12⟩
      go_wp2
      go_ret
      exact ⟨rfl, hcc2.trans hc12⟩
end Go.Proofs.Ytbaobiniianamaa
