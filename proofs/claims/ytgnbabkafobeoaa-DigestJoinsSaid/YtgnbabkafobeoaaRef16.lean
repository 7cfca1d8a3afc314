/-
  The walks of the document's Path, Range, Before of nodes (layer 16). Conditions: the form's own reach.
-/
import Derived.Test.YtgnbabkafobeoaaPlainRng
import Derived.Test.YtgnbabkafobeoaaStepN
import Derived.Deep.CutBlock
namespace Go.Proofs.Ytgnbabkafobeoaa
open Go.RowKit

def intsN (l : List Int) : List Value := l.map fun u : Int => Value.int .i64 u
theorem intsN_len (l : List Int) : (intsN l).length = l.length := by simp [intsN]
theorem intsN_one (l : List Int) : ∀ y ∈ intsN l, y.oneCell' = true := by
  intro y hy
  simp only [intsN, List.mem_map] at hy
  obtain ⟨u, _, rfl⟩ := hy
  rfl
theorem under_intsN : Try.prog.underlying 112 = some (.slice 3) := by kernel_rfl
theorem info_intN : (Try.prog.info? 3).map (fun i => (i.zero, i.size, i.bytes)) = some (some (.int .i64 0), 1, 8) := by kernel_rfl
/-- The last j nodes on the way down to v. -/
def wayN (v : Int) (j : Nat) : List Int := (List.range j).map fun i => v / ((2 ^ (j - 1 - i) : Nat) : Int)
theorem wayN_len (v : Int) (j : Nat) : (wayN v j).length = j := by simp [wayN]
theorem wayN_succ (v : Int) (j : Nat) : wayN v (j + 1) = (v / ((2 ^ j : Nat) : Int)) :: wayN v j := by
  unfold wayN
  rw [List.range_succ_eq_map, List.map_cons, List.map_map]
  have e : (List.range j).map ((fun i => v / ((2 ^ (j + 1 - 1 - i) : Nat) : Int)) ∘ Nat.succ) = (List.range j).map fun i => v / ((2 ^ (j - 1 - i) : Nat) : Int) := List.map_congr_left (fun i _ => by
    simp only [Function.comp]
    rw [show j + 1 - 1 - i.succ = j - 1 - i from by omega])
  rw [e]
  rfl
theorem wayN_get (v : Int) (j k : Nat) (h : k < j) : (wayN v j)[k]? = some (v / ((2 ^ (j - 1 - k) : Nat) : Int)) := by
  simp [wayN, h]
theorem half_pow (v : Int) (j : Nat) : v / ((2 ^ j : Nat) : Int) / 2 = v / ((2 ^ (j + 1) : Nat) : Int) := by
  rw [Int.ediv_ediv_of_nonneg (Int.natCast_nonneg _), Nat.pow_succ]
  simp
theorem lev_pow {v : Int} (h : 1 ≤ v) (h2 : v < 18446744073709551616) (j : Nat) : 1 ≤ v / ((2 ^ j : Nat) : Int) ↔ j < lev v + 1 := by
  obtain ⟨g1, g2, -⟩ := lev_two h h2
  have hp : 0 < 2 ^ j := Nat.two_pow_pos j
  rw [Int.le_ediv_iff_mul_le (by omega), Int.one_mul]
  constructor
  · intro hj
    rcases Nat.lt_or_ge j (lev v + 1) with h | h
    · exact h
    · have : 2 ^ (lev v + 1) ≤ 2 ^ j := Nat.pow_le_pow_right (by omega) h
      rw [Nat.pow_succ] at this
      omega
  · intro hj
    have : 2 ^ j ≤ 2 ^ lev v := Nat.pow_le_pow_right (by omega) (by omega)
    omega
theorem way_pos (v : Int) (h : 1 ≤ v) (j : Nat) : 0 ≤ v / ((2 ^ j : Nat) : Int) ∧ v / ((2 ^ j : Nat) : Int) ≤ v := ⟨Int.ediv_nonneg (by omega) (Int.natCast_nonneg _), Int.ediv_le_self _ (by omega)⟩
set_option maxRecDepth 100000 in
set_option maxHeartbeats 2000000 in
theorem ref16_path (w : World) (v : Int) (h1 : 1 ≤ v) (h2 : v < 33554432) (n : Nat) (hn : n = lev v + 1) :
    Calls Try.prog 67 #[.int .i64 v] w fun e w' => ∃ a c, e = .returned (.slice a n c) ∧ Rd w' 1 (.slice a n c) n (intsN (wayN v n)) ∧ Chg [] w w' := by
  have hle : lev v ≤ 24 := lev_le (d := 24) (by omega) ⟨h1, by
    have : ((2 ^ 24 : Nat) : Int) = 16777216 := by decide
    omega⟩
  have HPOS := Lib.hid (fun j => way_pos v h1 j)
  have HLP := Lib.hid (fun j => lev_pow h1 (by omega) j)
  have HW0 := Lib.hid (show v / ((2 ^ 0 : Nat) : Int) = v from by simp)
  have HN := Lib.hid hn
  have hn25 : n ≤ 25 := by omega
  clear hn hle h1
  go_enter Try.func67, Try.ntmps67
  go_wp2_with fail
  go_loopw [0, 3] (fun x o wx => ∃ (j : Nat) (u : Int) (ao : Option Addr) (cp : Nat), j ≤ n ∧ x = .int .i64 u ∧ o = .slice ao j cp ∧ Own wx 3 1 (.slice ao j cp) j (intsN (wayN v j)) ∧ Chg [] w wx ∧ Hid (u = v / ((2 ^ j : Nat) : Int)) ∧ Hid (∀ b ∈ abl ao, w.heap.size ≤ b)) (fun x _ _ => (intOf x).toNat)
  case atStart => exact ⟨0, v, none, 0, Nat.zero_le _, rfl, rfl, Own.nil _ _ _, Chg.refl _ _, Lib.hid HW0.out.symm, Lib.hid (by simp)⟩
  case round =>
    obtain ⟨j, u, ao, cp, hj, rfl, rfl, ho, hch, HU, HF⟩ := hrel
    have hu := HPOS.out j
    rw [← HU.out] at hu
    have hlp := HLP.out j
    rw [← HU.out, ← HN.out] at hlp
    have HO := Lib.hid ho
    have HCH := Lib.hid hch
    clear ho hch
    by_cases h1 : 1 ≤ u
    · have hjn : j < n := hlp.1 h1
      have d1 : decide (1 ≤ u) = true := decide_eq_true h1
      have hq : u.tdiv 2 = u / 2 := Int.tdiv_eq_ediv_of_nonneg (by omega)
      have hw : IntKind.i64.wrap (u / 2) = u / 2 := by rw [IntKind.wrap_i64]; omega
      have HU2 := Lib.hid (show u / 2 = v / ((2 ^ (j + 1) : Nat) : Int) from by rw [HU.out]; exact half_pow v j)
      have HWS := Lib.hid (show intsN [u] ++ intsN (wayN v j) = intsN (wayN v (j + 1)) from by rw [wayN_succ, ← HU.out]; rfl)
      have HSZ := Lib.hid (show w.heap.size ≤ wr.heap.size from HCH.out.size)
      clear hlp
      go_wp2_with (at_builtin; go_must (refine wpList_append_src _ rfl (.tmp 7) (.tmp 8) 112 112 rfl 3 _ 1 8 under_intsN info_intN rfl (by decide) (.slice (some ⟨wr.heap.size, 0, none⟩) 1 1) 1 (intsN [u]) rfl (Own.lit wr 3 1 1 #[.int .i64 u] rfl (by unfold maxLen; omega)) (.slice ao j cp) j (intsN (wayN v j)) rfl (Src.of_rd under_intsN (HO.out.rd.alloc _)) (intsN_one _) (by unfold maxLen; omega) (by omega) ?_; intro a5 c5 w5 ho5 hg5 hf5; rw [HWS.out, Nat.add_comm] at ho5; have hcj : Chg [] w w5 := (HCH.out.alloc _).trans' hg5 (fun b hb => .inr (by simp at hb; subst hb; exact HSZ.out)); have hff : ∀ b ∈ abl a5, w.heap.size ≤ b := (fun b hb => by rcases hf5 b hb with h | h <;> first | (simp at h; subst h; exact HSZ.out) | (rw [World.size_alloc] at h; have := HSZ.out; omega)); have HO5 := Lib.hid ho5; have HC5 := Lib.hid hcj; have HF5 := Lib.hid hff; clear ho5 hg5 hf5 hcj hff))
      exact ⟨⟨j + 1, u / 2, a5, c5, by omega, by first | rfl | simp, by first | rfl | (rw [Nat.add_comm]), HO5.out, HC5.out, HU2, HF5⟩, by simp [intOf]; omega⟩
    · have hjn : j = n := by
        have : ¬ j < n := fun h => h1 (hlp.2 h)
        omega
      have d1 : decide (1 ≤ u) = false := decide_eq_false h1
      subst hjn
      clear hlp
      go_wp2_with fail
      go_ret
      exact ⟨ao, cp, rfl, HO.out.rd, HCH.out⟩
theorem pow_half_i (n : Nat) : ((2 ^ (n + 1) : Nat) : Int) = 2 * ((2 ^ n : Nat) : Int) := by rw [Nat.pow_succ]; omega
theorem way_top {v : Int} {n : Nat} (h1 : 1 ≤ v) (h2 : v < 18446744073709551616) (hn : n = lev v + 1) : v / ((2 ^ (n - 1) : Nat) : Int) = 1 := by
  obtain ⟨g1, g2, -⟩ := lev_two h1 h2
  rw [hn, show lev v + 1 - 1 = lev v from rfl]
  generalize ((2 ^ lev v : Nat) : Int) = P at *
  refine Int.le_antisymm (Int.lt_add_one_iff.1 (Int.ediv_lt_of_lt_mul (by omega) (by omega))) ((Int.le_ediv_iff_mul_le (by omega)).2 (by omega))
set_option maxRecDepth 100000 in
set_option maxHeartbeats 4000000 in
theorem ref16_range (w : World) (d : Nat) (hd : d ≤ 24) (v : Int) (hv : isNode d v) (a b : Int) (ha : a = loN d v) (hb : b = hiN d v) :
    Calls Try.prog 46 #[.int .i64 (d : Nat), .int .i64 v] w fun e w' => e = .returned (.tuple #[.int .i64 a, .int .i64 b]) ∧ Chg [] w w' := by
  have hbt := top_small hd
  have h1 := hv.1
  have h2 : v < 33554432 := by have := hv.2; omega
  obtain ⟨n, hn⟩ : ∃ n, n = lev v + 1 := ⟨_, rfl⟩
  have HPA := Lib.hid (fun u => ref16_path u v h1 h2 n hn)
  have hle := lev_le hd hv
  have hnd : 1 ≤ n ∧ n ≤ d + 1 := by omega
  have HTOP := Lib.hid (way_top h1 (by omega) hn)
  have HLO := Lib.hid (show a = v * ((2 ^ (d + 1 - n) : Nat) : Int) - ((2 ^ d : Nat) : Int) from by rw [ha, loN, if_pos hv, szN, show d + 1 - n = d - lev v from by omega])
  obtain ⟨r1, r2, r3, r4⟩ := rng_in hd hv
  have HHI := Lib.hid (show b = a + ((2 ^ (d + 1 - n) : Nat) : Int) - 1 ∧ 0 ≤ a ∧ b < ((2 ^ d : Nat) : Int) from by
    rw [hb, r4, ha, szN, show d + 1 - n = d - lev v from by omega]
    refine ⟨rfl, r1, ?_⟩
    rw [r4, szN] at r3
    exact r3)
  have HPW := Lib.hid (fun k (hk : k ≤ 25) => show 1 ≤ 2 ^ k ∧ 2 ^ k ≤ 33554432 from ⟨Nat.one_le_two_pow, Nat.le_trans (Nat.pow_le_pow_right (by omega) hk) (by decide)⟩)
  have HPOS := Lib.hid (fun j => way_pos v h1 j)
  have HHF := Lib.hid (fun j => half_pow v j)
  -- what comes of low on the way down
  have HLV := Lib.hid (fun k (hk1 : 1 ≤ k) (hk : k ≤ n) => show 0 ≤ v / ((2 ^ (n - k) : Nat) : Int) * ((2 ^ (d + 1 - k) : Nat) : Int) - ((2 ^ d : Nat) : Int) ∧ v / ((2 ^ (n - k) : Nat) : Int) * ((2 ^ (d + 1 - k) : Nat) : Int) < 2 * ((2 ^ d : Nat) : Int) from by
    obtain ⟨g1, g2, -⟩ := lev_two h1 (by omega)
    have e1 : ((2 ^ (k - 1) : Nat) : Int) ≤ v / ((2 ^ (n - k) : Nat) : Int) := by
      refine (Int.le_ediv_iff_mul_le (Int.natCast_pos.2 (Nat.two_pow_pos _))).2 ?_
      rw [← Int.natCast_mul, ← Nat.pow_add, show k - 1 + (n - k) = lev v from by omega]
      exact g1
    have e2 : v / ((2 ^ (n - k) : Nat) : Int) < ((2 ^ k : Nat) : Int) := by
      refine Int.ediv_lt_of_lt_mul (Int.natCast_pos.2 (Nat.two_pow_pos _)) ?_
      rw [← Int.natCast_mul, ← Nat.pow_add, show k + (n - k) = lev v + 1 from by omega, pow_half_i]
      exact g2
    have e3 : ((2 ^ (k - 1) : Nat) : Int) * ((2 ^ (d + 1 - k) : Nat) : Int) ≤ v / ((2 ^ (n - k) : Nat) : Int) * ((2 ^ (d + 1 - k) : Nat) : Int) := Int.mul_le_mul_of_nonneg_right e1 (Int.natCast_nonneg _)
    have e4 : v / ((2 ^ (n - k) : Nat) : Int) * ((2 ^ (d + 1 - k) : Nat) : Int) < ((2 ^ k : Nat) : Int) * ((2 ^ (d + 1 - k) : Nat) : Int) := Int.mul_lt_mul_of_pos_right e2 (Int.natCast_pos.2 (Nat.two_pow_pos _))
    rw [← Int.natCast_mul, ← Nat.pow_add, show k - 1 + (d + 1 - k) = d from by omega] at e3
    rw [← Int.natCast_mul, ← Nat.pow_add, show k + (d + 1 - k) = d + 1 from by omega, pow_half_i] at e4
    exact ⟨by omega, e4⟩)
  clear hn hle ha hb r1 r2 r3 r4 hv
  go_enter Try.func46, Try.ntmps46
  go_upto_block 0 with (fail)
  go_cut [7] (fun z wx => z = .int .i64 ((2 ^ d : Nat) : Int) ∧ wx = w)
  case first =>
    go_wp2_with fail
    go_loopw [7, 8] (fun z i wx => ∃ k Z : Nat, k ≤ d ∧ i = .int .i64 (k : Nat) ∧ z = .int .i64 (Z : Nat) ∧ Hid (Z = 2 ^ k) ∧ wx = w) (fun _ i _ => d - (intOf i).toNat)
    case atStart => exact ⟨0, 1, Nat.zero_le _, rfl, rfl, Lib.hid rfl, rfl⟩
    case round =>
      obtain ⟨k, Z, hk, rfl, rfl, HZ, rfl⟩ := hrel
      by_cases hlt : k < d
      · have hz := HPW.out k (by omega)
        rw [← HZ.out] at hz
        have HZ2 := Lib.hid (show 2 * Z = 2 ^ (k + 1) from by rw [Nat.pow_succ, HZ.out]; omega)
        go_wp2_with fail
        exact ⟨⟨k + 1, 2 * Z, by omega, by go_num, by go_num, HZ2, by trivial⟩, by simp [intOf]; omega⟩
      · obtain rfl : k = d := by omega
        have HZ2 := Lib.hid (show (Z : Int) = ((2 ^ k : Nat) : Int) from by rw [HZ.out])
        clear hlt
        go_wp2_with fail
        go_meet
        exact ⟨by rw [← HZ2.out], rfl⟩
  case rest =>
    obtain ⟨rfl, rfl⟩ := hcut
    go_wp2_with fail
    refine (HPA.out _).mono ?_
    rintro e w1 ⟨a3, c3, rfl, hr1, hc1⟩
    have HR1 := Lib.hid hr1
    have HC1 := Lib.hid hc1
    clear hr1 hc1 HPA
    go_wp2_with fail
    go_loopw [6, 7, 10] (fun l z i wx => ∃ (k Z : Nat) (L : Int), 1 ≤ k ∧ k ≤ n ∧ i = .int .i64 (k : Nat) ∧ z = .int .i64 (Z : Nat) ∧ l = .int .i64 L ∧ Hid (Z = 2 ^ (d + 1 - k)) ∧ Hid (L = v / ((2 ^ (n - k) : Nat) : Int) * ((2 ^ (d + 1 - k) : Nat) : Int) - ((2 ^ d : Nat) : Int)) ∧ wx = w1) (fun _ _ i _ => n - (intOf i).toNat)
    case atStart => exact ⟨1, 2 ^ d, 0, Nat.le_refl _, hnd.1, rfl, rfl, rfl, Lib.hid (by rw [show d + 1 - 1 = d from rfl]), Lib.hid (by rw [HTOP.out, show d + 1 - 1 = d from rfl]; omega), rfl⟩
    case round =>
      obtain ⟨k, Z, L, hk1, hk, rfl, rfl, rfl, HZ, HL, rfl⟩ := hrel
      have hz := HPW.out (d + 1 - k) (by omega)
      rw [← HZ.out] at hz
      have hlv := HLV.out k hk1 hk
      by_cases hlt : k < n
      · obtain ⟨bb, oo, rfl, hcc⟩ := HR1.out.addr (by omega)
        have e0 := hcc k (by omega)
        have hgt : (intsN (wayN v n))[k]? = some (.int .i64 (v / ((2 ^ (n - 1 - k) : Nat) : Int))) := by
          rw [intsN, List.getElem?_map, wayN_get v n k hlt]
          rfl
        rw [hgt] at e0
        have hub := HPOS.out (n - 1 - k)
        have hhf := HHF.out (n - 1 - k)
        rw [show n - 1 - k + 1 = n - k from by omega] at hhf
        have hlv2 := HLV.out (k + 1) (by omega) hlt
        rw [show n - (k + 1) = n - 1 - k from by omega, show d + 1 - (k + 1) = d - k from by omega] at hlv2
        have hz2 := HPW.out (d - k) (by omega)
        have HZ2 := Lib.hid (show Z = 2 * 2 ^ (d - k) from by rw [HZ.out, show d + 1 - k = d - k + 1 from by omega, Nat.pow_succ]; omega)
        have HL2 := Lib.hid (show n - (k + 1) = n - 1 - k ∧ d + 1 - (k + 1) = d - k from by omega)
        obtain ⟨u, hu⟩ : ∃ u, u = v / ((2 ^ (n - 1 - k) : Nat) : Int) := ⟨_, rfl⟩
        have HU := Lib.hid hu
        rw [← hu] at e0 hub hhf hlv2
        obtain ⟨Y, hY⟩ : ∃ Y, Y = 2 ^ (d - k) := ⟨_, rfl⟩
        have HY := Lib.hid hY
        rw [← hY] at hz2 HZ2 hlv2
        have HPD := Lib.hid (show ((2 ^ d : Nat) : Int) ≤ 16777216 from by omega)
        -- the new low
        have HLN := Lib.hid (show u * (Y : Int) - ((2 ^ d : Nat) : Int) = L + u % 2 * (Y : Int) from by
          have e1 : L = u / 2 * (Z : Int) - ((2 ^ d : Nat) : Int) := by rw [HL.out, ← hhf, HZ.out]
          have e2 : u = 2 * (u / 2) + u % 2 := by omega
          have e3 : u * (Y : Int) = (2 * (u / 2)) * (Y : Int) + u % 2 * (Y : Int) := by rw [← Int.add_mul, ← e2]
          have e4 : u / 2 * (Z : Int) = (2 * (u / 2)) * (Y : Int) := by rw [HZ2.out]; push_cast; rw [← Int.mul_assoc, Int.mul_comm (u / 2) 2]
          rw [e3, e1, e4]
          omega)
        have hL0 : 0 ≤ L ∧ L < 33554432 := by
          rw [← HL.out] at hlv
          have h3 := HPD.out
          have h4 := hlv.2
          have h5 := HL.out
          omega
        have hqz : (Z : Int).tdiv 2 = (Y : Int) := by rw [Int.tdiv_eq_ediv_of_nonneg (by omega), HZ2.out]; push_cast; omega
        have hwz : IntKind.i64.wrap (Y : Int) = (Y : Int) := by rw [IntKind.wrap_i64]; omega
        have hqz2 : (Z : Int) / 2 = (Y : Int) := by rw [HZ2.out]; push_cast; omega
        have hmu : u.tmod 2 = u % 2 := Int.tmod_eq_emod_of_nonneg (by omega)
        have hwm : IntKind.i64.wrap (u % 2) = u % 2 := by rw [IntKind.wrap_i64]; omega
        have hkn : (k : Int) < (n : Int) := by omega
        have hk0 : (0 : Int) ≤ (k : Int) := by omega
        clear hgt hcc hhf hlv hu hY hlv2
        by_cases hodd : u % 2 = 1
        · have d1 : (u % 2 == 1) = true := by rw [beq_iff_eq]; exact hodd
          have HLX := Lib.hid (show L + (Y : Int) = v / ((2 ^ (n - (k + 1)) : Nat) : Int) * ((2 ^ (d + 1 - (k + 1)) : Nat) : Int) - ((2 ^ d : Nat) : Int) from by rw [HL2.out.1, HL2.out.2, ← HU.out, ← HY.out, HLN.out, hodd, Int.one_mul])
          have hwl : IntKind.i64.wrap (L + (Y : Int)) = L + (Y : Int) := by rw [IntKind.wrap_i64]; omega
          have HYX := Lib.hid (show Y = 2 ^ (d + 1 - (k + 1)) from by rw [HL2.out.2]; exact HY.out)
          clear hodd hub hz
          go_wp2_with fail
          exact ⟨⟨k + 1, Y, L + (Y : Int), by omega, by omega, by go_num, rfl, rfl, HYX, HLX, by trivial⟩, by simp [intOf]; omega⟩
        · have d1 : (u % 2 == 1) = false := by rw [beq_eq_false_iff_ne]; exact hodd
          have h0 : u % 2 = 0 := by omega
          have HLX := Lib.hid (show L = v / ((2 ^ (n - (k + 1)) : Nat) : Int) * ((2 ^ (d + 1 - (k + 1)) : Nat) : Int) - ((2 ^ d : Nat) : Int) from by rw [HL2.out.1, HL2.out.2, ← HU.out, ← HY.out, HLN.out, h0, Int.zero_mul, Int.add_zero])
          have HYX := Lib.hid (show Y = 2 ^ (d + 1 - (k + 1)) from by rw [HL2.out.2]; exact HY.out)
          clear hodd h0 hub hz
          go_wp2_with fail
          exact ⟨⟨k + 1, Y, L, by omega, by omega, by go_num, rfl, rfl, HYX, HLX, by trivial⟩, by simp [intOf]; omega⟩
      · obtain rfl : k = n := by omega
        obtain ⟨q1, q2, q3⟩ := HHI.out
        rw [← HZ.out] at q1
        have HLA := Lib.hid (show L = a from by rw [HL.out, HLO.out, Nat.sub_self]; simp)
        obtain rfl : L = a := HLA.out
        have hPD : ((2 ^ d : Nat) : Int) ≤ 16777216 := by omega
        have hw1 : IntKind.i64.wrap (L + (Z : Int)) = L + (Z : Int) := by rw [IntKind.wrap_i64]; omega
        have hw2 : IntKind.i64.wrap (L + (Z : Int) - 1) = b := by rw [IntKind.wrap_i64]; omega
        clear hlv hlt q1 q2 q3 hPD hz
        go_wp2_with fail
        go_ret2
        exact ⟨rfl, HC1.out⟩
theorem bef_same {d : Nat} (hd : d ≤ 24) {v u : Int} (hv : isNode d v) (hu : isNode d u) (h : hiN d v = hiN d u) : (lev u < lev v ↔ u < v) := by
  have hb := top_small hd
  obtain ⟨g1, g2, -⟩ := lev_two hv.1 (by have := hv.2; omega)
  obtain ⟨k1, k2, -⟩ := lev_two hu.1 (by have := hu.2; omega)
  rcases Nat.lt_trichotomy (lev u) (lev v) with hl | hl | hl
  · have : 2 ^ (lev u + 1) ≤ 2 ^ lev v := Nat.pow_le_pow_right (by omega) hl
    rw [Nat.pow_succ] at this
    omega
  · have hs : szN d u = szN d v := by unfold szN; rw [hl]
    have hp := sz_pos d v
    unfold hiN at h
    rw [if_pos hv, if_pos hu, hs] at h
    have e : v * szN d v = u * szN d v := by omega
    have : v = u := Int.eq_of_mul_eq_mul_right (by omega) e
    omega
  · have : 2 ^ (lev v + 1) ≤ 2 ^ lev u := Nat.pow_le_pow_right (by omega) hl
    rw [Nat.pow_succ] at this
    omega
set_option maxRecDepth 100000 in
set_option maxHeartbeats 4000000 in
theorem ref16_before (w : World) (d : Nat) (hd : d ≤ 24) (v u : Int) (hv : isNode d v) (hu : isNode d u) :
    Calls Try.prog 45 #[.int .i64 (d : Nat), .int .i64 v, .int .i64 u] w fun e w' => e = .returned (.bool (befN d v u)) ∧ Chg [] w w' := by
  have hbt := top_small hd
  have HRV := Lib.hid (fun x => ref16_range x d hd v hv (loN d v) (hiN d v) rfl rfl)
  have HRU := Lib.hid (fun x => ref16_range x d hd u hu (loN d u) (hiN d u) rfl rfl)
  have HPV := Lib.hid (fun x => ref16_path x v hv.1 (by have := hv.2; omega) (lev v + 1) rfl)
  have HPU := Lib.hid (fun x => ref16_path x u hu.1 (by have := hu.2; omega) (lev u + 1) rfl)
  have hsame := bef_same hd hv hu
  have hlv := lev_le hd hv
  have hlu := lev_le hd hu
  have HQ := Lib.hid (show befN d v u = decide (hiN d v < hiN d u ∨ hiN d v = hiN d u ∧ lev u < lev v) from by
    unfold befN
    by_cases he : hiN d v = hiN d u
    · have := hsame he
      simp only [he, true_and]
      rw [decide_eq_decide]
      rw [this]
    · simp [he])
  clear hsame hv hu hbt
  generalize befN d v u = Q at *
  generalize hiN d v = a at *
  generalize hiN d u = b at *
  generalize loN d v = a' at *
  generalize loN d u = b' at *
  generalize lev v = m at *
  generalize lev u = k at *
  go_enter Try.func45, Try.ntmps45
  go_wp2_with fail
  refine (HRV.out _).mono ?_
  rintro e w1 ⟨rfl, hc1⟩
  have HC1 := Lib.hid hc1
  clear hc1
  go_wp2_with fail
  refine (HRU.out _).mono ?_
  rintro e w2 ⟨rfl, hc2⟩
  have HC2 := Lib.hid (HC1.out.trans hc2)
  clear hc2
  by_cases g1 : a = b
  · have d1 : (a != b) = false := by rw [bne_eq_false_iff_eq]; exact g1
    have HQ2 := Lib.hid (show Q = decide (k + 1 < m + 1) from by rw [HQ.out]; rw [decide_eq_decide]; omega)
    clear g1
    go_wp2_with fail
    refine (HPV.out _).mono ?_
    rintro e w3 ⟨a3, c3, rfl, -, hc3⟩
    have HC3 := Lib.hid (HC2.out.trans hc3)
    clear hc3
    go_wp2_with fail
    refine (HPU.out _).mono ?_
    rintro e w4 ⟨a4, c4, rfl, -, hc4⟩
    have HC4 := Lib.hid (HC3.out.trans hc4)
    clear hc4
    by_cases g2 : k < m
    · have d2 : decide (((k + 1 : Nat) : Int) < ((m + 1 : Nat) : Int)) = true := decide_eq_true (by omega)
      have d2' : decide (k + 1 < m + 1) = true := decide_eq_true (by omega)
      obtain rfl : Q = true := by rw [HQ2.out]; exact d2'
      go_wp2_with fail
      go_ret
      first | exact ⟨rfl, HC4.out⟩ | exact ⟨by simp [g2], HC4.out⟩
    · have d2 : decide (((k + 1 : Nat) : Int) < ((m + 1 : Nat) : Int)) = false := decide_eq_false (by omega)
      have d2' : decide (k + 1 < m + 1) = false := decide_eq_false (by omega)
      obtain rfl : Q = false := by rw [HQ2.out]; exact d2'
      go_wp2_with fail
      go_ret
      first | exact ⟨rfl, HC4.out⟩ | exact ⟨by simp; omega, HC4.out⟩
  · have d1 : (a != b) = true := by rw [bne_iff_ne]; exact g1
    have HQ2 := Lib.hid (show Q = decide (a < b) from by rw [HQ.out]; rw [decide_eq_decide]; omega)
    clear g1
    go_wp2_with fail
    go_ret
    rw [HQ2.out]
    exact ⟨rfl, HC2.out⟩
end Go.Proofs.Ytgnbabkafobeoaa
