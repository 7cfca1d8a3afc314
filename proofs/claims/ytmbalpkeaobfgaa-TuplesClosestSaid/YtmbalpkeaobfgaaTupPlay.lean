/-
  The walks of the layer's alive, plain, play, up, under, placed, and of the reference's Same. Conditions: the form's own reach.
-/
import Derived.Test.YtmbalpkeaobfgaaTupIns
import Derived.Test.YtmbalpkeaobfgaaTupSq
import Derived.Test.YtmbalpkeaobfgaaTupGood
import Derived.Test.YtmbalpkeaobfgaaRefIns
import Derived.Test.YtmbalpkeaobfgaaRefSq
import Derived.Test.YtmbalpkeaobfgaaInts
import Derived.Test.YtmbalpkeaobfgaaPlainPlay
namespace Go.Proofs.Ytmbalpkeaobfgaa
open Go.RowKit

def Stp.cells (s : Stp) : List Value := [.int .i64 s.x, .int .u64 s.lim, .bool s.sq]
def stCells (l : List Stp) : List Value := (l.map Stp.cells).flatten
theorem stCells_get (l : List Stp) (k j : Nat) (hk : k < l.length) (hj : j < 3) : (stCells l)[k * 3 + j]? = (l[k].cells)[j]? := by
  induction l generalizing k with
  | nil => simp at hk
  | cons a r ih =>
    cases k with
    | zero =>
      simp only [stCells, List.map_cons, List.flatten_cons, Nat.zero_mul, Nat.zero_add, List.getElem_cons_zero]
      rw [List.getElem?_append_left (by simpa [Stp.cells] using hj)]
    | succ k =>
      have := ih k (by simpa using hk)
      simp only [stCells, List.map_cons, List.flatten_cons, List.getElem_cons_succ] at *
      rw [List.getElem?_append_right (by simp [Stp.cells]; omega), ← this]
      congr 1
      simp [Stp.cells]
      omega
theorem st_at {w : World} {b o k : Nat} {l : List Stp} (hc : ∀ j, j < l.length * 3 → w.cell? ⟨b, o + j, none⟩ = (stCells l)[j]?) (h : k < l.length) :
    w.cell? ⟨b, o + k * 3, none⟩ = some (.int .i64 l[k].x) ∧ w.cell? ⟨b, o + k * 3 + 1, none⟩ = some (.int .u64 l[k].lim) ∧ w.cell? ⟨b, o + k * 3 + 2, none⟩ = some (.bool l[k].sq) := by
  have g : ∀ j, j < 3 → w.cell? ⟨b, o + k * 3 + j, none⟩ = (l[k].cells)[j]? := fun j hj => by
    rw [← stCells_get l k j h hj, ← hc (k * 3 + j) (by omega), Nat.add_assoc]
  exact ⟨g 0 (by omega), g 1 (by omega), g 2 (by omega)⟩
/-- Two slices of the program's own, of unlike elements, share no block. -/
theorem Own.apart {w : World} {e1 e2 : TypeId} {s1 s2 n1 n2 : Nat} {v1 v2 : Value} {x1 x2 : List Value} (h1 : Own w e1 s1 v1 n1 x1) (h2 : Own w e2 s2 v2 n2 x2) (hne : e1 ≠ e2) : ∀ b ∈ blkOf v1, b ∉ blkOf v2 := by
  intro b hb hb2
  obtain ⟨_, ⟨rfl, _⟩ | ⟨g, o, cap, cur, rfl, hg, _⟩⟩ := h1
  · simp at hb
  obtain ⟨_, ⟨rfl, _⟩ | ⟨g2, o2, cap2, cur2, rfl, hg2, _⟩⟩ := h2
  · simp at hb2
  simp only [blkOf_some, List.mem_singleton] at hb hb2
  subst hb
  subst hb2
  rw [hg] at hg2
  simp only [Option.some.injEq, Obj.cells.injEq] at hg2
  exact hne hg2.2.1
theorem sorted_get {l : List Tp} (h : l.Pairwise fun p q => p.x ≤ q.x) : ∀ j k, (hjk : j ≤ k) → (h : k < l.length) → (l[j]'(by omega)).x ≤ l[k].x := by
  intro j k hjk hk
  rcases Nat.lt_or_ge j k with h1 | h1
  · exact List.pairwise_iff_getElem.1 h j k (by omega) hk h1
  · obtain rfl : j = k := by omega
    exact Int.le_refl _
theorem spF_sorted (n : Nat) {r : List Tp} (h : r.Pairwise fun p q => p.x ≤ q.x) : (spF n r).Pairwise fun p q => p.x ≤ q.x := by
  induction r generalizing n with
  | nil => exact List.Pairwise.nil
  | cons p r ih =>
    obtain ⟨h1, h2⟩ := List.pairwise_cons.1 h
    rw [spF]
    refine List.pairwise_cons.2 ⟨fun s hs => ?_, ih _ h2⟩
    obtain ⟨q, hq, hx⟩ := spF_x_mem hs
    rw [hx]
    exact h1 q hq

set_option maxRecDepth 100000 in
set_option maxHeartbeats 4000000 in
theorem law18_play (w : World) (ao : Option Addr) (cap : Nat) (l : List Stp) (hlim : ∀ s ∈ l, s.lim < 18446744073709551616) (hr : Rd w 3 (.slice ao l.length cap) l.length (stCells l)) (hl : l.length ≤ 80) :
    Calls Try.prog 9 #[.slice ao l.length cap] w fun e w' => ∃ a1 c1 a2 c2 a3 c3, e = .returned (.tuple #[.slice a1 (playP l).1.length c1, .slice a2 (playP l).1.length c2, .slice a3 (playP l).2.length c3, .bool true]) ∧
      Own w' 54 3 (.slice a1 (playP l).1.length c1) (playP l).1.length (tpCells (playP l).1) ∧
      Own w' 41 3 (.slice a2 (playP l).1.length c2) (playP l).1.length (spCells (spF 0 (playP l).1)) ∧
      Own w' 2 1 (.slice a3 (playP l).2.length c3) (playP l).2.length (ints (playP l).2) ∧ Chg [] w w' ∧
      (∀ b ∈ abl a1, w.heap.size ≤ b) ∧ (∀ b ∈ abl a2, w.heap.size ≤ b) ∧ (∀ b ∈ abl a3, w.heap.size ≤ b) := by
  have HR := Lib.hid hr
  have HFP := Lib.hid (playP_fine l)
  have HLIM := Lib.hid hlim
  have HST := Lib.hid (playP_step l)
  clear hr hlim
  go_enter Try.func9, Try.ntmps9
  have hd80 : decide ((80 : Int) < (l.length : Int)) = false := decide_eq_false (by omega)
  go_wp2
  go_loopw [6, 7, 8, 16] (fun row sp all iv wx => ∃ (k n m : Nat) (a1 : Option Addr) (c1 : Nat) (a2 : Option Addr) (c2 : Nat) (a3 : Option Addr) (c3 : Nat) (R : List Tp) (A : List Int), k ≤ l.length ∧ iv = .int .i64 (k : Nat) ∧ row = .slice a1 n c1 ∧ sp = .slice a2 n c2 ∧ all = .slice a3 m c3 ∧
    n ≤ k ∧ m ≤ k ∧ Hid (n = R.length ∧ m = A.length ∧ playP (l.take k) = (R, A)) ∧
    Own wx 54 3 (.slice a1 n c1) n (tpCells R) ∧ Own wx 41 3 (.slice a2 n c2) n (spCells (spF 0 R)) ∧ Own wx 2 1 (.slice a3 m c3) m (ints A) ∧ Chg [] w wx ∧
    Hid (∀ b ∈ abl a1, w.heap.size ≤ b) ∧ Hid (∀ b ∈ abl a2, w.heap.size ≤ b) ∧ Hid (∀ b ∈ abl a3, w.heap.size ≤ b)) (fun _ _ _ i _ => l.length - (intOf i).toNat)
  case atStart => exact ⟨0, 0, 0, none, 0, none, 0, none, 0, [], [], Nat.zero_le _, rfl, rfl, rfl, rfl, Nat.le_refl _, Nat.le_refl _, Lib.hid ⟨rfl, rfl, rfl⟩, Own.nil _ _ _, Own.nil _ _ _, Own.nil _ _ _, Chg.refl _ _, Lib.hid (by simp [abl]), Lib.hid (by simp [abl]), Lib.hid (by simp [abl])⟩
  case round =>
    obtain ⟨k, n, m, a1, c1, a2, c2, a3, c3, R, A, hk, rfl, rfl, rfl, rfl, hnk, hmk, HE, ho1, ho2, ho3, hch, HA1, HA2, HA3⟩ := hrel
    have hfp := HFP.out k
    rw [HE.out.2.2] at hfp
    have hfine : FineT R A.length := hfp.fine
    have hAl : A.length ≤ 80 := by have h : A.length ≤ (l.take k).length := hfp.all; rw [List.length_take] at h; omega
    by_cases hlt : k < l.length
    · have hr1 := HR.out.chg hch (by simp)
      obtain ⟨b, o, rfl, hc⟩ := hr1.addr (by omega)
      obtain ⟨c0, c1', c2'⟩ := st_at hc hlt
      have hst := HST.out k hlt
      rw [HE.out.2.2, playS] at hst
      have hlm := HLIM.out _ (List.getElem_mem hlt)
      have hbx := Blk.alloc_new wr #[.int .i64 l[k].x, .int .u64 l[k].lim, .bool l[k].sq] 67
      have hcA := hch.alloc (.cells #[.int .i64 l[k].x, .int .u64 l[k].lim, .bool l[k].sq] 67)
      generalize l[k] = s at *
      obtain ⟨x, lim, sq⟩ := s
      simp only at c0 c1' c2' hlm hst hbx hcA
      have hoA1 := ho1.alloc (.cells #[.int .i64 x, .int .u64 lim, .bool sq] 67)
      have hoA2 := ho2.alloc (.cells #[.int .i64 x, .int .u64 lim, .bool sq] 67)
      have hoA3 := ho3.alloc (.cells #[.int .i64 x, .int .u64 lim, .bool sq] 67)
      clear hc hr1
      cases sq with
      | true =>
        rw [if_pos rfl] at hst
        have HSQ := Lib.hid (tup_squeeze (wr.alloc (.cells #[.int .i64 x, .int .u64 lim, .bool true] 67)) a1 c1 R lim A.length hlm hfine (by omega) (by have := HE.out.1; omega) (by rw [← HE.out.1]; exact hoA1))
        rw [← HE.out.1] at HSQ
        have HRS := Lib.hid (fun w1 (h : Chg (abl a1) (wr.alloc (.cells #[.int .i64 x, .int .u64 lim, .bool true] 67)) w1) => ref18_squeeze w1 a2 c2 (spF 0 R) n lim (by rw [spF_len]; exact HE.out.1) (spF_pw 0 R) ((hoA2.chg h (fun b hb hb2 => hoA2.apart hoA1 (by decide) b hb (by simpa using hb2))).rd) (by omega) (fun t ht => by have := hfine.high t ht; omega))
        rw [← squeeze_same, spF_len] at HRS
        have HO3 := Lib.hid (fun w1 (h : Chg (abl a1) (wr.alloc (.cells #[.int .i64 x, .int .u64 lim, .bool true] 67)) w1) => hoA3.chg h (fun b hb hb2 => hoA3.apart hoA1 (by decide) b hb (by simpa using hb2)))
        have HBX := Lib.hid (fun w1 (h : Chg (abl a1) (wr.alloc (.cells #[.int .i64 x, .int .u64 lim, .bool true] 67)) w1) => (hbx.chg h (fun hb => (hoA1.ne_blk hbx (by decide)) (by simpa using hb))).cell 1)
        have HCA := Lib.hid (fun w1 (h : Chg (abl a1) (wr.alloc (.cells #[.int .i64 x, .int .u64 lim, .bool true] 67)) w1) => (hcA.trans' h (fun b hb => .inr (HA1.out b hb)) : Chg [] w w1))
        have HSL := Lib.hid (sqT_len lim R)
        have HPE := Lib.hid hst
        have HNR := Lib.hid HE.out.1
        have HMA := Lib.hid HE.out.2.1
        clear hst hfine hfp ho1 ho2 ho3 hoA1 hoA2 hoA3 hbx hch hcA HE
        go_wp2_with fail
        refine HSQ.out.mono ?_
        rintro e w1 ⟨rfl, ho1, hg1⟩
        have e1 := HBX.out w1 hg1
        clear c0 c1' c2'
        go_wp2_with fail
        refine (HRS.out w1 hg1).mono ?_
        rintro e w2 ⟨a5, c5, rfl, ho2, hg2, hf2⟩
        have HC2 := Lib.hid ((HCA.out w1 hg1).trans hg2)
        have HS1 := Lib.hid (HCA.out w1 hg1).size
        have ho12 := ho1.chg hg2 (by simp)
        have ho32 := (HO3.out w1 hg1).chg hg2 (by simp)
        clear e1 hg1 hg2 ho1
        go_wp2
        exact ⟨⟨k + 1, (sqT lim R).length, m, a1, c1, a5, c5, a3, c3, sqT lim R, A, by omega, by go_num, rfl, rfl, rfl, by have := HSL.out; have := HNR.out; omega, by omega, Lib.hid ⟨rfl, HMA.out, HPE.out⟩, ho12, ho2, ho32, HC2.out, HA1, Lib.hid (fun b hb => by have := hf2 b hb; have := HS1.out; omega), HA3⟩, by simp [intOf]; omega⟩
      | false =>
        rw [if_neg (by simp)] at hst
        have hst1 : ∀ p ∈ R, 1 ≤ p.st ∧ p.st + p.sl ≤ 4611686018427387904 := fun p hp => by
          obtain ⟨i, hi, rfl⟩ := List.getElem_of_mem hp
          have := hfine.one hi
          exact ⟨hfine.pos _ hp, by omega⟩
        have HIN := Lib.hid (tup_insert (wr.alloc (.cells #[.int .i64 x, .int .u64 lim, .bool false] 67)) a1 c1 R x (sorted_get hfine.up) (by rw [← HE.out.1]; exact hoA1) (by have := HE.out.1; omega) hst1)
        rw [← HE.out.1] at HIN
        have HRI := Lib.hid (fun w1 (h : Chg (abl a1) (wr.alloc (.cells #[.int .i64 x, .int .u64 lim, .bool false] 67)) w1) => ref18_insert w1 a2 c2 (spF 0 R) x (spF_sorted 0 hfine.up) (by rw [spF_len, ← HE.out.1]; exact (hoA2.chg h (fun b hb hb2 => hoA2.apart hoA1 (by decide) b hb (by simpa using hb2))).rd) (by rw [spF_len, ← HE.out.1]; exact hoA2.le_cap') (by rw [spF_len]; have := HE.out.1; omega) (fun t ht => by have := hfine.high t ht; have := (spF_ge 0 R t ht).2; omega))
        rw [spF_len, ← HE.out.1, upS_spF, ← insert_same R x (upT R x) List.countP_le_length hfine.pos] at HRI
        have HO3 := Lib.hid (fun w1 (h : Chg (abl a1) (wr.alloc (.cells #[.int .i64 x, .int .u64 lim, .bool false] 67)) w1) => hoA3.chg h (fun b hb hb2 => hoA3.apart hoA1 (by decide) b hb (by simpa using hb2)))
        have HBX := Lib.hid (fun w1 (h : Chg (abl a1) (wr.alloc (.cells #[.int .i64 x, .int .u64 lim, .bool false] 67)) w1) => hbx.chg h (fun hb => (hoA1.ne_blk hbx (by decide)) (by simpa using hb)))
        have HCA := Lib.hid (fun w1 (h : Chg (abl a1) (wr.alloc (.cells #[.int .i64 x, .int .u64 lim, .bool false] 67)) w1) => (hcA.trans' h (fun b hb => .inr (HA1.out b hb)) : Chg [] w w1))
        have HPE := Lib.hid hst
        have HNR := Lib.hid (show n + 1 = (insT R x (upT R x)).length from by rw [insT_len' R x (upT R x) List.countP_le_length, ← HE.out.1])
        have HMA := Lib.hid HE.out.2.1
        have HSZ := Lib.hid hch.size
        have hm80 : m ≤ 80 := by omega
        clear hst hfine hfp ho1 ho2 ho3 hoA1 hoA2 hoA3 hbx hch hcA HE hst1
        go_wp2_with fail
        refine HIN.out.mono ?_
        rintro e w1 ⟨a4, c4, rfl, ho1, hg1, hf1⟩
        have e1 := (HBX.out w1 hg1).cell 0
        clear c0 c1' c2'
        go_wp2_with fail
        refine (HRI.out w1 hg1).mono ?_
        rintro e w2 ⟨a5, c5, rfl, ho2, hg2, hf2⟩
        have e2 := ((HBX.out w1 hg1).chg hg2 (by simp)).cell 0
        have HC2 := Lib.hid ((HCA.out w1 hg1).trans hg2)
        have HS1 := Lib.hid (HCA.out w1 hg1).size
        have HS2 := Lib.hid hg2.size
        have ho12 := ho1.chg hg2 (by simp)
        have ho32 := (HO3.out w1 hg1).chg hg2 (by simp)
        have hrd : Rd (w2.alloc (.cells #[.int .i64 x] 2)) 1 (.slice (some ⟨w2.heap.size, 0, none⟩) 1 1) 1 (ints [x]) := Rd.lit1 w2 (.int .i64 x) 2 1
        clear e1 hg1 hg2 ho1
        go_wp2_with (at_builtin; go_must (refine wpList_append_src _ rfl (.tmp 38) (.tmp 41) 26 26 rfl 2 _ 1 8 under_ints info_i64 rfl (by decide) (.slice a3 m c3) m (ints A) rfl (ho32.alloc _) (.slice (some ⟨w2.heap.size, 0, none⟩) 1 1) 1 (ints [x]) rfl (Src.of_rd under_ints hrd) (ints_oneCell _) (by unfold maxLen; omega) (by omega) ?_; intro a7 c7 w7 ho7 hg7 hf7))
        have hap : ∀ b ∈ abl a3, b ∉ abl a4 ∧ b ∉ abl a5 := fun b hb => ⟨fun h => ho32.apart ho12 (by decide) b (by simpa using hb) (by simpa using h), fun h => ho32.apart ho2 (by decide) b (by simpa using hb) (by simpa using h)⟩
        refine ⟨⟨k + 1, n + 1, m + 1, a4, c4, a5, c5, a7, c7, insT R x (upT R x), A ++ [x], by omega, by go_num, rfl, rfl, rfl, by omega, by omega, Lib.hid ⟨HNR.out, by have := HMA.out; simp; omega, HPE.out⟩, (ho12.alloc _).chg hg7 (fun b hb h => (hap b (by simpa using h)).1 (by simpa using hb)), (ho2.alloc _).chg hg7 (fun b hb h => (hap b (by simpa using h)).2 (by simpa using hb)), by rw [ints_append]; exact ho7, (HC2.out.alloc _).trans' hg7 (fun b hb => .inr (HA3.out b (by simpa using hb))), Lib.hid (fun b hb => ?_), Lib.hid (fun b hb => by have := hf2 b hb; have := HS1.out; omega), Lib.hid (fun b hb => ?_)⟩, by simp [intOf]; omega⟩
        · rcases hf1 b hb with h | h
          · exact HA1.out b h
          · have := HSZ.out; simp at h; omega
        · rcases hf7 b hb with h | h
          · exact HA3.out b (by simpa using h)
          · have := HS1.out; have := HS2.out; simp at h; omega
    · obtain rfl : k = l.length := by omega
      have he := HE.out.2.2
      rw [List.take_length] at he
      have HPE := Lib.hid he
      have HN := Lib.hid HE.out.1
      have HM := Lib.hid HE.out.2.1
      clear he hfp hfine
      go_wp2
      refine bodyPost_ret (v := .tuple #[.slice a1 n c1, .slice a2 n c2, .slice a3 m c3, .bool true]) (by simp [results, Try.results9, go_sem]) rfl ?_
      rw [HPE.out]
      simp only
      rw [← HN.out, ← HM.out]
      exact ⟨a1, c1, a2, c2, a3, c3, rfl, ho1, ho2, ho3, hch, HA1.out, HA2.out, HA3.out⟩

set_option maxRecDepth 100000 in
theorem law18_play_long (w : World) (ao : Option Addr) (cap n : Nat) (hl : 80 < n) :
    Calls Try.prog 9 #[.slice ao n cap] w fun e w' => e = .returned (.tuple #[.slice none 0 0, .slice none 0 0, .slice none 0 0, .bool false]) ∧ w = w' := by
  go_enter Try.func9, Try.ntmps9
  have hd80 : decide ((80 : Int) < (n : Int)) = true := decide_eq_true (by omega)
  go_wp2
  exact bodyPost_ret (v := .tuple #[.slice none 0 0, .slice none 0 0, .slice none 0 0, .bool false]) (by simp [results, Try.results9, go_sem]) rfl ⟨rfl, rfl⟩

set_option maxRecDepth 100000 in
set_option maxHeartbeats 1000000 in
theorem law18_plain (w : World) (ao : Option Addr) (cap : Nat) (l : List Tp) (n : Nat) (hn : n = l.length) (hr : Rd w 3 (.slice ao n cap) n (tpCells l)) (hl : n ≤ 100000) :
    Calls Try.prog 12 #[.slice ao n cap] w fun e w' => ∃ a3 c3, e = .returned (.slice a3 n c3) ∧
      Own w' 71 3 (.slice a3 n c3) n (tpCells l) ∧ Chg [] w w' ∧ ∀ b ∈ abl a3, w.heap.size ≤ b := by
  have HR := Lib.hid hr
  have HN := Lib.hid hn
  clear hr hn
  go_enter Try.func12, Try.ntmps12
  go_wp2
  go_loopw [3, 8] (fun out i wx => ∃ (k : Nat) (a3 : Option Addr) (c3 : Nat), k ≤ n ∧ i = .int .i64 (k : Nat) ∧ out = .slice a3 k c3 ∧
    Own wx 71 3 (.slice a3 k c3) k (tpCells (l.take k)) ∧ Chg [] w wx ∧ Hid (∀ b ∈ abl a3, w.heap.size ≤ b)) (fun _ i _ => n - (intOf i).toNat)
  case atStart => exact ⟨0, none, 0, Nat.zero_le _, rfl, rfl, Own.nil _ _ _, Chg.refl _ _, Lib.hid (by simp [abl])⟩
  case round =>
    obtain ⟨k, a3, c3, hk, rfl, rfl, ho, hch, HA⟩ := hrel
    by_cases hlt : k < n
    · have hr1 := HR.out.chg hch (by simp)
      obtain ⟨b, o, rfl, hc⟩ := hr1.addr (by omega)
      have hkl : k < l.length := by have := HN.out; omega
      obtain ⟨c0, c1, c2⟩ := tp_at (l := l) (fun j hj => hc j (by rw [← HN.out] at hj; exact hj)) hkl
      have HSS := Lib.hid (List.take_succ_eq_append_getElem hkl)
      generalize l[k] = p at *
      have HCX := Lib.hid ((hch.alloc (.cells #[.int .i64 p.x, .int .u64 p.st, .int .u64 p.sl] 54)).alloc (.cells #[.int .i64 p.x, .int .u64 p.st, .int .u64 p.sl] 71))
      have hsz := hch.size
      have hrd : Rd ((wr.alloc (.cells #[.int .i64 p.x, .int .u64 p.st, .int .u64 p.sl] 54)).alloc (.cells #[.int .i64 p.x, .int .u64 p.st, .int .u64 p.sl] 71)) 3 (.slice (some ⟨wr.heap.size + 1, 0, none⟩) 1 1) 1 (tpCells [p]) := by
        have := Rd.lit (wr.alloc (.cells #[.int .i64 p.x, .int .u64 p.st, .int .u64 p.sl] 54)) #[.int .i64 p.x, .int .u64 p.st, .int .u64 p.sl] 71 3 1 1 rfl
        rw [World.size_alloc] at this
        exact this
      clear hc hr1
      go_wp2_with (at_builtin; go_must (refine wpList_append_src _ rfl (.tmp 12) (.tmp 14) 33 33 rfl 71 _ 3 24 under_tuples2 info_tuple2 rfl (by decide) (.slice a3 k c3) k (tpCells (l.take k)) rfl ((ho.alloc _).alloc _) (.slice (some ⟨wr.heap.size + 1, 0, none⟩) 1 1) 1 (tpCells [p]) rfl (Src.of_rd under_tuples2 hrd) (tpCells_oneCell _) (by unfold maxLen; omega) (by omega) ?_; intro a7 c7 w7 ho7 hg7 hf7))
      refine ⟨⟨k + 1, a7, c7, by omega, by go_num, rfl, by rw [HSS.out, tpCells_append]; exact ho7, HCX.out.trans' hg7 (fun b hb => .inr (HA.out b (by simpa using hb))), Lib.hid (fun b hb => ?_)⟩, by simp [intOf]; omega⟩
      rcases hf7 b hb with h | h
      · exact HA.out b (by simpa using h)
      · simp at h; omega
    · obtain rfl : k = n := by omega
      rw [HN.out, List.take_length, ← HN.out] at ho
      go_wp2
      go_ret
      exact ⟨a3, c3, rfl, ho, hch, HA.out⟩

set_option maxRecDepth 100000 in
set_option maxHeartbeats 1000000 in
theorem ref18_same (w : World) (ao : Option Addr) (cap : Nat) (bo : Option Addr) (cbp : Nat) (l : List Tp) (n : Nat) (hn : n = l.length) (ha : Rd w 3 (.slice ao n cap) n (tpCells l)) (hb : Rd w 3 (.slice bo n cbp) n (tpCells l)) (hl : n ≤ 140737488351232) :
    Calls Try.prog 11 #[.slice ao n cap, .slice bo n cbp] w fun e w' => e = .returned (.bool true) ∧ Chg [] w w' := by
  have HN := Lib.hid hn
  clear hn
  go_enter Try.func11, Try.ntmps11
  go_wp2
  go_loopw [13] (fun i wx => ∃ k : Nat, k ≤ n ∧ i = .int .i64 (k : Nat) ∧ Chg [] w wx) (fun i _ => n - (intOf i).toNat)
  case atStart => exact ⟨0, Nat.zero_le _, rfl, Chg.refl _ _⟩
  case round =>
    obtain ⟨k, hk, rfl, hch⟩ := hrel
    by_cases hlt : k < n
    · have hkl : k < l.length := by have := HN.out; omega
      obtain ⟨b, o, rfl, hc⟩ := (ha.chg hch (by simp)).addr (by omega)
      obtain ⟨c0, c1, c2⟩ := tp_at (l := l) (fun j hj => hc j (by rw [← HN.out] at hj; exact hj)) hkl
      obtain ⟨b', o', rfl, hc'⟩ := (hb.chg hch (by simp)).addr (by omega)
      obtain ⟨d0, d1, d2⟩ := tp_at (l := l) (fun j hj => hc' j (by rw [← HN.out] at hj; exact hj)) hkl
      have hk0 : (0 : Int) ≤ (k : Int) := by omega
      have hkl2 : (k : Int) < (n : Int) := by omega
      generalize l[k] = p at *
      clear hc hc' ha hb hkl
      go_wp2
      go_quiet (fail)
      go_wp2
      exact ⟨⟨k + 1, by omega, by go_num, hch.drewN _⟩, by simp [intOf]; omega⟩
    · obtain rfl : k = n := by omega
      go_wp2
      go_ret
      exact ⟨rfl, hch⟩

set_option maxRecDepth 100000 in
set_option maxHeartbeats 1000000 in
theorem law18_up (w : World) (ao : Option Addr) (cap : Nat) (l : List Int) (x : Int) (n : Nat) (hn : n = l.length) (hr : Rd w 1 (.slice ao n cap) n (ints l)) (hl : n ≤ 140737488351232) :
    Calls Try.prog 24 #[.slice ao n cap, .int .i64 x] w fun e w' => e = .returned (.int .u64 (upC l x : Nat)) ∧ w = w' := by
  have HN := Lib.hid hn
  clear hn
  go_enter Try.func24, Try.ntmps24
  go_wp2
  go_loopw [5, 10] (fun c i wx => ∃ k m : Nat, k ≤ n ∧ i = .int .i64 (k : Nat) ∧ c = .int .u64 (m : Nat) ∧ m ≤ k ∧ Hid (m = upC (l.take k) x) ∧ w = wx) (fun _ i _ => n - (intOf i).toNat)
  case atStart => exact ⟨0, 0, Nat.zero_le _, rfl, rfl, Nat.le_refl _, Lib.hid rfl, rfl⟩
  case round =>
    obtain ⟨k, m, hk, rfl, rfl, hmk, HM, hw⟩ := hrel
    subst hw
    by_cases hlt : k < n
    · have hkl : k < l.length := by have := HN.out; omega
      obtain ⟨b, o, rfl, hc⟩ := hr.addr (by omega)
      have c0 := ints_at (l := l) (fun j hj => hc j (by rw [← HN.out] at hj; exact hj)) k hkl
      have HSS := Lib.hid (show upC (l.take (k + 1)) x = upC (l.take k) x + if l[k] ≤ x then 1 else 0 from by rw [List.take_succ_eq_append_getElem hkl, upC_snoc])
      generalize l[k] = y at *
      clear hc hkl
      by_cases hy : y ≤ x
      · have hd : decide (y ≤ x) = true := decide_eq_true hy
        rw [if_pos hy, ← HM.out] at HSS
        clear hy
        go_wp2
        exact ⟨⟨k + 1, m + 1, by omega, by go_num, by go_num, by omega, Lib.hid HSS.out.symm, trivial⟩, by simp [intOf]; omega⟩
      · have hd : decide (y ≤ x) = false := decide_eq_false hy
        rw [if_neg hy, Nat.add_zero, ← HM.out] at HSS
        clear hy
        go_wp2
        exact ⟨⟨k + 1, m, by omega, by go_num, rfl, by omega, Lib.hid HSS.out.symm, trivial⟩, by simp [intOf]; omega⟩
    · obtain rfl : k = n := by omega
      rw [HN.out, List.take_length] at HM
      go_wp2
      go_ret
      rw [← HM.out]
      exact ⟨rfl, rfl⟩

set_option maxRecDepth 100000 in
set_option maxHeartbeats 1000000 in
theorem law18_under (w : World) (ao : Option Addr) (cap : Nat) (l : List Int) (x : Int) (n : Nat) (hn : n = l.length) (hr : Rd w 1 (.slice ao n cap) n (ints l)) (hl : n ≤ 140737488351232) :
    Calls Try.prog 23 #[.slice ao n cap, .int .i64 x] w fun e w' => e = .returned (.int .u64 (unC l x : Nat)) ∧ w = w' := by
  have HN := Lib.hid hn
  clear hn
  go_enter Try.func23, Try.ntmps23
  go_wp2
  go_loopw [5, 10] (fun c i wx => ∃ k m : Nat, k ≤ n ∧ i = .int .i64 (k : Nat) ∧ c = .int .u64 (m : Nat) ∧ m ≤ k ∧ Hid (m = unC (l.take k) x) ∧ w = wx) (fun _ i _ => n - (intOf i).toNat)
  case atStart => exact ⟨0, 0, Nat.zero_le _, rfl, rfl, Nat.le_refl _, Lib.hid rfl, rfl⟩
  case round =>
    obtain ⟨k, m, hk, rfl, rfl, hmk, HM, hw⟩ := hrel
    subst hw
    by_cases hlt : k < n
    · have hkl : k < l.length := by have := HN.out; omega
      obtain ⟨b, o, rfl, hc⟩ := hr.addr (by omega)
      have c0 := ints_at (l := l) (fun j hj => hc j (by rw [← HN.out] at hj; exact hj)) k hkl
      have HSS := Lib.hid (show unC (l.take (k + 1)) x = unC (l.take k) x + if l[k] < x then 1 else 0 from by rw [List.take_succ_eq_append_getElem hkl, unC_snoc])
      generalize l[k] = y at *
      clear hc hkl
      by_cases hy : y < x
      · have hd : decide (y < x) = true := decide_eq_true hy
        rw [if_pos hy, ← HM.out] at HSS
        clear hy
        go_wp2
        exact ⟨⟨k + 1, m + 1, by omega, by go_num, by go_num, by omega, Lib.hid HSS.out.symm, trivial⟩, by simp [intOf]; omega⟩
      · have hd : decide (y < x) = false := decide_eq_false hy
        rw [if_neg hy, Nat.add_zero, ← HM.out] at HSS
        clear hy
        go_wp2
        exact ⟨⟨k + 1, m, by omega, by go_num, rfl, by omega, Lib.hid HSS.out.symm, trivial⟩, by simp [intOf]; omega⟩
    · obtain rfl : k = n := by omega
      rw [HN.out, List.take_length] at HM
      go_wp2
      go_ret
      rw [← HM.out]
      exact ⟨rfl, rfl⟩

set_option maxRecDepth 100000 in
set_option maxHeartbeats 2000000 in
theorem law18_alive (w : World) : Calls Try.prog 8 #[] w fun e w' => e = .returned (.bool true) ∧ Chg [] w w' := by
  have H1 := Lib.hid (tup_insert w none 0 [] 5 (fun j k _ h => by simp at h) (Own.nil _ _ _) (by simp) (by simp))
  have H2 := Lib.hid (fun w a c (h : Own w 54 3 (.slice a 1 c) 1 (tpCells [⟨5, 1, 0⟩])) => tup_insert w a c [⟨5, 1, 0⟩] 7 (sorted_get (by simp)) h (by simp) (by simp))
  have H3 := Lib.hid (fun w a c (h : Own w 54 3 (.slice a 2 c) 2 (tpCells [⟨5, 1, 0⟩, ⟨7, 1, 0⟩])) => tup_insert w a c [⟨5, 1, 0⟩, ⟨7, 1, 0⟩] 6 (sorted_get (by simp)) h (by simp) (by simp))
  have E1 := Lib.hid (show insT [] 5 (upT [] 5) = [⟨5, 1, 0⟩] from rfl)
  have E2 := Lib.hid (show insT [⟨5, 1, 0⟩] 7 (upT [⟨5, 1, 0⟩] 7) = [⟨5, 1, 0⟩, ⟨7, 1, 0⟩] from rfl)
  have E3 := Lib.hid (show insT [⟨5, 1, 0⟩, ⟨7, 1, 0⟩] 6 (upT [⟨5, 1, 0⟩, ⟨7, 1, 0⟩] 6) = [⟨5, 1, 0⟩, ⟨6, 1, 0⟩, ⟨7, 1, 0⟩] from rfl)
  go_enter Try.func8, Try.ntmps8
  go_wp2_with fail
  refine H1.out.mono ?_
  rintro e w1 ⟨a1, c1, rfl, ho1, hc1, hf1⟩
  have hc1' : Chg [] w w1 := by simpa using hc1
  have hf1' : ∀ b ∈ abl a1, w.heap.size ≤ b := fun b hb => by simpa using hf1 b hb
  rw [E1.out] at ho1
  simp only [List.length_nil, Nat.zero_add] at ho1 ⊢
  go_wp2_with fail
  refine (H2.out w1 a1 c1 ho1).mono ?_
  rintro e w2 ⟨a2, c2, rfl, ho2, hc2, hf2⟩
  rw [E2.out] at ho2
  have hc2' : Chg [] w w2 := hc1'.trans' hc2 (fun b hb => .inr (hf1' b hb))
  have hf2' : ∀ b ∈ abl a2, w.heap.size ≤ b := fun b hb => by
    have := hc1'.size
    rcases hf2 b hb with h | h
    · exact hf1' b h
    · omega
  simp only [List.length_cons, List.length_nil, Nat.zero_add] at ho2 ⊢
  go_wp2_with fail
  refine (H3.out w2 a2 c2 ho2).mono ?_
  rintro e w3 ⟨a3, c3, rfl, ho3, hc3, hf3⟩
  rw [E3.out] at ho3
  have hc3' : Chg [] w w3 := hc2'.trans' hc3 (fun b hb => .inr (hf2' b hb))
  simp only [List.length_cons, List.length_nil, Nat.zero_add] at ho3 ⊢
  obtain ⟨b, o, rfl, hcc⟩ := ho3.rd.addr (by omega)
  obtain ⟨q0, q1, q2⟩ := tp_at (l := [⟨5, 1, 0⟩, ⟨6, 1, 0⟩, ⟨7, 1, 0⟩]) hcc (show 1 < 3 by omega)
  have HG := Lib.hid (tup_good w3 (some ⟨b, o, none⟩) c3 [⟨5, 1, 0⟩, ⟨6, 1, 0⟩, ⟨7, 1, 0⟩] (by simp) ho3.rd (by simp))
  have EG := Lib.hid (show goodT [⟨5, 1, 0⟩, ⟨6, 1, 0⟩, ⟨7, 1, 0⟩] = true from by decide)
  simp only [List.getElem_cons_succ, List.getElem_cons_zero] at q0 q1 q2
  clear hcc ho1 ho2 hc1 hc2 hf1 hf2 hf3 hc3
  go_wp2_with fail
  refine HG.out.mono ?_
  rintro e w4 ⟨rfl, hc4⟩
  rw [EG.out]
  go_wp2
  go_ret
  exact ⟨rfl, hc3'.trans hc4⟩

/-- Does each spot's value stand at a place between its least and its greatest one? -/
def badS (A : List Int) (s : Sp) : Bool := decide (upC A s.x < unC A s.x + 1) || (decide (s.hi < unC A s.x + 1) || (decide (upC A s.x < s.lo) || decide (s.hi < s.lo)))
theorem badS_no {A : List Int} {s : Sp} (h : PlS A s) : badS A s = false := by
  obtain ⟨h1, h2, h3, h4⟩ := h
  simp [badS]
  omega
set_option maxRecDepth 100000 in
set_option maxHeartbeats 2000000 in
theorem law18_placed (w : World) (ao : Option Addr) (cap : Nat) (l : List Sp) (n : Nat) (hn : n = l.length) (bo : Option Addr) (bcap : Nat) (A : List Int) (m : Nat) (hm : m = A.length) (hr : Rd w 3 (.slice ao n cap) n (spCells l)) (hra : Rd w 1 (.slice bo m bcap) m (ints A)) (hl : n ≤ 140737488351232) (hl2 : m ≤ 140737488351232)
    (hp : ∀ s ∈ l, PlS A s) :
    Calls Try.prog 19 #[.slice ao n cap, .slice bo m bcap] w fun e w' => e = .returned (.bool true) ∧ Chg [] w w' := by
  have HN := Lib.hid hn
  have HP := Lib.hid hp
  have HR := Lib.hid hr
  have HU := Lib.hid (fun W x (h : Chg [] w W) => law18_up W bo bcap A x m hm (hra.chg h (by simp)) hl2)
  have HD := Lib.hid (fun W x (h : Chg [] w W) => law18_under W bo bcap A x m hm (hra.chg h (by simp)) hl2)
  have HUB := Lib.hid (fun x => upC_le A x)
  have HAL := Lib.hid (show A.length ≤ 140737488351232 by omega)
  clear hn hp hr hra hm
  go_enter Try.func19, Try.ntmps19
  go_wp2
  go_loopw [11] (fun i wx => ∃ k : Nat, k ≤ n ∧ i = .int .i64 (k : Nat) ∧ Chg [] w wx) (fun i _ => n - (intOf i).toNat)
  case atStart => exact ⟨0, Nat.zero_le _, rfl, Chg.refl _ _⟩
  case round =>
    obtain ⟨k, hk, rfl, hch⟩ := hrel
    by_cases hlt : k < n
    · have hkl : k < l.length := by have := HN.out; omega
      obtain ⟨b, o, rfl, hc⟩ := (HR.out.chg hch (by simp)).addr (by omega)
      obtain ⟨c0, c1, c2⟩ := sp_at (l := l) (fun j hj => hc j (by rw [← HN.out] at hj; exact hj)) hkl
      have hps := HP.out _ (List.getElem_mem hkl)
      generalize l[k] = s at *
      have hcA := hch.alloc (.cells #[.int .i64 s.x, .int .u64 s.lo, .int .u64 s.hi] 41)
      have hbx := Blk.alloc_new wr #[.int .i64 s.x, .int .u64 s.lo, .int .u64 s.hi] 41
      have HU2 := Lib.hid (fun W h => HU.out W s.x h)
      have HD2 := Lib.hid (fun W h => HD.out W s.x h)
      obtain ⟨g1, g2, g3, g4⟩ := hps
      have hub := HUB.out s.x
      have hal := HAL.out
      generalize upC A s.x = u at *
      generalize unC A s.x = d at *
      have e0 := hbx.cell 0
      have e1 := hbx.cell 1
      have e2 := hbx.cell 2
      have HC := Lib.hid hcA
      have hw : IntKind.u64.wrap ((d : Int) + 1) = (d : Int) + 1 := IntWalk.u64_in _ (by omega)
      clear hc hkl hbx hcA hch
      have k1 : decide (u < d + 1) = false := decide_eq_false (by omega)
      have k2 : decide ((u : Int) < (d : Int) + 1) = false := decide_eq_false (by omega)
      have k3 : decide ((s.hi : Int) < (d : Int) + 1) = false := decide_eq_false (by omega)
      have k4 : decide (u < s.lo) = false := decide_eq_false (by omega)
      have k5 : decide (s.hi < s.lo) = false := decide_eq_false (by omega)
      go_wp2
      go_quiet (first
        | (go_at_call 23; exact (HD2.out _ (HC.out.drewN _)).mono fun e w' ⟨he, hw⟩ => ⟨he, _, hw.symm⟩)
        | (go_at_call 24; exact (HU2.out _ (HC.out.drewN _)).mono fun e w' ⟨he, hw⟩ => ⟨he, _, hw.symm⟩))
      go_wp2
      exact ⟨⟨k + 1, by omega, by go_num, HC.out.drewN _⟩, by simp [intOf]; omega⟩
    · obtain rfl : k = n := by omega
      go_wp2
      go_ret
      exact ⟨rfl, hch⟩
end Go.Proofs.Ytmbalpkeaobfgaa
