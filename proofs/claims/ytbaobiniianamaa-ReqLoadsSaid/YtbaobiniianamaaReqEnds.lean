/-
  The least and the greatest value: plain, of the tower, of the reference. Conditions: the form's own reach.
-/
import Derived.Test.YtbaobiniianamaaReqBuild
import Derived.Test.YtbaobiniianamaaReqJoin
namespace Go.Proofs.Ytbaobiniianamaa
open Go.RowKit

def loV : List Vl → Int
  | [] => 0
  | v :: l => l.foldl (fun m u => min m u.x) v.x
def hiV : List Vl → Int
  | [] => 0
  | v :: l => l.foldl (fun m u => max m u.x) v.x
theorem fold_min (l : List Vl) (a b : Int) : l.foldl (fun m u => min m u.x) (min a b) = min a (l.foldl (fun m u => min m u.x) b) := by
  induction l generalizing b with
  | nil => rfl
  | cons v l ih => simp only [List.foldl_cons]; rw [← ih]; congr 1; omega
theorem fold_max (l : List Vl) (a b : Int) : l.foldl (fun m u => max m u.x) (max a b) = max a (l.foldl (fun m u => max m u.x) b) := by
  induction l generalizing b with
  | nil => rfl
  | cons v l ih => simp only [List.foldl_cons]; rw [← ih]; congr 1; omega
theorem loV_app (a b : List Vl) : loV (a ++ b) = if a = [] then loV b else if b = [] then loV a else min (loV a) (loV b) := by
  rcases a with _ | ⟨v, a⟩
  · simp
  rcases b with _ | ⟨u, b⟩
  · simp
  simp only [List.cons_append, loV, List.foldl_append, List.foldl_cons, reduceCtorEq, if_false]
  rw [fold_min]
theorem hiV_app (a b : List Vl) : hiV (a ++ b) = if a = [] then hiV b else if b = [] then hiV a else max (hiV a) (hiV b) := by
  rcases a with _ | ⟨v, a⟩
  · simp
  rcases b with _ | ⟨u, b⟩
  · simp
  simp only [List.cons_append, hiV, List.foldl_append, List.foldl_cons, reduceCtorEq, if_false]
  rw [fold_max]
theorem loV_take (l : List Vl) (k : Nat) (h : k < l.length) (h0 : 0 < k) : loV (l.take (k + 1)) = min (loV (l.take k)) l[k].x := by
  rw [List.take_succ_eq_append_getElem h, loV_app, if_neg (by intro e; have h5 := congrArg List.length e; rw [List.length_take] at h5; simp only [List.length_nil] at h5; omega), if_neg (by simp)]
  rfl
theorem hiV_take (l : List Vl) (k : Nat) (h : k < l.length) (h0 : 0 < k) : hiV (l.take (k + 1)) = max (hiV (l.take k)) l[k].x := by
  rw [List.take_succ_eq_append_getElem h, hiV_app, if_neg (by intro e; have h5 := congrArg List.length e; rw [List.length_take] at h5; simp only [List.length_nil] at h5; omega), if_neg (by simp)]
  rfl
/-- Ends that fit to a number of values. -/
def TwD.spans (D : TwD) (l : List Vl) : Prop := (D.total = 0 ↔ l = []) ∧ (l ≠ [] → D.least = loV l ∧ D.most = hiV l)
theorem TwD.putN_ends (D : TwD) (x : Int) (k : Nat) : (D.putN x k).least = D.least ∧ (D.putN x k).most = D.most ∧ (D.putN x k).total = D.total + k := by
  induction k with
  | zero => exact ⟨rfl, rfl, rfl⟩
  | succ k ih => exact ⟨ih.1, ih.2.1, by show (D.putN x k).total + 1 = _; omega⟩
theorem TwD.vals_spans : ∀ (l : List Vl) {D : TwD} {m : List Vl}, (∀ v ∈ l, 1 ≤ v.n) → D.spans m → (D.vals l).spans (m ++ l)
  | [], D, m, _, h => by rw [List.append_nil]; exact h
  | v :: l, D, m, hn, h => by
    have hv := hn v (by simp)
    have h1 : ((D.ends v.x v.x).putN v.x v.n).spans (m ++ [v]) := by
      obtain ⟨e1, e2, e3⟩ := TwD.putN_ends (D.ends v.x v.x) v.x v.n
      obtain ⟨h2, h3⟩ := h
      refine ⟨⟨fun h => by rw [e3] at h; omega, fun e => absurd e (by simp)⟩, fun _ => ?_⟩
      rw [e1, e2, loV_app, hiV_app]
      by_cases hm : m = []
      · rw [if_pos hm, if_pos hm]
        have := h2.2 hm
        unfold TwD.ends
        rw [if_pos this]
        exact ⟨rfl, rfl⟩
      · rw [if_neg hm, if_neg hm, if_neg (show ¬ [v] = [] by simp), if_neg (show ¬ [v] = [] by simp)]
        obtain ⟨h4, h5⟩ := h3 hm
        have : ¬ D.total = 0 := fun e => hm (h2.1 e)
        unfold TwD.ends
        rw [if_neg this]
        exact ⟨by show min D.least v.x = _; rw [h4]; rfl, by show max D.most v.x = _; rw [h5]; rfl⟩
    have h6 := TwD.vals_spans l (fun u hu => hn u (by simp [hu])) h1
    rw [List.append_assoc] at h6
    exact h6
theorem valsD_spans {W word : Nat} {l : List Vl} (hn : ∀ v ∈ l, 1 ≤ v.n) : (valsD W word l).spans l :=
  TwD.vals_spans (m := []) l hn ⟨by simp [TwD.new], by simp⟩
theorem TwD.joinZ_spans {D O : TwD} {a b : List Vl} (h1 : D.spans a) (h2 : O.spans b) : (D.joinZ O).spans (a ++ b) := by
  unfold TwD.joinZ
  by_cases hb : b = []
  · rw [if_pos (h2.1.2 hb)]
    subst hb
    rw [List.append_nil]
    exact h1
  · have hO : ¬ O.total = 0 := fun e => hb (h2.1.1 e)
    rw [if_neg hO]
    obtain ⟨h3, h4⟩ := h2.2 hb
    refine ⟨?_, fun _ => ?_⟩
    · show D.total + O.total = 0 ↔ _
      simp only [List.append_eq_nil_iff]
      constructor
      · omega
      · rintro ⟨_, h⟩; exact absurd h hb
    · show (D.ends O.least O.most).least = _ ∧ (D.ends O.least O.most).most = _
      rw [loV_app, hiV_app, if_neg hb, if_neg hb, ← h3, ← h4]
      by_cases ha : a = []
      · rw [if_pos ha, if_pos ha]
        unfold TwD.ends
        rw [if_pos (h1.1.2 ha)]
        exact ⟨rfl, rfl⟩
      · rw [if_neg ha, if_neg ha]
        obtain ⟨h5, h6⟩ := h1.2 ha
        unfold TwD.ends
        rw [if_neg (fun e => ha (h1.1.1 e)), ← h5, ← h6]
        exact ⟨rfl, rfl⟩

set_option maxRecDepth 100000 in
set_option maxHeartbeats 1000000 in
theorem req_Ends (w : World) (p tp : Nat) (rv : Value) (vs : List Value) (D : TwD) (ht : Tow w p tp rv vs D) (l : List Vl) (hs : D.spans l) (lo hi : Int) (B : Bool) (hlo : lo = loV l) (hhi : hi = hiV l) (hB : B = decide (l ≠ [])) :
    Calls Try.prog 31 #[.pointer (some ⟨p, 0, none⟩)] w fun e w' => e = .returned (.tuple #[.int .i64 lo, .int .i64 hi, .bool B]) ∧ Chg [] w w' := by
  obtain ⟨-, -, -, -, c4, c5, c6⟩ := ht.cells
  by_cases hl : l = []
  · have h0 := hs.1.2 hl
    subst hl
    subst hlo hhi hB
    rw [h0] at c4
    go_enter Try.func31, Try.ntmps31
    go_wp2
    refine bodyPost_ret (v := .tuple #[.int .i64 0, .int .i64 0, .bool false]) (by simp [results, Try.results31, go_sem]) rfl ?_
    exact ⟨rfl, Chg.refl _ _⟩
  · have h0 : ¬ D.total = 0 := fun e => hl (hs.1.1 e)
    obtain ⟨h1, h2⟩ := hs.2 hl
    have d0 : ((D.total : Int) == 0) = false := by rw [beq_eq_false_iff_ne]; omega
    have hBt : B = true := by rw [hB]; simpa using hl
    rw [h1, ← hlo] at c5
    rw [h2, ← hhi] at c6
    subst hBt
    clear hB hs hlo hhi h1 h2
    go_enter Try.func31, Try.ntmps31
    go_wp2
    go_quiet (fail)
    go_wp2
    refine bodyPost_ret (v := .tuple #[.int .i64 lo, .int .i64 hi, .bool true]) (by simp [results, Try.results31, go_sem]) rfl ?_
    exact ⟨rfl, (Chg.refl [] w).drewN _⟩

set_option maxRecDepth 100000 in
set_option maxHeartbeats 2000000 in
theorem ref14_ends (w : World) (ao : Option Addr) (cap n : Nat) (l : List Vl) (hn : n = l.length) (hr : Rd w 2 (.slice ao n cap) n (vlCells l)) (hl : n ≤ 140737488351232) (lo hi : Int) (B : Bool) (hlo : lo = loV l) (hhi : hi = hiV l) (hB : B = decide (l ≠ [])) :
    Calls Try.prog 32 #[.slice ao n cap] w fun e w' => e = .returned (.tuple #[.int .i64 lo, .int .i64 hi, .bool B]) ∧ Chg [] w w' := by
  have HN := Lib.hid hn
  have HR := Lib.hid hr
  have HLO := Lib.hid hlo
  have HHI := Lib.hid hhi
  have HB := Lib.hid hB
  clear hn hr hlo hhi hB
  by_cases h0 : n = 0
  · have he : l = [] := List.eq_nil_of_length_eq_zero (by rw [← HN.out]; exact h0)
    obtain rfl : lo = 0 := by rw [HLO.out, he]; rfl
    obtain rfl : hi = 0 := by rw [HHI.out, he]; rfl
    obtain rfl : B = false := by rw [HB.out, he]; rfl
    subst h0
    go_enter Try.func32, Try.ntmps32
    go_wp2
    refine bodyPost_ret (v := .tuple #[.int .i64 0, .int .i64 0, .bool false]) (by simp [results, Try.results32, go_sem]) rfl ?_
    exact ⟨rfl, Chg.refl _ _⟩
  · have hne : l ≠ [] := fun e => h0 (by rw [HN.out, e]; rfl)
    obtain rfl : B = true := by rw [HB.out]; simpa using hne
    have d0 : ((n : Int) == 0) = false := by rw [beq_eq_false_iff_ne]; omega
    obtain ⟨b, o, rfl, hc⟩ := HR.out.addr (by omega)
    obtain ⟨c0, -⟩ := vl_at (l := l) (fun j hj => hc j (by rw [HN.out]; exact hj)) (k := 0) (by have := HN.out; omega)
    simp only [Nat.zero_mul, Nat.add_zero] at c0
    have hi0 : (0 : Int) < (n : Int) := by omega
    have hi0' : 0 < n := by omega
    have H0 := Lib.hid (show loV (l.take 1) = l[0].x ∧ hiV (l.take 1) = l[0].x from by
      rcases l with _ | ⟨v, l⟩
      · exact absurd rfl hne
      · exact ⟨rfl, rfl⟩)
    obtain ⟨z, hz⟩ : ∃ z, z = l[0].x := ⟨_, rfl⟩
    rw [← hz] at c0 H0
    clear hc hz h0
    go_enter Try.func32, Try.ntmps32
    go_wp2
    go_loopw [5, 6, 22] (fun x y i wx => ∃ (k : Nat) (u v : Int), k ≤ n ∧ i = .int .i64 (k : Nat) ∧ x = .int .i64 u ∧ y = .int .i64 v ∧ Hid (u = (if k = 0 then z else loV (l.take k)) ∧ v = (if k = 0 then z else hiV (l.take k))) ∧ Chg [] w wx) (fun _ _ i _ => n - (intOf i).toNat)
    case atStart => exact ⟨0, z, z, Nat.zero_le _, rfl, rfl, rfl, Lib.hid ⟨rfl, rfl⟩, Chg.refl _ _⟩
    case round =>
      obtain ⟨k, u, v, hk, rfl, rfl, rfl, HUV, hch⟩ := hrel
      by_cases hlt : k < n
      · have hkl : k < l.length := by have := HN.out; omega
        obtain ⟨b1, o1, hbo, hc⟩ := (HR.out.chg hch (by simp)).addr (by omega)
        simp only [Option.some.injEq, Addr.mk.injEq, and_true] at hbo
        obtain ⟨rfl, rfl⟩ := hbo
        obtain ⟨c1, c2⟩ := vl_at (l := l) (fun j hj => hc j (by rw [HN.out]; exact hj)) hkl
        have HS := Lib.hid (show min u l[k].x = loV (l.take (k + 1)) ∧ max v l[k].x = hiV (l.take (k + 1)) from by
          obtain ⟨h1, h2⟩ := HUV.out
          by_cases hk0 : k = 0
          · subst hk0
            rw [if_pos rfl] at h1 h2
            rcases l with _ | ⟨t, l⟩
            · exact absurd rfl hne
            · have e1 := H0.out.1
              simp only [List.take_succ_cons, List.take_zero, loV, List.foldl_nil] at e1
              rw [h1, h2]
              simp only [Nat.zero_add, List.take_succ_cons, List.take_zero, loV, hiV, List.foldl_nil, List.getElem_cons_zero]
              rw [e1]
              omega
          · rw [if_neg hk0] at h1 h2
            rw [loV_take l k hkl (by omega), hiV_take l k hkl (by omega), h1, h2]
            exact ⟨rfl, rfl⟩)
        generalize l[k] = t at *
        obtain ⟨u', hu'⟩ : ∃ u', u' = min u t.x := ⟨_, rfl⟩
        obtain ⟨v', hv'⟩ : ∃ v', v' = max v t.x := ⟨_, rfl⟩
        rw [← hu', ← hv'] at HS
        have HX := Lib.hid (show (fun (a : Int) => a = u') (min u t.x) from hu'.symm)
        have hm1 : min u t.x = u' := hu'.symm
        have hm2 : max v t.x = v' := hv'.symm
        clear hc hu' hv' HUV c0
        go_wp2
        exact ⟨⟨k + 1, u', v', by omega, by go_num, rfl, rfl, Lib.hid ⟨by rw [if_neg (by omega)]; exact HS.out.1, by rw [if_neg (by omega)]; exact HS.out.2⟩, hch.alloc _⟩, by simp [intOf]; omega⟩
      · obtain rfl : k = n := by omega
        have HE := Lib.hid (show u = lo ∧ v = hi from by
          obtain ⟨h1, h2⟩ := HUV.out
          rw [if_neg (by omega), List.take_of_length_le (by have := HN.out; omega)] at h1 h2
          exact ⟨by rw [h1, HLO.out], by rw [h2, HHI.out]⟩)
        clear HUV
        go_wp2
        refine bodyPost_ret (v := .tuple #[.int .i64 u, .int .i64 v, .bool true]) (by simp [results, Try.results32, go_sem]) rfl ?_
        rw [HE.out.1, HE.out.2]
        exact ⟨rfl, hch⟩
end Go.Proofs.Ytbaobiniianamaa
