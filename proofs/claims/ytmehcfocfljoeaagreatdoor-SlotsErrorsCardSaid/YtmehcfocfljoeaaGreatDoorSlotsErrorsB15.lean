/-
  Spans of magnitudes, and the sketch of layer 15, plainly: what their methods answer, and what stays true. Conditions: none.
  The walk of spans.New at any number of digits (layer 12). Conditions: that the powers of ten read as laid.
-/
import Derived.Test.YtmehcfocfljoeaaGreatDoorSlotsErrorsB8
import Derived.Test.YtmehcfocfljoeaaGreatDoorSlotsErrorsLBitLen
import Derived.Test.YtmehcfocfljoeaaGreatDoorSlotsErrorsB1
import Derived.Test.YtmehcfocfljoeaaGreatDoorProg
namespace Go.Proofs.YtmehcfocfljoeaaGreatDoor

/-- By how many bits a magnitude is cut; the span of a magnitude. -/
def spShift (L m : Nat) : Nat := Lib.bitLen m - 1 - L
def spIdx (L m : Nat) : Nat := spShift L m * 2 ^ L + m / 2 ^ spShift L m
def spLast (L : Nat) : Nat := (64 - L) * 2 ^ L
def spK (L i : Nat) : Nat := i / 2 ^ L - 1
def spM (L i : Nat) : Nat := i - spK L i * 2 ^ L
def spLow (L i : Nat) : Nat := spM L i * 2 ^ spK L i
def spHigh (L i : Nat) : Nat := min (spLow L i + (2 ^ spK L i - 1)) two63
/-- What stands for a span; 0: there is none such. -/
def spRep (L : Nat) (i : Int) : Nat := if i < 1 ∨ (spLast L : Int) < i then 0 else spLow L i.toNat + (spHigh L i.toNat - spLow L i.toNat) / 2

/-- The power of two that isn't below so many tens. -/
def logD : Nat → Nat
  | 1 => 4
  | 2 => 7
  | 3 => 10
  | 4 => 14
  | _ => 0
theorem logD_cases {d : Nat} (h1 : 1 ≤ d) (h2 : d ≤ 4) : logD d = 4 ∨ logD d = 7 ∨ logD d = 10 ∨ logD d = 14 := by
  rcases (show d = 1 ∨ d = 2 ∨ d = 3 ∨ d = 4 by omega) with rfl | rfl | rfl | rfl <;> simp [logD]
structure HdD where
  digits : Nat
  limit : Nat
  zero : Nat
  minus : List Pr
  plus : List Pr
  least : Int
  most : Int
def HdD.L (D : HdD) : Nat := logD D.digits
def HdD.idx (D : HdD) (x : Int) : Int := (spIdx D.L x.natAbs : Nat)
def HdD.total (D : HdD) : Nat := totP D.minus + D.zero + totP D.plus
def HdD.side (D : HdD) (x : Int) : List Pr := if x < 0 then D.minus else D.plus
def HdD.ends (D : HdD) (lo hi : Int) : HdD := if D.total = 0 then { D with least := lo, most := hi } else { D with least := min D.least lo, most := max D.most hi }
def HdD.setSide (D : HdD) (x : Int) (r : List Pr) : HdD := if x < 0 then { D with minus := r } else { D with plus := r }
/-- Whether an index has room in a row. -/
def roomP (r : List Pr) (i : Int) : Bool := decide (cntI r i ≠ 0) || decide (r.length < 4096)
def HdD.putE (D : HdD) (x : Int) (c : Nat) : Nat :=
  if c = 0 then 1 else if 0 < D.limit ∧ D.limit < x.natAbs then 7 else if 9223372036854775807 < D.total + c then 6
  else if x ≠ 0 ∧ roomP (D.side x) (D.idx x) = false then 6 else 0
def HdD.put1 (D : HdD) (x : Int) (c : Nat) : HdD :=
  if x = 0 then { D.ends x x with zero := D.zero + c } else (D.ends x x).setSide x (refAdd (D.side x) (D.idx x) c)
def HdD.put (D : HdD) (x : Int) (c : Nat) : HdD := if D.putE x c = 0 then D.put1 x c else D
/-- How many indexes of one row another one lacks. -/
def lackP (r o : List Pr) : Nat := (o.filter fun p => decide (cntI r p.i = 0)).length
def addAllP (r o : List Pr) : List Pr := o.foldl (fun r p => refAdd r p.i p.c) r
def HdD.fits (D O : HdD) : Bool := decide (D.minus.length + lackP D.minus O.minus ≤ 4096) && decide (D.plus.length + lackP D.plus O.plus ≤ 4096)
def HdD.joinE (D O : HdD) : Nat :=
  if D.digits ≠ O.digits then 8 else if O.total = 0 then 0
  else if 0 < D.limit ∧ D.limit < max O.least.natAbs O.most.natAbs then 7
  else if 9223372036854775807 < D.total + O.total then 6 else if D.fits O = false then 6 else 0
def HdD.join1 (D O : HdD) : HdD := { D.ends O.least O.most with minus := addAllP D.minus O.minus, plus := addAllP D.plus O.plus, zero := D.zero + O.zero }
def HdD.join (D O : HdD) : HdD := if D.joinE O = 0 ∧ O.total ≠ 0 then D.join1 O else D
/-- The value that stands for a span. -/
def HdD.value (D : HdD) (i : Int) (below : Bool) : Int := if below then - (spRep D.L i : Int) else if spRep D.L i = 9223372036854775808 then 9223372036854775807 else (spRep D.L i : Int)
def HdD.find (D : HdD) (t : Nat) : Int :=
  if t ≤ totP D.minus then D.value (findP D.minus (totP D.minus - t + 1)) true
  else if t - totP D.minus ≤ D.zero then 0
  else D.value (findP D.plus (t - totP D.minus - D.zero)) false
def HdD.rank (D : HdD) (x : Int) : Nat × Nat :=
  if x = 0 then (totP D.minus + D.zero, totP D.minus + D.zero)
  else if x < 0 then (totP D.minus - belowP D.minus (D.idx x), totP D.minus - belowP D.minus (D.idx x - 1))
  else (totP D.minus + D.zero + belowP D.plus (D.idx x - 1), totP D.minus + D.zero + belowP D.plus (D.idx x))
/-- A row of spans. -/
structure RowHd (L : Nat) (r : List Pr) : Prop where
  rises : rises r
  pos : ∀ p ∈ r, 1 ≤ p.c
  few : r.length ≤ 4096
  ix : ∀ p ∈ r, 1 ≤ p.i ∧ p.i ≤ (spLast L : Int)
structure HdD.ok (D : HdD) : Prop where
  d1 : 1 ≤ D.digits
  d2 : D.digits ≤ 4
  lim : D.limit ≤ 9223372036854775808
  minus : RowHd D.L D.minus
  plus : RowHd D.L D.plus
  tot : D.total ≤ 9223372036854775807
  none : D.total = 0 → D.least = 0 ∧ D.most = 0
  le : D.least ≤ D.most
  low : -9223372036854775808 ≤ D.least
  high : D.most < 9223372036854775808
theorem bitLenAux_bnds : ∀ (f x : Nat), 1 ≤ x → x < 2 ^ f → 1 ≤ Lib.bitLenAux f x ∧ Lib.bitLenAux f x ≤ f ∧ 2 ^ (Lib.bitLenAux f x - 1) ≤ x ∧ x < 2 ^ Lib.bitLenAux f x := by
  intro f
  induction f with
  | zero => intro x h0 h1; simp at h1; omega
  | succ f ih =>
    intro x h0 h1
    rw [Lib.bitLenAux, if_neg (by omega)]
    by_cases hx : x = 1
    · subst hx
      have e : Lib.bitLenAux f (1 / 2) = 0 := by
        cases f with
        | zero => rfl
        | succ f => rw [Lib.bitLenAux, if_pos (by decide)]
      rw [e]
      simp
    · have h2 : x / 2 < 2 ^ f := by rw [Nat.pow_succ] at h1; omega
      obtain ⟨a, b, c, d⟩ := ih (x / 2) (by omega) h2
      refine ⟨by omega, by omega, ?_, ?_⟩
      · have e : 1 + Lib.bitLenAux f (x / 2) - 1 = (Lib.bitLenAux f (x / 2) - 1) + 1 := by omega
        rw [e, Nat.pow_succ]
        omega
      · rw [Nat.add_comm, Nat.pow_succ]
        omega
theorem bitLen_bnds {m : Nat} (h0 : 1 ≤ m) (h1 : m ≤ two63) : 1 ≤ Lib.bitLen m ∧ Lib.bitLen m ≤ 64 ∧ 2 ^ (Lib.bitLen m - 1) ≤ m ∧ m < 2 ^ Lib.bitLen m :=
  bitLenAux_bnds 64 m h0 (by unfold two63 at h1; omega)
theorem spIdx_ok {L m : Nat} (hL : L ≤ 20) (h0 : 1 ≤ m) (h1 : m ≤ two63) : 1 ≤ spIdx L m ∧ spIdx L m ≤ spLast L := by
  obtain ⟨b1, b2, b3, b4⟩ := bitLen_bnds h0 h1
  obtain ⟨n, hn⟩ : ∃ n, n = Lib.bitLen m := ⟨_, rfl⟩
  rw [← hn] at b1 b2 b3 b4
  unfold spIdx spLast spShift
  rw [← hn]
  have hP : 0 < 2 ^ L := Nat.pow_pos (by decide)
  by_cases hk : n - 1 ≤ L
  · have e : n - 1 - L = 0 := by omega
    rw [e]
    simp only [Nat.zero_mul, Nat.pow_zero, Nat.div_one, Nat.zero_add]
    refine ⟨h0, ?_⟩
    have h2 : 2 ^ n ≤ 2 ^ (L + 1) := Nat.pow_le_pow_right (by decide) (by omega)
    rw [Nat.pow_succ] at h2
    have h3 : 2 * 2 ^ L ≤ (64 - L) * 2 ^ L := Nat.mul_le_mul_right _ (by omega)
    omega
  · obtain ⟨k, hk2⟩ : ∃ k, k = n - 1 - L := ⟨_, rfl⟩
    rw [← hk2]
    have e1 : 2 ^ (n - 1) = 2 ^ L * 2 ^ k := by rw [← Nat.pow_add]; congr 1; omega
    have hK : 0 < 2 ^ k := Nat.pow_pos (by decide)
    have h4 : 2 ^ L ≤ m / 2 ^ k := by rw [Nat.le_div_iff_mul_le hK]; omega
    refine ⟨by omega, ?_⟩
    -- by cases: below the top
    by_cases ht : m = two63
    · have e2 : 2 ^ (n - 1) ≤ two63 := by omega
      have en : n = 64 := by
        by_cases h : n = 64
        · exact h
        · have : 2 ^ n ≤ 2 ^ 63 := Nat.pow_le_pow_right (by decide) (by omega)
          unfold two63 at ht
          omega
      have e3 : m / 2 ^ k = 2 ^ L := by
        have : m = 2 ^ L * 2 ^ k := by rw [← e1, en, ht]; rfl
        rw [this, Nat.mul_div_cancel _ hK]
      rw [e3]
      have : k * 2 ^ L + 2 ^ L = (k + 1) * 2 ^ L := by rw [Nat.succ_mul]
      rw [this]
      exact Nat.mul_le_mul_right _ (by omega)
    · have hn63 : n ≤ 63 := by
        by_cases h : n ≤ 63
        · exact h
        · have : 2 ^ 63 ≤ 2 ^ (n - 1) := Nat.pow_le_pow_right (by decide) (by omega)
          unfold two63 at ht h1
          omega
      have h5 : m / 2 ^ k < 2 * 2 ^ L := by
        rw [Nat.div_lt_iff_lt_mul hK]
        have : 2 ^ n = 2 * 2 ^ L * 2 ^ k := by
          rw [Nat.mul_assoc, ← e1, ← Nat.pow_succ']
          congr 1
          omega
        omega
      have h6 : (k + 2) * 2 ^ L ≤ (64 - L) * 2 ^ L := Nat.mul_le_mul_right _ (by omega)
      rw [Nat.add_mul] at h6
      omega

theorem refAdd_lenE {l : List Pr} {i : Int} (hr : rises l) (h1 : ∀ p ∈ l, 1 ≤ p.c) {c : Nat} (hc : 1 ≤ c) : (refAdd l i c).length = l.length + (if cntI l i = 0 then 1 else 0) := by
  obtain ⟨A, M, B, h⟩ := parted hr i
  rw [refAdd, h.filter_lt, h.filter_gt, if_pos (by omega), h.cnt]
  have := congrArg List.length h.eq
  simp only [List.length_append, List.length_cons, List.length_nil] at this ⊢
  rcases h.mid with rfl | ⟨c0, rfl⟩
  · have hz : cntI [] i = 0 := rfl
    rw [hz, if_pos rfl]
    simp at this
    omega
  · have hz : cntI [⟨i, c0⟩] i = c0 := by simp [cntI]
    have := h1 ⟨i, c0⟩ (by rw [h.eq]; simp)
    rw [hz, if_neg (by simp only at this; omega)]
    simp only [List.length_cons, List.length_nil] at *
    omega
theorem cntI_refAdd {l : List Pr} {i j : Int} (hr : rises l) (c : Nat) : cntI (refAdd l i c) j = cntI l j + (if i = j then c else 0) := by
  obtain ⟨A, M, B, h⟩ := parted hr i
  have hcl : cntI l j = cntI A j + cntI M j + cntI B j := by rw [h.eq, cntI_app, cntI_app]
  rw [refAdd, h.filter_lt, h.filter_gt, h.cnt, cntI_app, cntI_app, hcl]
  by_cases hij : i = j
  · subst hij
    rw [if_pos rfl]
    have hA : cntI A i = 0 := cntI_none fun p hp => by have := h.lo p hp; omega
    have hB : cntI B i = 0 := cntI_none fun p hp => by have := h.hi p hp; omega
    rw [hA, hB]
    split
    · simp [cntI]
    · have : cntI [] i = 0 := rfl
      omega
  · rw [if_neg hij]
    have hM : cntI M j = 0 := by
      rcases h.mid with rfl | ⟨c0, rfl⟩
      · rfl
      · simp [cntI, hij]
    rw [hM]
    split
    · simp [cntI, hij]
    · have : cntI [] j = 0 := rfl
      omega
theorem RowHd.add {L : Nat} {r : List Pr} (h : RowHd L r) {i : Int} {c : Nat} (hi : 1 ≤ i ∧ i ≤ (spLast L : Int)) (hc : 1 ≤ c) (hroom : roomP r i = true) : RowHd L (refAdd r i c) := by
  refine ⟨refAdd_rises h.rises c, refAdd_pos h.pos c, ?_, fun p hp => ?_⟩
  · rw [refAdd_lenE h.rises h.pos hc]
    unfold roomP at hroom
    have hf := h.few
    split
    · rename_i h0
      simp [h0] at hroom
      omega
    · omega
  · rcases refAdd_memC hp with ⟨q, hq, e⟩ | e
    · rw [← e]; exact h.ix q hq
    · rw [e]; exact hi
theorem lackP_cons (r : List Pr) (p : Pr) (o : List Pr) : lackP r (p :: o) = lackP r o + (if cntI r p.i = 0 then 1 else 0) := by
  unfold lackP
  rw [List.filter_cons]
  by_cases h : cntI r p.i = 0 <;> simp [h]
theorem lackP_add {r : List Pr} (hr : rises r) {i : Int} {c : Nat} (o : List Pr) (h : ∀ q ∈ o, q.i ≠ i) : lackP (refAdd r i c) o = lackP r o := by
  unfold lackP
  congr 1
  apply List.filter_congr
  intro q hq
  rw [cntI_refAdd hr, if_neg (fun e => h q hq e.symm), Nat.add_zero]
theorem rowHd_addAll {L : Nat} : ∀ (o : List Pr) {r : List Pr}, RowHd L r → rises o → (∀ p ∈ o, 1 ≤ p.c) → (∀ p ∈ o, 1 ≤ p.i ∧ p.i ≤ (spLast L : Int)) → r.length + lackP r o ≤ 4096 →
    RowHd L (addAllP r o) ∧ totP (addAllP r o) = totP r + totP o ∧ ∀ k, k < o.length → ∀ (hk : k < o.length), roomP (addAllP r (o.take k)) (o[k]).i = true ∧ RowHd L (addAllP r (o.take k)) ∧ totP (addAllP r (o.take k)) = totP r + totP (o.take k)
  | [], r, h, _, _, _, _ => ⟨h, by simp [addAllP, totP], fun k hk => absurd hk (by simp)⟩
  | p :: o, r, h, hr, hp, hi, hl => by
    have hne : ∀ q ∈ o, q.i ≠ p.i := fun q hq e => by have := rises_head hr q hq; omega
    rw [lackP_cons] at hl
    have hroom : roomP r p.i = true := by
      unfold roomP
      by_cases h0 : cntI r p.i = 0
      · rw [if_pos h0] at hl
        simp [h0]; omega
      · simp [h0]
    have h1 := h.add (hi p (by simp)) (hp p (by simp)) hroom
    have hl2 : (refAdd r p.i p.c).length + lackP (refAdd r p.i p.c) o ≤ 4096 := by
      rw [refAdd_lenE h.rises h.pos (hp p (by simp)), lackP_add h.rises o hne]
      omega
    obtain ⟨a, b, c⟩ := rowHd_addAll o h1 (rises_tail hr) (fun q hq => hp q (by simp [hq])) (fun q hq => hi q (by simp [hq])) hl2
    have e : addAllP r (p :: o) = addAllP (refAdd r p.i p.c) o := rfl
    refine ⟨by rw [e]; exact a, by rw [e, b, refAdd_tot h.rises, totP_cons]; omega, fun k hk1 hk => ?_⟩
    cases k with
    | zero => exact ⟨hroom, h, by simp [totP, addAllP]⟩
    | succ k =>
      obtain ⟨d, e1, f⟩ := c k (by simpa using hk1) (by simpa using hk)
      refine ⟨d, e1, ?_⟩
      have e2 : addAllP r ((p :: o).take (k + 1)) = addAllP (refAdd r p.i p.c) (o.take k) := rfl
      rw [e2, f, refAdd_tot h.rises, List.take_succ_cons, totP_cons]
      omega
theorem HdD.idx_ok {D : HdD} (h : D.ok) {x : Int} (hx : -9223372036854775808 ≤ x ∧ x < 9223372036854775808) (h0 : x ≠ 0) : 1 ≤ D.idx x ∧ D.idx x ≤ (spLast D.L : Int) := by
  have hL : D.L ≤ 20 := by
    unfold HdD.L
    rcases logD_cases h.d1 h.d2 with e | e | e | e <;> rw [e] <;> decide
  have := spIdx_ok hL (m := x.natAbs) (by omega) (by unfold two63; omega)
  unfold HdD.idx
  omega
theorem HdD.put_ok {D : HdD} (h : D.ok) {x : Int} (hx : -9223372036854775808 ≤ x ∧ x < 9223372036854775808) (c : Nat) : (D.put x c).ok := by
  unfold HdD.put
  split
  case isFalse => exact h
  rename_i he
  unfold HdD.putE at he
  have hc : 1 ≤ c := by
    rcases Nat.eq_zero_or_pos c with e | e
    · rw [if_pos e] at he; exact absurd he (by decide)
    · exact e
  rw [if_neg (by omega)] at he
  by_cases h7 : 0 < D.limit ∧ D.limit < x.natAbs
  · rw [if_pos h7] at he; exact absurd he (by decide)
  rw [if_neg h7] at he
  by_cases h6 : 9223372036854775807 < D.total + c
  · rw [if_pos h6] at he; exact absurd he (by decide)
  rw [if_neg h6] at he
  have h2 := h.le
  have h3 := h.low
  have h4 := h.high
  have ht : D.total = totP D.minus + D.zero + totP D.plus := rfl
  unfold HdD.put1
  by_cases hx0 : x = 0
  · rw [if_pos hx0]
    unfold HdD.ends
    split
    · exact ⟨h.d1, h.d2, h.lim, h.minus, h.plus, by unfold HdD.total; simp only; omega, fun e => by unfold HdD.total at e; simp only at e; omega, Int.le_refl _, hx.1, hx.2⟩
    · exact ⟨h.d1, h.d2, h.lim, h.minus, h.plus, by unfold HdD.total; simp only; omega, fun e => by unfold HdD.total at e; simp only at e; omega, by simp only; omega, by simp only; omega, by simp only; omega⟩
  rw [if_neg hx0]
  have hroom : roomP (D.side x) (D.idx x) = true := by
    cases hr : roomP (D.side x) (D.idx x) with
    | true => rfl
    | false => rw [if_pos ⟨hx0, hr⟩] at he; exact absurd he (by decide)
  have hi := HdD.idx_ok h hx hx0
  unfold HdD.side at hroom ⊢
  by_cases hneg : x < 0
  · rw [if_pos hneg] at hroom ⊢
    have hrow := h.minus.add hi hc hroom
    have htt := refAdd_tot (i := D.idx x) h.minus.rises c
    unfold HdD.setSide HdD.ends
    rw [if_pos hneg]
    split
    · exact ⟨h.d1, h.d2, h.lim, hrow, h.plus, by unfold HdD.total; simp only; omega, fun e => by unfold HdD.total at e; simp only at e; omega, Int.le_refl _, hx.1, hx.2⟩
    · exact ⟨h.d1, h.d2, h.lim, hrow, h.plus, by unfold HdD.total; simp only; omega, fun e => by unfold HdD.total at e; simp only at e; omega, by simp only; omega, by simp only; omega, by simp only; omega⟩
  · rw [if_neg hneg] at hroom ⊢
    have hrow := h.plus.add hi hc hroom
    have htt := refAdd_tot (i := D.idx x) h.plus.rises c
    unfold HdD.setSide HdD.ends
    rw [if_neg hneg]
    split
    · exact ⟨h.d1, h.d2, h.lim, h.minus, hrow, by unfold HdD.total; simp only; omega, fun e => by unfold HdD.total at e; simp only at e; omega, Int.le_refl _, hx.1, hx.2⟩
    · exact ⟨h.d1, h.d2, h.lim, h.minus, hrow, by unfold HdD.total; simp only; omega, fun e => by unfold HdD.total at e; simp only at e; omega, by simp only; omega, by simp only; omega, by simp only; omega⟩
theorem HdD.join_ok {D O : HdD} (h : D.ok) (k : O.ok) : (D.join O).ok := by
  unfold HdD.join
  split
  case isFalse => exact h
  rename_i hc
  obtain ⟨he, h0⟩ := hc
  unfold HdD.joinE at he
  by_cases hd : D.digits ≠ O.digits
  · rw [if_pos hd] at he; exact absurd he (by decide)
  rw [if_neg hd, if_neg h0] at he
  by_cases h7 : 0 < D.limit ∧ D.limit < max O.least.natAbs O.most.natAbs
  · rw [if_pos h7] at he; exact absurd he (by decide)
  rw [if_neg h7] at he
  by_cases h6 : 9223372036854775807 < D.total + O.total
  · rw [if_pos h6] at he; exact absurd he (by decide)
  rw [if_neg h6] at he
  have hf : D.fits O = true := by
    cases hr : D.fits O with
    | true => rfl
    | false => rw [if_pos hr] at he; exact absurd he (by decide)
  unfold HdD.fits at hf
  simp only [Bool.and_eq_true, decide_eq_true_eq] at hf
  have eL : O.L = D.L := by unfold HdD.L; rw [Classical.not_not.1 hd]
  have k1 := k.minus
  have k2 := k.plus
  rw [eL] at k1 k2
  obtain ⟨a1, a2, -⟩ := rowHd_addAll O.minus h.minus k1.rises k1.pos k1.ix hf.1
  obtain ⟨b1, b2, -⟩ := rowHd_addAll O.plus h.plus k2.rises k2.pos k2.ix hf.2
  have h2 := h.le
  have h3 := h.low
  have h4 := h.high
  have k2 := k.le
  have k3 := k.low
  have k4 := k.high
  have ht : D.total = totP D.minus + D.zero + totP D.plus := rfl
  have kt : O.total = totP O.minus + O.zero + totP O.plus := rfl
  unfold HdD.join1 HdD.ends
  split
  · exact ⟨h.d1, h.d2, h.lim, a1, b1, by unfold HdD.total; simp only; omega, fun e => by unfold HdD.total at e; simp only at e; omega, k2, k3, k4⟩
  · exact ⟨h.d1, h.d2, h.lim, a1, b1, by unfold HdD.total; simp only; omega, fun e => by unfold HdD.total at e; simp only at e; omega, by simp only; omega, by simp only; omega, by simp only; omega⟩
end Go.Proofs.YtmehcfocfljoeaaGreatDoor

namespace Go.Proofs.YtmehcfocfljoeaaGreatDoor
open Go.RowKit

/-- The powers of ten, as they are laid. -/
structure Tens4 (w : World) : Prop where
  t1 : w.cell? ⟨0, 1, none⟩ = some (.int .u64 10)
  t2 : w.cell? ⟨0, 2, none⟩ = some (.int .u64 100)
  t3 : w.cell? ⟨0, 3, none⟩ = some (.int .u64 1000)
  t4 : w.cell? ⟨0, 4, none⟩ = some (.int .u64 10000)
theorem Tens4.chg {w w1 : World} (h : Tens4 w) (k : Chg [] w w1) : Tens4 w1 := ⟨k.cell h.t1 (by simp), k.cell h.t2 (by simp), k.cell h.t3 (by simp), k.cell h.t4 (by simp)⟩
def SpanS (w : World) (p d : Nat) : Prop := Blk w p #[.int .i64 (d : Int), .int .i64 (logD d : Nat)] 278
def NewSpan (w w' : World) (d : Int) (e : Ending) : Prop :=
  (¬ (1 ≤ d ∧ d ≤ 4) ∧ e = .returned (.tuple #[.pointer none, .int .i64 1]) ∧ Chg [] w w') ∨
  ((1 ≤ d ∧ d ≤ 4) ∧ ∃ p, e = .returned (.tuple #[.pointer (some ⟨p, 0, none⟩), .int .i64 0]) ∧ SpanS w' p d.toNat ∧ Chg [] w w' ∧ w.heap.size ≤ p)
set_option maxRecDepth 100000 in
set_option maxHeartbeats 8000000 in
theorem spans_newD1 (w : World) (ht : w.cell? ⟨0, 1, none⟩ = some (.int .u64 10)) : Calls Tryz.prog 101 #[.int .i64 1] w fun e w' => e = .returned (.tuple #[.pointer (some ⟨w.heap.size, 0, none⟩), .int .i64 0]) ∧ Blk w' w.heap.size #[.int .i64 1, .int .i64 4] 278 ∧ Chg [] w w' := by
  go_enter Tryz.func101, Tryz.ntmps101
  go_wp2_with fail
  go_loopg [] 4 (fun g wx => g ≤ 4 ∧ Blk wx w.heap.size #[.int .i64 1, .int .i64 ((4 - g : Nat) : Int)] 278 ∧ Chg [] w wx)
  case atStart => exact ⟨Nat.le_refl _, Blk.alloc_new w _ _, (Chg.refl [] w).alloc _⟩
  case round =>
    obtain ⟨hg, hb, hc⟩ := hrel
    have c1 := hb.cell 1
    have f1 := hb.free 1
    have t1 := hc.cell ht (by simp)
    simp only [List.getElem?_toArray, List.getElem?_cons_succ, List.getElem?_cons_zero] at c1
    have HB := Lib.hid hb
    have HC := Lib.hid hc
    clear hb hc
    rcases (show gk = 0 ∨ gk = 1 ∨ gk = 2 ∨ gk = 3 ∨ gk = 4 by omega) with rfl | rfl | rfl | rfl | rfl
    · go_wp2_with fail
      go_quiet (fail)
      go_wp2
      go_ret2
      exact ⟨rfl, HB.out, HC.out.drewN _⟩
    · go_wp2_with fail
      go_quiet (fail)
      go_wp2
      go_roundg 0
      case measure => omega
      case rel => exact ⟨by omega, HB.out.setCell 1 _, (HC.out.drewN nq).setCell (a := ⟨w.heap.size, 1, none⟩) (.inr (Nat.le_refl _)) _⟩
    · go_wp2_with fail
      go_quiet (fail)
      go_wp2
      go_roundg 1
      case measure => omega
      case rel => exact ⟨by omega, HB.out.setCell 1 _, (HC.out.drewN nq).setCell (a := ⟨w.heap.size, 1, none⟩) (.inr (Nat.le_refl _)) _⟩
    · go_wp2_with fail
      go_quiet (fail)
      go_wp2
      go_roundg 2
      case measure => omega
      case rel => exact ⟨by omega, HB.out.setCell 1 _, (HC.out.drewN nq).setCell (a := ⟨w.heap.size, 1, none⟩) (.inr (Nat.le_refl _)) _⟩
    · go_wp2_with fail
      go_quiet (fail)
      go_wp2
      go_roundg 3
      case measure => omega
      case rel => exact ⟨by omega, HB.out.setCell 1 _, (HC.out.drewN nq).setCell (a := ⟨w.heap.size, 1, none⟩) (.inr (Nat.le_refl _)) _⟩
set_option maxRecDepth 100000 in
set_option maxHeartbeats 8000000 in
theorem spans_newD2 (w : World) (ht : w.cell? ⟨0, 2, none⟩ = some (.int .u64 100)) : Calls Tryz.prog 101 #[.int .i64 2] w fun e w' => e = .returned (.tuple #[.pointer (some ⟨w.heap.size, 0, none⟩), .int .i64 0]) ∧ Blk w' w.heap.size #[.int .i64 2, .int .i64 7] 278 ∧ Chg [] w w' := by
  go_enter Tryz.func101, Tryz.ntmps101
  go_wp2_with fail
  go_loopg [] 7 (fun g wx => g ≤ 7 ∧ Blk wx w.heap.size #[.int .i64 2, .int .i64 ((7 - g : Nat) : Int)] 278 ∧ Chg [] w wx)
  case atStart => exact ⟨Nat.le_refl _, Blk.alloc_new w _ _, (Chg.refl [] w).alloc _⟩
  case round =>
    obtain ⟨hg, hb, hc⟩ := hrel
    have c1 := hb.cell 1
    have f1 := hb.free 1
    have t1 := hc.cell ht (by simp)
    simp only [List.getElem?_toArray, List.getElem?_cons_succ, List.getElem?_cons_zero] at c1
    have HB := Lib.hid hb
    have HC := Lib.hid hc
    clear hb hc
    rcases (show gk = 0 ∨ gk = 1 ∨ gk = 2 ∨ gk = 3 ∨ gk = 4 ∨ gk = 5 ∨ gk = 6 ∨ gk = 7 by omega) with rfl | rfl | rfl | rfl | rfl | rfl | rfl | rfl
    · go_wp2_with fail
      go_quiet (fail)
      go_wp2
      go_ret2
      exact ⟨rfl, HB.out, HC.out.drewN _⟩
    · go_wp2_with fail
      go_quiet (fail)
      go_wp2
      go_roundg 0
      case measure => omega
      case rel => exact ⟨by omega, HB.out.setCell 1 _, (HC.out.drewN nq).setCell (a := ⟨w.heap.size, 1, none⟩) (.inr (Nat.le_refl _)) _⟩
    · go_wp2_with fail
      go_quiet (fail)
      go_wp2
      go_roundg 1
      case measure => omega
      case rel => exact ⟨by omega, HB.out.setCell 1 _, (HC.out.drewN nq).setCell (a := ⟨w.heap.size, 1, none⟩) (.inr (Nat.le_refl _)) _⟩
    · go_wp2_with fail
      go_quiet (fail)
      go_wp2
      go_roundg 2
      case measure => omega
      case rel => exact ⟨by omega, HB.out.setCell 1 _, (HC.out.drewN nq).setCell (a := ⟨w.heap.size, 1, none⟩) (.inr (Nat.le_refl _)) _⟩
    · go_wp2_with fail
      go_quiet (fail)
      go_wp2
      go_roundg 3
      case measure => omega
      case rel => exact ⟨by omega, HB.out.setCell 1 _, (HC.out.drewN nq).setCell (a := ⟨w.heap.size, 1, none⟩) (.inr (Nat.le_refl _)) _⟩
    · go_wp2_with fail
      go_quiet (fail)
      go_wp2
      go_roundg 4
      case measure => omega
      case rel => exact ⟨by omega, HB.out.setCell 1 _, (HC.out.drewN nq).setCell (a := ⟨w.heap.size, 1, none⟩) (.inr (Nat.le_refl _)) _⟩
    · go_wp2_with fail
      go_quiet (fail)
      go_wp2
      go_roundg 5
      case measure => omega
      case rel => exact ⟨by omega, HB.out.setCell 1 _, (HC.out.drewN nq).setCell (a := ⟨w.heap.size, 1, none⟩) (.inr (Nat.le_refl _)) _⟩
    · go_wp2_with fail
      go_quiet (fail)
      go_wp2
      go_roundg 6
      case measure => omega
      case rel => exact ⟨by omega, HB.out.setCell 1 _, (HC.out.drewN nq).setCell (a := ⟨w.heap.size, 1, none⟩) (.inr (Nat.le_refl _)) _⟩
set_option maxRecDepth 100000 in
set_option maxHeartbeats 8000000 in
theorem spans_newD3 (w : World) (ht : w.cell? ⟨0, 3, none⟩ = some (.int .u64 1000)) : Calls Tryz.prog 101 #[.int .i64 3] w fun e w' => e = .returned (.tuple #[.pointer (some ⟨w.heap.size, 0, none⟩), .int .i64 0]) ∧ Blk w' w.heap.size #[.int .i64 3, .int .i64 10] 278 ∧ Chg [] w w' := by
  go_enter Tryz.func101, Tryz.ntmps101
  go_wp2_with fail
  go_loopg [] 10 (fun g wx => g ≤ 10 ∧ Blk wx w.heap.size #[.int .i64 3, .int .i64 ((10 - g : Nat) : Int)] 278 ∧ Chg [] w wx)
  case atStart => exact ⟨Nat.le_refl _, Blk.alloc_new w _ _, (Chg.refl [] w).alloc _⟩
  case round =>
    obtain ⟨hg, hb, hc⟩ := hrel
    have c1 := hb.cell 1
    have f1 := hb.free 1
    have t1 := hc.cell ht (by simp)
    simp only [List.getElem?_toArray, List.getElem?_cons_succ, List.getElem?_cons_zero] at c1
    have HB := Lib.hid hb
    have HC := Lib.hid hc
    clear hb hc
    rcases (show gk = 0 ∨ gk = 1 ∨ gk = 2 ∨ gk = 3 ∨ gk = 4 ∨ gk = 5 ∨ gk = 6 ∨ gk = 7 ∨ gk = 8 ∨ gk = 9 ∨ gk = 10 by omega) with rfl | rfl | rfl | rfl | rfl | rfl | rfl | rfl | rfl | rfl | rfl
    · go_wp2_with fail
      go_quiet (fail)
      go_wp2
      go_ret2
      exact ⟨rfl, HB.out, HC.out.drewN _⟩
    · go_wp2_with fail
      go_quiet (fail)
      go_wp2
      go_roundg 0
      case measure => omega
      case rel => exact ⟨by omega, HB.out.setCell 1 _, (HC.out.drewN nq).setCell (a := ⟨w.heap.size, 1, none⟩) (.inr (Nat.le_refl _)) _⟩
    · go_wp2_with fail
      go_quiet (fail)
      go_wp2
      go_roundg 1
      case measure => omega
      case rel => exact ⟨by omega, HB.out.setCell 1 _, (HC.out.drewN nq).setCell (a := ⟨w.heap.size, 1, none⟩) (.inr (Nat.le_refl _)) _⟩
    · go_wp2_with fail
      go_quiet (fail)
      go_wp2
      go_roundg 2
      case measure => omega
      case rel => exact ⟨by omega, HB.out.setCell 1 _, (HC.out.drewN nq).setCell (a := ⟨w.heap.size, 1, none⟩) (.inr (Nat.le_refl _)) _⟩
    · go_wp2_with fail
      go_quiet (fail)
      go_wp2
      go_roundg 3
      case measure => omega
      case rel => exact ⟨by omega, HB.out.setCell 1 _, (HC.out.drewN nq).setCell (a := ⟨w.heap.size, 1, none⟩) (.inr (Nat.le_refl _)) _⟩
    · go_wp2_with fail
      go_quiet (fail)
      go_wp2
      go_roundg 4
      case measure => omega
      case rel => exact ⟨by omega, HB.out.setCell 1 _, (HC.out.drewN nq).setCell (a := ⟨w.heap.size, 1, none⟩) (.inr (Nat.le_refl _)) _⟩
    · go_wp2_with fail
      go_quiet (fail)
      go_wp2
      go_roundg 5
      case measure => omega
      case rel => exact ⟨by omega, HB.out.setCell 1 _, (HC.out.drewN nq).setCell (a := ⟨w.heap.size, 1, none⟩) (.inr (Nat.le_refl _)) _⟩
    · go_wp2_with fail
      go_quiet (fail)
      go_wp2
      go_roundg 6
      case measure => omega
      case rel => exact ⟨by omega, HB.out.setCell 1 _, (HC.out.drewN nq).setCell (a := ⟨w.heap.size, 1, none⟩) (.inr (Nat.le_refl _)) _⟩
    · go_wp2_with fail
      go_quiet (fail)
      go_wp2
      go_roundg 7
      case measure => omega
      case rel => exact ⟨by omega, HB.out.setCell 1 _, (HC.out.drewN nq).setCell (a := ⟨w.heap.size, 1, none⟩) (.inr (Nat.le_refl _)) _⟩
    · go_wp2_with fail
      go_quiet (fail)
      go_wp2
      go_roundg 8
      case measure => omega
      case rel => exact ⟨by omega, HB.out.setCell 1 _, (HC.out.drewN nq).setCell (a := ⟨w.heap.size, 1, none⟩) (.inr (Nat.le_refl _)) _⟩
    · go_wp2_with fail
      go_quiet (fail)
      go_wp2
      go_roundg 9
      case measure => omega
      case rel => exact ⟨by omega, HB.out.setCell 1 _, (HC.out.drewN nq).setCell (a := ⟨w.heap.size, 1, none⟩) (.inr (Nat.le_refl _)) _⟩
set_option maxRecDepth 100000 in
set_option maxHeartbeats 8000000 in
theorem spans_newD4 (w : World) (ht : w.cell? ⟨0, 4, none⟩ = some (.int .u64 10000)) : Calls Tryz.prog 101 #[.int .i64 4] w fun e w' => e = .returned (.tuple #[.pointer (some ⟨w.heap.size, 0, none⟩), .int .i64 0]) ∧ Blk w' w.heap.size #[.int .i64 4, .int .i64 14] 278 ∧ Chg [] w w' := by
  go_enter Tryz.func101, Tryz.ntmps101
  go_wp2_with fail
  go_loopg [] 14 (fun g wx => g ≤ 14 ∧ Blk wx w.heap.size #[.int .i64 4, .int .i64 ((14 - g : Nat) : Int)] 278 ∧ Chg [] w wx)
  case atStart => exact ⟨Nat.le_refl _, Blk.alloc_new w _ _, (Chg.refl [] w).alloc _⟩
  case round =>
    obtain ⟨hg, hb, hc⟩ := hrel
    have c1 := hb.cell 1
    have f1 := hb.free 1
    have t1 := hc.cell ht (by simp)
    simp only [List.getElem?_toArray, List.getElem?_cons_succ, List.getElem?_cons_zero] at c1
    have HB := Lib.hid hb
    have HC := Lib.hid hc
    clear hb hc
    rcases (show gk = 0 ∨ gk = 1 ∨ gk = 2 ∨ gk = 3 ∨ gk = 4 ∨ gk = 5 ∨ gk = 6 ∨ gk = 7 ∨ gk = 8 ∨ gk = 9 ∨ gk = 10 ∨ gk = 11 ∨ gk = 12 ∨ gk = 13 ∨ gk = 14 by omega) with rfl | rfl | rfl | rfl | rfl | rfl | rfl | rfl | rfl | rfl | rfl | rfl | rfl | rfl | rfl
    · go_wp2_with fail
      go_quiet (fail)
      go_wp2
      go_ret2
      exact ⟨rfl, HB.out, HC.out.drewN _⟩
    · go_wp2_with fail
      go_quiet (fail)
      go_wp2
      go_roundg 0
      case measure => omega
      case rel => exact ⟨by omega, HB.out.setCell 1 _, (HC.out.drewN nq).setCell (a := ⟨w.heap.size, 1, none⟩) (.inr (Nat.le_refl _)) _⟩
    · go_wp2_with fail
      go_quiet (fail)
      go_wp2
      go_roundg 1
      case measure => omega
      case rel => exact ⟨by omega, HB.out.setCell 1 _, (HC.out.drewN nq).setCell (a := ⟨w.heap.size, 1, none⟩) (.inr (Nat.le_refl _)) _⟩
    · go_wp2_with fail
      go_quiet (fail)
      go_wp2
      go_roundg 2
      case measure => omega
      case rel => exact ⟨by omega, HB.out.setCell 1 _, (HC.out.drewN nq).setCell (a := ⟨w.heap.size, 1, none⟩) (.inr (Nat.le_refl _)) _⟩
    · go_wp2_with fail
      go_quiet (fail)
      go_wp2
      go_roundg 3
      case measure => omega
      case rel => exact ⟨by omega, HB.out.setCell 1 _, (HC.out.drewN nq).setCell (a := ⟨w.heap.size, 1, none⟩) (.inr (Nat.le_refl _)) _⟩
    · go_wp2_with fail
      go_quiet (fail)
      go_wp2
      go_roundg 4
      case measure => omega
      case rel => exact ⟨by omega, HB.out.setCell 1 _, (HC.out.drewN nq).setCell (a := ⟨w.heap.size, 1, none⟩) (.inr (Nat.le_refl _)) _⟩
    · go_wp2_with fail
      go_quiet (fail)
      go_wp2
      go_roundg 5
      case measure => omega
      case rel => exact ⟨by omega, HB.out.setCell 1 _, (HC.out.drewN nq).setCell (a := ⟨w.heap.size, 1, none⟩) (.inr (Nat.le_refl _)) _⟩
    · go_wp2_with fail
      go_quiet (fail)
      go_wp2
      go_roundg 6
      case measure => omega
      case rel => exact ⟨by omega, HB.out.setCell 1 _, (HC.out.drewN nq).setCell (a := ⟨w.heap.size, 1, none⟩) (.inr (Nat.le_refl _)) _⟩
    · go_wp2_with fail
      go_quiet (fail)
      go_wp2
      go_roundg 7
      case measure => omega
      case rel => exact ⟨by omega, HB.out.setCell 1 _, (HC.out.drewN nq).setCell (a := ⟨w.heap.size, 1, none⟩) (.inr (Nat.le_refl _)) _⟩
    · go_wp2_with fail
      go_quiet (fail)
      go_wp2
      go_roundg 8
      case measure => omega
      case rel => exact ⟨by omega, HB.out.setCell 1 _, (HC.out.drewN nq).setCell (a := ⟨w.heap.size, 1, none⟩) (.inr (Nat.le_refl _)) _⟩
    · go_wp2_with fail
      go_quiet (fail)
      go_wp2
      go_roundg 9
      case measure => omega
      case rel => exact ⟨by omega, HB.out.setCell 1 _, (HC.out.drewN nq).setCell (a := ⟨w.heap.size, 1, none⟩) (.inr (Nat.le_refl _)) _⟩
    · go_wp2_with fail
      go_quiet (fail)
      go_wp2
      go_roundg 10
      case measure => omega
      case rel => exact ⟨by omega, HB.out.setCell 1 _, (HC.out.drewN nq).setCell (a := ⟨w.heap.size, 1, none⟩) (.inr (Nat.le_refl _)) _⟩
    · go_wp2_with fail
      go_quiet (fail)
      go_wp2
      go_roundg 11
      case measure => omega
      case rel => exact ⟨by omega, HB.out.setCell 1 _, (HC.out.drewN nq).setCell (a := ⟨w.heap.size, 1, none⟩) (.inr (Nat.le_refl _)) _⟩
    · go_wp2_with fail
      go_quiet (fail)
      go_wp2
      go_roundg 12
      case measure => omega
      case rel => exact ⟨by omega, HB.out.setCell 1 _, (HC.out.drewN nq).setCell (a := ⟨w.heap.size, 1, none⟩) (.inr (Nat.le_refl _)) _⟩
    · go_wp2_with fail
      go_quiet (fail)
      go_wp2
      go_roundg 13
      case measure => omega
      case rel => exact ⟨by omega, HB.out.setCell 1 _, (HC.out.drewN nq).setCell (a := ⟨w.heap.size, 1, none⟩) (.inr (Nat.le_refl _)) _⟩
set_option maxRecDepth 100000 in
theorem spans_new (w : World) (ht : Tens4 w) (d : Int) : Calls Tryz.prog 101 #[.int .i64 d] w fun e w' => NewSpan w w' d e := by
  by_cases h : 1 ≤ d ∧ d ≤ 4
  · have key : ∀ (k l : Nat), d = (k : Int) → logD k = l → 1 ≤ k → k ≤ 4 → (Calls Tryz.prog 101 #[.int .i64 (k : Int)] w fun e w' => e = .returned (.tuple #[.pointer (some ⟨w.heap.size, 0, none⟩), .int .i64 0]) ∧ Blk w' w.heap.size #[.int .i64 (k : Int), .int .i64 (l : Int)] 278 ∧ Chg [] w w') → Calls Tryz.prog 101 #[.int .i64 d] w fun e w' => NewSpan w w' d e := by
      intro k l hd hl h1 h2 hc
      subst hd
      refine hc.mono ?_
      rintro e w' ⟨rfl, hb, hk⟩
      exact .inr ⟨h, w.heap.size, rfl, by unfold SpanS; rw [Int.toNat_natCast, hl]; exact hb, hk, Nat.le_refl _⟩
    rcases (show d = 1 ∨ d = 2 ∨ d = 3 ∨ d = 4 by omega) with rfl | rfl | rfl | rfl
    · exact key 1 4 rfl rfl (by omega) (by omega) (spans_newD1 w ht.t1)
    · exact key 2 7 rfl rfl (by omega) (by omega) (spans_newD2 w ht.t2)
    · exact key 3 10 rfl rfl (by omega) (by omega) (spans_newD3 w ht.t3)
    · exact key 4 14 rfl rfl (by omega) (by omega) (spans_newD4 w ht.t4)
  · have H := Lib.hid h
    by_cases h1 : d < 1
    · have d1 : decide (d < 1) = true := decide_eq_true h1
      clear h h1
      go_enter Tryz.func101, Tryz.ntmps101
      go_wp2
      go_ret2
      exact .inl ⟨H.out, rfl, Chg.refl _ _⟩
    · have d1 : decide (d < 1) = false := decide_eq_false h1
      have d2 : decide (4 < d) = true := decide_eq_true (by omega)
      clear h h1
      go_enter Tryz.func101, Tryz.ntmps101
      go_wp2
      go_ret2
      exact .inl ⟨H.out, rfl, Chg.refl _ _⟩
end Go.Proofs.YtmehcfocfljoeaaGreatDoor
