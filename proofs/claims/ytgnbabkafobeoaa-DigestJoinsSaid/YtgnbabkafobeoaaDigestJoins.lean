/-
  The statement DigestJoins: for every input the law returns true, and its arguments read as they did. Conditions: none but the form's own.
-/
import Derived.Test.YtgnbabkafobeoaaRows
import Derived.Test.YtgnbabkafobeoaaDigestJoinsW
import Derived.Test.YtgnbabkafobeoaaLawBase
import Derived.Test.YtgnbabkafobeoaaValOpen
import Derived.Test.YtgnbabkafobeoaaDCfgOpen
import Derived.Test.YtgnbabkafobeoaaRanges
namespace Go.Proofs.Ytgnbabkafobeoaa.digestJoins
open Go.ChangeShapes Go.WideShapes Go.ChangeAt Go.RowKit

theorem own : ownKnob Try.prog.godebug = none := by kernel_rfl
theorem laidOut : laidOutB Try.prog = true := by kernel_rfl

set_option maxRecDepth 100000 in
theorem lifted (os : Os) (started : os.Started) (H : Type) (enc : TypeId × Value → H) :
    ReturnsInHanded {} Try.checked os 6 .any (Rows.digestJoinsSpec.pre6 enc Try.prog Try.f6 Rows.digestJoinsRow.domain false) (Rows.digestJoinsSpec.post enc Try.prog Try.f6 false true false false) := by
  refine returnsInHanded_of_change_sized (C := Try.checked) own started (by kernel_rfl) Try.func6
    (ChangeSpec.witness6 (enc := enc) (C := Try.checked) false ⟨#[], #[.agg #[.int .i64 0, .int .i64 0], .slice none 0 0, .slice none 0 0, .agg #[.int .u64 0, .int .u64 0]], []⟩ 8 (by kernel_rfl) (by kernel_rfl) (by kernel_rfl) (by kernel_rfl)) ?_
  intro W base args ds gs before hval0 hW hcnd hsz0 _
  have hval : ∀ (j : Nat) t v, Try.f6.params[j]? = some t → args[j]? = some v → Value.okWide Try.prog W .any base t v := hval0
  have hW' := hW
  obtain ⟨p, q, hA0, hV, rfl, _, _⟩ := hW
  have hA : DataW.TrodAll enc Try.prog W 0 (fun _ => true) true Try.f6.params.toList args.toList ds p := hA0
  obtain ⟨rfl, rfl⟩ := trodVars_none hV
  have hsz : (DataW.weightsEach Try.prog Try.f6.params.toList ds).all (· ≤ reachBytes) = true := by
    have h : (DataW.weightsEach Try.prog (Try.f6.params.toList ++ []) (ds ++ [])).all (· ≤ reachBytes) = true := hsz0
    rw [List.append_nil, List.append_nil] at h
    exact h
  rw [Try.params6] at hA hval hsz
  obtain ⟨v0, vs0, d0, ds0, p0, q0, hargs, rfl, rfl, h0, r0⟩ := trodAll_cons hA
  obtain ⟨hz0, hsz⟩ := reached_cons hsz
  obtain ⟨v1, vs1, d1, ds1, p1, q1, rfl, rfl, rfl, h1, r1⟩ := trodAll_cons r0
  obtain ⟨hz1, hsz⟩ := reached_cons hsz
  obtain ⟨v2, vs2, d2, ds2, p2, q2, rfl, rfl, rfl, h2, r2⟩ := trodAll_cons r1
  obtain ⟨hz2, hsz⟩ := reached_cons hsz
  obtain ⟨v3, vs3, d3, ds3, p3, q3, rfl, rfl, rfl, h3, r3⟩ := trodAll_cons r2
  obtain ⟨hz3, hsz⟩ := reached_cons hsz
  obtain ⟨rfl, rfl, rfl⟩ := trodAll_nil r3
  obtain rfl : args = #[v0, v1, v2, v3] := by cases args; simp_all
  clear hA0 hval0 hsz0
  obtain ⟨cd0, cf0, rfl, hda0, hdb0, hfa0, hfb0⟩ := dcfg_open (hval 0 23 v0 rfl rfl) h0
  obtain ⟨ao1, cp1, a1, rfl, hr1, hl1, hk1⟩ := vals_open (hval 1 24 v1 rfl rfl) h1 hz1
  obtain ⟨ao2, cp2, a2, rfl, hr2, hl2, hk2⟩ := vals_open (hval 2 24 v2 rfl rfl) h2 hz2
  obtain ⟨rn3, rd3, rfl, hrn3, hrd3⟩ := ratio_open (hval 3 27 v3 rfl rfl) h3
  refine (law_DigestJoins W cd0 cf0 hda0 hdb0 hfa0 hfb0 ao1 cp1 a1 hr1 hl1 hk1 ao2 cp2 a2 hr2 hl2 hk2 rn3 rd3 hrn3 hrd3).mono fun e W' ⟨he, hb⟩ => ?_
  subst he
  exact ⟨_, rfl, post_law laidOut (by kernel_rfl) Try.underlying4 rfl rfl rfl rfl rfl hW' hb.below⟩

theorem over : Rows.digestJoinsRow.holds Try.pinned (OpenSpec.ofChange Rows.digestJoinsSpec) :=
  OpenClaim.holds_of_wide 6 Try.f6 rfl rfl rfl rfl rfl rfl rfl ⟨rfl, rfl, rfl, rfl, rfl⟩ rfl rfl rfl rfl rfl (by kernel_rfl) Try.func6 (by kernel_rfl)
    (of_decide_eq_true (by kernel_rfl)) (by unfold Func.isWrapper; first | (rw [if_pos (by decide +kernel)]; kernel_rfl) | (rw [if_neg (by decide +kernel)]; exact ⟨rfl, rfl⟩))
    (fun os started H enc _ => lifted os started H enc)

/-- The statement. -/
theorem proved : Rows.DigestJoinsSaid := over
#print axioms proved
end Go.Proofs.Ytgnbabkafobeoaa.digestJoins
