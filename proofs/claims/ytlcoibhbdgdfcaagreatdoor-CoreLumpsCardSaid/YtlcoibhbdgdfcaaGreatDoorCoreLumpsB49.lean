/-
  The statement CoreLumps, as a tied card: for every input the law returns true, and its arguments read as they did. Conditions: none but the form's own; that the powers of ten read as the program's text lays them.
-/
import Derived.Test.YtlcoibhbdgdfcaaGreatDoorRows
import Derived.Test.YtlcoibhbdgdfcaaGreatDoorTie
import Derived.Test.YtlcoibhbdgdfcaaGreatDoorCards
import Derived.Test.YtlcoibhbdgdfcaaGreatDoorCoreLumpsB3
import Derived.Test.YtlcoibhbdgdfcaaGreatDoorCoreLumpsB48
import Derived.LaidMore
import Derived.Stop.Joined
import Derived.SevenTiedAt
namespace Go.Proofs.YtlcoibhbdgdfcaaGreatDoor.coreLumps
open Go.ChangeShapes Go.WideShapes Go.ChangeAt Go.RowKit

theorem own : ownKnob Tryz.prog.godebug = none := by kernel_rfl
theorem laidOut : laidOutB Tryz.prog = true := by kernel_rfl
theorem gTens : Tryz.prog.globalNamed "ogive/spans.tens" = some 0 := by kernel_rfl
theorem tTens : (Tryz.prog.globals[0]?).map (·.type) = some 255 := by kernel_rfl
theorem cU : Tryz.prog.cellsOf 25 = 1 := by kernel_rfl
def laid1 : List (String × DataW Unit) := [("ogive/spans.tens", Rows.laid_ogive_spans_tens)]
/-- A world that meets the condition: the settled one, the variable's cells laid. -/
noncomputable def laidWorld (os : Os) : World :=
  let w0 := World.holding Tryz.prog os ⟨#[], #[], []⟩
  { w0 with heap := w0.heap.modify 0 fun
      | .cells _ t frozen => .cells #[.int .u64 1, .int .u64 10, .int .u64 100, .int .u64 1000, .int .u64 10000] t frozen
      | o => o }
theorem laidWorld_met (os : Os) (args : Array Value) : laidMetH Tryz.prog laid1 ((laidWorld os).forCall (fun _ _ => 0) ⟨#[], args, []⟩).memory :=
  laidMetH_of_parts (laidMet_of_run' 8 (by kernel_rfl) (by kernel_rfl)) (by kernel_rfl)
set_option maxRecDepth 100000 in
/-- What the condition gives the walk. -/
theorem of_laid {W : World} (h : laidMetH Tryz.prog laid1 W) : W.cell? ⟨0, 1, none⟩ = some (.int .u64 10) := by
  rw [MakeChecks.laidMetH_plain _ _ _ (by kernel_rfl)] at h
  obtain ⟨ps, ⟨g0, t0, cs0, f0, p0, q0, hg0, ht0, hv0, hd0, _, _⟩, _, _⟩ := h
  obtain rfl := Option.some.inj (gTens.symm.trans hg0)
  obtain rfl := Option.some.inj (tTens.symm.trans ht0)
  obtain ⟨xs, m1, rfl, hx1, hlen, hn3, hel⟩ := DataW.trod_array Tryz.underlying255 hd0
  have h0 := hel 1 (by decide)
  simp only [Prod.mk.injEq, Rows.laid_ogive_spans_tens, DataW.agg.injEq] at hx1
  match xs, hn3, hx1, h0 with
  | [x0, x1, x2, x3, x4], _, hx1, h0 =>
    simp only [List.map_cons, List.map_nil, List.cons.injEq] at hx1
    obtain ⟨k, e1, e2, _⟩ := DataW.trod_int Tryz.underlying25 (show DataW.trod _ Tryz.prog W 0 _ false m1 25 _ = some x1 from h0)
    have hk : k = 10 := by rw [e2] at hx1; simpa using hx1.1.2.1.symm
    subst hk
    have := World.var?_cell hg0 hv0 1
    obtain ⟨l1⟩ := cs0
    rw [cU] at e1
    match l1, e1 with
    | c0 :: c1 :: _, e1 =>
      simp at e1
      subst e1
      simpa using this

def zeros : Array Value := #[.agg #[.int .i64 0, .int .u64 0, .int .u64 0, .int .i64 0, .int .i64 0, .int .i64 0, .int .u64 0, .int .i64 0, .int .i64 0, .int .i64 0, .int .u64 0], .slice none 0 0, .slice none 0 0, .agg #[.int .u64 0, .int .u64 0], .agg #[.int .u64 0, .int .u64 0], .int .i64 0]
theorem wit_v (os : Os) : ((laidWorld os).forCall (fun _ _ => 0) ⟨#[], zeros, []⟩).variablesB Tryz.prog = true := by kernel_rfl
theorem wit_r (os : Os) : (((laidWorld os).forCall (fun _ _ => 0) ⟨#[], zeros, []⟩).heap.toList.drop Tryz.prog.globals.size).take ((begin Tryz.prog (fun _ _ => 0) default).world.heap.size - Tryz.prog.globals.size) = (begin Tryz.prog (fun _ _ => 0) default).world.heap.toList.drop Tryz.prog.globals.size := by kernel_rfl
theorem wit_ok (os : Os) : Input.okWideB Tryz.prog ((laidWorld os).forCall (fun _ _ => 0) ⟨#[], zeros, []⟩) 4 ⟨#[], zeros, []⟩ = true := by kernel_rfl
theorem wit_pre (os : Os) (H : Type) (enc : TypeId × Value → H) : Rows.coreLumpsSpec.preB enc Tryz.prog Tryz.f4 [] false ((laidWorld os).forCall (fun _ _ => 0) ⟨#[], zeros, []⟩).memory zeros 8 = true := by kernel_rfl
theorem wit_sz (os : Os) (H : Type) (enc : TypeId × Value → H) : Rows.coreLumpsSpec.sizedB enc Tryz.prog Tryz.f4 false ((laidWorld os).forCall (fun _ _ => 0) ⟨#[], zeros, []⟩).memory zeros 8 = true := by kernel_rfl
theorem readable : (Tryz.f4.params.toList.all fun t => Tryz.prog.readableRec t && decide (t < Tryz.prog.types.size)) = true := by kernel_rfl
set_option maxRecDepth 100000 in
theorem contract (H : Type) (enc : TypeId × Value → H) (W : World) (base : Nat) (args : Array Value) (ds gs : List (DataW H)) (before : List MemPlace)
    (hval0 : ∀ (j : Nat) t v, Tryz.f4.params[j]? = some t → args[j]? = some v → Value.okWide Tryz.prog W .any base t v)
    (hW : DataW.Whole enc Tryz.prog Tryz.f4.params.toList Rows.coreLumpsSpec.vars false W args.toList ds gs before)
    (hsz0 : (DataW.weightsEach Tryz.prog (Tryz.f4.params.toList ++ Rows.coreLumpsSpec.plain.varTypes Tryz.prog) (ds ++ gs)).all (· ≤ reachBytes) = true) (hL : laidMetH Tryz.prog laid1 W) :
    Calls Tryz.prog 4 args W fun e W' => ∃ v, e = .returned v ∧ Rows.coreLumpsSpec.post enc Tryz.prog Tryz.f4 false true false false W args v W' := by
  have hval : ∀ (j : Nat) t v, Tryz.f4.params[j]? = some t → args[j]? = some v → Value.okWide Tryz.prog W .any base t v := hval0
  have hW' := hW
  obtain ⟨p, q, hA0, hV, rfl, _, _⟩ := hW
  have hA : DataW.TrodAll enc Tryz.prog W 0 (fun _ => true) true Tryz.f4.params.toList args.toList ds p := hA0
  obtain ⟨rfl, rfl⟩ := trodVars_none hV
  have hsz : (DataW.weightsEach Tryz.prog Tryz.f4.params.toList ds).all (· ≤ reachBytes) = true := by
    have h : (DataW.weightsEach Tryz.prog (Tryz.f4.params.toList ++ []) (ds ++ [])).all (· ≤ reachBytes) = true := hsz0
    rw [List.append_nil, List.append_nil] at h
    exact h
  rw [Tryz.params4] at hA hval hsz
  obtain ⟨v0, vs0, d0, ds0, p0, q0, hargs, rfl, rfl, h0, r0⟩ := trodAll_cons hA
  obtain ⟨hz0, hsz⟩ := reached_cons hsz
  obtain ⟨v1, vs1, d1, ds1, p1, q1, rfl, rfl, rfl, h1, r1⟩ := trodAll_cons r0
  obtain ⟨hz1, hsz⟩ := reached_cons hsz
  obtain ⟨v2, vs2, d2, ds2, p2, q2, rfl, rfl, rfl, h2, r2⟩ := trodAll_cons r1
  obtain ⟨hz2, hsz⟩ := reached_cons hsz
  obtain ⟨v3, vs3, d3, ds3, p3, q3, rfl, rfl, rfl, h3, r3⟩ := trodAll_cons r2
  obtain ⟨hz3, hsz⟩ := reached_cons hsz
  obtain ⟨v4, vs4, d4, ds4, p4, q4, rfl, rfl, rfl, h4, r4⟩ := trodAll_cons r3
  obtain ⟨hz4, hsz⟩ := reached_cons hsz
  obtain ⟨v5, vs5, d5, ds5, p5, q5, rfl, rfl, rfl, h5, r5⟩ := trodAll_cons r4
  obtain ⟨hz5, hsz⟩ := reached_cons hsz
  obtain ⟨rfl, rfl, rfl⟩ := trodAll_nil r5
  obtain rfl : args = #[v0, v1, v2, v3, v4, v5] := by cases args; simp_all
  have hten := of_laid hL
  clear hA0 hval0 hsz0 hL
  obtain ⟨cf0, rfl, hcf0⟩ := scfg_open (hval 0 30 v0 rfl rfl) h0
  obtain ⟨ao1, cp1, a1, rfl, hr1, hl1, hk1⟩ := leaves_open (hval 1 44 v1 rfl rfl) h1 hz1
  obtain ⟨ao2, cp2, a2, rfl, hr2, hl2⟩ := picks_open (hval 2 45 v2 rfl rfl) h2 hz2
  obtain ⟨rn3, rd3, rfl, hrn3, hrd3⟩ := ratio_open (hval 3 27 v3 rfl rfl) h3
  obtain ⟨rn4, rd4, rfl, hrn4, hrd4⟩ := ratio_open (hval 4 27 v4 rfl rfl) h4
  obtain ⟨z5, rfl, _, _, w5⟩ := open_int Tryz.underlying2 (hval 5 2 v5 rfl rfl) h5
  have b5 := i64_range w5
  refine (law_CoreLumps W hten (World.block_lt_of_cell? W _ hten) cf0 hcf0 ao1 cp1 a1 hr1 hl1 hk1 ao2 cp2 a2 hr2 hl2 rn3 rd3 hrn3 hrd3 rn4 rd4 hrn4 hrd4 z5 b5.1 b5.2).mono fun e W' ⟨he, hb⟩ => ?_
  subst he
  exact ⟨_, rfl, post_law laidOut readable Tryz.underlying4 rfl rfl rfl rfl rfl hW' hb.below⟩

theorem hcp : Tryz.checked.prog = Tryz.prog := by kernel_rfl
theorem wit_os (os : Os) : (laidWorld os).os = os := by kernel_rfl
set_option maxRecDepth 100000 in
theorem contract2 (H : Type) (enc : TypeId × Value → H) (W : World) (base : Nat) (args : Array Value) (ds gs : List (DataW H)) (before : List MemPlace)
    (hval0 : ∀ (j : Nat) t v, Tryz.f4.params[j]? = some t → args[j]? = some v → Value.okWide Tryz.checked.prog W .any base t v)
    (hW : DataW.Whole enc Tryz.checked.prog Tryz.f4.params.toList Rows.coreLumpsSpec.vars false W args.toList ds gs before)
    (hsz0 : (DataW.weightsEach Tryz.checked.prog (Tryz.f4.params.toList ++ Rows.coreLumpsSpec.plain.varTypes Tryz.checked.prog) (ds ++ gs)).all (· ≤ reachBytes) = true) (hL : laidMetH Tryz.prog laid1 W) :
    Calls Tryz.checked.prog 4 args W fun e W' => ∃ v, e = .returned v ∧ Rows.coreLumpsSpec.post enc Tryz.checked.prog Tryz.f4 false true false false W args v W' := by
  rw [hcp] at hval0 hW hsz0 ⊢
  exact contract H enc W base args ds gs before hval0 hW hsz0 hL
theorem noInit : Tryz.checked.prog.inits.idxOf? 4 = none := by kernel_rfl
theorem own2 : ownKnob Tryz.checked.prog.godebug = none := by rw [hcp]; exact own
theorem func2 : Tryz.checked.prog.funcs[(4 : Nat)]? = some Tryz.f4 := by rw [hcp]; exact Tryz.func4
set_option maxRecDepth 100000 in
theorem wit (os : Os) (H : Type) (enc : TypeId × Value → H) : ∃ (w : World) (tape : _root_.Go.Tape) (i : Input), w.os = os ∧ (w.forCall tape i).Shaped Tryz.checked.prog ∧ i.vars = [] ∧ Input.okWide Tryz.checked.prog (w.forCall tape i) .any w.heap.size 4 i ∧
      ((Rows.coreLumpsSpec.pre enc Tryz.checked.prog Tryz.f4 [] false (w.forCall tape i).memory i.args ∧ laidMetH Tryz.prog laid1 (w.forCall tape i).memory) ∧ sizedMet enc Tryz.checked.prog Tryz.f4 (OpenSpec.ofChange Rows.coreLumpsSpec) false (w.forCall tape i).memory i.args) ∧ ({ modest := false } : Assume).holds Tryz.checked.prog (lone (Frame.enter Tryz.checked.prog 4 i.args .normal) [] (w.forCall tape i)) :=
  ChangeSpec.witness_at (enc := enc) (C := Tryz.checked) (os := os) (f := 4) (fn := Tryz.f4) (s := Rows.coreLumpsSpec) (conds := []) (apart := false) (X := fun w _ => laidMetH Tryz.prog laid1 w) false (laidWorld os) zeros 8 (wit_os os) (wit_v os) (wit_r os) (wit_ok os) (wit_pre os H enc) (wit_sz os H enc) (laidWorld_met os _)
set_option maxRecDepth 100000 in
theorem lifted (os : Os) (started : os.Started) (H : Type) (enc : TypeId × Value → H) :
    ReturnsInHanded {} Tryz.checked os 4 .any (fun w args => (Rows.coreLumpsSpec.pre enc Tryz.checked.prog Tryz.f4 [] false w args ∧ laidMetH Tryz.prog laid1 w) ∧ sizedMet enc Tryz.checked.prog Tryz.f4 (OpenSpec.ofChange Rows.coreLumpsSpec) false w args)
      (Rows.coreLumpsSpec.post enc Tryz.checked.prog Tryz.f4 false true false false) :=
  returnsInHanded_of_change_and (C := Tryz.checked) (X := fun w _ => laidMetH Tryz.prog laid1 w) (fun _ _ _ hh h => h.of_heap hh) own2 started noInit func2
    (wit os H enc) (fun W base args ds gs before h1 h2 _ h3 h4 _ => contract2 H enc W base args ds gs before h1 h2 h3 h4)

theorem over : Rows.CoreLumpsSaid :=
  OpenClaim.holds_of_wide 4 Tryz.f4 rfl rfl rfl rfl rfl rfl rfl ⟨rfl, rfl, rfl, rfl, rfl⟩ rfl rfl rfl rfl rfl nameC func2 closedC instC wrapC
    (fun os started H enc _ => lifted os started H enc)

/-- The statement. -/
theorem proved : Rows.CoreLumpsCardSaid :=
  Claim7.holds_tied_plain_at .later [] [.data] true (true, "f703caca02bf17105432e1330cd4fc0a760926e6bf2cae4062b452618c1d17fe") true
    over (fun _ h => by cases h) (by as_aux_lemma => kernel_rfl) (fun _ h => by cases h) coreLumps_row_tie rfl ⟨rfl, rfl⟩ (by as_aux_lemma => kernel_rfl) rfl
    (fun f fn hf hfn => by
      obtain rfl : f = 4 := Option.some.inj ((show Tryz.prog.funcNamed "ogive/ogivetop.CoreLumps" = some 4 by as_aux_lemma => kernel_rfl).symm.trans hf) |>.symm
      obtain rfl : fn = Tryz.f4 := (Option.some.inj (Tryz.func4.symm.trans hfn)).symm
      exact ⟨by kernel_rfl, fun j t ht => by
        rw [Tryz.params4] at ht
        have hm : t ∈ [30, 44, 45, 27, 27, 2] := by simpa using Array.mem_of_getElem? ht
        have hall : ([30, 44, 45, 27, 27, 2].all fun u => !Tryz.prog.wantsStandIn u) = true := by kernel_rfl
        exact (show Tryz.prog.wantsStandIn t = false by simpa using List.all_eq_true.1 hall t hm)⟩)
    (by as_aux_lemma => kernel_rfl)
#print axioms proved
end Go.Proofs.YtlcoibhbdgdfcaaGreatDoor.coreLumps
