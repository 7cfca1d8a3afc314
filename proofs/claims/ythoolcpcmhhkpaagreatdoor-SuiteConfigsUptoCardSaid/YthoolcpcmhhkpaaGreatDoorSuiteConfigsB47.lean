/-
  Parts of a proof, pressed. Conditions: the form's own reach.
-/
import Derived.Test.YthoolcpcmhhkpaaGreatDoorRows
import Derived.Test.YthoolcpcmhhkpaaGreatDoorTie
import Derived.Test.YthoolcpcmhhkpaaGreatDoorCards
import Derived.Test.YthoolcpcmhhkpaaGreatDoorSuiteConfigsB2
import Derived.Test.YthoolcpcmhhkpaaGreatDoorSuiteConfigsB3
import Derived.Test.YthoolcpcmhhkpaaGreatDoorSuiteConfigsB46
import Derived.Test.YthoolcpcmhhkpaaGreatDoorSuiteConfigsB45
import Derived.Test.YthoolcpcmhhkpaaGreatDoorSuiteConfigsB19
import Derived.LaidMore
import Derived.Stop.Joined
import Derived.SevenTiedAt
import Derived.Deep.DeepHandedRow
namespace Go.Proofs.YthoolcpcmhhkpaaGreatDoor.suiteConfigs
open Go.ChangeShapes Go.WideShapes Go.ChangeAt Go.RowKit
theorem own:ownKnob Tryz.prog.godebug=none:=by kernel_rfl
theorem laidOut:laidOutB Tryz.prog=true:=by kernel_rfl
theorem gTens:Tryz.prog.globalNamed "ogive/spans.tens"=some 0:=by kernel_rfl
theorem tTens:(Tryz.prog.globals[0]?).map (·.type)=some 256:=by kernel_rfl
theorem cU:Tryz.prog.cellsOf 23=1:=by kernel_rfl
def laid1:List (String × DataW Unit):=[("ogive/spans.tens",Rows.laid_ogive_spans_tens)]
noncomputable def laidWorld (os:Os):World:=
 let w0:=World.holding Tryz.prog os ⟨#[],#[],[]⟩
 { w0 with heap:=w0.heap.modify 0 fun
    | .cells _ t frozen=>.cells #[.int .u64 1,.int .u64 10,.int .u64 100,.int .u64 1000,.int .u64 10000] t frozen
    | o=>o }
theorem laidWorld_met (os:Os) (args:Array Value):laidMetH Tryz.prog laid1 ((laidWorld os).forCall (fun _ _=>0) ⟨#[],args,[]⟩).memory:=
 laidMetH_of_parts (laidMet_of_run' 8 (by kernel_rfl) (by kernel_rfl)) (by kernel_rfl)
set_option maxRecDepth 100000 in
theorem of_laid {W:World} (h:laidMetH Tryz.prog laid1 W):Tens4 W:=by
 rw [MakeChecks.laidMetH_plain _ _ _ (by kernel_rfl)] at h
 obtain ⟨ps,⟨g0,t0,cs0,f0,p0,q0,hg0,ht0,hv0,hd0,_,_⟩,_,_⟩:=h
 obtain rfl:=Option.some.inj (gTens.symm.trans hg0)
 obtain rfl:=Option.some.inj (tTens.symm.trans ht0)
 obtain ⟨xs,m1,rfl,hx1,hlen,hn3,hel⟩:=DataW.trod_array Tryz.underlying256 hd0
 have h1:=hel 1 (by decide)
 have h2:=hel 2 (by decide)
 have h3:=hel 3 (by decide)
 have h4:=hel 4 (by decide)
 simp only [Prod.mk.injEq,Rows.laid_ogive_spans_tens,DataW.agg.injEq] at hx1
 match xs,hn3,hx1,h1,h2,h3,h4 with
 | [x0,x1,x2,x3,x4],_,hx1,h1,h2,h3,h4 =>
   simp only [List.map_cons,List.map_nil,List.cons.injEq] at hx1
   obtain ⟨k1,e1,r1,_⟩:=DataW.trod_int Tryz.underlying23 (show DataW.trod _ Tryz.prog W 0 _ false m1 23 _=some x1 from h1)
   obtain ⟨k2,e2,r2,_⟩:=DataW.trod_int Tryz.underlying23 (show DataW.trod _ Tryz.prog W 0 _ false m1 23 _=some x2 from h2)
   obtain ⟨k3,e3,r3,_⟩:=DataW.trod_int Tryz.underlying23 (show DataW.trod _ Tryz.prog W 0 _ false m1 23 _=some x3 from h3)
   obtain ⟨k4,e4,r4,_⟩:=DataW.trod_int Tryz.underlying23 (show DataW.trod _ Tryz.prog W 0 _ false m1 23 _=some x4 from h4)
   have q1:k1=10:=by rw [r1] at hx1;simpa using hx1.1.2.1.symm
   have q2:k2=100:=by rw [r2] at hx1;simpa using hx1.1.2.2.1.symm
   have q3:k3=1000:=by rw [r3] at hx1;simpa using hx1.1.2.2.2.1.symm
   have q4:k4=10000:=by rw [r4] at hx1;simpa using hx1.1.2.2.2.2.1.symm
   subst q1 q2 q3 q4
   have v1:=World.var?_cell hg0 hv0 1
   have v2:=World.var?_cell hg0 hv0 2
   have v3:=World.var?_cell hg0 hv0 3
   have v4:=World.var?_cell hg0 hv0 4
   obtain ⟨l1⟩:=cs0
   rw [cU] at e1 e2 e3 e4
   match l1,e1,e2,e3,e4 with
   | c0::c1::c2::c3::c4::_,e1,e2,e3,e4 =>
     simp at e1 e2 e3 e4
     subst e1 e2 e3 e4
     exact ⟨by simpa using v1,by simpa using v2,by simpa using v3,by simpa using v4⟩
def zeros:Array Value:=#[.agg #[.int .i64 0,.int .u64 0,.int .u64 0,.int .i64 0,.int .i64 0,.int .i64 0,.int .u64 0,.int .i64 0,.int .i64 0,.int .i64 0,.int .u64 0],.slice none 0 0,.agg #[.int .i64 0,.int .u64 0,.int .u64 0,.int .i64 0,.int .i64 0,.int .i64 0,.int .u64 0,.int .i64 0,.int .i64 0,.int .i64 0,.int .u64 0]]
theorem wit_v (os:Os):((laidWorld os).forCall (fun _ _=>0) ⟨#[],zeros,[]⟩).variablesB Tryz.prog=true:=by kernel_rfl
theorem wit_r (os:Os):(((laidWorld os).forCall (fun _ _=>0) ⟨#[],zeros,[]⟩).heap.toList.drop Tryz.prog.globals.size).take ((begin Tryz.prog (fun _ _=>0) default).world.heap.size-Tryz.prog.globals.size)=(begin Tryz.prog (fun _ _=>0) default).world.heap.toList.drop Tryz.prog.globals.size:=by kernel_rfl
theorem wit_ok (os:Os):Input.okWideB Tryz.prog ((laidWorld os).forCall (fun _ _=>0) ⟨#[],zeros,[]⟩) 7 ⟨#[],zeros,[]⟩=true:=by kernel_rfl
theorem wit_sz (os:Os) (H:Type) (enc:TypeId × Value→H):(Rows.OpenSpec.upto Rows.suiteConfigsSpec).bare.sizedB enc Tryz.prog Tryz.f7 false ((laidWorld os).forCall (fun _ _=>0) ⟨#[],zeros,[]⟩).memory zeros 8=true:=by kernel_rfl
theorem wit_some (os:Os) (H:Type) (enc:TypeId × Value→H):(DataW.whole enc Tryz.prog ((laidWorld os).forCall (fun _ _=>0) ⟨#[],zeros,[]⟩).memory Tryz.f7.params.toList (Rows.OpenSpec.upto Rows.suiteConfigsSpec).vars false zeros.toList 8).isSome=true:=by kernel_rfl
theorem wit_up (os:Os) (H:Type) (enc:TypeId × Value→H):((DataW.whole enc Tryz.prog ((laidWorld os).forCall (fun _ _=>0) ⟨#[],zeros,[]⟩).memory Tryz.f7.params.toList (Rows.OpenSpec.upto Rows.suiteConfigsSpec).vars false zeros.toList 8).map fun x=>Rows.uptoSmall H (x.1++x.2.1))=some true:=by kernel_rfl
theorem readable:(Tryz.f7.params.toList.all fun t=>Tryz.prog.readableRec t&&decide (t<Tryz.prog.types.size))=true:=by kernel_rfl
set_option maxRecDepth 100000 in
theorem contract (H:Type) (enc:TypeId × Value→H) (W:World) (base:Nat) (args:Array Value) (ds gs:List (DataW H)) (before:List MemPlace)
 (hval0:∀ (j:Nat) t v,Tryz.f7.params[j]? = some t→args[j]? = some v→Value.okWide Tryz.prog W .any base t v)
 (hW:DataW.Whole enc Tryz.prog Tryz.f7.params.toList Rows.suiteConfigsSpec.vars false W args.toList ds gs before)
 (hsz0:(DataW.weightsEach Tryz.prog (Tryz.f7.params.toList++Rows.suiteConfigsSpec.plain.varTypes Tryz.prog) (ds++gs)).all (·≤reachBytes)=true) (hup:Rows.uptoSmall H (ds++gs)=true) (hL:laidMetH Tryz.prog laid1 W) :
 Calls Tryz.prog 7 args W fun e W'=>∃ v,e=.returned v∧Rows.suiteConfigsSpec.post enc Tryz.prog Tryz.f7 false true false false W args v W':=by
 have hval:∀ (j:Nat) t v,Tryz.f7.params[j]? = some t→args[j]? = some v→Value.okWide Tryz.prog W .any base t v:=hval0
 have hW':=hW
 obtain ⟨p,q,hA0,hV,rfl,_,_⟩:=hW
 have hA:DataW.TrodAll enc Tryz.prog W 0 (fun _=>true) true Tryz.f7.params.toList args.toList ds p:=hA0
 obtain ⟨rfl,rfl⟩:=trodVars_none hV
 have hsm:Rows.uptoSmall H ds=true:=by rw [List.append_nil] at hup;exact hup
 have hsz:(DataW.weightsEach Tryz.prog Tryz.f7.params.toList ds).all (·≤reachBytes)=true:=by
  have h:(DataW.weightsEach Tryz.prog (Tryz.f7.params.toList++[]) (ds++[])).all (·≤reachBytes)=true:=hsz0
  rw [List.append_nil,List.append_nil] at h
  exact h
 rw [Tryz.params7] at hA hval hsz
 obtain ⟨v0,vs0,d0,ds0,p0,q0,hargs,rfl,rfl,h0,r0⟩:=trodAll_cons hA
 obtain ⟨hz0,hsz⟩:=reached_cons hsz
 obtain ⟨v1,vs1,d1,ds1,p1,q1,rfl,rfl,rfl,h1,r1⟩:=trodAll_cons r0
 obtain ⟨hz1,hsz⟩:=reached_cons hsz
 obtain ⟨v2,vs2,d2,ds2,p2,q2,rfl,rfl,rfl,h2,r2⟩:=trodAll_cons r1
 obtain ⟨hz2,hsz⟩:=reached_cons hsz
 obtain ⟨rfl,rfl,rfl⟩:=trodAll_nil r2
 obtain rfl:args=#[v0,v1,v2]:=by cases args;simp_all
 have hten:=of_laid hL
 clear hA0 hval0 hsz0 hL hup
 obtain ⟨cf0,rfl,hcf0⟩:=scfg_open (hval 0 28 v0 rfl rfl) h0
 obtain ⟨ao1,cp1,a1,rfl,hr1,hl1,hk1⟩:=vals_open (hval 1 29 v1 rfl rfl) h1 hz1
 have hs1:=bulk_bound (d:=d1) hsm (by simp) (bulk_slice Tryz.underlying29 h1)
 obtain ⟨cf2,rfl,hcf2⟩:=scfg_open (hval 2 28 v2 rfl rfl) h2
 refine (law_SuiteConfigs W hten cf0 hcf0 ao1 cp1 a1 hr1 hs1 hk1 cf2 hcf2).mono fun e W' ⟨he,hb⟩ => ?_
 subst he
 exact ⟨_,rfl,post_law laidOut readable Tryz.underlying4 rfl rfl rfl rfl rfl hW' hb.below⟩
theorem hcp:Tryz.checked.prog=Tryz.prog:=by kernel_rfl
theorem wit_os (os:Os):(laidWorld os).os=os:=by kernel_rfl
set_option maxRecDepth 100000 in
theorem contract2 (H:Type) (enc:TypeId × Value→H) (W:World) (base:Nat) (args:Array Value) (ds gs:List (DataW H)) (before:List MemPlace)
 (hval0:∀ (j:Nat) t v,Tryz.f7.params[j]? = some t→args[j]? = some v→Value.okWide Tryz.checked.prog W .any base t v)
 (hW:DataW.Whole enc Tryz.checked.prog Tryz.f7.params.toList Rows.suiteConfigsSpec.vars false W args.toList ds gs before)
 (hsz0:(DataW.weightsEach Tryz.checked.prog (Tryz.f7.params.toList++Rows.suiteConfigsSpec.plain.varTypes Tryz.checked.prog) (ds++gs)).all (·≤reachBytes)=true) (hup:Rows.uptoSmall H (ds++gs)=true) (hL:laidMetH Tryz.checked.prog laid1 W) :
 Calls Tryz.checked.prog 7 args W fun e W'=>∃ v,e=.returned v∧Rows.suiteConfigsSpec.post enc Tryz.checked.prog Tryz.f7 false true false false W args v W':=by
 rw [hcp] at hval0 hW hsz0 hL ⊢
 exact contract H enc W base args ds gs before hval0 hW hsz0 hup hL
theorem noInit:Tryz.checked.prog.inits.idxOf? 7=none:=by kernel_rfl
theorem own2:ownKnob Tryz.checked.prog.godebug=none:=by rw [hcp];exact own
theorem func2:Tryz.checked.prog.funcs[(7:Nat)]? = some Tryz.f7:=by rw [hcp];exact Tryz.func7
set_option maxRecDepth 100000 in
theorem witP (os:Os) (H:Type) (enc:TypeId × Value→H):(Rows.OpenSpec.upto Rows.suiteConfigsSpec).preRow enc Tryz.prog Tryz.f7 [] false laid1 ((laidWorld os).forCall (fun _ _=>0) ⟨#[],zeros,[]⟩).memory zeros:=by
 obtain ⟨x,hx⟩:=Option.isSome_iff_exists.1 (wit_some os H enc)
 have hu:=wit_up os H enc
 rw [hx] at hu
 exact OpenSpec.preRow_of_cond 8 hx rfl (fun k hk=>by cases hk;exact Option.some.inj hu) (wit_sz os H enc) (laidWorld_met os _)
set_option maxRecDepth 100000 in
theorem lifted (os:Os) (started:os.Started) (H:Type) (enc:TypeId × Value→H) (F0:Stop.Interp) :
 ReturnsInHanded {} Tryz.checked os 7 .any ((Rows.OpenSpec.upto Rows.suiteConfigsSpec).preRow enc Tryz.checked.prog Tryz.f7 [] false laid1) (((Rows.OpenSpec.upto Rows.suiteConfigsSpec).at F0).post enc Tryz.checked.prog Tryz.f7 false true false false):=by
 refine returnsInHanded_of_row (C:=Tryz.checked) (s:=(Rows.OpenSpec.upto Rows.suiteConfigsSpec)) own2 started noInit func2
  (witness_row_at (enc:=enc) (C:=Tryz.checked) false (laidWorld os) zeros (wit_os os) (by rw [hcp];exact wit_v os) (by rw [hcp];exact wit_r os) (by rw [hcp];exact wit_ok os) (by rw [hcp];exact witP os H enc)) ?_
 intro W base args ds gs before hval hW _ hcond hsz hL _ _
 exact contract2 H enc W base args ds gs before hval hW hsz (hcond _ rfl) hL
theorem over:Rows.SuiteConfigsUptoSaid:=
 OpenClaim.holds_of_cond 7 Tryz.f7 rfl rfl rfl rfl rfl rfl rfl ⟨rfl,rfl,rfl,rfl,rfl⟩ rfl rfl rfl rfl rfl nameC func2 closedC instC wrapC
  (fun os started H enc _ F0=>by rw [OpenClaim.pre_eq_preRow];exact lifted os started H enc F0)
theorem proved:Rows.SuiteConfigsUptoCardSaid:=
 Claim7.holds_tied_plain_at .later [] [.data] true (true,"3aeb61ea2d5501a0022f634544c4f8a8725ae065700c5340d8747fc76cfc5edc") true
  over (fun _ h=>by cases h) (by as_aux_lemma=>kernel_rfl) (fun _ h=>by cases h) suiteConfigsUpto_row_tie rfl ⟨rfl,rfl⟩ (by as_aux_lemma=>kernel_rfl) rfl
  (fun f fn hf hfn=>by
    obtain rfl:f=7:=Option.some.inj ((show Tryz.prog.funcNamed "ogive/ogivelaw23.SuiteConfigs"=some 7 by as_aux_lemma=>kernel_rfl).symm.trans hf) |>.symm
    obtain rfl:fn=Tryz.f7:=(Option.some.inj (Tryz.func7.symm.trans hfn)).symm
    exact ⟨by kernel_rfl,fun j t ht=>by
     rw [Tryz.params7] at ht
     have hm:t∈[28,29,28]:=by simpa using Array.mem_of_getElem? ht
     have hall:([28,29,28].all fun u=>!Tryz.prog.wantsStandIn u)=true:=by kernel_rfl
     exact (show Tryz.prog.wantsStandIn t=false by simpa using List.all_eq_true.1 hall t hm)⟩)
  (by as_aux_lemma=>kernel_rfl)
#print axioms proved
end Go.Proofs.YthoolcpcmhhkpaaGreatDoor.suiteConfigs
