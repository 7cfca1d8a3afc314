/-
  Parts of a proof, pressed. Conditions: the form's own reach.
-/
import Derived.Test.YthoolcpcmhhkpaaGreatDoorSuiteConfigsB16
import Derived.Test.YthoolcpcmhhkpaaGreatDoorSuiteConfigsB4
import Derived.Test.YthoolcpcmhhkpaaGreatDoorSuiteConfigsB36
import Derived.Test.YthoolcpcmhhkpaaGreatDoorSuiteConfigsB38
import Derived.Test.YthoolcpcmhhkpaaGreatDoorSuiteConfigsB18
import Derived.Test.YthoolcpcmhhkpaaGreatDoorSuiteConfigsB40
import Derived.Test.YthoolcpcmhhkpaaGreatDoorSuiteConfigsB25
import Derived.Test.YthoolcpcmhhkpaaGreatDoorSuiteConfigsB15
import Derived.Test.YthoolcpcmhhkpaaGreatDoorSuiteConfigsB5
import Derived.Test.YthoolcpcmhhkpaaGreatDoorSuiteConfigsB27
import Derived.Test.YthoolcpcmhhkpaaGreatDoorSuiteConfigsB37
import Derived.Test.YthoolcpcmhhkpaaGreatDoorSuiteConfigsB20
import Derived.Test.YthoolcpcmhhkpaaGreatDoorProg
import Derived.Test.YthoolcpcmhhkpaaGreatDoorSuiteConfigsB1
import Derived.Test.YthoolcpcmhhkpaaGreatDoorSuiteConfigsB3
import Derived.Test.YthoolcpcmhhkpaaGreatDoorSuiteConfigsLBitLen
import Derived.Test.YthoolcpcmhhkpaaGreatDoorSuiteConfigsB34
namespace Go.Proofs.YthoolcpcmhhkpaaGreatDoor
open Go.RowKit
set_option maxRecDepth 100000 in
set_option maxHeartbeats 4000000 in
theorem bare_log (w:World) (c:Cf) (hk:c.kind=1):Calls Tryz.prog 69 #[c.val] w fun e w'=>e=.returned ({ Cf.none 1 with num:=c.num,den:=c.den,side:=c.side,most:=c.most }:Cf).val∧Chg [] w w':=by
 obtain ⟨k,num,den,side,most,digits,limit,depth,factor,width,word⟩:=c
 simp only at hk
 subst hk
 simp only [Cf.val,Cf.cells,Cf.none]
 go_enter Tryz.func69,Tryz.ntmps69
 go_wp2_with fail
 go_region_with (fail)
 all_goals
  go_wp2
  refine bodyPost_ret (v:=.agg #[.int .i64 1,.int .u64 num,.int .u64 den,.int .i64 side,.int .i64 most,.int .i64 0,.int .u64 0,.int .i64 0,.int .i64 0,.int .i64 0,.int .u64 0]) (by simp [results,Tryz.results69,go_sem]) rfl ?_
  exact ⟨rfl,by with_reducible (repeat (first|exact Chg.refl _ _|apply Chg.alloc|apply Chg.drew|(apply Chg.setCell;simp)))⟩
def NoKind (k:Int):Prop:=k≠1∧k≠2∧k≠3∧k≠4∧k≠5∧k≠6
theorem NoKind.out {k:Int} (h:NoKind k):(k==1)=false∧(k==2)=false∧(k==3)=false∧(k==4)=false∧(k==5)=false∧(k==6)=false:=by
 obtain ⟨h1,h2,h3,h4,h5,h6⟩:=h
 simp [h1,h2,h3,h4,h5,h6]
set_option maxRecDepth 100000 in
set_option maxHeartbeats 4000000 in
theorem bare_other (w:World) (c:Cf) (hk:NoKind c.kind):Calls Tryz.prog 69 #[c.val] w fun e w'=>e=.returned (Cf.none c.kind).val∧Chg [] w w':=by
 obtain ⟨k,num,den,side,most,digits,limit,depth,factor,width,word⟩:=c
 obtain ⟨d1,d2,d3,d4,d5,d6⟩:=hk.out
 clear hk
 simp only at d1 d2 d3 d4 d5 d6
 simp only [Cf.val,Cf.cells,Cf.none]
 go_enter Tryz.func69,Tryz.ntmps69
 go_wp2
 refine bodyPost_ret (v:=.agg #[.int .i64 k,.int .u64 0,.int .u64 0,.int .i64 0,.int .i64 0,.int .i64 0,.int .u64 0,.int .i64 0,.int .i64 0,.int .i64 0,.int .u64 0]) (by simp [results,Tryz.results69,go_sem]) rfl ?_
 exact ⟨rfl,by with_reducible (repeat (first|exact Chg.refl _ _|apply Chg.alloc|apply Chg.drew|(apply Chg.setCell;simp)))⟩
def Some2 (w w':World) (e:Ending):Prop:=∃ (v:Option Addr) (k:Int),e=.returned (.tuple #[.pointer v,.int .i64 k])∧Chg [] w w'
def FrA (w w':World) (e:Ending):Prop:=∃ T d k,e=.returned (.tuple #[.iface T d,.int .i64 k])∧Chg [] w w'
theorem any_log (w:World) (num den:Nat) (side most:Int):Calls Tryz.prog 36 #[.agg #[.int .u64 num,.int .u64 den,.int .i64 side,.int .i64 most]] w fun e w'=>Some2 w w' e:=by
 refine (logsk_new w num den side most).mono ?_
 rintro e w' (⟨k,-,rfl,hc,-⟩|⟨n,p,A,-,-,rfl,-,hc,-⟩)
 ·exact ⟨_,_,rfl,hc⟩
 ·exact ⟨_,_,rfl,hc⟩
theorem any_hdr (w:World) (ht:Tens4 w) (d:Int) (lim:Nat):Calls Tryz.prog 47 #[.agg #[.int .i64 d,.int .u64 lim]] w fun e w'=>Some2 w w' e:=by
 refine (hdr_new w ht d lim).mono ?_
 rintro e w' (⟨-,rfl,hc⟩|⟨-,h,p,s0,s1,rfl,-,hc,-⟩)
 ·exact ⟨_,_,rfl,hc⟩
 ·exact ⟨_,_,rfl,hc⟩
theorem any_digest (w:World) (d f:Int):Calls Tryz.prog 55 #[.agg #[.int .i64 d,.int .i64 f]] w fun e w'=>Some2 w w' e:=by
 refine (dg_new w d f).mono ?_
 rintro e w' (⟨-,rfl,hc⟩|⟨-,p,s,rfl,-,hc,-⟩)
 ·exact ⟨_,_,rfl,hc⟩
 ·exact ⟨_,_,rfl,hc⟩
theorem any_green (w:World) (num den:Nat):Calls Tryz.prog 109 #[.agg #[.int .u64 num,.int .u64 den]] w fun e w'=>Some2 w w' e:=by
 cases hg:goodK num den with
 | false =>
   refine (gk_new_bad w num den hg).mono ?_
   rintro e w' ⟨rfl,hc⟩
   exact ⟨_,_,rfl,hc⟩
 | true =>
   refine (gk_new w num den hg).mono ?_
   rintro e w' ⟨p,rfl,ht,hc,-⟩
   exact ⟨_,_,rfl,hc⟩
theorem any_req (w:World) (W:Int) (word:Nat):Calls Tryz.prog 117 #[.agg #[.int .i64 W,.int .u64 word]] w fun e w'=>Some2 w w' e:=by
 refine (req_newF w W word).mono ?_
 rintro e w' (⟨-,rfl,hc⟩|⟨-,p,tp,rv,rfl,-,hc,-⟩)
 ·exact ⟨_,_,rfl,hc⟩
 ·exact ⟨_,_,rfl,hc⟩
theorem any_lump (w:World) (most:Int):Calls Tryz.prog 126 #[.int .i64 most] w fun e w'=>Some2 w w' e:=by
 refine (lump_new w most).mono ?_
 rintro e w' (⟨-,rfl,hc⟩|⟨-,p,rfl,-,hc,-⟩)
 ·exact ⟨_,_,rfl,hc⟩
 ·exact ⟨_,_,rfl,hc⟩
set_option maxRecDepth 100000 in
set_option maxHeartbeats 4000000 in
theorem fresha_log (w:World) (c:Cf) (hk:c.kind=1):Calls Tryz.prog 66 #[c.val] w fun e w'=>FrA w w' e:=by
 obtain ⟨k,num,den,side,most,digits,limit,depth,factor,width,word⟩:=c
 simp only at hk
 subst hk
 have HC0:=Lib.hid ((Chg.refl [] w).alloc (.cells #[.int .i64 1,.int .u64 num,.int .u64 den,.int .i64 side,.int .i64 most,.int .i64 digits,.int .u64 limit,.int .i64 depth,.int .i64 factor,.int .i64 width,.int .u64 word] 28))
 have HN:=Lib.hid (fun u=>any_log u num den side most)
 have HT:True:=trivial
 clear HT
 simp only [Cf.val,Cf.cells]
 go_enter Tryz.func66,Tryz.ntmps66
 go_wp2_with fail
 first|skip|skip
 refine ((HN.out _)).mono ?_
 rintro e w1 ⟨v,k,rfl,hc1⟩
 have HC1:=Lib.hid hc1
 clear hc1 HN
 go_wp2
 go_ret2
 exact ⟨_,_,_,rfl,HC0.out.trans HC1.out⟩
set_option maxRecDepth 100000 in
set_option maxHeartbeats 4000000 in
theorem fresha_hdr (w:World) (ht:Tens4 w) (c:Cf) (hk:c.kind=2):Calls Tryz.prog 66 #[c.val] w fun e w'=>FrA w w' e:=by
 obtain ⟨k,num,den,side,most,digits,limit,depth,factor,width,word⟩:=c
 simp only at hk
 subst hk
 have HC0:=Lib.hid ((Chg.refl [] w).alloc (.cells #[.int .i64 2,.int .u64 num,.int .u64 den,.int .i64 side,.int .i64 most,.int .i64 digits,.int .u64 limit,.int .i64 depth,.int .i64 factor,.int .i64 width,.int .u64 word] 28))
 have HN:=Lib.hid (fun u (hu:Tens4 u)=>any_hdr u hu digits limit)
 have HT:=Lib.hid ht
 clear ht
 simp only [Cf.val,Cf.cells]
 go_enter Tryz.func66,Tryz.ntmps66
 go_wp2_with fail
 first|skip|skip
 refine ((HN.out _ (HT.out.chg ?hq))).mono ?_
 case hq=>with_reducible (repeat (first|exact Chg.refl _ _|exact HC0.out|apply Chg.alloc|apply Chg.drew))
 rintro e w1 ⟨v,k,rfl,hc1⟩
 have HC1:=Lib.hid hc1
 clear hc1 HN
 go_wp2
 go_ret2
 exact ⟨_,_,_,rfl,HC0.out.trans HC1.out⟩
set_option maxRecDepth 100000 in
set_option maxHeartbeats 4000000 in
theorem fresha_digest (w:World) (c:Cf) (hk:c.kind=3):Calls Tryz.prog 66 #[c.val] w fun e w'=>FrA w w' e:=by
 obtain ⟨k,num,den,side,most,digits,limit,depth,factor,width,word⟩:=c
 simp only at hk
 subst hk
 have HC0:=Lib.hid ((Chg.refl [] w).alloc (.cells #[.int .i64 3,.int .u64 num,.int .u64 den,.int .i64 side,.int .i64 most,.int .i64 digits,.int .u64 limit,.int .i64 depth,.int .i64 factor,.int .i64 width,.int .u64 word] 28))
 have HN:=Lib.hid (fun u=>any_digest u depth factor)
 have HT:True:=trivial
 clear HT
 simp only [Cf.val,Cf.cells]
 go_enter Tryz.func66,Tryz.ntmps66
 go_wp2_with fail
 first|skip|skip
 refine ((HN.out _)).mono ?_
 rintro e w1 ⟨v,k,rfl,hc1⟩
 have HC1:=Lib.hid hc1
 clear hc1 HN
 go_wp2
 go_ret2
 exact ⟨_,_,_,rfl,HC0.out.trans HC1.out⟩
set_option maxRecDepth 100000 in
set_option maxHeartbeats 4000000 in
theorem fresha_green (w:World) (c:Cf) (hk:c.kind=4):Calls Tryz.prog 66 #[c.val] w fun e w'=>FrA w w' e:=by
 obtain ⟨k,num,den,side,most,digits,limit,depth,factor,width,word⟩:=c
 simp only at hk
 subst hk
 have HC0:=Lib.hid ((Chg.refl [] w).alloc (.cells #[.int .i64 4,.int .u64 num,.int .u64 den,.int .i64 side,.int .i64 most,.int .i64 digits,.int .u64 limit,.int .i64 depth,.int .i64 factor,.int .i64 width,.int .u64 word] 28))
 have HN:=Lib.hid (fun u=>any_green u num den)
 have HT:True:=trivial
 clear HT
 simp only [Cf.val,Cf.cells]
 go_enter Tryz.func66,Tryz.ntmps66
 go_wp2_with fail
 first|skip|skip
 refine ((HN.out _)).mono ?_
 rintro e w1 ⟨v,k,rfl,hc1⟩
 have HC1:=Lib.hid hc1
 clear hc1 HN
 go_wp2
 go_ret2
 exact ⟨_,_,_,rfl,HC0.out.trans HC1.out⟩
set_option maxRecDepth 100000 in
set_option maxHeartbeats 4000000 in
theorem fresha_req (w:World) (c:Cf) (hk:c.kind=5):Calls Tryz.prog 66 #[c.val] w fun e w'=>FrA w w' e:=by
 obtain ⟨k,num,den,side,most,digits,limit,depth,factor,width,word⟩:=c
 simp only at hk
 subst hk
 have HC0:=Lib.hid ((Chg.refl [] w).alloc (.cells #[.int .i64 5,.int .u64 num,.int .u64 den,.int .i64 side,.int .i64 most,.int .i64 digits,.int .u64 limit,.int .i64 depth,.int .i64 factor,.int .i64 width,.int .u64 word] 28))
 have HN:=Lib.hid (fun u=>any_req u width word)
 have HT:True:=trivial
 clear HT
 simp only [Cf.val,Cf.cells]
 go_enter Tryz.func66,Tryz.ntmps66
 go_wp2_with fail
 first|skip|skip
 refine ((HN.out _)).mono ?_
 rintro e w1 ⟨v,k,rfl,hc1⟩
 have HC1:=Lib.hid hc1
 clear hc1 HN
 go_wp2
 go_ret2
 exact ⟨_,_,_,rfl,HC0.out.trans HC1.out⟩
set_option maxRecDepth 100000 in
set_option maxHeartbeats 4000000 in
theorem fresha_lump (w:World) (c:Cf) (hk:c.kind=6):Calls Tryz.prog 66 #[c.val] w fun e w'=>FrA w w' e:=by
 obtain ⟨k,num,den,side,most,digits,limit,depth,factor,width,word⟩:=c
 simp only at hk
 subst hk
 have HC0:=Lib.hid ((Chg.refl [] w).alloc (.cells #[.int .i64 6,.int .u64 num,.int .u64 den,.int .i64 side,.int .i64 most,.int .i64 digits,.int .u64 limit,.int .i64 depth,.int .i64 factor,.int .i64 width,.int .u64 word] 28))
 have HN:=Lib.hid (fun u=>any_lump u most)
 have HT:True:=trivial
 clear HT
 simp only [Cf.val,Cf.cells]
 go_enter Tryz.func66,Tryz.ntmps66
 go_wp2_with fail
 first|skip|skip
 refine ((HN.out _)).mono ?_
 rintro e w1 ⟨v,k,rfl,hc1⟩
 have HC1:=Lib.hid hc1
 clear hc1 HN
 go_wp2
 go_ret2
 exact ⟨_,_,_,rfl,HC0.out.trans HC1.out⟩
set_option maxRecDepth 100000 in
set_option maxHeartbeats 4000000 in
theorem fresh_other (w:World) (c:Cf) (hk:NoKind c.kind):Calls Tryz.prog 66 #[c.val] w fun e w'=>e=.returned (.tuple #[.nilIface,.int .i64 1])∧Chg [] w w':=by
 obtain ⟨k,num,den,side,most,digits,limit,depth,factor,width,word⟩:=c
 obtain ⟨d1,d2,d3,d4,d5,d6⟩:=hk.out
 clear hk
 simp only at d1 d2 d3 d4 d5 d6
 simp only [Cf.val,Cf.cells]
 go_enter Tryz.func66,Tryz.ntmps66
 go_wp2
 go_ret2
 exact ⟨rfl,by with_reducible (repeat (first|exact Chg.refl _ _|apply Chg.alloc|apply Chg.drew|(apply Chg.setCell;simp)))⟩
set_option maxRecDepth 100000 in
set_option maxHeartbeats 4000000 in
theorem suite_newU (w:World) (c b:Cf) (HB0:∀ u,Calls Tryz.prog 69 #[c.val] u fun e w'=>e=.returned b.val∧Chg [] u w') (HF0:∀ u,Calls Tryz.prog 66 #[c.val] u fun e w'=>e=.returned (.tuple #[.nilIface,.int .i64 1])∧Chg [] u w'):Calls Tryz.prog 27 #[c.val] w fun e w'=>e=.returned (.tuple #[.pointer none,.int .i64 1])∧Chg [] w w':=by
 have hb0:=Blk.alloc_new w c.cells 28
 have HC0:=Lib.hid ((Chg.refl [] w).alloc (.cells c.cells 28))
 obtain ⟨bq,hbq⟩:∃ z,z=w.heap.size:=⟨_,rfl⟩
 rw [←hbq] at hb0
 have HCE:=Lib.hid (fun u (hu:Chg [] (w.alloc (.cells c.cells 28)) u)=>cf_cells (hb0.chg hu (by simp)))
 have HB:=Lib.hid HB0
 have HF:=Lib.hid HF0
 have HEQ:=Lib.hid (fun u=>scfg_neq c b u)
 obtain ⟨S,hS⟩:∃ S,S=c.same b:=⟨_,rfl⟩
 rw [←hS] at HEQ
 clear HB0 HF0 hb0 hS
 obtain ⟨q1,q2,q3,q4,q5,q6,q7,q8,q9,q10,q11⟩:=b
 obtain ⟨k,num,den,side,most,digits,limit,depth,factor,width,word⟩:=c
 simp only [Cf.val,Cf.cells] at *
 go_enter Tryz.func27,Tryz.ntmps27
 go_upto_region 2 with (fail)
 rw [←hbq]
 clear hbq
 generalize w.alloc (.cells #[.int .i64 k,.int .u64 num,.int .u64 den,.int .i64 side,.int .i64 most,.int .i64 digits,.int .u64 limit,.int .i64 depth,.int .i64 factor,.int .i64 width,.int .u64 word] 28)=w0 at *
 obtain ⟨c0,c1,c2,c3,c4,c5,c6,c7,c8,c9,c10⟩:=HCE.out w0.drew (Chg.refl [] w0).drew
 have hq:=HEQ.out
 go_region_with (go_at_call 69;refine (HB.out _).mono ?_;rintro e w1 ⟨rfl,hc1⟩;obtain ⟨k0,k1,k2,k3,k4,k5,k6,k7,k8,k9,k10⟩:=HCE.out w1 ((Chg.refl [] w0).drew.trans hc1))
 all_goals
  have HC1:=Lib.hid ((Chg.refl [] w0).drew.trans hc1)
  clear hc1 HB hq c0 c1 c2 c3 c4 c5 c6 c7 c8 c9 c10 k0 k1 k2 k3 k4 k5 k6 k7 k8 k9 k10
  obtain ⟨c0,c1,c2,c3,c4,c5,c6,c7,c8,c9,c10⟩:=HCE.out w1 HC1.out
  cases S with
  | false =>
    go_wp2
    go_ret2
    exact ⟨rfl,HC0.out.trans HC1.out⟩
  | true =>
    go_wp2_with fail
    refine (HF.out w1).mono ?_
    rintro e w2 ⟨rfl,hc2⟩
    have HC2:=Lib.hid (HC1.out.trans hc2)
    clear hc2 HF HEQ c0 c1 c2 c3 c4 c5 c6 c7 c8 c9 c10
    go_wp2
    go_ret2
    exact ⟨rfl,HC0.out.trans HC2.out⟩
theorem new_any_of {w:World} {c b:Cf} (HB:∀ u,Calls Tryz.prog 69 #[c.val] u fun e w'=>e=.returned b.val∧Chg [] u w') (HF:∀ u,Chg [] w u→Calls Tryz.prog 66 #[c.val] u fun e w'=>FrA u w' e) :
 Calls Tryz.prog 27 #[c.val] w fun e w'=>Some2 w w' e:=by
 refine (suite_newK w c b HB (fun _ _ _ _=>True) (fun u hu=>(HF u hu).mono ?_)).mono ?_
 ·rintro e w' ⟨T,d,k,rfl,hc⟩
  exact ⟨T,d,k,rfl,trivial,hc⟩
 ·rintro e w' (⟨-,rfl,hc⟩|⟨-,T,d,k,w1,-,hc,⟨-,rfl,rfl⟩|⟨-,rfl,rfl⟩⟩)
  ·exact ⟨_,_,rfl,hc⟩
  ·exact ⟨_,_,rfl,hc⟩
  ·exact ⟨_,_,rfl,hc.trans ((Chg.refl _ _).alloc _)⟩
theorem suite_new_any (w:World) (ht:Tens4 w) (c:Cf):Calls Tryz.prog 27 #[c.val] w fun e w'=>Some2 w w' e:=by
 by_cases h1:c.kind=1
 ·exact new_any_of (fun u=>bare_log u c h1) (fun u _=>fresha_log u c h1)
 by_cases h2:c.kind=2
 ·exact new_any_of (fun u=>bare_hdr u c h2) (fun u hu=>fresha_hdr u (ht.chg hu) c h2)
 by_cases h3:c.kind=3
 ·exact new_any_of (fun u=>bare_digest u c h3) (fun u _=>fresha_digest u c h3)
 by_cases h4:c.kind=4
 ·exact new_any_of (fun u=>bare_green u c h4) (fun u _=>fresha_green u c h4)
 by_cases h5:c.kind=5
 ·exact new_any_of (fun u=>bare_req u c h5) (fun u _=>fresha_req u c h5)
 by_cases h6:c.kind=6
 ·exact new_any_of (fun u=>bare_lump u c h6) (fun u _=>fresha_lump u c h6)
 refine (suite_newU w c _ (fun u=>bare_other u c ⟨h1,h2,h3,h4,h5,h6⟩) (fun u=>fresh_other u c ⟨h1,h2,h3,h4,h5,h6⟩)).mono ?_
 rintro e w' ⟨rfl,hc⟩
 exact ⟨_,_,rfl,hc⟩
noncomputable def tabN (num den:Nat):Nat:=@dite _ (∃ n,TabOk num den n) (Classical.propDecidable _) (fun h=>h.choose) (fun _=>0)
theorem tabN_eq {num den n:Nat} (h:TabOk num den n):tabN num den=n:=by
 unfold tabN
 rw [dif_pos ⟨n,h⟩]
 exact (Exists.choose_spec (⟨n,h⟩:∃ n,TabOk num den n)).uniq h
noncomputable def LogD.init (c:Cf):LogD:=⟨BinD.new c.num c.den (tabN c.num c.den) (decide (c.side=1)) c.most.toNat,0,0⟩
noncomputable def logOk (c:Cf):Bool:=@decide ((∃ n,TabOk c.num c.den n)∧(c.side=0∨c.side=1)∧1≤c.most∧c.most≤4096) (Classical.propDecidable _)
def LogRr (w:World) (p:Nat) (G:List Nat) (D:LogD):Prop:=∃ A,LogS w p A D∧D.ok∧G=fpLog p A
theorem LogRr.und:Und LogRr where
 lt:=fun ⟨A,h1,_,h3⟩ b hb=>by subst h3;exact LogS.lt h1 b hb
 chg:=fun ⟨A,h1,h2,h3⟩ k hF=>by subst h3;exact ⟨A,LogS.chg h1 k hF,h2,rfl⟩
theorem LogD.new_ok {num den n:Nat} (h:TabOk num den n) (hi:Bool) {m:Nat} (h1:1≤m) (h2:m≤4096):LogD.ok ⟨BinD.new num den n hi m,0,0⟩:=
 ⟨⟨h,rfl,rfl,rfl,rfl,CapD.new_ok hi h1 h2,CapD.new_ok hi h1 h2,by simp [BinD.new],by simp [BinD.new],by simp [BinD.new,CapD.total,totP]⟩,fun _=>⟨rfl,rfl⟩,Int.le_refl _,by show (-9223372036854775808:Int)≤0;omega,by show (0:Int)<9223372036854775808;omega⟩
theorem freshR_log (w:World) (c:Cf) (hk:c.kind=1) :
 Calls Tryz.prog 66 #[c.val] w fun e w'=>∃ v k,e=.returned (.tuple #[.iface 217 (.agg #[.pointer v]),.int .i64 k])∧FQ LogRr (LogD.init c) (logOk c) w.heap.size v k w'∧Chg [] w w':=
 freshk_log w c hk _ (fun u hu=>(logsk_new u c.num c.den c.side c.most).mono (by
  rintro e w' (⟨k,hk,rfl,hc,hno⟩|⟨n,p,A,htab,hy,rfl,hL,hc,hf⟩)
  ·exact ⟨_,_,rfl,.inl ⟨@decide_eq_false _ (Classical.propDecidable _) hno,hk⟩,hc⟩
  ·refine ⟨_,_,rfl,.inr ⟨@decide_eq_true _ (Classical.propDecidable _) ⟨⟨n,htab⟩,hy⟩,rfl,p,_,rfl,⟨A,?_,?_,rfl⟩,fun b hb=>Nat.le_trans hu.size (hf b hb)⟩,hc⟩
   ·rw [LogD.init,tabN_eq htab]
    exact hL
   ·rw [LogD.init,tabN_eq htab]
    exact LogD.new_ok htab _ (by omega) (by omega)))
theorem LogD.ok.len_le {D:LogD} (h:D.ok):(putLog D).length≤200000:=by
 have hb:=h.bins
 have ht:=hb.tot
 have hg:=hb.tab.good
 have hm:=hb.minus
 have hp:=hb.plus
 have m2:=hm.m2
 rw [hb.mm] at m2
 have l1:=hm.len
 have l2:=hp.len
 rw [hb.mm] at l1
 rw [hb.pm] at l2
 have t1:D.bins.minus.total=totP D.bins.minus.r+D.bins.minus.lost:=rfl
 have t2:D.bins.plus.total=totP D.bins.plus.r+D.bins.plus.lost:=rfl
 have hs:D.side≤1:=by unfold LogD.side;split<;>omega
 have x1:InR D.least:=⟨h.low,by have:=h.le;have:=h.high;omega⟩
 have x2:InR D.most:=⟨by have:=h.le;have:=h.low;omega,h.high⟩
 have e1:=natB_len10 (n:=D.bins.num) (by omega)
 have e2:=natB_len10 (n:=D.bins.den) (by omega)
 have e3:=natB_len10 (n:=D.side) (by omega)
 have e4:=natB_len10 (n:=D.bins.m) (by omega)
 have e5:=natB_len10 (n:=zig D.least) (by have:=x1.zig;omega)
 have e6:=natB_len10 (n:=zig D.most) (by have:=x2.zig;omega)
 have e7:=natB_len10 (n:=D.bins.zero) (by omega)
 have e8:=natB_len10 (n:=D.bins.minus.lost) (by omega)
 have e9:=natB_len10 (n:=D.bins.plus.lost) (by omega)
 have f1:=putB_lenG D.bins.minus.r (row_ok (a:=-1000000) (b:=1000000) (by omega) (by omega) hm.ix (by omega)) (by omega)
 have f2:=putB_lenG D.bins.plus.r (row_ok (a:=-1000000) (b:=1000000) (by omega) (by omega) hp.ix (by omega)) (by omega)
 unfold putLog
 simp only [List.length_append]
 omega
noncomputable def kbLog (c:Cf) (hk:c.kind=1):Kb c where
 S:=LogD
 P:=Up 217 c LogRr
 sz:=fun _=>0
 init:=LogD.init c
 ok:=c.same { Cf.none 1 with num:=c.num,den:=c.den,side:=c.side,most:=c.most } && logOk c
 put:=LogD.put
 putE:=fun D _ n=>(D.putE n:Nat)
 enc:=putLog
 tot:=fun D=>D.bins.total
 kk:=1
 kind:=by rw [hk];rfl
 lt:=fun h=>Up.lt LogRr.und h
 chg:=fun h k hF=>Up.chg LogRr.und h k hF
 sz0:=rfl
 szp:=fun _ _ _=>⟨Nat.zero_le _,Nat.zero_le _⟩
 new:=fun w _=>new_up LogRr.und w c _ (fun u=>bare_log u c hk) (fun u hu=>(freshR_log u c hk).mono (by
  rintro e w' ⟨v,k,rfl,hq,hc⟩
  exact ⟨v,k,rfl,hq.mono hu.size,hc⟩))
 putC:=fun {w s F st} h _ x n hx hn=>by
  obtain ⟨p,G,hs,⟨A,h1,h2,rfl⟩,rfl,hns⟩:=h
  refine kk_put_log w s p c hs x n _ ((log_put w p A st h1 h2 x hx n hn).mono ?_)
  rintro e w' ⟨rfl,A',h1',hm⟩
  have a:LogRr w p (fpLog p A) st:=⟨A,h1,h2,rfl⟩
  have b:LogRr w' p (fpLog p A') (st.put x n):=⟨A',h1',LogD.put_ok h2 hx n,rfl⟩
  obtain ⟨hU,hM⟩:=Up.mv (R:=LogRr) hs a hns b hm
  exact ⟨_,rfl,rfl,_,hU,hM⟩
 encC:=fun {w s F st} h _=>by
  obtain ⟨p,G,hs,⟨A,h1,h2,rfl⟩,rfl,hns⟩:=h
  exact sk_enc_log w s p c hs 1 (by rw [hk];rfl) (putLog st) (fun u q F hu hq hF=>log_write u p A st (h1.chg hu (by simp)) h2 q F [] (by simp) hq (fun b hb e=>by have:=hF b hb;have:=h1.lt b e;omega))
 fit:=fun {w s F st} h _=>by
  obtain ⟨p,G,hs,⟨A,h1,h2,rfl⟩,rfl,hns⟩:=h
  have:=h2.len_le
  omega
 totC:=fun {w s F st} h=>by
  obtain ⟨p,G,hs,⟨A,h1,h2,rfl⟩,rfl,hns⟩:=h
  exact kk_total_log w s p c hs _ A.b (fun u hu=>log_bins u p A st (h1.chg hu (by simp))) (fun u hu=>bins_total u A st.bins (h1.bins.chg hu (by simp)) _ rfl h2.bins.tot)
 tot0:=by simp [LogD.init,BinD.new,BinD.total,CapD.total,totP]
 reset:=fun {w s F st} h hok _=>by
  have ho:logOk c=true:=by
   cases h:logOk c with
   | true=>rfl
   | false=>rw [h] at hok;simp at hok
  refine reset_up LogRr.und w c s F st h (fun u hu=>(freshR_log u c hk).mono ?_)
  rintro e w' ⟨v,k,rfl,hq,hc⟩
  rw [ho] at hq
  exact ⟨v,k,rfl,hq.mono hu.size,hc⟩
set_option maxRecDepth 100000 in
set_option maxHeartbeats 4000000 in
theorem kk_put_hdr (w:World) (s p:Nat) (c:Cf) (h:Sk w s c 219 p) (x:Int) (n:Nat) (R:Ending→World→Prop)
 (HP0:Calls Tryz.prog 48 #[.pointer (some ⟨p,0,none⟩),.int .i64 x,.int .u64 n] w fun e w'=>∃ k,e=.returned (.int .i64 k)∧R e w') :
 Calls Tryz.prog 21 #[.pointer (some ⟨s,0,none⟩),.int .i64 x,.int .u64 n] w R:=by
 have c11:=h.core
 have HP:=Lib.hid HP0
 clear h HP0
 go_enter Tryz.func21,Tryz.ntmps21
 go_wp2_with fail
 refine HP.out.mono ?_
 rintro e w1 ⟨k,rfl,hR⟩
 have HR:=Lib.hid hR
 clear hR HP
 go_wp2_with fail
 exact HR.out
set_option maxRecDepth 100000 in
set_option maxHeartbeats 4000000 in
theorem kc_total_hdr (w:World) (p:Nat) (n:Nat)
 (HP0:∀ u,Chg [] w u→Calls Tryz.prog 52 #[.pointer (some ⟨p,0,none⟩)] u fun e w'=>e=.returned (.int .u64 (n:Nat))∧Chg [] u w') :
 Calls Tryz.prog 364 #[.agg #[.pointer (some ⟨p,0,none⟩)]] w fun e w'=>e=.returned (.int .u64 (n:Nat))∧Chg [] w w':=by
 have HP:=Lib.hid HP0
 have HC:=Lib.hid ((Chg.refl [] w).alloc (.cells #[.pointer (some ⟨p,0,none⟩)] 219))
 clear HP0
 go_enter Tryz.func364,Tryz.ntmps364
 go_wp2_with fail
 refine (HP.out _ HC.out).mono ?_
 rintro e w1 ⟨rfl,hc⟩
 have HC1:=Lib.hid (HC.out.trans hc)
 clear hc HP
 go_wp2
 go_ret
 exact ⟨rfl,HC1.out⟩
set_option maxRecDepth 100000 in
set_option maxHeartbeats 4000000 in
theorem kk_total_hdr (w:World) (s p:Nat) (c:Cf) (h:Sk w s c 219 p) (n:Nat)
 (HP0:∀ u,Chg [] w u→Calls Tryz.prog 52 #[.pointer (some ⟨p,0,none⟩)] u fun e w'=>e=.returned (.int .u64 (n:Nat))∧Chg [] u w') :
 Calls Tryz.prog 20 #[.pointer (some ⟨s,0,none⟩)] w fun e w'=>e=.returned (.int .u64 (n:Nat))∧Chg [] w w':=by
 have c11:=h.core
 have HT:=Lib.hid (kc_total_hdr w p n HP0)
 clear h HP0
 go_enter Tryz.func20,Tryz.ntmps20
 go_wp2_with fail
 refine HT.out.mono ?_
 rintro e w1 ⟨rfl,hc⟩
 have HC:=Lib.hid hc
 clear hc HT
 go_wp2
 go_ret
 exact ⟨rfl,HC.out⟩
set_option maxRecDepth 100000 in
theorem wide_logN (w:World) (x n:Nat) (hx:x≤18446744073709551615) (h0:1≤x) (hn:Lib.bitLen x=n+1) (hn2:n≤64):Calls Tryz.prog 233 #[.int .u64 (x:Nat)] w fun e w'=>e=.returned (.tuple #[.int .i64 (n:Nat),.bool true])∧w=w':=by
 have HL:=Lib.hid (bits_len64 (x:Int) w (by omega) (by omega))
 rw [Int.toNat_natCast,hn] at HL
 have e1:((x:Int) != 0)=true:=by rw [bne_iff_ne];omega
 have e2:IntKind.i64.wrap (((n+1:Nat):Int)-1)=(n:Int):=by rw [IntKind.wrap_i64];omega
 clear hn
 go_enter Tryz.func233,Tryz.ntmps233
 go_wp2_with fail
 refine HL.out.mono ?_
 rintro e w' ⟨rfl,rfl⟩
 go_wp2_with fail
 go_ret2
 exact ⟨by first|rfl|simp,rfl⟩
theorem SpanS.cells {w:World} {p d:Nat} (h:SpanS w p d):w.cell? ⟨p,0,none⟩=some (.int .i64 (d:Int))∧w.cell? ⟨p,1,none⟩=some (.int .i64 (logD d:Nat)):=⟨Blk.cell h 0,Blk.cell h 1⟩
theorem logD_le (d:Nat):logD d≤14:=by
 unfold logD
 split<;>omega
theorem castPow (k:Nat):((2^k:Nat):Int)=(2:Int)^k:=by simp
set_option maxRecDepth 100000 in
theorem span_shift (w:World) (p d:Nat) (h:SpanS w p d) (m:Nat) (h0:1≤m) (h1:m≤two63) (k:Nat) (hk:k=spShift (logD d) m) :
 Calls Tryz.prog 207 #[.pointer (some ⟨p,0,none⟩),.int .u64 (m:Nat)] w fun e w'=>e=.returned (.int .i64 (k:Nat))∧w=w':=by
 obtain ⟨b1,b2,-,-⟩:=bitLen_bnds h0 h1
 obtain ⟨n,hn⟩:∃ n,Lib.bitLen m=n+1:=⟨Lib.bitLen m-1,by omega⟩
 have HL:=Lib.hid (wide_logN w m n (by unfold two63 at h1;omega) h0 hn (by omega))
 have hL:=logD_le d
 obtain ⟨-,c1⟩:=h.cells
 obtain ⟨L,hLd⟩:∃ L,L=logD d:=⟨_,rfl⟩
 rw [←hLd] at c1 hL hk
 have e0:(k:Int)=max ((n:Int)-(L:Int)) 0:=by rw [hk];unfold spShift;rw [hn];omega
 obtain ⟨z,hz⟩:∃ z:Int,z=(n:Int)-(L:Int):=⟨_,rfl⟩
 have e1:IntKind.i64.wrap ((n:Int)-(L:Int))=z:=by rw [IntKind.wrap_i64];omega
 rw [←hz] at e0
 have HE:=Lib.hid e0
 have HZ:=Lib.hid (show -100≤z∧z≤100 from by omega)
 clear h hn hLd hk b1 b2 h0 h1 hz e0
 go_enter Tryz.func207,Tryz.ntmps207
 go_wp2_with fail
 refine HL.out.mono ?_
 rintro e w' ⟨rfl,rfl⟩
 go_wp2
 go_ret
 refine ⟨?_,rfl⟩
 rw [HE.out]
 rfl
set_option maxRecDepth 100000 in
set_option maxHeartbeats 1000000 in
theorem span_index (w:World) (p d:Nat) (h:SpanS w p d) (m:Nat) (h0:1≤m) (h1:m≤two63) (i:Nat) (hi:i=spIdx (logD d) m) :
 Calls Tryz.prog 159 #[.pointer (some ⟨p,0,none⟩),.int .u64 (m:Nat)] w fun e w'=>e=.returned (.tuple #[.int .i64 (i:Nat),.bool true])∧Chg [] w w':=by
 obtain ⟨b1,b2,-,-⟩:=bitLen_bnds h0 h1
 have hL:=logD_le d
 obtain ⟨-,c1⟩:=h.cells
 obtain ⟨k,hk⟩:∃ k,k=spShift (logD d) m:=⟨_,rfl⟩
 have HL:=Lib.hid (span_shift w p d h m h0 h1 k hk)
 have hk63:k≤63:=by rw [hk];unfold spShift;omega
 have ho:=(spIdx_ok (L:=logD d) (by omega) h0 h1).2
 unfold spIdx at hi ho
 rw [←hk] at hi ho
 obtain ⟨L,hLd⟩:∃ L,L=logD d:=⟨_,rfl⟩
 rw [←hLd] at c1 hL hi ho
 have hlast:spLast L≤1048576:=by
  unfold spLast
  have h2:2^L≤2^14:=Nat.pow_le_pow_right (by decide) hL
  have h3:=Nat.mul_le_mul (show 64-L≤64 by omega) h2
  omega
 obtain ⟨q,hq⟩:∃ q,q=m / 2^k:=⟨_,rfl⟩
 obtain ⟨a,ha⟩:∃ a,a=k*2^L:=⟨_,rfl⟩
 rw [←hq,←ha] at hi ho
 have e1:IntKind.i64.wrap ((k:Int)*2^L)=(a:Int):=by
  rw [←castPow,←Int.natCast_mul,←ha,IntKind.wrap_i64];omega
 have e2:(m:Int) / 2^k=(q:Int):=by rw [←castPow,←Int.natCast_ediv,←hq]
 have e3:IntKind.i64.wrap ((a:Int)+(q:Int))=(i:Int):=by rw [IntKind.wrap_i64];omega
 have e4:IntKind.i64.wrap (q:Int)=(q:Int):=by rw [IntKind.wrap_i64];omega
 have d1:((m:Int)==0)=false:=by rw [beq_eq_false_iff_ne];omega
 have d2:decide (9223372036854775808<m)=false:=decide_eq_false (by unfold two63 at h1;omega)
 have d2':decide (9223372036854775808<(m:Int))=false:=decide_eq_false (by unfold two63 at h1;omega)
 have d3:(m==0)=false:=by rw [beq_eq_false_iff_ne];omega
 clear h hk ho hi hlast hLd b1 b2 h0 h1 hq ha
 go_enter Tryz.func159,Tryz.ntmps159
 go_wp2_with fail
 refine HL.out.mono ?_
 rintro e w' ⟨rfl,rfl⟩
 go_wp2_with fail
 go_quiet (fail)
 go_wp2
 go_ret2
 exact ⟨rfl,(Chg.refl [] w).drewN _⟩
end Go.Proofs.YthoolcpcmhhkpaaGreatDoor
namespace Go.Proofs.YthoolcpcmhhkpaaGreatDoor
open Go.RowKit
namespace HdS
variable {w w1:World} {h p s0 s1:Nat} {r0 r1:Value} {D:HdD}
theorem nil (x:HdS w h p s0 s1 r0 r1 D) (k:Chg [] w w1):HdS w1 h p s0 s1 r0 r1 D:=x.chg k (by simp)
theorem cells (d:HdS w h p s0 s1 r0 r1 D):w.cell? ⟨h,0,none⟩=some (.int .i64 (D.digits:Int))∧w.cell? ⟨h,1,none⟩=some (.int .u64 (D.limit:Nat))∧w.cell? ⟨h,2,none⟩=some (.pointer (some ⟨p,0,none⟩))∧w.cell? ⟨h,3,none⟩=some (.pointer (some ⟨s0,0,none⟩))∧w.cell? ⟨h,4,none⟩=some (.pointer (some ⟨s1,0,none⟩))∧w.cell? ⟨h,5,none⟩=some (.int .u64 (D.zero:Nat))∧w.cell? ⟨h,6,none⟩=some (.int .i64 D.least)∧w.cell? ⟨h,7,none⟩=some (.int .i64 D.most):=
 ⟨d.blk.cell 0,d.blk.cell 1,d.blk.cell 2,d.blk.cell 3,d.blk.cell 4,d.blk.cell 5,d.blk.cell 6,d.blk.cell 7⟩
theorem own (d:HdS w h p s0 s1 r0 r1 D) (k:Chg [h] w w1) {E:HdD} (hb:Blk w1 h #[.int .i64 (E.digits:Int),.int .u64 (E.limit:Nat),.pointer (some ⟨p,0,none⟩),.pointer (some ⟨s0,0,none⟩),.pointer (some ⟨s1,0,none⟩),.int .u64 (E.zero:Nat),.int .i64 E.least,.int .i64 E.most] 165) (e1:E.digits=D.digits) (e2:E.minus=D.minus) (e3:E.plus=D.plus):HdS w1 h p s0 s1 r0 r1 E:=
 ⟨hb,by rw [e1];exact Blk.chg d.span k (by simpa using d.hp.symm),by rw [e2];exact d.st0.chg k (fun b hb e=>d.h0.1 (by rw [List.mem_singleton.1 e] at hb;exact hb)),by rw [e3];exact d.st1.chg k (fun b hb e=>d.h1.1 (by rw [List.mem_singleton.1 e] at hb;exact hb)),d.hp,d.h0,d.h1,d.s01⟩
theorem setEnds (d:HdS w h p s0 s1 r0 r1 D) (lo hi:Int):HdS ((w.setCell ⟨h,6,none⟩ (.int .i64 lo)).setCell ⟨h,7,none⟩ (.int .i64 hi)) h p s0 s1 r0 r1 { D with least:=lo,most:=hi }∧Chg [h] w ((w.setCell ⟨h,6,none⟩ (.int .i64 lo)).setCell ⟨h,7,none⟩ (.int .i64 hi)):=by
 have k:Chg [h] w ((w.setCell ⟨h,6,none⟩ (.int .i64 lo)).setCell ⟨h,7,none⟩ (.int .i64 hi)):=((Chg.refl _ w).setCell (a:=⟨h,6,none⟩) (.inl (by simp)) _).setCell (a:=⟨h,7,none⟩) (.inl (by simp)) _
 exact ⟨d.own k ((d.blk.setCell 6 _).setCell 7 _) rfl rfl rfl,k⟩
theorem setZero (d:HdS w h p s0 s1 r0 r1 D) (z:Nat):HdS (w.setCell ⟨h,5,none⟩ (.int .u64 (z:Nat))) h p s0 s1 r0 r1 { D with zero:=z }∧Chg [h] w (w.setCell ⟨h,5,none⟩ (.int .u64 (z:Nat))):=by
 have k:Chg [h] w (w.setCell ⟨h,5,none⟩ (.int .u64 (z:Nat))):=(Chg.refl _ w).setCell (a:=⟨h,5,none⟩) (.inl (by simp)) _
 exact ⟨d.own k (d.blk.setCell 5 _) rfl rfl rfl,k⟩
theorem mvOwn (k:Chg [h] w w1):Mv (fpHd h p s0 s1 r0 r1) w (fpHd h p s0 s1 r0 r1) w1:=Mv.of_chg (k.mono (fun b hb=>.inl (by rw [List.mem_singleton.1 hb];simp [fpHd])))
theorem pick (d:HdS w h p s0 s1 r0 r1 D) (x:Int):StM w (if x<0 then s0 else s1) 4096 (if x<0 then r0 else r1) (D.side x):=by
 unfold HdD.side
 split
 ·exact d.st0
 ·exact d.st1
theorem putSide (d:HdS w h p s0 s1 r0 r1 D) (x:Int) {rv':Value} {r':List Pr} (hs:StM w1 (if x<0 then s0 else s1) 4096 rv' r') (m:Mv (fpT (if x<0 then s0 else s1) (if x<0 then r0 else r1)) w (fpT (if x<0 then s0 else s1) rv') w1) :
 HdS w1 h p s0 s1 (if x<0 then rv' else r0) (if x<0 then r1 else rv') (D.setSide x r')∧Mv (fpHd h p s0 s1 r0 r1) w (fpHd h p s0 s1 (if x<0 then rv' else r0) (if x<0 then r1 else rv')) w1:=by
 have hlt:=d.blk.lt
 have hpl:=Blk.lt d.span
 unfold HdD.setSide
 by_cases hx:x<0
 ·simp only [if_pos hx] at hs m ⊢
  have hn:∀ b,b<w.heap.size→b∉fpT s0 r0→b∉fpT s0 rv':=fun b hb hb2 e=>by
   rcases m.fr b e with h1|h1
   ·exact hb2 h1
   ·omega
  refine ⟨⟨d.blk.chg m.chg d.h0.1,Blk.chg d.span m.chg d.h0.2,hs,d.st1.chg m.chg (fun b hb e=>d.s01 b e hb),d.hp,⟨hn h hlt d.h0.1,hn p hpl d.h0.2⟩,d.h1,fun b hb e => ?_⟩,m.chg.mono (fun b hb=>.inl (by simp [fpHd,hb])),fun b hb => ?_⟩
  ·rcases m.fr b hb with h1|h1
   ·exact d.s01 b h1 e
   ·have:=d.st1.lt b e;omega
  ·simp only [fpHd,List.mem_cons,List.mem_append] at hb ⊢
   rcases hb with h1|h1|h1|h1
   ·exact .inl (.inl h1)
   ·exact .inl (.inr (.inl h1))
   ·rcases m.fr b h1 with h2|h2
    ·exact .inl (.inr (.inr (.inl h2)))
    ·exact .inr h2
   ·exact .inl (.inr (.inr (.inr h1)))
 ·simp only [if_neg hx] at hs m ⊢
  have hn:∀ b,b<w.heap.size→b∉fpT s1 r1→b∉fpT s1 rv':=fun b hb hb2 e=>by
   rcases m.fr b e with h1|h1
   ·exact hb2 h1
   ·omega
  refine ⟨⟨d.blk.chg m.chg d.h1.1,Blk.chg d.span m.chg d.h1.2,d.st0.chg m.chg (fun b hb e=>d.s01 b hb e),hs,d.hp,d.h0,⟨hn h hlt d.h1.1,hn p hpl d.h1.2⟩,fun b hb e => ?_⟩,m.chg.mono (fun b hb=>.inl (by simp [fpHd,hb])),fun b hb => ?_⟩
  ·rcases m.fr b e with h1|h1
   ·exact d.s01 b hb h1
   ·have:=d.st0.lt b hb;omega
  ·simp only [fpHd,List.mem_cons,List.mem_append] at hb ⊢
   rcases hb with h1|h1|h1|h1
   ·exact .inl (.inl h1)
   ·exact .inl (.inr (.inl h1))
   ·exact .inl (.inr (.inr (.inl h1)))
   ·rcases m.fr b h1 with h2|h2
    ·exact .inl (.inr (.inr (.inr h2)))
    ·exact .inr h2
end HdS
set_option maxRecDepth 100000 in
set_option maxHeartbeats 2000000 in
theorem hd_total (w:World) (h p s0 s1:Nat) (r0 r1:Value) (D:HdD) (d:HdS w h p s0 s1 r0 r1 D) (T:Nat) (hT:T=D.total) (hT2:T≤9223372036854775807):Calls Tryz.prog 52 #[.pointer (some ⟨h,0,none⟩)] w fun e w'=>e=.returned (.int .u64 (T:Nat))∧Chg [] w w':=by
 obtain ⟨-,-,-,c3,c4,c5,-,-⟩:=d.cells
 obtain ⟨a,ha⟩:∃ a,a=totP D.minus:=⟨_,rfl⟩
 obtain ⟨b,hb⟩:∃ b,b=totP D.plus:=⟨_,rfl⟩
 obtain ⟨z,hz⟩:∃ z,z=D.zero:=⟨_,rfl⟩
 have ht:T=a+z+b:=by rw [hT,ha,hb,hz];rfl
 have H0:=Lib.hid (fun W (hc:Chg [] w W)=>stm_total W s0 4096 r0 D.minus (d.st0.chg (F:=[]) hc (by simp)))
 have H1:=Lib.hid (fun W (hc:Chg [] w W)=>stm_total W s1 4096 r1 D.plus (d.st1.chg (F:=[]) hc (by simp)))
 rw [←ha] at H0
 rw [←hb] at H1
 rw [←hz] at c5
 have e1:IntKind.u64.wrap ((a:Int)+(z:Int))=((a+z:Nat):Int):=by rw [IntKind.wrap_u64];omega
 obtain ⟨y,hy⟩:∃ y,y=a+z:=⟨_,rfl⟩
 rw [←hy] at e1 ht
 have e2:IntKind.u64.wrap ((y:Int)+(b:Int))=(T:Int):=by rw [IntKind.wrap_u64];omega
 clear d hT hT2 ha hb hz ht hy
 go_enter Tryz.func52,Tryz.ntmps52
 go_wp2_with fail
 go_quiet (first|(go_at_call 100;first|exact (H0.out _ (by with_reducible (repeat (first|exact Chg.refl _ _|apply Chg.drew|apply Chg.drewN)))).mono fun e w' ⟨he,hw⟩=>⟨he,_,hw.symm⟩|exact (H1.out _ (by with_reducible (repeat (first|exact Chg.refl _ _|apply Chg.drew|apply Chg.drewN)))).mono fun e w' ⟨he,hw⟩=>⟨he,_,hw.symm⟩))
 go_wp2
 go_ret
 exact ⟨rfl,(Chg.refl [] w).drewN _⟩
set_option maxRecDepth 100000 in
set_option maxHeartbeats 1000000 in
theorem span_index0 (w:World) (p:Nat):Calls Tryz.prog 159 #[.pointer (some ⟨p,0,none⟩),.int .u64 0] w fun e w'=>e=.returned (.tuple #[.int .i64 0,.bool false])∧w=w':=by
 go_enter Tryz.func159,Tryz.ntmps159
 go_wp2
 go_ret2
 exact ⟨rfl,rfl⟩
set_option maxRecDepth 100000 in
set_option maxHeartbeats 2000000 in
theorem hd_side (w:World) (h p s0 s1:Nat) (r0 r1:Value) (D:HdD) (d:HdS w h p s0 s1 r0 r1 D) (x:Int) (hx:InR x) (i:Int) (hi:i=if x=0 then 0 else D.idx x) (s:Nat) (hs:s=if x<0 then s0 else s1) (B:Bool) (hB:B=decide (x≠0)) :
 Calls Tryz.prog 94 #[.pointer (some ⟨h,0,none⟩),.int .i64 x] w fun e w'=>e=.returned (.tuple #[.pointer (some ⟨s,0,none⟩),.int .i64 i,.bool B])∧Chg [] w w':=by
 obtain ⟨m,hm⟩:∃ m,m=x.natAbs:=⟨_,rfl⟩
 obtain ⟨bl,hbl⟩:∃ b,b=decide (x<0):=⟨_,rfl⟩
 have HO:=Lib.hid (sign_of w x hx.1 hx.2 m hm bl hbl)
 have HI:Hid (Calls Tryz.prog 159 #[.pointer (some ⟨p,0,none⟩),.int .u64 (m:Nat)] w fun e w'=>e=.returned (.tuple #[.int .i64 i,.bool B])∧Chg [] w w'):=Lib.hid (by
  by_cases h0:x=0
  ·subst h0
   rw [if_pos rfl] at hi
   have hb:B=false:=by rw [hB];rfl
   have h2:m=0:=by rw [hm];rfl
   subst hi hb h2
   refine (span_index0 w p).mono ?_
   rintro e w' ⟨rfl,rfl⟩
   exact ⟨rfl,Chg.refl _ _⟩
  ·rw [if_neg h0] at hi
   have hb:B=true:=by rw [hB];exact decide_eq_true h0
   subst hb
   have h2:=hx.1
   have h3:=hx.2
   have:=span_index w p D.digits d.span m (by omega) (by unfold two63;omega) (spIdx (logD D.digits) m) rfl
   rw [hi]
   unfold HdD.idx HdD.L
   rw [←hm]
   exact this)
 obtain ⟨-,-,c2,-,-,-,-,-⟩:=d.cells
 have HD:=Lib.hid d
 have HBL:=Lib.hid (And.intro hbl hs)
 clear d hi hB hm hbl hs hx
 go_enter Tryz.func94,Tryz.ntmps94
 go_wp2_with fail
 refine HO.out.mono ?_
 rintro e w1 ⟨rfl,rfl⟩
 go_wp2_with fail
 refine HI.out.mono ?_
 rintro e w2 ⟨rfl,hc⟩
 obtain ⟨-,-,-,c3,c4,-,-,-⟩:=(HD.out.nil hc).cells
 have HC:=Lib.hid hc
 clear c2 hc HI HO
 obtain ⟨hbl,hs⟩:=HBL.out
 clear HBL
 by_cases hn:x<0
 ·rw [decide_eq_true hn] at hbl
  rw [if_pos hn] at hs
  subst hbl hs
  clear hn
  go_wp2
  refine bodyPost_ret (v:=.tuple #[.pointer (some ⟨s,0,none⟩),.int .i64 i,.bool B]) (by simp [results,Tryz.results94,go_sem]) rfl ?_
  exact ⟨rfl,HC.out⟩
 ·rw [decide_eq_false hn] at hbl
  rw [if_neg hn] at hs
  subst hbl hs
  clear hn
  go_wp2
  refine bodyPost_ret (v:=.tuple #[.pointer (some ⟨s,0,none⟩),.int .i64 i,.bool B]) (by simp [results,Tryz.results94,go_sem]) rfl ?_
  exact ⟨rfl,HC.out⟩
set_option maxRecDepth 100000 in
set_option maxHeartbeats 2000000 in
theorem hd_ends (w:World) (h p s0 s1:Nat) (r0 r1:Value) (D:HdD) (d:HdS w h p s0 s1 r0 r1 D) (ht:D.total≤9223372036854775807) (lo hi:Int) :
 Calls Tryz.prog 97 #[.pointer (some ⟨h,0,none⟩),.int .i64 lo,.int .i64 hi] w fun e w'=>e=.returned (.tuple #[])∧HdS w' h p s0 s1 r0 r1 (D.ends lo hi)∧Chg [h] w w':=by
 obtain ⟨T,hT⟩:∃ T,T=D.total:=⟨_,rfl⟩
 have HTO:=Lib.hid (hd_total w h p s0 s1 r0 r1 D d T hT (by omega))
 have HH:=Lib.hid d
 have HE:=Lib.hid (show D.ends lo hi=if T=0 then { D with least:=lo,most:=hi } else { D with least:=min D.least lo,most:=max D.most hi } from by rw [hT];rfl)
 generalize D.ends lo hi=DE at *
 clear d hT ht
 go_enter Tryz.func97,Tryz.ntmps97
 go_wp2_with fail
 refine HTO.out.mono ?_
 rintro e w1 ⟨rfl,hc1⟩
 have HC1:=Lib.hid hc1
 have HH1:=Lib.hid (HH.out.nil hc1)
 obtain ⟨-,-,-,-,-,-,c6,c7⟩:=HH1.out.cells
 have f6:=HH1.out.blk.free 6
 have f7:=HH1.out.blk.free 7
 clear hc1
 by_cases h0:T=0
 ·have d0:((T:Int)==0)=true:=by rw [beq_iff_eq];omega
  rw [if_pos h0] at HE
  have HS:=Lib.hid (HH1.out.setEnds lo hi)
  clear h0 HTO
  go_wp2_with fail
  refine bodyPost_ret (results_none rfl _ _ _) rfl ?_
  rw [HE.out]
  exact ⟨rfl,HS.out.1,HC1.out.nil.trans HS.out.2⟩
 ·have d0:((T:Int)==0)=false:=by rw [beq_eq_false_iff_ne];omega
  rw [if_neg h0] at HE
  have HS:=Lib.hid (HH1.out.setEnds (min D.least lo) (max D.most hi))
  have e1:(if lo<D.least then lo else D.least)=min D.least lo:=by split<;>omega
  have e2:(if D.most<hi then hi else D.most)=max D.most hi:=by split<;>omega
  clear h0 HTO
  go_wp2_with fail
  go_region_with (fail)
  all_goals
   go_end0
   rw [HE.out]
   exact ⟨rfl,(HS.out.1).chg ((Chg.refl [] _).drew) (by simp),(HC1.out.nil.trans HS.out.2).drew⟩
set_option maxRecDepth 100000 in
theorem hd_put_zero (w:World) (h:Nat) (x:Int):Calls Tryz.prog 48 #[.pointer (some ⟨h,0,none⟩),.int .i64 x,.int .u64 0] w fun e w'=>e=.returned (.int .i64 1)∧w=w':=by
 go_enter Tryz.func48,Tryz.ntmps48
 go_wp2
 go_ret
 exact ⟨rfl,rfl⟩
end Go.Proofs.YthoolcpcmhhkpaaGreatDoor
