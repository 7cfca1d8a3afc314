/-
  Parts of a proof, pressed. Conditions: the form's own reach.
-/
import Derived.Test.YthoolcpcmhhkpaaGreatDoorSuiteConfigsB3
import Derived.WalkKit
import Derived.Laws.BitsAllLaws
import Derived.Test.YthoolcpcmhhkpaaGreatDoorProg
import Derived.Test.YthoolcpcmhhkpaaGreatDoorSuiteConfigsB1
import Derived.Handy
import Derived.Deep.DeepMust
namespace Go.Proofs.YthoolcpcmhhkpaaGreatDoor
open Go.RowKit
theorem scfg_under:Tryz.prog.underlying 28=some (.struct (Tryz.prog.fieldsOf 28)):=by kernel_rfl
theorem scfg_stood:Tryz.prog.stoodInHeld 28=false:=by kernel_rfl
def Cf.same (a b:Cf):Bool:=a.kind==b.kind&&a.num==b.num&&a.den==b.den&&a.side==b.side&&a.most==b.most&&a.digits==b.digits&&a.limit==b.limit&&a.depth==b.depth&&a.factor==b.factor&&a.width==b.width&&a.word==b.word
set_option maxHeartbeats 2000000 in
theorem scfg_neq (a b:Cf) (w:World):(binOp .neq 28 a.val b.val).run Tryz.prog w=.ok (.bool (!(a.same b))) w:=by
 obtain ⟨a1,a2,a3,a4,a5,a6,a7,a8,a9,a10,a11⟩:=a
 obtain ⟨b1,b2,b3,b4,b5,b6,b7,b8,b9,b10,b11⟩:=b
 simp only [Cf.val,Cf.cells,Cf.same]
 have u1:=Tryz.underlying22
 have u2:=Tryz.underlying25
 have u3:=Tryz.underlying26
 have u4:=Tryz.underlying3
 have u5:=Tryz.underlying23
 have a1:=Tryz.isAgg22
 have a2:=Tryz.isAgg25
 have a3:=Tryz.isAgg26
 have a4:=Tryz.isAgg3
 have a5:=Tryz.isAgg23
 have z1:=Tryz.sizeOf22
 have z2:=Tryz.sizeOf25
 have z3:=Tryz.sizeOf26
 have z4:=Tryz.sizeOf3
 have z5:=Tryz.sizeOf23
 rw [run_neq_struct,show (10000:Nat)=9999+1 from rfl,run_equalIn_agg w 9999 28 _ _ scfg_under scfg_stood]
 simp only [Program.fieldsOf,Tryz.underlying28]
 go_simp
 clear u1 u2 u3 u4 u5 a1 a2 a3 a4 a5 z1 z2 z3 z4 z5
 repeat' split
 all_goals simp_all
 all_goals omega
end Go.Proofs.YthoolcpcmhhkpaaGreatDoor
namespace Go.Proofs.YthoolcpcmhhkpaaGreatDoor
open Go.RowKit
theorem cf_cells {w:World} {b:Nat} {c:Cf} (h:Blk w b c.cells 28):w.cell? ⟨b,0,none⟩=some (.int .i64 c.kind)∧w.cell? ⟨b,1,none⟩=some (.int .u64 c.num)∧w.cell? ⟨b,2,none⟩=some (.int .u64 c.den)∧w.cell? ⟨b,3,none⟩=some (.int .i64 c.side)∧w.cell? ⟨b,4,none⟩=some (.int .i64 c.most)∧w.cell? ⟨b,5,none⟩=some (.int .i64 c.digits)∧w.cell? ⟨b,6,none⟩=some (.int .u64 c.limit)∧w.cell? ⟨b,7,none⟩=some (.int .i64 c.depth)∧w.cell? ⟨b,8,none⟩=some (.int .i64 c.factor)∧w.cell? ⟨b,9,none⟩=some (.int .i64 c.width)∧w.cell? ⟨b,10,none⟩=some (.int .u64 c.word):=
 ⟨h.cell 0,h.cell 1,h.cell 2,h.cell 3,h.cell 4,h.cell 5,h.cell 6,h.cell 7,h.cell 8,h.cell 9,h.cell 10⟩
def NewP (w w':World) (same:Bool) (cs:Array Value) (R:World→Nat→Value→Int→Prop) (e:Ending):Prop:=(same=false∧e=.returned (.tuple #[.pointer none,.int .i64 1])∧Chg [] w w') ∨
     (same=true∧∃ T d k w1,R w1 T d k∧Chg [] w w1∧((k≠0∧e=.returned (.tuple #[.pointer none,.int .i64 k])∧w'=w1)∨(k=0∧e=.returned (.tuple #[.pointer (some ⟨w1.heap.size,0,none⟩),.int .i64 0])∧w'=w1.alloc (.cells (cs ++ #[.iface T d]) 86))))
set_option maxRecDepth 100000 in
set_option maxHeartbeats 4000000 in
theorem suite_newK (w:World) (c b:Cf) (HB0:∀ u,Calls Tryz.prog 69 #[c.val] u fun e w'=>e=.returned b.val∧Chg [] u w') (R:World→Nat→Value→Int→Prop)
 (HF0:∀ u,Chg [] w u→Calls Tryz.prog 66 #[c.val] u fun e w'=>∃ T d k,e=.returned (.tuple #[.iface T d,.int .i64 k])∧R w' T d k∧Chg [] u w') :
 Calls Tryz.prog 27 #[c.val] w fun e w'=>NewP w w' (c.same b) c.cells R e:=by
 have hb0:=Blk.alloc_new w c.cells 28
 have HC0:=Lib.hid ((Chg.refl [] w).alloc (.cells c.cells 28))
 obtain ⟨bq,hbq⟩:∃ z,z=w.heap.size:=⟨_,rfl⟩
 rw [←hbq] at hb0
 have HCE:=Lib.hid (fun u (hu:Chg [] (w.alloc (.cells c.cells 28)) u)=>cf_cells (hb0.chg hu (by simp)))
 have HB:=Lib.hid HB0
 have HF:=Lib.hid HF0
 have HEQ:=Lib.hid (fun u=>scfg_neq c b u)
 obtain ⟨S,hS⟩:∃ S,S=c.same b:=⟨_,rfl⟩
 rw [←hS] at HEQ ⊢
 clear HB0 HF0 hb0 hS
 obtain ⟨q1,q2,q3,q4,q5,q6,q7,q8,q9,q10,q11⟩:=b
 obtain ⟨k,num,den,side,most,digits,limit,depth,factor,width,word⟩:=c
 simp only [Cf.val,Cf.cells] at *
 go_enter Tryz.func27,Tryz.ntmps27
 go_upto_region 2 with (fail)
 rw [←hbq]
 clear hbq
 generalize w.alloc (.cells #[.int .i64 k,.int .u64 num,.int .u64 den,.int .i64 side,.int .i64 most,.int .i64 digits,.int .u64 limit,.int .i64 depth,.int .i64 factor,.int .i64 width,.int .u64 word] 28)=w0 at *
 obtain ⟨c0,c1,c2,c3,c4,c5,c6,c7,c8,c9,c10⟩:=HCE.out w0.drew (Chg.refl [] w0).drew
 have hq:=HEQ.out
 go_region_with (go_at_call 69;refine (HB.out _).mono ?_;rintro e w1 ⟨rfl,hc1⟩;obtain ⟨k0,k1,k2,k3,k4,k5,k6,k7,k8,k9,k10⟩:=HCE.out w1 ((Chg.refl [] w0).drew.trans hc1))
 all_goals
  have HC1:=Lib.hid ((Chg.refl [] w0).drew.trans hc1)
  clear hc1 HB hq c0 c1 c2 c3 c4 c5 c6 c7 c8 c9 c10 k0 k1 k2 k3 k4 k5 k6 k7 k8 k9 k10
  obtain ⟨c0,c1,c2,c3,c4,c5,c6,c7,c8,c9,c10⟩:=HCE.out w1 HC1.out
  cases S with
  | false =>
    go_wp2
    go_ret2
    exact .inl ⟨rfl,rfl,HC0.out.trans HC1.out⟩
  | true =>
    go_wp2_with fail
    refine (HF.out w1 (HC0.out.trans HC1.out)).mono ?_
    rintro e w2 ⟨T,d,e',rfl,hR,hc2⟩
    have HC2:=Lib.hid (HC1.out.trans hc2)
    have HR:=Lib.hid hR
    clear hc2 hR HF HEQ c0 c1 c2 c3 c4 c5 c6 c7 c8 c9 c10
    obtain ⟨c0,c1,c2,c3,c4,c5,c6,c7,c8,c9,c10⟩:=HCE.out w2 HC2.out
    by_cases he:e'=0
    ·subst he
     go_wp2
     go_ret2
     exact .inr ⟨rfl,T,d,0,w2,HR.out,HC0.out.trans HC2.out,.inr ⟨rfl,rfl,by simp⟩⟩
    ·have hb:(e' != 0)=true:=by rw [bne_iff_ne];exact he
     go_wp2
     go_ret2
     exact .inr ⟨rfl,T,d,e',w2,HR.out,HC0.out.trans HC2.out,.inl ⟨he,rfl,rfl⟩⟩
def Sk (w:World) (s:Nat) (c:Cf) (T:Nat) (p:Nat):Prop:=Blk w s (c.cells ++ #[.iface T (.agg #[.pointer (some ⟨p,0,none⟩)])]) 86
namespace Sk
variable {w w1:World} {s T p:Nat} {c:Cf}
theorem kind (h:Sk w s c T p):w.cell? ⟨s,0,none⟩=some (.int .i64 c.kind):=Blk.cell h 0
theorem core (h:Sk w s c T p):w.cell? ⟨s,11,none⟩=some (.iface T (.agg #[.pointer (some ⟨p,0,none⟩)])):=Blk.cell h 11
theorem chg {F:List Nat} (h:Sk w s c T p) (k:Chg F w w1) (hs:s∉F):Sk w1 s c T p:=Blk.chg h k hs
theorem nil (h:Sk w s c T p) (k:Chg [] w w1):Sk w1 s c T p:=Blk.chg h k (by simp)
end Sk
theorem Cf.same_eq {a b:Cf} (h:a.same b=true):a=b:=by
 cases a
 cases b
 simp only [Cf.same,Bool.and_eq_true,beq_iff_eq] at h
 simp only [Cf.mk.injEq]
 simp_all
theorem mv_sk {s:Nat} {F F':List Nat} {w w':World} (h:Mv F w F' w'):Mv (s::F) w (s::F') w':=
 ⟨h.chg.mono (fun b hb=>.inl (by simp [hb])),fun b hb=>by
  rcases List.mem_cons.1 hb with rfl|hb
  ·exact .inl (by simp)
  ·rcases h.fr b hb with h1|h1
   ·exact .inl (by simp [h1])
   ·exact .inr h1⟩
end Go.Proofs.YthoolcpcmhhkpaaGreatDoor
namespace Go.Proofs.YthoolcpcmhhkpaaGreatDoor
open Go.RowKit
set_option maxRecDepth 100000 in
set_option maxHeartbeats 4000000 in
theorem freshk_log (w:World) (c:Cf) (hk:c.kind=1) (Q:Option Addr→Int→World→Prop)
 (HN0:∀ u,Chg [] w u→Calls Tryz.prog 36 #[.agg #[.int .u64 c.num,.int .u64 c.den,.int .i64 c.side,.int .i64 c.most]] u fun e w'=>∃ v k,e=.returned (.tuple #[.pointer v,.int .i64 k])∧Q v k w'∧Chg [] u w') :
 Calls Tryz.prog 66 #[c.val] w fun e w'=>∃ v k,e=.returned (.tuple #[.iface 217 (.agg #[.pointer v]),.int .i64 k])∧Q v k w'∧Chg [] w w':=by
 obtain ⟨k,num,den,side,most,digits,limit,depth,factor,width,word⟩:=c
 simp only at hk HN0
 subst hk
 have HC0:=Lib.hid ((Chg.refl [] w).alloc (.cells #[.int .i64 1,.int .u64 num,.int .u64 den,.int .i64 side,.int .i64 most,.int .i64 digits,.int .u64 limit,.int .i64 depth,.int .i64 factor,.int .i64 width,.int .u64 word] 28))
 have HN:=Lib.hid HN0
 clear HN0
 simp only [Cf.val,Cf.cells]
 go_enter Tryz.func66,Tryz.ntmps66
 go_wp2_with fail
 refine ((HN.out _ ?hq)).mono ?_
 case hq=>with_reducible (repeat (first|exact Chg.refl _ _|exact HC0.out|apply Chg.alloc|apply Chg.drew))
 rintro e w1 ⟨v,k,rfl,hq,hc1⟩
 have HC1:=Lib.hid hc1
 have HQ:=Lib.hid hq
 clear hc1 hq HN
 go_wp2
 go_ret2
 exact ⟨_,_,rfl,HQ.out,HC0.out.trans HC1.out⟩
set_option maxRecDepth 100000 in
set_option maxHeartbeats 4000000 in
theorem freshk_hdr (w:World) (c:Cf) (hk:c.kind=2) (Q:Option Addr→Int→World→Prop)
 (HN0:∀ u,Chg [] w u→Calls Tryz.prog 47 #[.agg #[.int .i64 c.digits,.int .u64 c.limit]] u fun e w'=>∃ v k,e=.returned (.tuple #[.pointer v,.int .i64 k])∧Q v k w'∧Chg [] u w') :
 Calls Tryz.prog 66 #[c.val] w fun e w'=>∃ v k,e=.returned (.tuple #[.iface 219 (.agg #[.pointer v]),.int .i64 k])∧Q v k w'∧Chg [] w w':=by
 obtain ⟨k,num,den,side,most,digits,limit,depth,factor,width,word⟩:=c
 simp only at hk HN0
 subst hk
 have HC0:=Lib.hid ((Chg.refl [] w).alloc (.cells #[.int .i64 2,.int .u64 num,.int .u64 den,.int .i64 side,.int .i64 most,.int .i64 digits,.int .u64 limit,.int .i64 depth,.int .i64 factor,.int .i64 width,.int .u64 word] 28))
 have HN:=Lib.hid HN0
 clear HN0
 simp only [Cf.val,Cf.cells]
 go_enter Tryz.func66,Tryz.ntmps66
 go_wp2_with fail
 refine ((HN.out _ ?hq)).mono ?_
 case hq=>with_reducible (repeat (first|exact Chg.refl _ _|exact HC0.out|apply Chg.alloc|apply Chg.drew))
 rintro e w1 ⟨v,k,rfl,hq,hc1⟩
 have HC1:=Lib.hid hc1
 have HQ:=Lib.hid hq
 clear hc1 hq HN
 go_wp2
 go_ret2
 exact ⟨_,_,rfl,HQ.out,HC0.out.trans HC1.out⟩
set_option maxRecDepth 100000 in
set_option maxHeartbeats 4000000 in
theorem freshk_digest (w:World) (c:Cf) (hk:c.kind=3) (Q:Option Addr→Int→World→Prop)
 (HN0:∀ u,Chg [] w u→Calls Tryz.prog 55 #[.agg #[.int .i64 c.depth,.int .i64 c.factor]] u fun e w'=>∃ v k,e=.returned (.tuple #[.pointer v,.int .i64 k])∧Q v k w'∧Chg [] u w') :
 Calls Tryz.prog 66 #[c.val] w fun e w'=>∃ v k,e=.returned (.tuple #[.iface 221 (.agg #[.pointer v]),.int .i64 k])∧Q v k w'∧Chg [] w w':=by
 obtain ⟨k,num,den,side,most,digits,limit,depth,factor,width,word⟩:=c
 simp only at hk HN0
 subst hk
 have HC0:=Lib.hid ((Chg.refl [] w).alloc (.cells #[.int .i64 3,.int .u64 num,.int .u64 den,.int .i64 side,.int .i64 most,.int .i64 digits,.int .u64 limit,.int .i64 depth,.int .i64 factor,.int .i64 width,.int .u64 word] 28))
 have HN:=Lib.hid HN0
 clear HN0
 simp only [Cf.val,Cf.cells]
 go_enter Tryz.func66,Tryz.ntmps66
 go_wp2_with fail
 refine ((HN.out _ ?hq)).mono ?_
 case hq=>with_reducible (repeat (first|exact Chg.refl _ _|exact HC0.out|apply Chg.alloc|apply Chg.drew))
 rintro e w1 ⟨v,k,rfl,hq,hc1⟩
 have HC1:=Lib.hid hc1
 have HQ:=Lib.hid hq
 clear hc1 hq HN
 go_wp2
 go_ret2
 exact ⟨_,_,rfl,HQ.out,HC0.out.trans HC1.out⟩
set_option maxRecDepth 100000 in
set_option maxHeartbeats 4000000 in
theorem freshk_green (w:World) (c:Cf) (hk:c.kind=4) (Q:Option Addr→Int→World→Prop)
 (HN0:∀ u,Chg [] w u→Calls Tryz.prog 109 #[.agg #[.int .u64 c.num,.int .u64 c.den]] u fun e w'=>∃ v k,e=.returned (.tuple #[.pointer v,.int .i64 k])∧Q v k w'∧Chg [] u w') :
 Calls Tryz.prog 66 #[c.val] w fun e w'=>∃ v k,e=.returned (.tuple #[.iface 223 (.agg #[.pointer v]),.int .i64 k])∧Q v k w'∧Chg [] w w':=by
 obtain ⟨k,num,den,side,most,digits,limit,depth,factor,width,word⟩:=c
 simp only at hk HN0
 subst hk
 have HC0:=Lib.hid ((Chg.refl [] w).alloc (.cells #[.int .i64 4,.int .u64 num,.int .u64 den,.int .i64 side,.int .i64 most,.int .i64 digits,.int .u64 limit,.int .i64 depth,.int .i64 factor,.int .i64 width,.int .u64 word] 28))
 have HN:=Lib.hid HN0
 clear HN0
 simp only [Cf.val,Cf.cells]
 go_enter Tryz.func66,Tryz.ntmps66
 go_wp2_with fail
 refine ((HN.out _ ?hq)).mono ?_
 case hq=>with_reducible (repeat (first|exact Chg.refl _ _|exact HC0.out|apply Chg.alloc|apply Chg.drew))
 rintro e w1 ⟨v,k,rfl,hq,hc1⟩
 have HC1:=Lib.hid hc1
 have HQ:=Lib.hid hq
 clear hc1 hq HN
 go_wp2
 go_ret2
 exact ⟨_,_,rfl,HQ.out,HC0.out.trans HC1.out⟩
set_option maxRecDepth 100000 in
set_option maxHeartbeats 4000000 in
theorem freshk_req (w:World) (c:Cf) (hk:c.kind=5) (Q:Option Addr→Int→World→Prop)
 (HN0:∀ u,Chg [] w u→Calls Tryz.prog 117 #[.agg #[.int .i64 c.width,.int .u64 c.word]] u fun e w'=>∃ v k,e=.returned (.tuple #[.pointer v,.int .i64 k])∧Q v k w'∧Chg [] u w') :
 Calls Tryz.prog 66 #[c.val] w fun e w'=>∃ v k,e=.returned (.tuple #[.iface 225 (.agg #[.pointer v]),.int .i64 k])∧Q v k w'∧Chg [] w w':=by
 obtain ⟨k,num,den,side,most,digits,limit,depth,factor,width,word⟩:=c
 simp only at hk HN0
 subst hk
 have HC0:=Lib.hid ((Chg.refl [] w).alloc (.cells #[.int .i64 5,.int .u64 num,.int .u64 den,.int .i64 side,.int .i64 most,.int .i64 digits,.int .u64 limit,.int .i64 depth,.int .i64 factor,.int .i64 width,.int .u64 word] 28))
 have HN:=Lib.hid HN0
 clear HN0
 simp only [Cf.val,Cf.cells]
 go_enter Tryz.func66,Tryz.ntmps66
 go_wp2_with fail
 refine ((HN.out _ ?hq)).mono ?_
 case hq=>with_reducible (repeat (first|exact Chg.refl _ _|exact HC0.out|apply Chg.alloc|apply Chg.drew))
 rintro e w1 ⟨v,k,rfl,hq,hc1⟩
 have HC1:=Lib.hid hc1
 have HQ:=Lib.hid hq
 clear hc1 hq HN
 go_wp2
 go_ret2
 exact ⟨_,_,rfl,HQ.out,HC0.out.trans HC1.out⟩
set_option maxRecDepth 100000 in
set_option maxHeartbeats 4000000 in
theorem freshk_lump (w:World) (c:Cf) (hk:c.kind=6) (Q:Option Addr→Int→World→Prop)
 (HN0:∀ u,Chg [] w u→Calls Tryz.prog 126 #[.int .i64 c.most] u fun e w'=>∃ v k,e=.returned (.tuple #[.pointer v,.int .i64 k])∧Q v k w'∧Chg [] u w') :
 Calls Tryz.prog 66 #[c.val] w fun e w'=>∃ v k,e=.returned (.tuple #[.iface 227 (.agg #[.pointer v]),.int .i64 k])∧Q v k w'∧Chg [] w w':=by
 obtain ⟨k,num,den,side,most,digits,limit,depth,factor,width,word⟩:=c
 simp only at hk HN0
 subst hk
 have HC0:=Lib.hid ((Chg.refl [] w).alloc (.cells #[.int .i64 6,.int .u64 num,.int .u64 den,.int .i64 side,.int .i64 most,.int .i64 digits,.int .u64 limit,.int .i64 depth,.int .i64 factor,.int .i64 width,.int .u64 word] 28))
 have HN:=Lib.hid HN0
 clear HN0
 simp only [Cf.val,Cf.cells]
 go_enter Tryz.func66,Tryz.ntmps66
 go_wp2_with fail
 refine ((HN.out _ ?hq)).mono ?_
 case hq=>with_reducible (repeat (first|exact Chg.refl _ _|exact HC0.out|apply Chg.alloc|apply Chg.drew))
 rintro e w1 ⟨v,k,rfl,hq,hc1⟩
 have HC1:=Lib.hid hc1
 have HQ:=Lib.hid hq
 clear hc1 hq HN
 go_wp2
 go_ret2
 exact ⟨_,_,rfl,HQ.out,HC0.out.trans HC1.out⟩
end Go.Proofs.YthoolcpcmhhkpaaGreatDoor
namespace Go.Proofs.YthoolcpcmhhkpaaGreatDoor
open Go.RowKit
def Up {S:Type} (T:Nat) (c:Cf) (R:World→Nat→List Nat→S→Prop) (w:World) (s:Nat) (F:List Nat) (st:S):Prop:=
 ∃ p G,Sk w s c T p∧R w p G st∧F=s::G∧s∉G
structure Und {S:Type} (R:World→Nat→List Nat→S→Prop):Prop where
 lt:∀ {w p G st},R w p G st→∀ b∈G,b<w.heap.size
 chg:∀ {w w1 p G st H},R w p G st→Chg H w w1→(∀ b∈G,b∉H)→R w1 p G st
namespace Up
variable {S:Type} {T:Nat} {c:Cf} {R:World→Nat→List Nat→S→Prop} {w w1:World} {s:Nat} {F:List Nat} {st:S}
theorem lt (hU:Und R) (h:Up T c R w s F st):∀ b∈F,b<w.heap.size:=by
 obtain ⟨p,G,h1,h2,rfl,-⟩:=h
 intro b hb
 rcases List.mem_cons.1 hb with rfl|hb
 ·exact Blk.lt h1
 ·exact hU.lt h2 b hb
theorem chg (hU:Und R) {H:List Nat} (h:Up T c R w s F st) (k:Chg H w w1) (hF:∀ b∈F,b∉H):Up T c R w1 s F st:=by
 obtain ⟨p,G,h1,h2,rfl,h3⟩:=h
 exact ⟨p,G,h1.chg k (hF s (by simp)),hU.chg h2 k (fun b hb=>hF b (by simp [hb])),rfl,h3⟩
theorem mv {p:Nat} {G G':List Nat} {st':S} (h1:Sk w s c T p) (_h2:R w p G st) (h3:s∉G) (h4:R w1 p G' st') (m:Mv G w G' w1) :
 Up T c R w1 s (s::G') st'∧Mv (s::G) w (s::G') w1:=by
 have hn:s∉G':=fun e=>by
  rcases m.fr s e with h|h
  ·exact h3 h
  ·have:=Blk.lt h1;omega
 exact ⟨⟨p,G',h1.chg m.chg h3,h4,rfl,hn⟩,mv_sk m⟩
end Up
def FQ {S:Type} (R:World→Nat→List Nat→S→Prop) (init:S) (ok:Bool) (B:Nat) (v:Option Addr) (k:Int) (w:World):Prop:=
 (ok=false∧k≠0)∨(ok=true∧k=0∧∃ p G,v=some ⟨p,0,none⟩∧R w p G init∧∀ b∈G,B≤b)
def NewK (P:World→Nat→List Nat→Prop) (ok:Bool) (w:World) (e:Ending) (w':World):Prop:=
 (ok=false∧∃ k:Int,k≠0∧e=.returned (.tuple #[.pointer none,.int .i64 k])∧Chg [] w w') ∨
 (ok=true∧∃ s F,e=.returned (.tuple #[.pointer (some ⟨s,0,none⟩),.int .i64 0])∧P w' s F∧Chg [] w w'∧∀ b∈F,w.heap.size≤b)
theorem FQ.mono {S:Type} {R:World→Nat→List Nat→S→Prop} {init:S} {ok:Bool} {B B1:Nat} {v:Option Addr} {k:Int} {w:World} (h:FQ R init ok B1 v k w) (hB:B≤B1):FQ R init ok B v k w:=by
 rcases h with h|⟨h1,h2,p,G,h3,h4,h5⟩
 ·exact .inl h
 ·exact .inr ⟨h1,h2,p,G,h3,h4,fun b hb=>Nat.le_trans hB (h5 b hb)⟩
theorem new_up {S:Type} {T:Nat} {R:World→Nat→List Nat→S→Prop} (hU:Und R) {init:S} {ok:Bool} (w:World) (c b:Cf)
 (HB:∀ u,Calls Tryz.prog 69 #[c.val] u fun e w'=>e=.returned b.val∧Chg [] u w')
 (HF:∀ u,Chg [] w u→Calls Tryz.prog 66 #[c.val] u fun e w'=>∃ v k,e=.returned (.tuple #[.iface T (.agg #[.pointer v]),.int .i64 k])∧FQ R init ok w.heap.size v k w'∧Chg [] u w') :
 Calls Tryz.prog 27 #[c.val] w fun e w'=>NewK (fun w s F=>Up T c R w s F init) (c.same b&&ok) w e w':=by
 refine (suite_newK w c b HB (fun w1 T' d k=>T'=T∧∃ v,d=.agg #[.pointer v]∧FQ R init ok w.heap.size v k w1) (fun u hu=>(HF u hu).mono ?_)).mono ?_
 ·rintro e w' ⟨v,k,rfl,hq,hc⟩
  exact ⟨T,_,k,rfl,⟨rfl,v,rfl,hq⟩,hc⟩
 ·rintro e w' (⟨hs,rfl,hc⟩|⟨hs,T',d,k,w1,⟨rfl,v,rfl,hq⟩,hc,h⟩)
  ·exact .inl ⟨by rw [hs];rfl,1,by decide,rfl,hc⟩
  ·rcases hq with ⟨ho,hk⟩|⟨ho,hk,p,G,rfl,hR,hG⟩
   ·rcases h with ⟨-,rfl,rfl⟩|⟨h0,-,-⟩
    ·exact .inl ⟨by rw [hs,ho];rfl,k,hk,rfl,hc⟩
    ·exact absurd h0 hk
   ·rcases h with ⟨h0,-,-⟩|⟨-,rfl,rfl⟩
    ·exact absurd hk h0
    ·refine .inr ⟨by rw [hs,ho];rfl,w1.heap.size,w1.heap.size::G,rfl,⟨p,G,Blk.alloc_new _ _ _,hU.chg hR ((Chg.refl [] _).alloc _) (by simp),rfl,fun e=>by have:=hU.lt hR _ e;omega⟩,hc.alloc _,fun b hb => ?_⟩
     rcases List.mem_cons.1 hb with rfl|hb
     ·exact hc.size
     ·exact hG b hb
theorem sk_cells {w:World} {s:Nat} {c:Cf} {T p:Nat} (h:Sk w s c T p):w.cell? ⟨s,0,none⟩=some (.int .i64 c.kind)∧w.cell? ⟨s,1,none⟩=some (.int .u64 c.num)∧w.cell? ⟨s,2,none⟩=some (.int .u64 c.den)∧w.cell? ⟨s,3,none⟩=some (.int .i64 c.side)∧w.cell? ⟨s,4,none⟩=some (.int .i64 c.most)∧w.cell? ⟨s,5,none⟩=some (.int .i64 c.digits)∧w.cell? ⟨s,6,none⟩=some (.int .u64 c.limit)∧w.cell? ⟨s,7,none⟩=some (.int .i64 c.depth)∧w.cell? ⟨s,8,none⟩=some (.int .i64 c.factor)∧w.cell? ⟨s,9,none⟩=some (.int .i64 c.width)∧w.cell? ⟨s,10,none⟩=some (.int .u64 c.word):=
 ⟨Blk.cell h 0,Blk.cell h 1,Blk.cell h 2,Blk.cell h 3,Blk.cell h 4,Blk.cell h 5,Blk.cell h 6,Blk.cell h 7,Blk.cell h 8,Blk.cell h 9,Blk.cell h 10⟩
theorem Sk.setCore {w:World} {s:Nat} {c:Cf} {T p:Nat} (h:Sk w s c T p) (q:Nat):Sk (w.setCell ⟨s,11,none⟩ (.iface T (.agg #[.pointer (some ⟨q,0,none⟩)]))) s c T q∧Chg [s] w (w.setCell ⟨s,11,none⟩ (.iface T (.agg #[.pointer (some ⟨q,0,none⟩)]))):=
 ⟨Blk.setCell h 11 _,(Chg.refl _ w).setCell (.inl (by simp)) _⟩
set_option maxRecDepth 100000 in
set_option maxHeartbeats 4000000 in
theorem reset_up {S:Type} {T:Nat} {R:World→Nat→List Nat→S→Prop} (hU:Und R) {init:S} (w:World) (c:Cf) (s:Nat) (F:List Nat) (st:S) (h:Up T c R w s F st)
 (HF0:∀ u,Chg [] w u→Calls Tryz.prog 66 #[c.val] u fun e w'=>∃ v k,e=.returned (.tuple #[.iface T (.agg #[.pointer v]),.int .i64 k])∧FQ R init true w.heap.size v k w'∧Chg [] u w') :
 Calls Tryz.prog 22 #[.pointer (some ⟨s,0,none⟩)] w fun e w'=>e=.returned (.tuple #[])∧∃ F',Up T c R w' s F' init∧Mv F w F' w':=by
 obtain ⟨p,G,hs,hr,rfl,hn⟩:=h
 have HF:=Lib.hid HF0
 have HS:=Lib.hid hs
 have HCE:=Lib.hid (fun u (hu:Chg [] w u)=>sk_cells (hs.nil hu))
 clear HF0 hs hr hn
 obtain ⟨k,num,den,side,most,digits,limit,depth,factor,width,word⟩:=c
 simp only [Cf.val,Cf.cells] at HF HCE
 go_enter Tryz.func22,Tryz.ntmps22
 obtain ⟨c0,c1,c2,c3,c4,c5,c6,c7,c8,c9,c10⟩:=HCE.out w (Chg.refl [] w)
 go_wp2_with fail
 refine (HF.out _ (Chg.refl [] w)).mono ?_
 rintro e w1 ⟨v,kk,rfl,hq,hc1⟩
 have hs1:=HS.out.nil hc1
 have f11:=Blk.free hs1 11
 have c11:=hs1.core
 have HS1:=Lib.hid hs1
 have HC1:=Lib.hid hc1
 have HQ:=Lib.hid hq
 clear c0 c1 c2 c3 c4 c5 c6 c7 c8 c9 c10 HF HCE hs1 hc1 hq
 go_wp2
 go_end0
 rcases HQ.out with ⟨h,-⟩|⟨-,-,q,G',rfl,hR,hG⟩
 ·exact absurd h (by decide)
 ·obtain ⟨a,b⟩:=HS1.out.setCore q
  have hlt:=Blk.lt HS.out
  have hn:s∉G':=fun e=>by have:=hG s e;omega
  refine ⟨rfl,s::G',⟨q,G',a,hU.chg hR b (fun x hx e=>hn (by rw [List.mem_singleton.1 e] at hx;exact hx)),rfl,hn⟩,(HC1.out.nil.trans (b.mono (fun x hx=>.inl (by rw [List.mem_singleton.1 hx];simp)))),fun x hx => ?_⟩
  rcases List.mem_cons.1 hx with rfl|hx
  ·exact .inl (by simp)
  ·exact .inr (hG x hx)
end Go.Proofs.YthoolcpcmhhkpaaGreatDoor
namespace Go.Proofs.YthoolcpcmhhkpaaGreatDoor
open Go.RowKit
def natB (n:Nat):List UInt8:=if n<128 then [UInt8.ofNat n] else UInt8.ofNat (128+n % 128)::natB (n / 128)
termination_by n
decreasing_by omega
theorem natB_lt {n:Nat} (h:n<128):natB n=[UInt8.ofNat n]:=by rw [natB,if_pos h]
theorem natB_ge {n:Nat} (h:128≤n):natB n=UInt8.ofNat (128+n % 128)::natB (n / 128):=by rw [natB,if_neg (by omega)]
theorem natB_pos (n:Nat):0<(natB n).length:=by
 by_cases h:n<128
 ·rw [natB_lt h];simp
 ·rw [natB_ge (by omega)];simp
theorem natB_len (k:Nat):∀ n,n<128^(k+1)→(natB n).length≤k+1:=by
 induction k with
 | zero=>intro n h;rw [natB_lt (by omega)];simp
 | succ k ih =>
   intro n h
   by_cases h1:n<128
   ·rw [natB_lt h1];simp
   ·rw [natB_ge (by omega)]
    have:=ih (n / 128) (by
     rw [Nat.pow_succ] at h
     exact Nat.div_lt_of_lt_mul (by omega))
    simp
    omega
theorem natB_len10 {n:Nat} (h:n<2^64):(natB n).length≤10:=natB_len 9 n (by
 have:(2:Nat)^64<128^10:=by decide
 omega)
theorem toNat_ofNat {n:Nat} (h:n<256):(UInt8.ofNat n).toNat=n:=by simp;omega
theorem or_128 (m:Nat):bits .or .u8 ((m:Int) % 256) 128=((UInt8.ofNat (128+m % 128)).toNat:Int):=by
 have h:∀ k:Nat,k<256→bits .or .u8 (k:Int) 128=((UInt8.ofNat (128+k % 128)).toNat:Int):=by decide +kernel
 have:=h (m % 256) (by omega)
 rw [show ((m % 256:Nat):Int)=(m:Int) % 256 from by omega,show m % 256 % 128=m % 128 from by omega] at this
 exact this
def zig (x:Int):Nat:=if x<0 then (-2*x-1).toNat else (2*x).toNat
theorem zig_lt {x:Int} (h0:-9223372036854775808≤x) (h1:x<9223372036854775808):zig x<2^64:=by unfold zig;split<;>omega
theorem xor_ones_u64 (a:Nat) (ha:a<18446744073709551616):bits .xor .u64 (a:Int) 18446744073709551615=18446744073709551615-(a:Int):=by
 show IntKind.u64.wrap ((BitVec.ofInt 64 (a:Int) ^^^ BitVec.ofInt 64 18446744073709551615).toNat:Int)=_
 have h1:BitVec.ofInt 64 18446744073709551615=BitVec.allOnes 64:=by decide
 rw [h1,BitVec.xor_allOnes,BitVec.toNat_not,ofInt_u64 a ha]
 simp [IntKind.wrap,IntKind.bits,IntKind.signed]
 omega
theorem xor_zero_u64 (a:Nat) (ha:a<18446744073709551616):bits .xor .u64 (a:Int) 0=(a:Int):=by
 rw [u64_xor _ _ (by omega) (by omega) (by omega) (by omega)]
 simp
theorem wrap_u64' (n:Int):IntKind.u64.wrap n=n % 18446744073709551616:=by simp [IntKind.wrap,IntKind.bits,IntKind.signed]
theorem zig_bits (x:Int) (h0:-9223372036854775808≤x) (h1:x<9223372036854775808) :
 bits .xor .u64 (IntKind.u64.wrap (IntKind.u64.wrap x*2)) (IntKind.u64.wrap (x / 9223372036854775808))=(zig x:Int):=by
 simp only [wrap_u64']
 by_cases hx:x<0
 ·have e1:x / 9223372036854775808 % 18446744073709551616=18446744073709551615:=by omega
  obtain ⟨a,ha⟩:=Int.eq_ofNat_of_zero_le (show 0≤x % 18446744073709551616*2 % 18446744073709551616 by omega)
  rw [e1,ha,xor_ones_u64 a (by omega)]
  unfold zig
  rw [if_pos hx]
  omega
 ·have e1:x / 9223372036854775808 % 18446744073709551616=0:=by omega
  obtain ⟨a,ha⟩:=Int.eq_ofNat_of_zero_le (show 0≤x % 18446744073709551616*2 % 18446744073709551616 by omega)
  rw [e1,ha,xor_zero_u64 a (by omega)]
  unfold zig
  rw [if_neg hx]
  omega
end Go.Proofs.YthoolcpcmhhkpaaGreatDoor
namespace Go.Proofs.YthoolcpcmhhkpaaGreatDoor
def crcT (c:Nat):Nat:=if c % 2=1 then (c / 2) ^^^ 3988292384 else c / 2
def crcTN:Nat→Nat→Nat
 | 0,c=>c
 | n+1,c=>crcT (crcTN n c)
def crcStep (c:Nat) (b:UInt8):Nat:=crcTN 8 (c ^^^ b.toNat)
def crcOf (c:Nat) (l:List UInt8):Nat:=l.foldl crcStep c
def crcSum (l:List UInt8):Nat:=4294967295-crcOf 4294967295 l
def fourB (c:Nat):List UInt8:=[UInt8.ofNat (c % 256),UInt8.ofNat (c / 256 % 256),UInt8.ofNat (c / 65536 % 256),UInt8.ofNat (c / 16777216 % 256)]
theorem crcT_lt {c:Nat} (h:c<4294967296):crcT c<4294967296:=by
 unfold crcT
 split
 ·exact Nat.xor_lt_two_pow (n:=32) (by omega) (by omega)
 ·omega
theorem crcTN_lt {c:Nat} (h:c<4294967296) (n:Nat):crcTN n c<4294967296:=by
 induction n with
 | zero=>exact h
 | succ n ih=>exact crcT_lt ih
theorem xor_byte_lt {c:Nat} (h:c<4294967296) (b:UInt8):c ^^^ b.toNat<4294967296:=Nat.xor_lt_two_pow (n:=32) (by omega) (by have:=b.toNat_lt;omega)
theorem crcStep_lt {c:Nat} (h:c<4294967296) (b:UInt8):crcStep c b<4294967296:=crcTN_lt (xor_byte_lt h b) 8
theorem crcOf_lt {c:Nat} (h:c<4294967296) (l:List UInt8):crcOf c l<4294967296:=by
 induction l generalizing c with
 | nil=>exact h
 | cons b l ih=>exact ih (crcStep_lt h b)
theorem crcSum_lt (l:List UInt8):crcSum l<4294967296:=by unfold crcSum;omega
theorem crcOf_append (c:Nat) (x y:List UInt8):crcOf c (x++y)=crcOf (crcOf c x) y:=List.foldl_append
theorem crcOf_take_succ (c:Nat) (l:List UInt8) (k:Nat) (h:k<l.length):crcOf c (l.take (k+1))=crcStep (crcOf c (l.take k)) l[k]:=by
 rw [List.take_succ_eq_append_getElem h,crcOf_append]
 rfl
theorem xor_ones32 (b:Nat) (hb:b<4294967296):b ^^^ (4294967295-b)=4294967295:=by
 apply Nat.eq_of_testBit_eq
 intro i
 rw [Nat.testBit_xor,show 4294967295-b=2^32-(b+1) from by omega,Nat.testBit_two_pow_sub_succ (by omega),show (4294967295:Nat)=2^32-1 from rfl,Nat.testBit_two_pow_sub_one]
 by_cases h:i<32
 ·simp [h]
 ·simp [h]
  exact Nat.testBit_lt_two_pow (Nat.lt_of_lt_of_le (show b<2^32 from hb) (Nat.pow_le_pow_right (by omega) (by omega)))
end Go.Proofs.YthoolcpcmhhkpaaGreatDoor
namespace Go.Proofs.YthoolcpcmhhkpaaGreatDoor
open Go.RowKit
def Qul (w:World) (q:Nat) (F:List Nat) (l:List UInt8):Prop:=
 ∃ ao cap,F=q::abl ao∧Blk w q #[.slice ao l.length cap] 120∧Own w 5 1 (.slice ao l.length cap) l.length (u8s l)
theorem under_bytes:Tryz.prog.underlying 37=some (.slice 5):=by kernel_rfl
theorem info_u8:(Tryz.prog.info? 5).map (fun i=>(i.zero,i.size,i.bytes))=some (some (.int .u8 0),1,1):=by kernel_rfl
theorem Qul.push {w w3:World} {q:Nat} {a2 a3:Option Addr} {c2 c3 m:Nat} {l2 x:List UInt8} (hb:Blk w q #[.slice a2 l2.length c2] 120) (ho:Own w 5 1 (.slice a2 l2.length c2) l2.length (u8s l2))
 (ho3:Own w3 5 1 (.slice a3 (l2.length+m) c3) (l2.length+m) (u8s l2++u8s x)) (hm:x.length=m) (hch:Chg (abl a2) w w3) (hf:∀ b∈abl a3,b∈abl a2∨w.heap.size≤b) :
 Qul (w3.setCell ⟨q,0,none⟩ (.slice a3 (l2.length+m) c3)) q (q::abl a3) (l2++x)∧Mv (q::abl a2) w (q::abl a3) (w3.setCell ⟨q,0,none⟩ (.slice a3 (l2.length+m) c3)):=by
 subst hm
 have hq2:q∉abl a2:=by simpa using ho.ne_blk hb (by decide)
 have hq3:q∉abl a3:=fun h=>by
  rcases hf q h with h1|h1
  ·exact hq2 h1
  ·have:=hb.lt;omega
 have hb3:Blk w3 q #[.slice a2 l2.length c2] 120:=hb.chg hch hq2
 refine ⟨⟨a3,c3,rfl,?_,?_⟩,⟨(hch.mono (fun b hb=>.inl (by simp [hb]))).setCell (.inl (by simp)) _,fun b hb => ?_⟩⟩
 ·have:=hb3.setCell 0 (.slice a3 (l2.length+x.length) c3)
  simpa using this
 ·have:=ho3.chg (F:=[q]) ((Chg.refl [q] w3).setCell (a:=⟨q,0,none⟩) (.inl (by simp)) (.slice a3 (l2.length+x.length) c3)) (fun b hb=>by
   simp only [blkOf_slice] at hb
   simp only [List.mem_singleton]
   intro h;subst h;exact hq3 ‹_›)
  simpa using this
 ·rcases List.mem_cons.1 hb with rfl|hb
  ·exact .inl (by simp)
  ·rcases hf b hb with h|h
   ·exact .inl (by simp [h])
   ·exact .inr h
theorem flat10 (us:List Nat) (h:∀ u∈us,u<2^64) (k:Nat):((us.take k).flatMap natB).length≤10*k:=by
 have gen:∀ vs:List Nat,(∀ u∈vs,u<2^64)→(vs.flatMap natB).length≤10*vs.length:=by
  intro vs
  induction vs with
  | nil=>intro _;simp
  | cons a r ih =>
    intro hv
    have h1:=natB_len10 (hv a (by simp))
    have h2:=ih (fun u hu=>hv u (by simp [hu]))
    simp only [List.flatMap_cons,List.length_append,List.length_cons]
    omega
 have h1:=gen (us.take k) (fun u hu=>h u (List.mem_of_mem_take hu))
 have h2:(us.take k).length≤k:=List.length_take_le _ _
 omega
set_option maxRecDepth 100000 in
set_option maxHeartbeats 400000 in
theorem quill_nat (w:World) (q:Nat) (F:List Nat) (l:List UInt8) (ao:Option Addr) (cap:Nat) (us:List Nat) (hus:∀ u∈us,u<2^64)
 (hq:Qul w q F l) (hr:Rd w 1 (.slice ao us.length cap) us.length (u64s us)) (hap:∀ b∈abl ao,b∉F) (hroom:l.length+10*us.length≤70368744177664) :
 Calls Tryz.prog 135 #[.pointer (some ⟨q,0,none⟩),.slice ao us.length cap] w fun e w'=>e=.returned (.tuple #[]) ∧
  ∃ F',Qul w' q F' (l++us.flatMap natB)∧Mv F w F' w':=by
 go_enter Tryz.func135,Tryz.ntmps135
 go_wp2
 go_loopw [5,8] (fun _ i wr=>∃ k F1,k≤us.length∧i=.int .i64 (k:Nat)∧Qul wr q F1 (l++(us.take k).flatMap natB)∧Mv F w F1 wr) (fun _ i _=>us.length-(intOf i).toNat)
 case atStart=>exact ⟨0,F,Nat.zero_le _,rfl,by simpa using hq,Mv.refl _ _⟩
 case round =>
  obtain ⟨k,F1,hk,rfl,hq1,hm1⟩:=hrel
  by_cases hlt:k<us.length
  ·have hr1:=hr.chg hm1.chg (by simpa using hap)
   obtain ⟨b,o,rfl,hc⟩:=hr1.addr (by omega)
   have hck:=hc k (by omega)
   have hu:=hus us[k] (List.getElem_mem _)
   rw [u64s,List.getElem?_map,List.getElem?_eq_getElem hlt,Option.map_some] at hck
   generalize hgu:us[k]=u at *
   clear hr1 hr hc
   go_wp2
   have htk:us.take (k+1)=us.take k++[u]:=by rw [List.take_succ_eq_append_getElem hlt,hgu]
   have hlen:(l++(us.take k).flatMap natB).length+10≤70368744177664:=by
    have:=flat10 us hus k
    simp only [List.length_append]
    omega
   have HTK:=Lib.hid htk
   clear htk hgu
   obtain ⟨wo,rfl⟩:∃ wo:World,wo=wr:=⟨_,rfl⟩
   go_loopw [5] (fun x wi=>∃ m F2 l2,x=.int .u64 (m:Nat)∧m<2^64∧Qul wi q F2 l2∧Mv F1 wo F2 wi∧l2++natB m=l++(us.take k).flatMap natB++natB u) (fun x _=>(intOf x).toNat)
   case atStart=>exact ⟨u,F1,_,rfl,hu,hq1,Mv.refl _ _,rfl⟩
   case round =>
    obtain ⟨m,F2,l2,rfl,hm,hq2,hm2,hl2⟩:=hrel
    have HL:Hid (l2++natB m=l++(us.take k).flatMap natB++natB u):=hl2
    have hlen2:l2.length≤70368744177664:=by
     have h1:=congrArg List.length hl2
     have h2:=natB_len10 hu
     have h3:=natB_pos m
     simp only [List.length_append] at h1 hlen
     omega
    clear hl2
    obtain ⟨a2,c2,rfl,hb2,ho2⟩:=hq2
    have hc2:=hb2.cell 0
    have hq2:q∉abl a2:=by simpa using ho2.ne_blk hb2 (by decide)
    by_cases hge:128≤m
    ·obtain ⟨c,hc⟩:∃ c,c=UInt8.ofNat (128+m % 128):=⟨_,rfl⟩
     have hor:=or_128 m
     rw [←hc] at hor
     have HC:=Lib.hid hc
     clear hc
     go_wp2_with (at_builtin;go_must (refine wpList_append_src _ rfl (.tmp 18) (.tmp 22) 37 37 rfl 5 (.int .u8 0) 1 1 under_bytes info_u8 rfl (by decide) (.slice a2 l2.length c2) l2.length (u8s l2) rfl (ho2.alloc _) _ 1 (u8s [c]) rfl (Src.of_rd under_bytes (Rd.lit1 _ _ _ _)) (u8s_oneCell _) (by unfold maxLen;omega) (by omega) ?_;intro a3 c3 w3 ho3 hg3 hf3;have hb3:=(hb2.alloc _).chg hg3 (by simpa using hq2);have hc3:=hb3.cell 0;have hz3:=hb3.free 0))
     have R:=Qul.push hb2 ho2 ho3 (x:=[c]) rfl (((Chg.refl (abl a2) wr).alloc _).trans (by simpa using hg3)) (fun b hb=>by rcases hf3 b hb with h|h;exact .inl (by simpa using h);right;simp at h;omega)
     refine ⟨⟨m / 128,_,_,by go_num,by omega,R.1,hm2.trans R.2,?_⟩,by simp [intOf];omega⟩
     rw [←HL.out,natB_ge hge,HC.out]
     simp
    ·obtain ⟨c,hc⟩:∃ c,c=UInt8.ofNat m:=⟨_,rfl⟩
     have hR:Rd (wr.alloc (.cells #[.int .u8 (m:Int)] 5)) 1 (.slice (some ⟨wr.heap.size,0,none⟩) 1 1) 1 (u8s [c]):=by
      rw [show u8s [c]=[.int .u8 (m:Int)] from by rw [hc,u8s,List.map_singleton,toNat_ofNat (by omega)]]
      exact Rd.lit1 _ _ _ _
     have HC:=Lib.hid hc
     clear hc
     go_wp2_with (at_builtin;go_must (refine wpList_append_src _ rfl (.tmp 32) (.tmp 35) 37 37 rfl 5 (.int .u8 0) 1 1 under_bytes info_u8 rfl (by decide) (.slice a2 l2.length c2) l2.length (u8s l2) rfl (ho2.alloc _) _ 1 (u8s [c]) rfl (Src.of_rd under_bytes hR) (u8s_oneCell _) (by unfold maxLen;omega) (by omega) ?_;intro a3 c3 w3 ho3 hg3 hf3;have hb3:=(hb2.alloc _).chg hg3 (by simpa using hq2);have hc3:=hb3.cell 0;have hz3:=hb3.free 0))
     have R:=Qul.push hb2 ho2 ho3 (x:=[c]) rfl (((Chg.refl (abl a2) wr).alloc _).trans (by simpa using hg3)) (fun b hb=>by rcases hf3 b hb with h|h;exact .inl (by simpa using h);right;simp at h;omega)
     refine ⟨⟨k+1,_,by omega,by go_num,?_,(hm1.trans hm2).trans R.2⟩,by simp [intOf];omega⟩
     have e:l++(us.take (k+1)).flatMap natB=l2++[c]:=by
      rw [HTK.out,List.flatMap_append,List.flatMap_singleton,←List.append_assoc,←HL.out,natB_lt (by omega),HC.out]
     rw [e]
     exact R.1
  ·obtain rfl:k=us.length:=by omega
   go_wp2
   go_end0
   exact ⟨rfl,F1,by simpa using hq1,hm1⟩
theorem Qul.chg {w w1:World} {q:Nat} {F G:List Nat} {l:List UInt8} (h:Qul w q F l) (k:Chg G w w1) (hn:∀ b∈F,b∉G):Qul w1 q F l:=by
 obtain ⟨ao,cap,rfl,hb,ho⟩:=h
 exact ⟨ao,cap,rfl,hb.chg k (hn q (by simp)),ho.chg k (fun b hb=>hn b (by simpa using .inr (by simpa using hb)))⟩
theorem Qul.alloc {w:World} {q:Nat} {F:List Nat} {l:List UInt8} (h:Qul w q F l) (o:Obj):Qul (w.alloc o) q F l:=h.chg ((Chg.refl [] w).alloc o) (by simp)
theorem Qul.lt {w:World} {q:Nat} {F:List Nat} {l:List UInt8} (h:Qul w q F l):∀ b∈F,b<w.heap.size:=by
 obtain ⟨ao,cap,rfl,hb,ho⟩:=h
 intro b hb'
 rcases List.mem_cons.1 hb' with rfl|h1
 ·exact hb.lt
 ·exact ho.lt b (by simpa using h1)
theorem quill_nat1 (w:World) (q:Nat) (F:List Nat) (l:List UInt8) (u:Nat) (hu:u<18446744073709551616) (hq:Qul w q F l) (b0:Nat) (hb0:b0=w.heap.size) (hroom:l.length+10≤70368744177664) :
 Calls Tryz.prog 135 #[.pointer (some ⟨q,0,none⟩),.slice (some ⟨b0,0,none⟩) 1 1] (w.alloc (.cells #[.int .u64 u] 23)) fun e w'=>e=.returned (.tuple #[]) ∧
  ∃ F',Qul w' q F' (l++natB u)∧Mv F w F' w':=by
 subst hb0
 refine (quill_nat (w.alloc (.cells #[.int .u64 u] 23)) q F l (some ⟨w.heap.size,0,none⟩) 1 [u] (by simpa using hu) (hq.alloc _) (Rd.lit1 _ _ _ _) (fun b hb => ?_) (by simpa using hroom)).mono ?_
 ·have hlt:=hq.lt
  simp only [abl_some,List.mem_singleton] at hb
  intro hF
  have:=hlt b hF
  omega
 ·rintro e w' ⟨rfl,F',h1,h2⟩
  exact ⟨rfl,F',by simpa using h1,(Mv.alloc F w _).trans h2⟩
end Go.Proofs.YthoolcpcmhhkpaaGreatDoor
