/-
  Parts of a proof, pressed. Conditions: the form's own reach.
-/
import Derived.Test.YthoolcpcmhhkpaaGreatDoorSuiteTurnedB3
import Derived.WalkKit
import Derived.Laws.BitsAllLaws
namespace Go.Proofs.YthoolcpcmhhkpaaGreatDoor
open Go.RowKit
theorem scfg_under:Tryz.prog.underlying 28=some (.struct (Tryz.prog.fieldsOf 28)):=by kernel_rfl
theorem scfg_stood:Tryz.prog.stoodInHeld 28=false:=by kernel_rfl
def Cf.same (a b:Cf):Bool:=a.kind==b.kind&&a.num==b.num&&a.den==b.den&&a.side==b.side&&a.most==b.most&&a.digits==b.digits&&a.limit==b.limit&&a.depth==b.depth&&a.factor==b.factor&&a.width==b.width&&a.word==b.word
set_option maxHeartbeats 2000000 in
theorem scfg_neq (a b:Cf) (w:World):(binOp .neq 28 a.val b.val).run Tryz.prog w=.ok (.bool (!(a.same b))) w:=by
 obtain ⟨a1,a2,a3,a4,a5,a6,a7,a8,a9,a10,a11⟩:=a
 obtain ⟨b1,b2,b3,b4,b5,b6,b7,b8,b9,b10,b11⟩:=b
 simp only [Cf.val,Cf.cells,Cf.same]
 have u1:=Tryz.underlying22
 have u2:=Tryz.underlying25
 have u3:=Tryz.underlying26
 have u4:=Tryz.underlying3
 have u5:=Tryz.underlying23
 have a1:=Tryz.isAgg22
 have a2:=Tryz.isAgg25
 have a3:=Tryz.isAgg26
 have a4:=Tryz.isAgg3
 have a5:=Tryz.isAgg23
 have z1:=Tryz.sizeOf22
 have z2:=Tryz.sizeOf25
 have z3:=Tryz.sizeOf26
 have z4:=Tryz.sizeOf3
 have z5:=Tryz.sizeOf23
 rw [run_neq_struct,show (10000:Nat)=9999+1 from rfl,run_equalIn_agg w 9999 28 _ _ scfg_under scfg_stood]
 simp only [Program.fieldsOf,Tryz.underlying28]
 go_simp
 clear u1 u2 u3 u4 u5 a1 a2 a3 a4 a5 z1 z2 z3 z4 z5
 repeat' split
 all_goals simp_all
 all_goals omega
end Go.Proofs.YthoolcpcmhhkpaaGreatDoor
namespace Go.Proofs.YthoolcpcmhhkpaaGreatDoor
open Go.RowKit
theorem cf_cells {w:World} {b:Nat} {c:Cf} (h:Blk w b c.cells 28):w.cell? ⟨b,0,none⟩=some (.int .i64 c.kind)∧w.cell? ⟨b,1,none⟩=some (.int .u64 c.num)∧w.cell? ⟨b,2,none⟩=some (.int .u64 c.den)∧w.cell? ⟨b,3,none⟩=some (.int .i64 c.side)∧w.cell? ⟨b,4,none⟩=some (.int .i64 c.most)∧w.cell? ⟨b,5,none⟩=some (.int .i64 c.digits)∧w.cell? ⟨b,6,none⟩=some (.int .u64 c.limit)∧w.cell? ⟨b,7,none⟩=some (.int .i64 c.depth)∧w.cell? ⟨b,8,none⟩=some (.int .i64 c.factor)∧w.cell? ⟨b,9,none⟩=some (.int .i64 c.width)∧w.cell? ⟨b,10,none⟩=some (.int .u64 c.word):=
 ⟨h.cell 0,h.cell 1,h.cell 2,h.cell 3,h.cell 4,h.cell 5,h.cell 6,h.cell 7,h.cell 8,h.cell 9,h.cell 10⟩
def NewP (w w':World) (same:Bool) (cs:Array Value) (R:World→Nat→Value→Int→Prop) (e:Ending):Prop:=(same=false∧e=.returned (.tuple #[.pointer none,.int .i64 1])∧Chg [] w w') ∨
     (same=true∧∃ T d k w1,R w1 T d k∧Chg [] w w1∧((k≠0∧e=.returned (.tuple #[.pointer none,.int .i64 k])∧w'=w1)∨(k=0∧e=.returned (.tuple #[.pointer (some ⟨w1.heap.size,0,none⟩),.int .i64 0])∧w'=w1.alloc (.cells (cs ++ #[.iface T d]) 86))))
set_option maxRecDepth 100000 in
set_option maxHeartbeats 4000000 in
theorem suite_newK (w:World) (c b:Cf) (HB0:∀ u,Calls Tryz.prog 69 #[c.val] u fun e w'=>e=.returned b.val∧Chg [] u w') (R:World→Nat→Value→Int→Prop)
 (HF0:∀ u,Chg [] w u→Calls Tryz.prog 66 #[c.val] u fun e w'=>∃ T d k,e=.returned (.tuple #[.iface T d,.int .i64 k])∧R w' T d k∧Chg [] u w') :
 Calls Tryz.prog 27 #[c.val] w fun e w'=>NewP w w' (c.same b) c.cells R e:=by
 have hb0:=Blk.alloc_new w c.cells 28
 have HC0:=Lib.hid ((Chg.refl [] w).alloc (.cells c.cells 28))
 obtain ⟨bq,hbq⟩:∃ z,z=w.heap.size:=⟨_,rfl⟩
 rw [←hbq] at hb0
 have HCE:=Lib.hid (fun u (hu:Chg [] (w.alloc (.cells c.cells 28)) u)=>cf_cells (hb0.chg hu (by simp)))
 have HB:=Lib.hid HB0
 have HF:=Lib.hid HF0
 have HEQ:=Lib.hid (fun u=>scfg_neq c b u)
 obtain ⟨S,hS⟩:∃ S,S=c.same b:=⟨_,rfl⟩
 rw [←hS] at HEQ ⊢
 clear HB0 HF0 hb0 hS
 obtain ⟨q1,q2,q3,q4,q5,q6,q7,q8,q9,q10,q11⟩:=b
 obtain ⟨k,num,den,side,most,digits,limit,depth,factor,width,word⟩:=c
 simp only [Cf.val,Cf.cells] at *
 go_enter Tryz.func27,Tryz.ntmps27
 go_upto_region 2 with (fail)
 rw [←hbq]
 clear hbq
 generalize w.alloc (.cells #[.int .i64 k,.int .u64 num,.int .u64 den,.int .i64 side,.int .i64 most,.int .i64 digits,.int .u64 limit,.int .i64 depth,.int .i64 factor,.int .i64 width,.int .u64 word] 28)=w0 at *
 obtain ⟨c0,c1,c2,c3,c4,c5,c6,c7,c8,c9,c10⟩:=HCE.out w0.drew (Chg.refl [] w0).drew
 have hq:=HEQ.out
 go_region_with (go_at_call 69;refine (HB.out _).mono ?_;rintro e w1 ⟨rfl,hc1⟩;obtain ⟨k0,k1,k2,k3,k4,k5,k6,k7,k8,k9,k10⟩:=HCE.out w1 ((Chg.refl [] w0).drew.trans hc1))
 all_goals
  have HC1:=Lib.hid ((Chg.refl [] w0).drew.trans hc1)
  clear hc1 HB hq c0 c1 c2 c3 c4 c5 c6 c7 c8 c9 c10 k0 k1 k2 k3 k4 k5 k6 k7 k8 k9 k10
  obtain ⟨c0,c1,c2,c3,c4,c5,c6,c7,c8,c9,c10⟩:=HCE.out w1 HC1.out
  cases S with
  | false =>
    go_wp2
    go_ret2
    exact .inl ⟨rfl,rfl,HC0.out.trans HC1.out⟩
  | true =>
    go_wp2_with fail
    refine (HF.out w1 (HC0.out.trans HC1.out)).mono ?_
    rintro e w2 ⟨T,d,e',rfl,hR,hc2⟩
    have HC2:=Lib.hid (HC1.out.trans hc2)
    have HR:=Lib.hid hR
    clear hc2 hR HF HEQ c0 c1 c2 c3 c4 c5 c6 c7 c8 c9 c10
    obtain ⟨c0,c1,c2,c3,c4,c5,c6,c7,c8,c9,c10⟩:=HCE.out w2 HC2.out
    by_cases he:e'=0
    ·subst he
     go_wp2
     go_ret2
     exact .inr ⟨rfl,T,d,0,w2,HR.out,HC0.out.trans HC2.out,.inr ⟨rfl,rfl,by simp⟩⟩
    ·have hb:(e' != 0)=true:=by rw [bne_iff_ne];exact he
     go_wp2
     go_ret2
     exact .inr ⟨rfl,T,d,e',w2,HR.out,HC0.out.trans HC2.out,.inl ⟨he,rfl,rfl⟩⟩
def Sk (w:World) (s:Nat) (c:Cf) (T:Nat) (p:Nat):Prop:=Blk w s (c.cells ++ #[.iface T (.agg #[.pointer (some ⟨p,0,none⟩)])]) 86
namespace Sk
variable {w w1:World} {s T p:Nat} {c:Cf}
theorem kind (h:Sk w s c T p):w.cell? ⟨s,0,none⟩=some (.int .i64 c.kind):=Blk.cell h 0
theorem core (h:Sk w s c T p):w.cell? ⟨s,11,none⟩=some (.iface T (.agg #[.pointer (some ⟨p,0,none⟩)])):=Blk.cell h 11
theorem chg {F:List Nat} (h:Sk w s c T p) (k:Chg F w w1) (hs:s∉F):Sk w1 s c T p:=Blk.chg h k hs
theorem nil (h:Sk w s c T p) (k:Chg [] w w1):Sk w1 s c T p:=Blk.chg h k (by simp)
end Sk
theorem mv_sk {s:Nat} {F F':List Nat} {w w':World} (h:Mv F w F' w'):Mv (s::F) w (s::F') w':=
 ⟨h.chg.mono (fun b hb=>.inl (by simp [hb])),fun b hb=>by
  rcases List.mem_cons.1 hb with rfl|hb
  ·exact .inl (by simp)
  ·rcases h.fr b hb with h1|h1
   ·exact .inl (by simp [h1])
   ·exact .inr h1⟩
end Go.Proofs.YthoolcpcmhhkpaaGreatDoor
namespace Go.Proofs.YthoolcpcmhhkpaaGreatDoor
open Go.RowKit
set_option maxRecDepth 100000 in
set_option maxHeartbeats 4000000 in
theorem freshk_log (w:World) (c:Cf) (hk:c.kind=1) (Q:Option Addr→Int→World→Prop)
 (HN0:∀ u,Chg [] w u→Calls Tryz.prog 36 #[.agg #[.int .u64 c.num,.int .u64 c.den,.int .i64 c.side,.int .i64 c.most]] u fun e w'=>∃ v k,e=.returned (.tuple #[.pointer v,.int .i64 k])∧Q v k w'∧Chg [] u w') :
 Calls Tryz.prog 66 #[c.val] w fun e w'=>∃ v k,e=.returned (.tuple #[.iface 217 (.agg #[.pointer v]),.int .i64 k])∧Q v k w'∧Chg [] w w':=by
 obtain ⟨k,num,den,side,most,digits,limit,depth,factor,width,word⟩:=c
 simp only at hk HN0
 subst hk
 have HC0:=Lib.hid ((Chg.refl [] w).alloc (.cells #[.int .i64 1,.int .u64 num,.int .u64 den,.int .i64 side,.int .i64 most,.int .i64 digits,.int .u64 limit,.int .i64 depth,.int .i64 factor,.int .i64 width,.int .u64 word] 28))
 have HN:=Lib.hid HN0
 clear HN0
 simp only [Cf.val,Cf.cells]
 go_enter Tryz.func66,Tryz.ntmps66
 go_wp2_with fail
 refine ((HN.out _ ?hq)).mono ?_
 case hq=>with_reducible (repeat (first|exact Chg.refl _ _|exact HC0.out|apply Chg.alloc|apply Chg.drew))
 rintro e w1 ⟨v,k,rfl,hq,hc1⟩
 have HC1:=Lib.hid hc1
 have HQ:=Lib.hid hq
 clear hc1 hq HN
 go_wp2
 go_ret2
 exact ⟨_,_,rfl,HQ.out,HC0.out.trans HC1.out⟩
set_option maxRecDepth 100000 in
set_option maxHeartbeats 4000000 in
theorem freshk_hdr (w:World) (c:Cf) (hk:c.kind=2) (Q:Option Addr→Int→World→Prop)
 (HN0:∀ u,Chg [] w u→Calls Tryz.prog 47 #[.agg #[.int .i64 c.digits,.int .u64 c.limit]] u fun e w'=>∃ v k,e=.returned (.tuple #[.pointer v,.int .i64 k])∧Q v k w'∧Chg [] u w') :
 Calls Tryz.prog 66 #[c.val] w fun e w'=>∃ v k,e=.returned (.tuple #[.iface 219 (.agg #[.pointer v]),.int .i64 k])∧Q v k w'∧Chg [] w w':=by
 obtain ⟨k,num,den,side,most,digits,limit,depth,factor,width,word⟩:=c
 simp only at hk HN0
 subst hk
 have HC0:=Lib.hid ((Chg.refl [] w).alloc (.cells #[.int .i64 2,.int .u64 num,.int .u64 den,.int .i64 side,.int .i64 most,.int .i64 digits,.int .u64 limit,.int .i64 depth,.int .i64 factor,.int .i64 width,.int .u64 word] 28))
 have HN:=Lib.hid HN0
 clear HN0
 simp only [Cf.val,Cf.cells]
 go_enter Tryz.func66,Tryz.ntmps66
 go_wp2_with fail
 refine ((HN.out _ ?hq)).mono ?_
 case hq=>with_reducible (repeat (first|exact Chg.refl _ _|exact HC0.out|apply Chg.alloc|apply Chg.drew))
 rintro e w1 ⟨v,k,rfl,hq,hc1⟩
 have HC1:=Lib.hid hc1
 have HQ:=Lib.hid hq
 clear hc1 hq HN
 go_wp2
 go_ret2
 exact ⟨_,_,rfl,HQ.out,HC0.out.trans HC1.out⟩
set_option maxRecDepth 100000 in
set_option maxHeartbeats 4000000 in
theorem freshk_digest (w:World) (c:Cf) (hk:c.kind=3) (Q:Option Addr→Int→World→Prop)
 (HN0:∀ u,Chg [] w u→Calls Tryz.prog 55 #[.agg #[.int .i64 c.depth,.int .i64 c.factor]] u fun e w'=>∃ v k,e=.returned (.tuple #[.pointer v,.int .i64 k])∧Q v k w'∧Chg [] u w') :
 Calls Tryz.prog 66 #[c.val] w fun e w'=>∃ v k,e=.returned (.tuple #[.iface 221 (.agg #[.pointer v]),.int .i64 k])∧Q v k w'∧Chg [] w w':=by
 obtain ⟨k,num,den,side,most,digits,limit,depth,factor,width,word⟩:=c
 simp only at hk HN0
 subst hk
 have HC0:=Lib.hid ((Chg.refl [] w).alloc (.cells #[.int .i64 3,.int .u64 num,.int .u64 den,.int .i64 side,.int .i64 most,.int .i64 digits,.int .u64 limit,.int .i64 depth,.int .i64 factor,.int .i64 width,.int .u64 word] 28))
 have HN:=Lib.hid HN0
 clear HN0
 simp only [Cf.val,Cf.cells]
 go_enter Tryz.func66,Tryz.ntmps66
 go_wp2_with fail
 refine ((HN.out _ ?hq)).mono ?_
 case hq=>with_reducible (repeat (first|exact Chg.refl _ _|exact HC0.out|apply Chg.alloc|apply Chg.drew))
 rintro e w1 ⟨v,k,rfl,hq,hc1⟩
 have HC1:=Lib.hid hc1
 have HQ:=Lib.hid hq
 clear hc1 hq HN
 go_wp2
 go_ret2
 exact ⟨_,_,rfl,HQ.out,HC0.out.trans HC1.out⟩
set_option maxRecDepth 100000 in
set_option maxHeartbeats 4000000 in
theorem freshk_green (w:World) (c:Cf) (hk:c.kind=4) (Q:Option Addr→Int→World→Prop)
 (HN0:∀ u,Chg [] w u→Calls Tryz.prog 109 #[.agg #[.int .u64 c.num,.int .u64 c.den]] u fun e w'=>∃ v k,e=.returned (.tuple #[.pointer v,.int .i64 k])∧Q v k w'∧Chg [] u w') :
 Calls Tryz.prog 66 #[c.val] w fun e w'=>∃ v k,e=.returned (.tuple #[.iface 223 (.agg #[.pointer v]),.int .i64 k])∧Q v k w'∧Chg [] w w':=by
 obtain ⟨k,num,den,side,most,digits,limit,depth,factor,width,word⟩:=c
 simp only at hk HN0
 subst hk
 have HC0:=Lib.hid ((Chg.refl [] w).alloc (.cells #[.int .i64 4,.int .u64 num,.int .u64 den,.int .i64 side,.int .i64 most,.int .i64 digits,.int .u64 limit,.int .i64 depth,.int .i64 factor,.int .i64 width,.int .u64 word] 28))
 have HN:=Lib.hid HN0
 clear HN0
 simp only [Cf.val,Cf.cells]
 go_enter Tryz.func66,Tryz.ntmps66
 go_wp2_with fail
 refine ((HN.out _ ?hq)).mono ?_
 case hq=>with_reducible (repeat (first|exact Chg.refl _ _|exact HC0.out|apply Chg.alloc|apply Chg.drew))
 rintro e w1 ⟨v,k,rfl,hq,hc1⟩
 have HC1:=Lib.hid hc1
 have HQ:=Lib.hid hq
 clear hc1 hq HN
 go_wp2
 go_ret2
 exact ⟨_,_,rfl,HQ.out,HC0.out.trans HC1.out⟩
set_option maxRecDepth 100000 in
set_option maxHeartbeats 4000000 in
theorem freshk_req (w:World) (c:Cf) (hk:c.kind=5) (Q:Option Addr→Int→World→Prop)
 (HN0:∀ u,Chg [] w u→Calls Tryz.prog 117 #[.agg #[.int .i64 c.width,.int .u64 c.word]] u fun e w'=>∃ v k,e=.returned (.tuple #[.pointer v,.int .i64 k])∧Q v k w'∧Chg [] u w') :
 Calls Tryz.prog 66 #[c.val] w fun e w'=>∃ v k,e=.returned (.tuple #[.iface 225 (.agg #[.pointer v]),.int .i64 k])∧Q v k w'∧Chg [] w w':=by
 obtain ⟨k,num,den,side,most,digits,limit,depth,factor,width,word⟩:=c
 simp only at hk HN0
 subst hk
 have HC0:=Lib.hid ((Chg.refl [] w).alloc (.cells #[.int .i64 5,.int .u64 num,.int .u64 den,.int .i64 side,.int .i64 most,.int .i64 digits,.int .u64 limit,.int .i64 depth,.int .i64 factor,.int .i64 width,.int .u64 word] 28))
 have HN:=Lib.hid HN0
 clear HN0
 simp only [Cf.val,Cf.cells]
 go_enter Tryz.func66,Tryz.ntmps66
 go_wp2_with fail
 refine ((HN.out _ ?hq)).mono ?_
 case hq=>with_reducible (repeat (first|exact Chg.refl _ _|exact HC0.out|apply Chg.alloc|apply Chg.drew))
 rintro e w1 ⟨v,k,rfl,hq,hc1⟩
 have HC1:=Lib.hid hc1
 have HQ:=Lib.hid hq
 clear hc1 hq HN
 go_wp2
 go_ret2
 exact ⟨_,_,rfl,HQ.out,HC0.out.trans HC1.out⟩
set_option maxRecDepth 100000 in
set_option maxHeartbeats 4000000 in
theorem freshk_lump (w:World) (c:Cf) (hk:c.kind=6) (Q:Option Addr→Int→World→Prop)
 (HN0:∀ u,Chg [] w u→Calls Tryz.prog 126 #[.int .i64 c.most] u fun e w'=>∃ v k,e=.returned (.tuple #[.pointer v,.int .i64 k])∧Q v k w'∧Chg [] u w') :
 Calls Tryz.prog 66 #[c.val] w fun e w'=>∃ v k,e=.returned (.tuple #[.iface 227 (.agg #[.pointer v]),.int .i64 k])∧Q v k w'∧Chg [] w w':=by
 obtain ⟨k,num,den,side,most,digits,limit,depth,factor,width,word⟩:=c
 simp only at hk HN0
 subst hk
 have HC0:=Lib.hid ((Chg.refl [] w).alloc (.cells #[.int .i64 6,.int .u64 num,.int .u64 den,.int .i64 side,.int .i64 most,.int .i64 digits,.int .u64 limit,.int .i64 depth,.int .i64 factor,.int .i64 width,.int .u64 word] 28))
 have HN:=Lib.hid HN0
 clear HN0
 simp only [Cf.val,Cf.cells]
 go_enter Tryz.func66,Tryz.ntmps66
 go_wp2_with fail
 refine ((HN.out _ ?hq)).mono ?_
 case hq=>with_reducible (repeat (first|exact Chg.refl _ _|exact HC0.out|apply Chg.alloc|apply Chg.drew))
 rintro e w1 ⟨v,k,rfl,hq,hc1⟩
 have HC1:=Lib.hid hc1
 have HQ:=Lib.hid hq
 clear hc1 hq HN
 go_wp2
 go_ret2
 exact ⟨_,_,rfl,HQ.out,HC0.out.trans HC1.out⟩
end Go.Proofs.YthoolcpcmhhkpaaGreatDoor
namespace Go.Proofs.YthoolcpcmhhkpaaGreatDoor
open Go.RowKit
def Up {S:Type} (T:Nat) (c:Cf) (R:World→Nat→List Nat→S→Prop) (w:World) (s:Nat) (F:List Nat) (st:S):Prop:=
 ∃ p G,Sk w s c T p∧R w p G st∧F=s::G∧s∉G
structure Und {S:Type} (R:World→Nat→List Nat→S→Prop):Prop where
 lt:∀ {w p G st},R w p G st→∀ b∈G,b<w.heap.size
 chg:∀ {w w1 p G st H},R w p G st→Chg H w w1→(∀ b∈G,b∉H)→R w1 p G st
namespace Up
variable {S:Type} {T:Nat} {c:Cf} {R:World→Nat→List Nat→S→Prop} {w w1:World} {s:Nat} {F:List Nat} {st:S}
theorem lt (hU:Und R) (h:Up T c R w s F st):∀ b∈F,b<w.heap.size:=by
 obtain ⟨p,G,h1,h2,rfl,-⟩:=h
 intro b hb
 rcases List.mem_cons.1 hb with rfl|hb
 ·exact Blk.lt h1
 ·exact hU.lt h2 b hb
theorem chg (hU:Und R) {H:List Nat} (h:Up T c R w s F st) (k:Chg H w w1) (hF:∀ b∈F,b∉H):Up T c R w1 s F st:=by
 obtain ⟨p,G,h1,h2,rfl,h3⟩:=h
 exact ⟨p,G,h1.chg k (hF s (by simp)),hU.chg h2 k (fun b hb=>hF b (by simp [hb])),rfl,h3⟩
theorem mv {p:Nat} {G G':List Nat} {st':S} (h1:Sk w s c T p) (_h2:R w p G st) (h3:s∉G) (h4:R w1 p G' st') (m:Mv G w G' w1) :
 Up T c R w1 s (s::G') st'∧Mv (s::G) w (s::G') w1:=by
 have hn:s∉G':=fun e=>by
  rcases m.fr s e with h|h
  ·exact h3 h
  ·have:=Blk.lt h1;omega
 exact ⟨⟨p,G',h1.chg m.chg h3,h4,rfl,hn⟩,mv_sk m⟩
end Up
def FQ {S:Type} (R:World→Nat→List Nat→S→Prop) (init:S) (ok:Bool) (B:Nat) (v:Option Addr) (k:Int) (w:World):Prop:=
 (ok=false∧k≠0)∨(ok=true∧k=0∧∃ p G,v=some ⟨p,0,none⟩∧R w p G init∧∀ b∈G,B≤b)
def NewK (P:World→Nat→List Nat→Prop) (ok:Bool) (w:World) (e:Ending) (w':World):Prop:=
 (ok=false∧∃ k:Int,k≠0∧e=.returned (.tuple #[.pointer none,.int .i64 k])∧Chg [] w w') ∨
 (ok=true∧∃ s F,e=.returned (.tuple #[.pointer (some ⟨s,0,none⟩),.int .i64 0])∧P w' s F∧Chg [] w w'∧∀ b∈F,w.heap.size≤b)
theorem FQ.mono {S:Type} {R:World→Nat→List Nat→S→Prop} {init:S} {ok:Bool} {B B1:Nat} {v:Option Addr} {k:Int} {w:World} (h:FQ R init ok B1 v k w) (hB:B≤B1):FQ R init ok B v k w:=by
 rcases h with h|⟨h1,h2,p,G,h3,h4,h5⟩
 ·exact .inl h
 ·exact .inr ⟨h1,h2,p,G,h3,h4,fun b hb=>Nat.le_trans hB (h5 b hb)⟩
theorem new_up {S:Type} {T:Nat} {R:World→Nat→List Nat→S→Prop} (hU:Und R) {init:S} {ok:Bool} (w:World) (c b:Cf)
 (HB:∀ u,Calls Tryz.prog 69 #[c.val] u fun e w'=>e=.returned b.val∧Chg [] u w')
 (HF:∀ u,Chg [] w u→Calls Tryz.prog 66 #[c.val] u fun e w'=>∃ v k,e=.returned (.tuple #[.iface T (.agg #[.pointer v]),.int .i64 k])∧FQ R init ok w.heap.size v k w'∧Chg [] u w') :
 Calls Tryz.prog 27 #[c.val] w fun e w'=>NewK (fun w s F=>Up T c R w s F init) (c.same b&&ok) w e w':=by
 refine (suite_newK w c b HB (fun w1 T' d k=>T'=T∧∃ v,d=.agg #[.pointer v]∧FQ R init ok w.heap.size v k w1) (fun u hu=>(HF u hu).mono ?_)).mono ?_
 ·rintro e w' ⟨v,k,rfl,hq,hc⟩
  exact ⟨T,_,k,rfl,⟨rfl,v,rfl,hq⟩,hc⟩
 ·rintro e w' (⟨hs,rfl,hc⟩|⟨hs,T',d,k,w1,⟨rfl,v,rfl,hq⟩,hc,h⟩)
  ·exact .inl ⟨by rw [hs];rfl,1,by decide,rfl,hc⟩
  ·rcases hq with ⟨ho,hk⟩|⟨ho,hk,p,G,rfl,hR,hG⟩
   ·rcases h with ⟨-,rfl,rfl⟩|⟨h0,-,-⟩
    ·exact .inl ⟨by rw [hs,ho];rfl,k,hk,rfl,hc⟩
    ·exact absurd h0 hk
   ·rcases h with ⟨h0,-,-⟩|⟨-,rfl,rfl⟩
    ·exact absurd hk h0
    ·refine .inr ⟨by rw [hs,ho];rfl,w1.heap.size,w1.heap.size::G,rfl,⟨p,G,Blk.alloc_new _ _ _,hU.chg hR ((Chg.refl [] _).alloc _) (by simp),rfl,fun e=>by have:=hU.lt hR _ e;omega⟩,hc.alloc _,fun b hb => ?_⟩
     rcases List.mem_cons.1 hb with rfl|hb
     ·exact hc.size
     ·exact hG b hb
theorem sk_cells {w:World} {s:Nat} {c:Cf} {T p:Nat} (h:Sk w s c T p):w.cell? ⟨s,0,none⟩=some (.int .i64 c.kind)∧w.cell? ⟨s,1,none⟩=some (.int .u64 c.num)∧w.cell? ⟨s,2,none⟩=some (.int .u64 c.den)∧w.cell? ⟨s,3,none⟩=some (.int .i64 c.side)∧w.cell? ⟨s,4,none⟩=some (.int .i64 c.most)∧w.cell? ⟨s,5,none⟩=some (.int .i64 c.digits)∧w.cell? ⟨s,6,none⟩=some (.int .u64 c.limit)∧w.cell? ⟨s,7,none⟩=some (.int .i64 c.depth)∧w.cell? ⟨s,8,none⟩=some (.int .i64 c.factor)∧w.cell? ⟨s,9,none⟩=some (.int .i64 c.width)∧w.cell? ⟨s,10,none⟩=some (.int .u64 c.word):=
 ⟨Blk.cell h 0,Blk.cell h 1,Blk.cell h 2,Blk.cell h 3,Blk.cell h 4,Blk.cell h 5,Blk.cell h 6,Blk.cell h 7,Blk.cell h 8,Blk.cell h 9,Blk.cell h 10⟩
theorem Sk.setCore {w:World} {s:Nat} {c:Cf} {T p:Nat} (h:Sk w s c T p) (q:Nat):Sk (w.setCell ⟨s,11,none⟩ (.iface T (.agg #[.pointer (some ⟨q,0,none⟩)]))) s c T q∧Chg [s] w (w.setCell ⟨s,11,none⟩ (.iface T (.agg #[.pointer (some ⟨q,0,none⟩)]))):=
 ⟨Blk.setCell h 11 _,(Chg.refl _ w).setCell (.inl (by simp)) _⟩
set_option maxRecDepth 100000 in
set_option maxHeartbeats 4000000 in
theorem reset_up {S:Type} {T:Nat} {R:World→Nat→List Nat→S→Prop} (hU:Und R) {init:S} (w:World) (c:Cf) (s:Nat) (F:List Nat) (st:S) (h:Up T c R w s F st)
 (HF0:∀ u,Chg [] w u→Calls Tryz.prog 66 #[c.val] u fun e w'=>∃ v k,e=.returned (.tuple #[.iface T (.agg #[.pointer v]),.int .i64 k])∧FQ R init true w.heap.size v k w'∧Chg [] u w') :
 Calls Tryz.prog 22 #[.pointer (some ⟨s,0,none⟩)] w fun e w'=>e=.returned (.tuple #[])∧∃ F',Up T c R w' s F' init∧Mv F w F' w':=by
 obtain ⟨p,G,hs,hr,rfl,hn⟩:=h
 have HF:=Lib.hid HF0
 have HS:=Lib.hid hs
 have HCE:=Lib.hid (fun u (hu:Chg [] w u)=>sk_cells (hs.nil hu))
 clear HF0 hs hr hn
 obtain ⟨k,num,den,side,most,digits,limit,depth,factor,width,word⟩:=c
 simp only [Cf.val,Cf.cells] at HF HCE
 go_enter Tryz.func22,Tryz.ntmps22
 obtain ⟨c0,c1,c2,c3,c4,c5,c6,c7,c8,c9,c10⟩:=HCE.out w (Chg.refl [] w)
 go_wp2_with fail
 refine (HF.out _ (Chg.refl [] w)).mono ?_
 rintro e w1 ⟨v,kk,rfl,hq,hc1⟩
 have hs1:=HS.out.nil hc1
 have f11:=Blk.free hs1 11
 have c11:=hs1.core
 have HS1:=Lib.hid hs1
 have HC1:=Lib.hid hc1
 have HQ:=Lib.hid hq
 clear c0 c1 c2 c3 c4 c5 c6 c7 c8 c9 c10 HF HCE hs1 hc1 hq
 go_wp2
 go_end0
 rcases HQ.out with ⟨h,-⟩|⟨-,-,q,G',rfl,hR,hG⟩
 ·exact absurd h (by decide)
 ·obtain ⟨a,b⟩:=HS1.out.setCore q
  have hlt:=Blk.lt HS.out
  have hn:s∉G':=fun e=>by have:=hG s e;omega
  refine ⟨rfl,s::G',⟨q,G',a,hU.chg hR b (fun x hx e=>hn (by rw [List.mem_singleton.1 e] at hx;exact hx)),rfl,hn⟩,(HC1.out.nil.trans (b.mono (fun x hx=>.inl (by rw [List.mem_singleton.1 hx];simp)))),fun x hx => ?_⟩
  rcases List.mem_cons.1 hx with rfl|hx
  ·exact .inl (by simp)
  ·exact .inr (hG x hx)
end Go.Proofs.YthoolcpcmhhkpaaGreatDoor
namespace Go.Proofs.YthoolcpcmhhkpaaGreatDoor
open Go.RowKit
def natB (n:Nat):List UInt8:=if n<128 then [UInt8.ofNat n] else UInt8.ofNat (128+n % 128)::natB (n / 128)
termination_by n
decreasing_by omega
theorem natB_lt {n:Nat} (h:n<128):natB n=[UInt8.ofNat n]:=by rw [natB,if_pos h]
theorem natB_ge {n:Nat} (h:128≤n):natB n=UInt8.ofNat (128+n % 128)::natB (n / 128):=by rw [natB,if_neg (by omega)]
theorem natB_pos (n:Nat):0<(natB n).length:=by
 by_cases h:n<128
 ·rw [natB_lt h];simp
 ·rw [natB_ge (by omega)];simp
theorem natB_len (k:Nat):∀ n,n<128^(k+1)→(natB n).length≤k+1:=by
 induction k with
 | zero=>intro n h;rw [natB_lt (by omega)];simp
 | succ k ih =>
   intro n h
   by_cases h1:n<128
   ·rw [natB_lt h1];simp
   ·rw [natB_ge (by omega)]
    have:=ih (n / 128) (by
     rw [Nat.pow_succ] at h
     exact Nat.div_lt_of_lt_mul (by omega))
    simp
    omega
theorem natB_len10 {n:Nat} (h:n<2^64):(natB n).length≤10:=natB_len 9 n (by
 have:(2:Nat)^64<128^10:=by decide
 omega)
theorem toNat_ofNat {n:Nat} (h:n<256):(UInt8.ofNat n).toNat=n:=by simp;omega
theorem or_128 (m:Nat):bits .or .u8 ((m:Int) % 256) 128=((UInt8.ofNat (128+m % 128)).toNat:Int):=by
 have h:∀ k:Nat,k<256→bits .or .u8 (k:Int) 128=((UInt8.ofNat (128+k % 128)).toNat:Int):=by decide +kernel
 have:=h (m % 256) (by omega)
 rw [show ((m % 256:Nat):Int)=(m:Int) % 256 from by omega,show m % 256 % 128=m % 128 from by omega] at this
 exact this
def zig (x:Int):Nat:=if x<0 then (-2*x-1).toNat else (2*x).toNat
theorem zig_lt {x:Int} (h0:-9223372036854775808≤x) (h1:x<9223372036854775808):zig x<2^64:=by unfold zig;split<;>omega
theorem xor_ones_u64 (a:Nat) (ha:a<18446744073709551616):bits .xor .u64 (a:Int) 18446744073709551615=18446744073709551615-(a:Int):=by
 show IntKind.u64.wrap ((BitVec.ofInt 64 (a:Int) ^^^ BitVec.ofInt 64 18446744073709551615).toNat:Int)=_
 have h1:BitVec.ofInt 64 18446744073709551615=BitVec.allOnes 64:=by decide
 rw [h1,BitVec.xor_allOnes,BitVec.toNat_not,ofInt_u64 a ha]
 simp [IntKind.wrap,IntKind.bits,IntKind.signed]
 omega
theorem xor_zero_u64 (a:Nat) (ha:a<18446744073709551616):bits .xor .u64 (a:Int) 0=(a:Int):=by
 rw [u64_xor _ _ (by omega) (by omega) (by omega) (by omega)]
 simp
theorem wrap_u64' (n:Int):IntKind.u64.wrap n=n % 18446744073709551616:=by simp [IntKind.wrap,IntKind.bits,IntKind.signed]
theorem zig_bits (x:Int) (h0:-9223372036854775808≤x) (h1:x<9223372036854775808) :
 bits .xor .u64 (IntKind.u64.wrap (IntKind.u64.wrap x*2)) (IntKind.u64.wrap (x / 9223372036854775808))=(zig x:Int):=by
 simp only [wrap_u64']
 by_cases hx:x<0
 ·have e1:x / 9223372036854775808 % 18446744073709551616=18446744073709551615:=by omega
  obtain ⟨a,ha⟩:=Int.eq_ofNat_of_zero_le (show 0≤x % 18446744073709551616*2 % 18446744073709551616 by omega)
  rw [e1,ha,xor_ones_u64 a (by omega)]
  unfold zig
  rw [if_pos hx]
  omega
 ·have e1:x / 9223372036854775808 % 18446744073709551616=0:=by omega
  obtain ⟨a,ha⟩:=Int.eq_ofNat_of_zero_le (show 0≤x % 18446744073709551616*2 % 18446744073709551616 by omega)
  rw [e1,ha,xor_zero_u64 a (by omega)]
  unfold zig
  rw [if_neg hx]
  omega
theorem pow128 (i:Nat):(128:Nat)^i=2^(7*i):=by rw [Nat.pow_mul]
theorem or_shl (u i c:Nat) (hi:i≤9) (hc:c<256) (h9:i=9→c % 128≤1) (hu:u<128^i) :
 bits .or .u64 (u:Int) (IntKind.u64.wrap (IntKind.u64.wrap (bits .and .u8 (c:Int) 127)*2^(7*i)))=((u+c % 128*128^i:Nat):Int):=by
 have hand:bits .and .u8 (c:Int) 127=((c % 128:Nat):Int):=by
  have h:∀ k:Nat,k<256→bits .and .u8 (k:Int) 127=((k % 128:Nat):Int):=by decide +kernel
  exact h c hc
 have hp:(128:Nat)^i≤2^63:=by rw [pow128];exact Nat.pow_le_pow_right (by decide) (by omega)
 have hlt:c % 128*128^i<18446744073709551616:=by
  by_cases h:i=9
  ·subst h
   have:=h9 rfl
   omega
  ·have hp:(128:Nat)^i≤128^8:=Nat.pow_le_pow_right (by decide) (by omega)
   have:c % 128*128^i≤127*128^8:=Nat.mul_le_mul (by omega) hp
   omega
 rw [hand,wrap_u64' ((c % 128:Nat):Int),wrap_u64']
 have e1:(((c % 128:Nat):Int) % 18446744073709551616*2^(7*i)) % 18446744073709551616=((c % 128*128^i:Nat):Int):=by
  have:((c % 128:Nat):Int) % 18446744073709551616=((c % 128:Nat):Int):=by omega
  rw [this,pow128,show ((2:Int)^(7*i))=((2^(7*i):Nat):Int) from by norm_cast,←Int.natCast_mul,←pow128]
  omega
 rw [e1,u64_or_nat _ _ (by omega) hlt,pow128,←Nat.shiftLeft_eq,Nat.or_comm,←Nat.shiftLeft_add_eq_or_of_lt (by rw [←pow128];exact hu),Nat.add_comm]
def eRaw (n:Int):Option (List UInt8)→List UInt8 × Option (List UInt8)
 | none=>([],none)
 | some l=>if 0≤n∧n≤l.length then (l.take n.toNat,some (l.drop n.toNat)) else ([],none)
def leb:Nat→List UInt8→Option (Nat × List UInt8)
 | _,[]=>none
 | i,b::r =>
   if i=9∧1<b.toNat∨b.toNat=0∧0<i then none
   else if 128≤b.toNat then (leb (i+1) r).map fun p=>(b.toNat % 128+128*p.1,p.2)
   else some (b.toNat,r)
def eNat (most:Nat):Option (List UInt8)→Nat × Option (List UInt8)
 | none=>(0,none)
 | some l=>match leb 0 l with
   | some (v,r)=>if v≤most then (v,some r) else (0,none)
   | none=>(0,none)
theorem eNat_le (most:Nat) (st:Option (List UInt8)):(eNat most st).1≤most:=by
 cases st with
 | none=>simp [eNat]
 | some l =>
   unfold eNat
   cases hl:leb 0 l with
   | none=>simp [hl]
   | some p =>
     simp only [hl]
     split
     ·assumption
     ·simp
def valB (l:List UInt8):Nat:=l.foldr (fun b acc=>b.toNat % 128+128*acc) 0
theorem valB_cons (b:UInt8) (l:List UInt8):valB (b::l)=b.toNat % 128+128*valB l:=rfl
theorem natB_induct {P:Nat→Prop} (h0:∀ n,n<128→P n) (h1:∀ n,128≤n→P (n / 128)→P n) (n:Nat):P n:=by
 induction n using Nat.strongRecOn with
 | _ n ih =>
   by_cases h:n<128
   ·exact h0 n h
   ·exact h1 n (by omega) (ih (n / 128) (by omega))
theorem valB_natB (n:Nat):valB (natB n)=n:=by
 induction n using natB_induct with
 | h0 n h=>rw [natB_lt h,valB_cons,toNat_ofNat (by omega)];simp [valB];omega
 | h1 n h ih=>rw [natB_ge h,valB_cons,ih,toNat_ofNat (by omega)];omega
def shaped (l:List UInt8):Prop:=∃ a b,l=a++[b]∧(∀ c∈a,128≤c.toNat)∧b.toNat<128
theorem natB_shaped (n:Nat):shaped (natB n):=by
 induction n using natB_induct with
 | h0 n h=>rw [natB_lt h];exact ⟨[],_,rfl,by simp,by rw [toNat_ofNat (by omega)];omega⟩
 | h1 n h ih =>
   obtain ⟨a,b,e,h2,h3⟩:=ih
   rw [natB_ge h,e]
   refine ⟨UInt8.ofNat (128+n % 128)::a,b,rfl,fun c hc => ?_,h3⟩
   rcases List.mem_cons.1 hc with rfl|hc
   ·rw [toNat_ofNat (by omega)];omega
   ·exact h2 c hc
theorem shaped_unique:∀ (x y r s:List UInt8),shaped x→shaped y→x++r=y++s→x=y:=by
 have gen:∀ (a1 a2:List UInt8) (b1 b2:UInt8) (r s:List UInt8),(∀ c∈a1,128≤c.toNat)→(∀ c∈a2,128≤c.toNat)→b1.toNat<128→b2.toNat<128→a1++b1::r=a2++b2::s→a1++[b1]=a2++[b2]:=by
  intro a1
  induction a1 with
  | nil =>
    intro a2 b1 b2 r s _ h2 hb1 _ he
    cases a2 with
    | nil=>simp at he;simp [he.1]
    | cons c t =>
      simp at he
      have:=h2 c (by simp)
      rw [←he.1] at this
      omega
  | cons d t ih =>
    intro a2 b1 b2 r s h1 h2 hb1 hb2 he
    cases a2 with
    | nil =>
      simp at he
      have:=h1 d (by simp)
      rw [he.1] at this
      omega
    | cons c t' =>
      simp at he
      have:=ih t' b1 b2 r s (fun c hc=>h1 c (by simp [hc])) (fun c hc=>h2 c (by simp [hc])) hb1 hb2 he.2
      simp [he.1,this]
 rintro x y r s ⟨a1,b1,rfl,h1,hb1⟩ ⟨a2,b2,rfl,h2,hb2⟩ he
 exact gen a1 a2 b1 b2 r s h1 h2 hb1 hb2 (by simpa using he)
theorem leb_sound:∀ (l:List UInt8) (i v:Nat) (r:List UInt8),i≤9→leb i l=some (v,r)→l=natB v++r∧v<2^(64-7*i)∧(0<i→0<v):=by
 intro l
 induction l with
 | nil=>intro i v r _ h;simp [leb] at h
 | cons b t ih =>
   intro i v r hi h
   have hb:=b.toNat_lt
   simp only [leb] at h
   split at h
   ·cases h
   ·rename_i h1
    split at h
    ·rename_i h2
     cases hl:leb (i+1) t with
     | none=>simp [hl] at h
     | some p =>
       simp [hl] at h
       obtain ⟨rfl,rfl⟩:=h
       have hi9:i<9:=by omega
       obtain ⟨e,hv,h0⟩:=ih (i+1) p.1 p.2 (by omega) hl
       have hp0:=h0 (by omega)
       have hp:(2:Nat)^(64-7*i)=128*2^(64-7*(i+1)):=by
        rw [show 64-7*i=7+(64-7*(i+1)) from by omega,Nat.pow_add]
       refine ⟨?_,by rw [hp];omega,by omega⟩
       rw [natB_ge (n:=b.toNat % 128+128*p.1) (by omega),show (b.toNat % 128+128*p.1) / 128=p.1 from by omega,show 128+(b.toNat % 128+128*p.1) % 128=b.toNat from by omega]
       rw [List.cons_append,←e]
       simp
    ·rename_i h2
     simp at h
     obtain ⟨rfl,rfl⟩:=h
     refine ⟨?_,?_,by omega⟩
     ·rw [natB_lt (by omega)];simp
     ·by_cases h9:i=9
      ·subst h9;simp;omega
      ·have:(2:Nat)^7≤2^(64-7*i):=Nat.pow_le_pow_right (by decide) (by omega)
       omega
end Go.Proofs.YthoolcpcmhhkpaaGreatDoor
namespace Go.Proofs.YthoolcpcmhhkpaaGreatDoor
def crcT (c:Nat):Nat:=if c % 2=1 then (c / 2) ^^^ 3988292384 else c / 2
def crcTN:Nat→Nat→Nat
 | 0,c=>c
 | n+1,c=>crcT (crcTN n c)
def crcStep (c:Nat) (b:UInt8):Nat:=crcTN 8 (c ^^^ b.toNat)
def crcOf (c:Nat) (l:List UInt8):Nat:=l.foldl crcStep c
def crcSum (l:List UInt8):Nat:=4294967295-crcOf 4294967295 l
def fourB (c:Nat):List UInt8:=[UInt8.ofNat (c % 256),UInt8.ofNat (c / 256 % 256),UInt8.ofNat (c / 65536 % 256),UInt8.ofNat (c / 16777216 % 256)]
theorem crcT_lt {c:Nat} (h:c<4294967296):crcT c<4294967296:=by
 unfold crcT
 split
 ·exact Nat.xor_lt_two_pow (n:=32) (by omega) (by omega)
 ·omega
theorem crcTN_lt {c:Nat} (h:c<4294967296) (n:Nat):crcTN n c<4294967296:=by
 induction n with
 | zero=>exact h
 | succ n ih=>exact crcT_lt ih
theorem xor_byte_lt {c:Nat} (h:c<4294967296) (b:UInt8):c ^^^ b.toNat<4294967296:=Nat.xor_lt_two_pow (n:=32) (by omega) (by have:=b.toNat_lt;omega)
theorem crcStep_lt {c:Nat} (h:c<4294967296) (b:UInt8):crcStep c b<4294967296:=crcTN_lt (xor_byte_lt h b) 8
theorem crcOf_lt {c:Nat} (h:c<4294967296) (l:List UInt8):crcOf c l<4294967296:=by
 induction l generalizing c with
 | nil=>exact h
 | cons b l ih=>exact ih (crcStep_lt h b)
theorem crcSum_lt (l:List UInt8):crcSum l<4294967296:=by unfold crcSum;omega
theorem crcOf_append (c:Nat) (x y:List UInt8):crcOf c (x++y)=crcOf (crcOf c x) y:=List.foldl_append
theorem crcOf_take_succ (c:Nat) (l:List UInt8) (k:Nat) (h:k<l.length):crcOf c (l.take (k+1))=crcStep (crcOf c (l.take k)) l[k]:=by
 rw [List.take_succ_eq_append_getElem h,crcOf_append]
 rfl
theorem crcT_xor (a b:Nat):crcT (a ^^^ b)=crcT a ^^^ crcT b:=by
 have hm:(a ^^^ b) % 2=(a+b) % 2:=by
  have:=@Nat.xor_mod_two_eq_one a b
  omega
 have hd:(a ^^^ b) / 2=a / 2 ^^^ b / 2:=Nat.xor_div_two
 unfold crcT
 rw [hm,hd]
 generalize a / 2=p
 generalize b / 2=q
 rcases Nat.mod_two_eq_zero_or_one a with ha|ha<;>rcases Nat.mod_two_eq_zero_or_one b with hb|hb
 ·rw [if_neg (by omega),if_neg (by omega),if_neg (by omega)]
 ·rw [if_pos (by omega),if_neg (by omega),if_pos (by omega),Nat.xor_assoc]
 ·rw [if_pos (by omega),if_pos (by omega),if_neg (by omega),Nat.xor_assoc,Nat.xor_assoc,Nat.xor_comm q]
 ·rw [if_neg (by omega),if_pos (by omega),if_pos (by omega)]
  rw [Nat.xor_assoc,Nat.xor_comm 3988292384 (q ^^^ 3988292384),Nat.xor_assoc,Nat.xor_self,Nat.xor_zero]
theorem crcTN_xor (n a b:Nat):crcTN n (a ^^^ b)=crcTN n a ^^^ crcTN n b:=by
 induction n with
 | zero=>rfl
 | succ n ih=>simp only [crcTN,ih,crcT_xor]
theorem crcT_even (m:Nat):crcT (2*m)=m:=by
 unfold crcT
 rw [if_neg (by omega)]
 omega
theorem crcTN_shift (n m:Nat):crcTN n (2^n*m)=m:=by
 induction n generalizing m with
 | zero=>simp [crcTN]
 | succ n ih =>
   rw [crcTN,show 2^(n+1)*m=2^n*(2*m) from by rw [Nat.pow_succ,Nat.mul_assoc],ih,crcT_even]
theorem crcTN_add (m n c:Nat):crcTN m (crcTN n c)=crcTN (m+n) c:=by
 induction m with
 | zero=>simp [crcTN]
 | succ m ih=>rw [show m+1+n=(m+n)+1 from by omega,crcTN,crcTN,ih]
theorem crcT_inj {a b:Nat} (ha:a<4294967296) (hb:b<4294967296) (h:crcT a=crcT b):a=b:=by
 have top:∀ x,x<2147483648→2147483648≤x ^^^ 3988292384:=fun x hx=>by
  have h1:(x ^^^ 3988292384) / 2147483648=1:=by
   have:=Nat.xor_div_two_pow (a:=x) (b:=3988292384) (n:=31)
   rw [show (2:Nat)^31=2147483648 from by decide] at this
   rw [this,Nat.div_eq_of_lt hx]
   decide
  omega
 unfold crcT at h
 by_cases h1:a % 2=1<;>by_cases h2:b % 2=1
 ·rw [if_pos h1,if_pos h2] at h
  have:=congrArg (· ^^^ 3988292384) h
  simp only [Nat.xor_assoc,Nat.xor_self,Nat.xor_zero] at this
  omega
 ·rw [if_pos h1,if_neg h2] at h
  have:=top (a / 2) (by omega)
  omega
 ·rw [if_neg h1,if_pos h2] at h
  have:=top (b / 2) (by omega)
  omega
 ·rw [if_neg h1,if_neg h2] at h
  omega
theorem crcTN_inj {n a b:Nat} (ha:a<4294967296) (hb:b<4294967296) (h:crcTN n a=crcTN n b):a=b:=by
 induction n with
 | zero=>exact h
 | succ n ih=>exact ih (crcT_inj (crcTN_lt ha n) (crcTN_lt hb n) h)
theorem xor_cancel_right {a b c:Nat} (h:a ^^^ c=b ^^^ c):a=b:=by
 have:=congrArg (· ^^^ c) h
 simpa only [Nat.xor_assoc,Nat.xor_self,Nat.xor_zero] using this
theorem xor_cancel_left {a b c:Nat} (h:c ^^^ a=c ^^^ b):a=b:=by
 rw [Nat.xor_comm c,Nat.xor_comm c] at h
 exact xor_cancel_right h
theorem crcOf_inj {a b:Nat} (ha:a<4294967296) (hb:b<4294967296) (l:List UInt8) (h:crcOf a l=crcOf b l):a=b:=by
 induction l generalizing a b with
 | nil=>exact h
 | cons x l ih=>exact xor_cancel_right (crcTN_inj (xor_byte_lt ha x) (xor_byte_lt hb x) (ih (crcStep_lt ha x) (crcStep_lt hb x) h))
theorem xor_ones32 (b:Nat) (hb:b<4294967296):b ^^^ (4294967295-b)=4294967295:=by
 apply Nat.eq_of_testBit_eq
 intro i
 rw [Nat.testBit_xor,show 4294967295-b=2^32-(b+1) from by omega,Nat.testBit_two_pow_sub_succ (by omega),show (4294967295:Nat)=2^32-1 from rfl,Nat.testBit_two_pow_sub_one]
 by_cases h:i<32
 ·simp [h]
 ·simp [h]
  exact Nat.testBit_lt_two_pow (Nat.lt_of_lt_of_le (show b<2^32 from hb) (Nat.pow_le_pow_right (by omega) (by omega)))
def word4 (a b c d:UInt8):Nat:=a.toNat ^^^ (256*b.toNat ^^^ (65536*c.toNat ^^^ 16777216*d.toNat))
theorem crcOf_four (s:Nat) (a b c d:UInt8):crcOf s [a,b,c,d]=crcTN 32 (s ^^^ word4 a b c d):=by
 have sh:∀ (y n:Nat) (x:Nat),crcTN n y ^^^ x=crcTN n (y ^^^ 2^n*x):=fun y n x=>by rw [crcTN_xor,crcTN_shift]
 show crcStep (crcStep (crcStep (crcStep s a) b) c) d=_
 simp only [crcStep]
 rw [sh _ 8 b.toNat,crcTN_add,sh _ (8+8) c.toNat,crcTN_add,sh _ (8+(8+8)) d.toNat,crcTN_add]
 rw [word4]
 simp only [Nat.xor_assoc,Nat.reduceAdd,Nat.reducePow]
end Go.Proofs.YthoolcpcmhhkpaaGreatDoor
