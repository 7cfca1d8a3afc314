/-
  Parts of a proof, pressed. Conditions: the form's own reach.
-/
import Derived.Test.YthoolcpcmhhkpaaGreatDoorSuiteConfigsB32
import Derived.Test.YthoolcpcmhhkpaaGreatDoorSuiteConfigsB3
import Derived.Test.YthoolcpcmhhkpaaGreatDoorSuiteConfigsB2
import Derived.Test.YthoolcpcmhhkpaaGreatDoorSuiteConfigsB5
namespace Go.Proofs.YthoolcpcmhhkpaaGreatDoor
open Go.RowKit
theorem cap_room {D:CapD} (h:D.ok) {i:Int} {c:Nat} (hi:-1000000≤i∧i≤1000000) (hc:totP D.r+D.lost+c≤9223372036854775807) (hc1:1≤c) (hf:¬(D.r≠[]∧farI D.hi D.m (endC D.hi D.r) i=true)):hasI (keepC D i) i=true∨((keepC D i).length:Int)<(D.m:Int):=by
 have hp:=CapD.put_ok h hi hc
 have hl:=win_len hp.rises hp.win
 have e:D.put i c={ D with r:=refAdd (keepC D i) i c,lost:=D.lost+goneC D i }:=by unfold CapD.put;rw [if_neg hf]
 rw [e] at hl
 simp only at hl
 have hr:rises (keepC D i):=filter_risesC h.rises _
 rw [refAdd_lenE hr (fun q hq=>h.pos q (List.mem_filter.1 hq).1) hc1] at hl
 rcases find_cnt (i:=i) hr with ⟨-,h2⟩|⟨h1,-⟩
 ·rw [if_pos h2] at hl
  exact .inr (by omega)
 ·exact .inl h1
def low_shd (w:World) (p s:Nat) (rv:Value) (D:CapD) (e:Int) (g:Nat) (wx:World):Prop:=∃ rv' D',g=D'.r.length∧CapS wx p s rv' D'∧Shed D D' e∧Mv (fpC p s rv) w (fpC p s rv') wx
set_option maxRecDepth 100000 in
set_option maxHeartbeats 4000000 in
theorem low_shed (w:World) (p s:Nat) (rv:Value) (D:CapD) (h:CapS w p s rv D) (hok:D.ok) (hhi:D.hi=false) (e:Int) (he:-4000000≤e∧e≤4000000) :
 Calls Tryz.prog 314 #[.pointer (some ⟨p,0,none⟩),.int .i64 e] w fun r w'=>r=.returned (.tuple #[])∧∃ rv',CapS w' p s rv' { D with r:=keepC D e,lost:=D.lost+goneC D e }∧Mv (fpC p s rv) w (fpC p s rv') w':=by
 have H0:low_shd w p s rv D e D.r.length w:=⟨rv,D,rfl,h,Shed.refl hok e,Mv.refl _ _⟩
 have HE:=Lib.hid he
 have HHI:=Lib.hid hhi
 clear h hok hhi he
 go_enter Tryz.func314,Tryz.ntmps314
 go_wp2_with fail
 go_loopg [] D.r.length (fun g wx=>low_shd w p s rv D e g wx)
 case atStart=>exact H0
 case round =>
  clear H0
  obtain ⟨rv2,D2,rfl,hcap,hsh,hmv⟩:=hrel
  have hok2:=hsh.ok
  have hlen:D2.r.length≤5000:=by have h1:=win_len hok2.rises hok2.win;have h2:=hok2.m2;omega
  have HCAP:=Lib.hid hcap
  have HSH:=Lib.hid hsh
  have HMV:=Lib.hid hmv
  obtain ⟨c0,c1,c2⟩:=hcap.cells
  by_cases h0:D2.r=[]
  ·have HX:=Lib.hid (hsh.stop (fun q hq=>by rw [h0] at hq;simp at hq))
   have HS:=Lib.hid (stm_ends0 wr s (D2.m:Int) rv2 (by have:=hcap.st;rw [h0] at this;exact this))
   clear hcap hsh hmv hok2 h0 c0 c2
   go_wp2_with fail
   refine HS.out.mono ?_
   rintro r w1 ⟨rfl,hc⟩
   have HC:=Lib.hid hc
   clear hc HS c1
   go_wp2
   refine bodyPost_ret (results_none rfl _ _ _) rfl ?_
   have h1:=HCAP.out.chg HC.out (by simp)
   rw [HX.out] at h1
   exact ⟨rfl,rv2,h1,HMV.out.trans (Mv.of_chg HC.out.nil)⟩
  ·have hl0:0<D2.r.length:=List.length_pos_iff.2 h0
   obtain ⟨k,hk,rfl⟩:∃ k,∃ _hk:k<D2.r.length,k=0:=⟨0,hl0,rfl⟩
   obtain ⟨z,hz⟩:∃ z:Int,z=(D2.r.getD (D2.r.length-1) default).i:=⟨_,rfl⟩
   obtain ⟨B,hB⟩:∃ B,B=farI false D2.m e (D2.r[0]).i:=⟨_,rfl⟩
   have hix:=hok2.ix D2.r[0] (List.getElem_mem hk)
   have HO:=Lib.hid (fun u (hu:Chg [] wr u)=>low_out u p s rv2 D2 (hcap.chg hu (by simp)) hok2.m2 (D2.r[0]).i e (by omega) HE.out B hB)
   have HS:=Lib.hid (stm_ends wr s (D2.m:Int) rv2 D2.r hcap.st hlen h0 (D2.r[0]).i z (by simp [List.getD,hl0]) hz)
   have HT:=Lib.hid (fun u (hu:Chg [] wr u)=>stm_first u s (D2.m:Int) rv2 D2.r (hcap.chg hu (by simp)).st hlen (by have:=hok2.tot;omega) hl0 D2.r[0] rfl)
   have HNX:=Lib.hid (fun (hb:B=true)=>hsh.step hk (show farI D.hi D.m e (D2.r[0]).i=true from by rw [HHI.out,←hsh.m,←hB];exact hb))
   have HST:=Lib.hid (fun (hb:B=false)=>hsh.stop (fun q hq=>by
    have h1:farI false D2.m e (D2.r[0]).i=false:=by rw [←hB];exact hb
    rw [HHI.out,←hsh.m]
    obtain ⟨j,hj,rfl⟩:=List.getElem_of_mem hq
    exact far_low_mono h1 (rises_mem hok2.rises hk hj (by omega))))
   have HLT:=Lib.hid (show (D2.r.take 0++D2.r.drop (0+1)).length<D2.r.length from by rw [List.length_append,List.length_take,List.length_drop];omega)
   have HTB:=Lib.hid (show D2.lost+(D2.r[0]).c≤9223372036854775807 from by have h1:=hok2.tot;have h2:=mem_tot (List.getElem_mem hk);omega)
   generalize D2.r[0]=y at *
   clear hcap hsh hmv hok2 h0 hlen hB hix hz
   generalize hyi:y.i=yi at *
   go_wp2_with fail
   refine HS.out.mono ?_
   rintro r w1 ⟨rfl,hc⟩
   have HC:=Lib.hid hc
   clear hc HS c0 c1 c2
   go_wp2_with fail
   refine (HO.out _ HC.out).mono ?_
   rintro r w2 ⟨rfl,rfl⟩
   cases B with
   | false =>
     have HX:=Lib.hid (HST.out rfl)
     clear HO HNX HT HLT HTB HST
     go_wp2
     refine bodyPost_ret (results_none rfl _ _ _) rfl ?_
     have h1:=HCAP.out.chg HC.out (by simp)
     rw [HX.out] at h1
     exact ⟨rfl,rv2,h1,HMV.out.trans (Mv.of_chg HC.out.nil)⟩
   | true =>
     have HNX2:=Lib.hid (HNX.out rfl)
     clear HO HNX HST
     obtain ⟨c0,c1,c2⟩:=(HCAP.out.chg HC.out (by simp)).cells
     go_wp2_with fail
     refine (HT.out _ HC.out).mono ?_
     rintro r w2 ⟨rfl,rv3,hst,hm⟩
     have HCS:=Lib.hid ((HCAP.out.chg HC.out (by simp)).st' hst hm)
     have HB7:=Lib.hid (Blk.alloc_new w2 #[.int .i64 yi,.int .u64 (y.c:Nat)] 183)
     have HC7:=Lib.hid ((Chg.refl [] w2).alloc (.cells #[.int .i64 yi,.int .u64 (y.c:Nat)] 183))
     clear hst hm HT c0 c1 c2
     rw [hyi]
     go_upto_region 3 with (fail)
     generalize w2.alloc (.cells #[.int .i64 yi,.int .u64 (y.c:Nat)] 183)=w7 at *
     have hcap7:=HCS.out.1.chg HC7.out (by simp)
     obtain ⟨d0,d1,d2⟩:=hcap7.cells
     have f2:=hcap7.blk.free 2
     obtain ⟨b7,hb7⟩:∃ z,z=w2.heap.size:=⟨_,rfl⟩
     rw [←hb7] at HB7 ⊢
     have e1:=HB7.out.cell 1
     simp only [List.getElem?_toArray,List.getElem?_cons_zero,List.getElem?_cons_succ] at e1 d2
     obtain ⟨L,hL⟩:∃ L,L=D2.lost:=⟨_,rfl⟩
     have hTB:=HTB.out
     rw [←hL] at d2 hTB
     have hw1:IntKind.u64.wrap ((L:Int)+(y.c:Int))=((L+y.c:Nat):Int):=by rw [IntKind.wrap_u64];omega
     have HLO:=Lib.hid (hcap7.lost' (L+y.c))
     have HLL:=Lib.hid hL
     clear hcap7 hTB hb7 hL HTB d0 d1
     go_still_tail 9,(by kernel_rfl)
     change wpList _ _ _ _ _ (World.drew _)
     go_wp2
     go_roundg (D2.r.take 0++D2.r.drop (0+1)).length
     case measure=>exact HLT.out
     case rel =>
      have hL:=HLL.out
      subst hL
      refine ⟨rv3,D2.cut 0 y.c,rfl,CapS.chg HLO.out.1 (F:=[]) (Chg.refl _ _).drew (by simp),HNX2.out,?_⟩
      exact HMV.out.trans ((Mv.of_chg HC.out.nil).trans (HCS.out.2.trans ((Mv.of_chg HC7.out.nil).trans (HLO.out.2.trans (Mv.of_chg (Chg.refl _ _).drew)))))
theorem low_put_stay {D:CapD} (h:D.ok) (hhi:D.hi=false) {i:Int} (h1:¬(lastC D.r<i)):keepC D i=D.r∧goneC D i=0:=by
 have hf:∀ p∈D.r,farC D.hi D.m i p=false:=fun p hp=>by
  have hne:D.r≠[]:=fun e=>by rw [e] at hp;simp at hp
  obtain ⟨q,hq,e⟩:=last_mem hne
  have hw:=h.win p hp q hq
  unfold farC
  rw [hhi,farI_low]
  simp only [Bool.and_eq_false_iff,decide_eq_false_iff_not]
  omega
 refine ⟨?_,?_⟩
 ·unfold keepC
  rw [List.filter_eq_self]
  intro p hp
  rw [hf p hp]
  rfl
 ·unfold goneC
  have:(D.r.filter fun p=>farC D.hi D.m i p)=[]:=by
   rw [List.filter_eq_nil_iff]
   intro p hp
   rw [hf p hp]
   simp
  rw [this]
  rfl
theorem low_put_empty {D:CapD} (h:D.r=[]) (i:Int):keepC D i=D.r∧goneC D i=0:=by
 unfold keepC goneC
 rw [h]
 exact ⟨rfl,rfl⟩
set_option maxRecDepth 100000 in
set_option maxHeartbeats 4000000 in
theorem low_put (w:World) (p s:Nat) (rv:Value) (D:CapD) (h:CapS w p s rv D) (hok:D.ok) (hhi:D.hi=false) (i:Int) (hi:-1000000≤i∧i≤1000000) (c:Nat) (hc1:1≤c) (hct:D.total+c≤9223372036854775807) :
 Calls Tryz.prog 298 #[.pointer (some ⟨p,0,none⟩),.int .i64 i,.int .u64 (c:Nat)] w fun e w'=>e=.returned (.tuple #[])∧∃ rv',CapS w' p s rv' (D.put i c)∧Mv (fpC p s rv) w (fpC p s rv') w':=by
 have hct0:totP D.r+D.lost+c≤9223372036854775807:=hct
 have hlen:D.r.length≤5000:=by have h1:=win_len hok.rises hok.win;have h2:=hok.m2;omega
 have HADD:=Lib.hid (fun u sv (hst:StM u s (D.m:Int) sv (keepC D i)) (hf:¬(D.r≠[]∧farI D.hi D.m (endC D.hi D.r) i=true)) =>
  stm_add u s (D.m:Int) sv (keepC D i) hst (filter_risesC hok.rises _) (fun q hq=>hok.pos q (List.mem_filter.1 hq).1) (by have:=List.length_filter_le (fun p=>!farC D.hi D.m i p) D.r;unfold keepC;omega) i c hc1 (by have:=totP_filterC D.r (fun p=>!farC D.hi D.m i p);unfold keepC;omega) (cap_room hok hi hct0 hc1 hf))
 have HSH:=Lib.hid (fun u (hu:CapS u p s rv D)=>low_shed u p s rv D hu hok hhi i (by omega))
 have HPUT1:=Lib.hid (fun (hf:D.r≠[]∧farI D.hi D.m (endC D.hi D.r) i=true)=>show D.put i c={ D with lost:=D.lost+c } from by unfold CapD.put;rw [if_pos hf])
 have HPUT2:=Lib.hid (fun (hf:¬(D.r≠[]∧farI D.hi D.m (endC D.hi D.r) i=true))=>show D.put i c={ D with r:=refAdd (keepC D i) i c,lost:=D.lost+goneC D i } from by unfold CapD.put;rw [if_neg hf])
 have HH:=Lib.hid h
 have HSTAY:=Lib.hid (fun (h1:¬(lastC D.r<i))=>low_put_stay hok hhi h1)
 by_cases h0:D.r=[]
 ·have HE:=Lib.hid (low_end0 w p s rv D h h0)
  have hnf:¬(D.r≠[]∧farI D.hi D.m (endC D.hi D.r) i=true):=fun hf=>hf.1 h0
  have HP:=Lib.hid (HPUT2.out hnf)
  have HA:=Lib.hid (fun u sv hst=>HADD.out u sv hst hnf)
  have HK:=Lib.hid (low_put_empty h0 i)
  clear h hok hct hct0 hlen h0 hnf HPUT1 HPUT2 HADD HSTAY HSH
  generalize D.put i c=DP at *
  go_enter Tryz.func298,Tryz.ntmps298
  go_wp2_with fail
  refine HE.out.mono ?_
  rintro e w1 ⟨rfl,hch⟩
  have hcap:=HH.out.chg hch (by simp)
  have HCH:=Lib.hid hch
  have HCAP:=Lib.hid hcap
  obtain ⟨c0,c1,c2⟩:=hcap.cells
  clear hcap hch HE
  go_wp2_with fail
  refine (HA.out _ rv (by rw [HK.out.1];exact HCAP.out.st)).mono ?_
  rintro e w2 ⟨rfl,rv',hst,hm⟩
  have HX:=Lib.hid (HCAP.out.st' hst hm)
  clear hst hm HA c0 c1 c2
  go_wp2
  go_end0
  rw [HP.out,HK.out.2]
  exact ⟨rfl,rv',HX.out.1,(Mv.of_chg HCH.out.nil).trans HX.out.2⟩
 ·obtain ⟨E,hE⟩:∃ E,E=endC false D.r:=⟨_,rfl⟩
  have HE:=Lib.hid (low_end w p s rv D h hlen h0 E hE)
  obtain ⟨B,hB⟩:∃ B,B=farI false D.m E i:=⟨_,rfl⟩
  have hEb:-4000000≤E∧E≤4000000:=by
   obtain ⟨q,hq,e⟩:=last_mem h0
   have:=hok.ix q hq
   have e2:E=lastC D.r:=hE
   omega
  have HO:=Lib.hid (fun u (hu:CapS u p s rv D)=>low_out u p s rv D hu hok.m2 i E (by omega) hEb B hB)
  have HBX:=Lib.hid (show farI D.hi D.m (endC D.hi D.r) i=B from by rw [hB,hE,hhi])
  have HEX:=Lib.hid (show E=lastC D.r from hE)
  have HN0:=Lib.hid h0
  have HTT:=Lib.hid (show D.lost+c≤9223372036854775807 from by omega)
  clear h hok hct hct0 hlen h0 hE hB hhi hEb
  cases B with
  | true =>
    have HP:=Lib.hid (HPUT1.out ⟨HN0.out,HBX.out⟩)
    clear HPUT1 HPUT2 HADD HSTAY HSH
    generalize D.put i c=DP at *
    have hTT:=HTT.out
    obtain ⟨L,hL⟩:∃ L,L=D.lost:=⟨_,rfl⟩
    rw [←hL] at hTT HP
    have hw1:IntKind.u64.wrap ((L:Int)+(c:Int))=((L+c:Nat):Int):=by rw [IntKind.wrap_u64];omega
    go_enter Tryz.func298,Tryz.ntmps298
    go_wp2_with fail
    refine HE.out.mono ?_
    rintro e w1 ⟨rfl,hch⟩
    have hcap:=HH.out.chg hch (by simp)
    have HCH:=Lib.hid hch
    have HCAP:=Lib.hid hcap
    obtain ⟨c0,c1,c2⟩:=hcap.cells
    have f2:=hcap.blk.free 2
    rw [←hL] at c2
    have HX:=Lib.hid (hcap.lost' (L+c))
    clear hcap hch HE hTT hL
    go_wp2_with fail
    refine (HO.out _ HCAP.out).mono ?_
    rintro e w2 ⟨rfl,rfl⟩
    clear HO
    go_wp2
    refine bodyPost_ret (results_none rfl _ _ _) rfl ?_
    rw [HP.out]
    exact ⟨rfl,rv,HX.out.1,(Mv.of_chg HCH.out.nil).trans HX.out.2⟩
  | false =>
    have hnf:¬(D.r≠[]∧farI D.hi D.m (endC D.hi D.r) i=true):=fun hf=>by have:=HBX.out;rw [hf.2] at this;exact absurd this (by decide)
    have HP:=Lib.hid (HPUT2.out hnf)
    have HA:=Lib.hid (fun u sv hst=>HADD.out u sv hst hnf)
    clear HPUT1 HPUT2 HADD hnf
    generalize D.put i c=DP at *
    by_cases hgt:E<i
    ·have d1:decide (E<i)=true:=decide_eq_true hgt
     clear hgt HSTAY
     go_enter Tryz.func298,Tryz.ntmps298
     go_wp2_with fail
     refine HE.out.mono ?_
     rintro e w1 ⟨rfl,hch⟩
     have HCAP:=Lib.hid (HH.out.chg hch (by simp))
     have HCH:=Lib.hid hch
     clear hch HE
     go_wp2_with fail
     refine (HO.out _ HCAP.out).mono ?_
     rintro e w2 ⟨rfl,rfl⟩
     clear HO
     go_wp2_with fail
     refine (HSH.out _ HCAP.out).mono ?_
     rintro e w2 ⟨rfl,rv2,hcap2,hm2⟩
     have HCAP2:=Lib.hid hcap2
     have HM2:=Lib.hid hm2
     obtain ⟨c0,c1,c2⟩:=hcap2.cells
     clear hcap2 hm2 HSH
     go_wp2_with fail
     refine (HA.out _ rv2 HCAP2.out.st).mono ?_
     rintro e w3 ⟨rfl,rv',hst,hm⟩
     have HX:=Lib.hid (HCAP2.out.st' hst hm)
     clear hst hm HA c0 c1 c2
     go_wp2
     go_end0
     rw [HP.out]
     exact ⟨rfl,rv',HX.out.1,(Mv.of_chg HCH.out.nil).trans (HM2.out.trans HX.out.2)⟩
    ·have d1:decide (E<i)=false:=decide_eq_false hgt
     have HK:=Lib.hid (HSTAY.out (by rw [←HEX.out];exact hgt))
     clear hgt HSTAY HSH
     go_enter Tryz.func298,Tryz.ntmps298
     go_wp2_with fail
     refine HE.out.mono ?_
     rintro e w1 ⟨rfl,hch⟩
     have hcap:=HH.out.chg hch (by simp)
     have HCAP:=Lib.hid hcap
     have HCH:=Lib.hid hch
     obtain ⟨c0,c1,c2⟩:=hcap.cells
     clear hch HE hcap
     go_wp2_with fail
     refine (HO.out _ HCAP.out).mono ?_
     rintro e w2 ⟨rfl,rfl⟩
     clear HO
     go_wp2_with fail
     refine (HA.out _ rv (by rw [HK.out.1];exact HCAP.out.st)).mono ?_
     rintro e w3 ⟨rfl,rv',hst,hm⟩
     have HX:=Lib.hid (HCAP.out.st' hst hm)
     clear hst hm HA c0 c1 c2
     go_wp2
     go_end0
     rw [HP.out,HK.out.2]
     exact ⟨rfl,rv',HX.out.1,(Mv.of_chg HCH.out.nil).trans HX.out.2⟩
def high_shd (w:World) (p s:Nat) (rv:Value) (D:CapD) (e:Int) (g:Nat) (wx:World):Prop:=∃ rv' D',g=D'.r.length∧CapS wx p s rv' D'∧Shed D D' e∧Mv (fpC p s rv) w (fpC p s rv') wx
set_option maxRecDepth 100000 in
set_option maxHeartbeats 4000000 in
theorem high_shed (w:World) (p s:Nat) (rv:Value) (D:CapD) (h:CapS w p s rv D) (hok:D.ok) (hhi:D.hi=true) (e:Int) (he:-4000000≤e∧e≤4000000) :
 Calls Tryz.prog 311 #[.pointer (some ⟨p,0,none⟩),.int .i64 e] w fun r w'=>r=.returned (.tuple #[])∧∃ rv',CapS w' p s rv' { D with r:=keepC D e,lost:=D.lost+goneC D e }∧Mv (fpC p s rv) w (fpC p s rv') w':=by
 have H0:high_shd w p s rv D e D.r.length w:=⟨rv,D,rfl,h,Shed.refl hok e,Mv.refl _ _⟩
 have HE:=Lib.hid he
 have HHI:=Lib.hid hhi
 clear h hok hhi he
 go_enter Tryz.func311,Tryz.ntmps311
 go_wp2_with fail
 go_loopg [] D.r.length (fun g wx=>high_shd w p s rv D e g wx)
 case atStart=>exact H0
 case round =>
  clear H0
  obtain ⟨rv2,D2,rfl,hcap,hsh,hmv⟩:=hrel
  have hok2:=hsh.ok
  have hlen:D2.r.length≤5000:=by have h1:=win_len hok2.rises hok2.win;have h2:=hok2.m2;omega
  have HCAP:=Lib.hid hcap
  have HSH:=Lib.hid hsh
  have HMV:=Lib.hid hmv
  obtain ⟨c0,c1,c2⟩:=hcap.cells
  by_cases h0:D2.r=[]
  ·have HX:=Lib.hid (hsh.stop (fun q hq=>by rw [h0] at hq;simp at hq))
   have HS:=Lib.hid (stm_ends0 wr s (D2.m:Int) rv2 (by have:=hcap.st;rw [h0] at this;exact this))
   clear hcap hsh hmv hok2 h0 c0 c2
   go_wp2_with fail
   refine HS.out.mono ?_
   rintro r w1 ⟨rfl,hc⟩
   have HC:=Lib.hid hc
   clear hc HS c1
   go_wp2
   refine bodyPost_ret (results_none rfl _ _ _) rfl ?_
   have h1:=HCAP.out.chg HC.out (by simp)
   rw [HX.out] at h1
   exact ⟨rfl,rv2,h1,HMV.out.trans (Mv.of_chg HC.out.nil)⟩
  ·have hl0:0<D2.r.length:=List.length_pos_iff.2 h0
   obtain ⟨k,hk,hkx⟩:∃ k,∃ _hk:k<D2.r.length,k+1=D2.r.length:=⟨D2.r.length-1,by omega,by omega⟩
   obtain ⟨z,hz⟩:∃ z:Int,z=(D2.r.getD 0 default).i:=⟨_,rfl⟩
   have hke:(D2.r[k]).i=(D2.r.getD (D2.r.length-1) default).i:=by
    have e:D2.r.length-1=k:=by omega
    rw [e]
    simp [List.getD,hk]
   obtain ⟨B,hB⟩:∃ B,B=farI true D2.m e (D2.r[k]).i:=⟨_,rfl⟩
   have hix:=hok2.ix D2.r[k] (List.getElem_mem hk)
   have HO:=Lib.hid (fun u (hu:Chg [] wr u)=>high_out u p s rv2 D2 (hcap.chg hu (by simp)) hok2.m2 (D2.r[k]).i e (by omega) HE.out B hB)
   have HS:=Lib.hid (stm_ends wr s (D2.m:Int) rv2 D2.r hcap.st hlen h0 z (D2.r[k]).i hz hke)
   have HT:=Lib.hid (fun u (hu:Chg [] wr u)=>stm_last u s (D2.m:Int) rv2 D2.r (hcap.chg hu (by simp)).st hlen (by have:=hok2.tot;omega) k hkx D2.r[k] rfl)
   have HNX:=Lib.hid (fun (hb:B=true)=>hsh.step hk (show farI D.hi D.m e (D2.r[k]).i=true from by rw [HHI.out,←hsh.m,←hB];exact hb))
   have HST:=Lib.hid (fun (hb:B=false)=>hsh.stop (fun q hq=>by
    have h1:farI true D2.m e (D2.r[k]).i=false:=by rw [←hB];exact hb
    rw [HHI.out,←hsh.m]
    obtain ⟨j,hj,rfl⟩:=List.getElem_of_mem hq
    exact far_high_mono h1 (rises_mem hok2.rises hj hk (by omega))))
   have HLT:=Lib.hid (show (D2.r.take k++D2.r.drop (k+1)).length<D2.r.length from by rw [List.length_append,List.length_take,List.length_drop];omega)
   have HTB:=Lib.hid (show D2.lost+(D2.r[k]).c≤9223372036854775807 from by have h1:=hok2.tot;have h2:=mem_tot (List.getElem_mem hk);omega)
   generalize D2.r[k]=y at *
   clear hcap hsh hmv hok2 h0 hlen hB hix hz hke
   generalize hyi:y.i=yi at *
   go_wp2_with fail
   refine HS.out.mono ?_
   rintro r w1 ⟨rfl,hc⟩
   have HC:=Lib.hid hc
   clear hc HS c0 c1 c2
   go_wp2_with fail
   refine (HO.out _ HC.out).mono ?_
   rintro r w2 ⟨rfl,rfl⟩
   cases B with
   | false =>
     have HX:=Lib.hid (HST.out rfl)
     clear HO HNX HT HLT HTB HST
     go_wp2
     refine bodyPost_ret (results_none rfl _ _ _) rfl ?_
     have h1:=HCAP.out.chg HC.out (by simp)
     rw [HX.out] at h1
     exact ⟨rfl,rv2,h1,HMV.out.trans (Mv.of_chg HC.out.nil)⟩
   | true =>
     have HNX2:=Lib.hid (HNX.out rfl)
     clear HO HNX HST
     obtain ⟨c0,c1,c2⟩:=(HCAP.out.chg HC.out (by simp)).cells
     go_wp2_with fail
     refine (HT.out _ HC.out).mono ?_
     rintro r w2 ⟨rfl,rv3,hst,hm⟩
     have HCS:=Lib.hid ((HCAP.out.chg HC.out (by simp)).st' hst hm)
     have HB7:=Lib.hid (Blk.alloc_new w2 #[.int .i64 yi,.int .u64 (y.c:Nat)] 183)
     have HC7:=Lib.hid ((Chg.refl [] w2).alloc (.cells #[.int .i64 yi,.int .u64 (y.c:Nat)] 183))
     clear hst hm HT c0 c1 c2
     rw [hyi]
     go_upto_region 3 with (fail)
     generalize w2.alloc (.cells #[.int .i64 yi,.int .u64 (y.c:Nat)] 183)=w7 at *
     have hcap7:=HCS.out.1.chg HC7.out (by simp)
     obtain ⟨d0,d1,d2⟩:=hcap7.cells
     have f2:=hcap7.blk.free 2
     obtain ⟨b7,hb7⟩:∃ z,z=w2.heap.size:=⟨_,rfl⟩
     rw [←hb7] at HB7 ⊢
     have e1:=HB7.out.cell 1
     simp only [List.getElem?_toArray,List.getElem?_cons_zero,List.getElem?_cons_succ] at e1 d2
     obtain ⟨L,hL⟩:∃ L,L=D2.lost:=⟨_,rfl⟩
     have hTB:=HTB.out
     rw [←hL] at d2 hTB
     have hw1:IntKind.u64.wrap ((L:Int)+(y.c:Int))=((L+y.c:Nat):Int):=by rw [IntKind.wrap_u64];omega
     have HLO:=Lib.hid (hcap7.lost' (L+y.c))
     have HLL:=Lib.hid hL
     clear hcap7 hTB hb7 hL HTB d0 d1
     go_still_tail 9,(by kernel_rfl)
     change wpList _ _ _ _ _ (World.drew _)
     go_wp2
     go_roundg (D2.r.take k++D2.r.drop (k+1)).length
     case measure=>exact HLT.out
     case rel =>
      have hL:=HLL.out
      subst hL
      refine ⟨rv3,D2.cut k y.c,rfl,CapS.chg HLO.out.1 (F:=[]) (Chg.refl _ _).drew (by simp),HNX2.out,?_⟩
      exact HMV.out.trans ((Mv.of_chg HC.out.nil).trans (HCS.out.2.trans ((Mv.of_chg HC7.out.nil).trans (HLO.out.2.trans (Mv.of_chg (Chg.refl _ _).drew)))))
theorem high_put_stay {D:CapD} (h:D.ok) (hhi:D.hi=true) {i:Int} (h1:¬(i<firstC D.r)):keepC D i=D.r∧goneC D i=0:=by
 have hf:∀ p∈D.r,farC D.hi D.m i p=false:=fun p hp=>by
  have hne:D.r≠[]:=fun e=>by rw [e] at hp;simp at hp
  obtain ⟨q,hq,e⟩:=first_mem hne
  have hw:=h.win q hq p hp
  unfold farC
  rw [hhi,farI_high]
  simp only [Bool.and_eq_false_iff,decide_eq_false_iff_not]
  omega
 refine ⟨?_,?_⟩
 ·unfold keepC
  rw [List.filter_eq_self]
  intro p hp
  rw [hf p hp]
  rfl
 ·unfold goneC
  have:(D.r.filter fun p=>farC D.hi D.m i p)=[]:=by
   rw [List.filter_eq_nil_iff]
   intro p hp
   rw [hf p hp]
   simp
  rw [this]
  rfl
theorem high_put_empty {D:CapD} (h:D.r=[]) (i:Int):keepC D i=D.r∧goneC D i=0:=by
 unfold keepC goneC
 rw [h]
 exact ⟨rfl,rfl⟩
set_option maxRecDepth 100000 in
set_option maxHeartbeats 4000000 in
theorem high_put (w:World) (p s:Nat) (rv:Value) (D:CapD) (h:CapS w p s rv D) (hok:D.ok) (hhi:D.hi=true) (i:Int) (hi:-1000000≤i∧i≤1000000) (c:Nat) (hc1:1≤c) (hct:D.total+c≤9223372036854775807) :
 Calls Tryz.prog 297 #[.pointer (some ⟨p,0,none⟩),.int .i64 i,.int .u64 (c:Nat)] w fun e w'=>e=.returned (.tuple #[])∧∃ rv',CapS w' p s rv' (D.put i c)∧Mv (fpC p s rv) w (fpC p s rv') w':=by
 have hct0:totP D.r+D.lost+c≤9223372036854775807:=hct
 have hlen:D.r.length≤5000:=by have h1:=win_len hok.rises hok.win;have h2:=hok.m2;omega
 have HADD:=Lib.hid (fun u sv (hst:StM u s (D.m:Int) sv (keepC D i)) (hf:¬(D.r≠[]∧farI D.hi D.m (endC D.hi D.r) i=true)) =>
  stm_add u s (D.m:Int) sv (keepC D i) hst (filter_risesC hok.rises _) (fun q hq=>hok.pos q (List.mem_filter.1 hq).1) (by have:=List.length_filter_le (fun p=>!farC D.hi D.m i p) D.r;unfold keepC;omega) i c hc1 (by have:=totP_filterC D.r (fun p=>!farC D.hi D.m i p);unfold keepC;omega) (cap_room hok hi hct0 hc1 hf))
 have HSH:=Lib.hid (fun u (hu:CapS u p s rv D)=>high_shed u p s rv D hu hok hhi i (by omega))
 have HPUT1:=Lib.hid (fun (hf:D.r≠[]∧farI D.hi D.m (endC D.hi D.r) i=true)=>show D.put i c={ D with lost:=D.lost+c } from by unfold CapD.put;rw [if_pos hf])
 have HPUT2:=Lib.hid (fun (hf:¬(D.r≠[]∧farI D.hi D.m (endC D.hi D.r) i=true))=>show D.put i c={ D with r:=refAdd (keepC D i) i c,lost:=D.lost+goneC D i } from by unfold CapD.put;rw [if_neg hf])
 have HH:=Lib.hid h
 have HSTAY:=Lib.hid (fun (h1:¬(i<firstC D.r))=>high_put_stay hok hhi h1)
 by_cases h0:D.r=[]
 ·have HE:=Lib.hid (high_end0 w p s rv D h h0)
  have hnf:¬(D.r≠[]∧farI D.hi D.m (endC D.hi D.r) i=true):=fun hf=>hf.1 h0
  have HP:=Lib.hid (HPUT2.out hnf)
  have HA:=Lib.hid (fun u sv hst=>HADD.out u sv hst hnf)
  have HK:=Lib.hid (high_put_empty h0 i)
  clear h hok hct hct0 hlen h0 hnf HPUT1 HPUT2 HADD HSTAY HSH
  generalize D.put i c=DP at *
  go_enter Tryz.func297,Tryz.ntmps297
  go_wp2_with fail
  refine HE.out.mono ?_
  rintro e w1 ⟨rfl,hch⟩
  have hcap:=HH.out.chg hch (by simp)
  have HCH:=Lib.hid hch
  have HCAP:=Lib.hid hcap
  obtain ⟨c0,c1,c2⟩:=hcap.cells
  clear hcap hch HE
  go_wp2_with fail
  refine (HA.out _ rv (by rw [HK.out.1];exact HCAP.out.st)).mono ?_
  rintro e w2 ⟨rfl,rv',hst,hm⟩
  have HX:=Lib.hid (HCAP.out.st' hst hm)
  clear hst hm HA c0 c1 c2
  go_wp2
  go_end0
  rw [HP.out,HK.out.2]
  exact ⟨rfl,rv',HX.out.1,(Mv.of_chg HCH.out.nil).trans HX.out.2⟩
 ·obtain ⟨E,hE⟩:∃ E,E=endC true D.r:=⟨_,rfl⟩
  have HE:=Lib.hid (high_end w p s rv D h hlen h0 E hE)
  obtain ⟨B,hB⟩:∃ B,B=farI true D.m E i:=⟨_,rfl⟩
  have hEb:-4000000≤E∧E≤4000000:=by
   obtain ⟨q,hq,e⟩:=first_mem h0
   have:=hok.ix q hq
   have e2:E=firstC D.r:=hE
   omega
  have HO:=Lib.hid (fun u (hu:CapS u p s rv D)=>high_out u p s rv D hu hok.m2 i E (by omega) hEb B hB)
  have HBX:=Lib.hid (show farI D.hi D.m (endC D.hi D.r) i=B from by rw [hB,hE,hhi])
  have HEX:=Lib.hid (show E=firstC D.r from hE)
  have HN0:=Lib.hid h0
  have HTT:=Lib.hid (show D.lost+c≤9223372036854775807 from by omega)
  clear h hok hct hct0 hlen h0 hE hB hhi hEb
  cases B with
  | true =>
    have HP:=Lib.hid (HPUT1.out ⟨HN0.out,HBX.out⟩)
    clear HPUT1 HPUT2 HADD HSTAY HSH
    generalize D.put i c=DP at *
    have hTT:=HTT.out
    obtain ⟨L,hL⟩:∃ L,L=D.lost:=⟨_,rfl⟩
    rw [←hL] at hTT HP
    have hw1:IntKind.u64.wrap ((L:Int)+(c:Int))=((L+c:Nat):Int):=by rw [IntKind.wrap_u64];omega
    go_enter Tryz.func297,Tryz.ntmps297
    go_wp2_with fail
    refine HE.out.mono ?_
    rintro e w1 ⟨rfl,hch⟩
    have hcap:=HH.out.chg hch (by simp)
    have HCH:=Lib.hid hch
    have HCAP:=Lib.hid hcap
    obtain ⟨c0,c1,c2⟩:=hcap.cells
    have f2:=hcap.blk.free 2
    rw [←hL] at c2
    have HX:=Lib.hid (hcap.lost' (L+c))
    clear hcap hch HE hTT hL
    go_wp2_with fail
    refine (HO.out _ HCAP.out).mono ?_
    rintro e w2 ⟨rfl,rfl⟩
    clear HO
    go_wp2
    refine bodyPost_ret (results_none rfl _ _ _) rfl ?_
    rw [HP.out]
    exact ⟨rfl,rv,HX.out.1,(Mv.of_chg HCH.out.nil).trans HX.out.2⟩
  | false =>
    have hnf:¬(D.r≠[]∧farI D.hi D.m (endC D.hi D.r) i=true):=fun hf=>by have:=HBX.out;rw [hf.2] at this;exact absurd this (by decide)
    have HP:=Lib.hid (HPUT2.out hnf)
    have HA:=Lib.hid (fun u sv hst=>HADD.out u sv hst hnf)
    clear HPUT1 HPUT2 HADD hnf
    generalize D.put i c=DP at *
    by_cases hgt:i<E
    ·have d1:decide (i<E)=true:=decide_eq_true hgt
     clear hgt HSTAY
     go_enter Tryz.func297,Tryz.ntmps297
     go_wp2_with fail
     refine HE.out.mono ?_
     rintro e w1 ⟨rfl,hch⟩
     have HCAP:=Lib.hid (HH.out.chg hch (by simp))
     have HCH:=Lib.hid hch
     clear hch HE
     go_wp2_with fail
     refine (HO.out _ HCAP.out).mono ?_
     rintro e w2 ⟨rfl,rfl⟩
     clear HO
     go_wp2_with fail
     refine (HSH.out _ HCAP.out).mono ?_
     rintro e w2 ⟨rfl,rv2,hcap2,hm2⟩
     have HCAP2:=Lib.hid hcap2
     have HM2:=Lib.hid hm2
     obtain ⟨c0,c1,c2⟩:=hcap2.cells
     clear hcap2 hm2 HSH
     go_wp2_with fail
     refine (HA.out _ rv2 HCAP2.out.st).mono ?_
     rintro e w3 ⟨rfl,rv',hst,hm⟩
     have HX:=Lib.hid (HCAP2.out.st' hst hm)
     clear hst hm HA c0 c1 c2
     go_wp2
     go_end0
     rw [HP.out]
     exact ⟨rfl,rv',HX.out.1,(Mv.of_chg HCH.out.nil).trans (HM2.out.trans HX.out.2)⟩
    ·have d1:decide (i<E)=false:=decide_eq_false hgt
     have HK:=Lib.hid (HSTAY.out (by rw [←HEX.out];exact hgt))
     clear hgt HSTAY HSH
     go_enter Tryz.func297,Tryz.ntmps297
     go_wp2_with fail
     refine HE.out.mono ?_
     rintro e w1 ⟨rfl,hch⟩
     have hcap:=HH.out.chg hch (by simp)
     have HCAP:=Lib.hid hcap
     have HCH:=Lib.hid hch
     obtain ⟨c0,c1,c2⟩:=hcap.cells
     clear hch HE hcap
     go_wp2_with fail
     refine (HO.out _ HCAP.out).mono ?_
     rintro e w2 ⟨rfl,rfl⟩
     clear HO
     go_wp2_with fail
     refine (HA.out _ rv (by rw [HK.out.1];exact HCAP.out.st)).mono ?_
     rintro e w3 ⟨rfl,rv',hst,hm⟩
     have HX:=Lib.hid (HCAP.out.st' hst hm)
     clear hst hm HA c0 c1 c2
     go_wp2
     go_end0
     rw [HP.out,HK.out.2]
     exact ⟨rfl,rv',HX.out.1,(Mv.of_chg HCH.out.nil).trans HX.out.2⟩
theorem plus2_ok (T c:Nat) (h:T+c≤9223372036854775807):plusV [T,c]=.tuple #[.int .u64 ((T+c:Nat):Int),.bool true]:=by
 have e0:[T,c].sum=T+c:=by simp
 unfold plusV
 rw [e0,if_pos h]
theorem plus2_no (T c:Nat) (h:9223372036854775807<T+c):plusV [T,c]=.tuple #[.int .u64 0,.bool false]:=by
 have e0:[T,c].sum=T+c:=by simp
 unfold plusV
 rw [e0,if_neg (by omega)]
def CapD.addE (D:CapD) (c:Nat):Nat:=if c=0 then 1 else if D.total+c≤9223372036854775807 then 0 else 6
set_option maxRecDepth 100000 in
set_option maxHeartbeats 2000000 in
theorem low_add (w:World) (p s:Nat) (rv:Value) (D:CapD) (h:CapS w p s rv D) (hok:D.ok) (hhi:D.hi=false) (i:Int) (hi:-1000000≤i∧i≤1000000) (c:Nat) (hcu:c<18446744073709551616) :
 Calls Tryz.prog 269 #[.pointer (some ⟨p,0,none⟩),.int .i64 i,.int .u64 (c:Nat)] w fun e w'=>e=.returned (.int .i64 (D.addE c:Nat))∧∃ rv',CapS w' p s rv' (if D.addE c=0 then D.put i c else D)∧Mv (fpC p s rv) w (fpC p s rv') w':=by
 have HH:=Lib.hid h
 have htm:D.total≤9223372036854775807:=hok.tot
 obtain ⟨T,hT⟩:∃ T,T=D.total:=⟨_,rfl⟩
 have HT:=Lib.hid (low_total w p s rv D h T hT (by omega))
 by_cases h0:c=0
 ·subst h0
  clear h hok hi hT htm HT hhi hcu
  rw [show D.addE 0=1 from if_pos rfl]
  go_enter Tryz.func269,Tryz.ntmps269
  go_wp2
  go_ret
  exact ⟨rfl,rv,HH.out,Mv.refl _ _⟩
 have d0:((c:Int)==0)=false:=by rw [beq_eq_false_iff_ne];omega
 have HPL:=Lib.hid (fun u b0 hb0=>wide_plus2 u T c (by omega) hcu b0 hb0)
 by_cases hc:T+c≤9223372036854775807
 ·rw [plus2_ok T c hc] at HPL
  have HP:=Lib.hid (fun u (hu:CapS u p s rv D)=>low_put u p s rv D hu hok hhi i hi c (by omega) (by omega))
  have HA:=Lib.hid (show D.addE c=0 from by unfold CapD.addE;rw [if_neg h0,if_pos (by omega)])
  generalize D.addE c=A at *
  have hA:=HA.out
  subst hA
  rw [if_pos rfl]
  clear h hok hi hT htm hhi h0 hcu HA hc
  generalize T+c=S at *
  generalize D.put i c=DP at *
  go_enter Tryz.func269,Tryz.ntmps269
  go_wp2_with fail
  refine HT.out.mono ?_
  rintro e w1 ⟨rfl,hc1⟩
  have HC1:=Lib.hid hc1
  clear hc1 HT
  go_wp2_with fail
  refine (HPL.out _ _ rfl).mono ?_
  rintro e w2 ⟨rfl,rfl⟩
  have HC2:=Lib.hid (HC1.out.alloc (.cells #[.int .u64 (T:Nat),.int .u64 (c:Nat)] 23))
  clear HPL
  generalize w1.alloc (.cells #[.int .u64 (T:Nat),.int .u64 (c:Nat)] 23)=w2 at *
  go_wp2_with fail
  refine (HP.out _ (HH.out.chg HC2.out (by simp))).mono ?_
  rintro e w3 ⟨rfl,rv',hcap,hm⟩
  have HX:=Lib.hid (And.intro hcap hm)
  clear hcap hm HP
  go_wp2
  go_ret
  exact ⟨rfl,rv',HX.out.1,(Mv.of_chg HC2.out.nil).trans HX.out.2⟩
 ·rw [plus2_no T c (by omega)] at HPL
  have HA:=Lib.hid (show D.addE c=6 from by unfold CapD.addE;rw [if_neg h0,if_neg (by omega)])
  generalize D.addE c=A at *
  have hA:=HA.out
  subst hA
  rw [if_neg (by decide)]
  clear h hok hi hT htm hhi h0 hcu HA hc
  go_enter Tryz.func269,Tryz.ntmps269
  go_wp2_with fail
  refine HT.out.mono ?_
  rintro e w1 ⟨rfl,hc1⟩
  have HC1:=Lib.hid hc1
  clear hc1 HT
  go_wp2_with fail
  refine (HPL.out _ _ rfl).mono ?_
  rintro e w2 ⟨rfl,rfl⟩
  have HC2:=Lib.hid (HC1.out.alloc (.cells #[.int .u64 (T:Nat),.int .u64 (c:Nat)] 23))
  clear HPL
  generalize w1.alloc (.cells #[.int .u64 (T:Nat),.int .u64 (c:Nat)] 23)=w2 at *
  go_wp2
  go_ret
  exact ⟨rfl,rv,HH.out.chg HC2.out (by simp),Mv.of_chg HC2.out.nil⟩
set_option maxRecDepth 100000 in
set_option maxHeartbeats 2000000 in
theorem high_add (w:World) (p s:Nat) (rv:Value) (D:CapD) (h:CapS w p s rv D) (hok:D.ok) (hhi:D.hi=true) (i:Int) (hi:-1000000≤i∧i≤1000000) (c:Nat) (hcu:c<18446744073709551616) :
 Calls Tryz.prog 267 #[.pointer (some ⟨p,0,none⟩),.int .i64 i,.int .u64 (c:Nat)] w fun e w'=>e=.returned (.int .i64 (D.addE c:Nat))∧∃ rv',CapS w' p s rv' (if D.addE c=0 then D.put i c else D)∧Mv (fpC p s rv) w (fpC p s rv') w':=by
 have HH:=Lib.hid h
 have htm:D.total≤9223372036854775807:=hok.tot
 obtain ⟨T,hT⟩:∃ T,T=D.total:=⟨_,rfl⟩
 have HT:=Lib.hid (high_total w p s rv D h T hT (by omega))
 by_cases h0:c=0
 ·subst h0
  clear h hok hi hT htm HT hhi hcu
  rw [show D.addE 0=1 from if_pos rfl]
  go_enter Tryz.func267,Tryz.ntmps267
  go_wp2
  go_ret
  exact ⟨rfl,rv,HH.out,Mv.refl _ _⟩
 have d0:((c:Int)==0)=false:=by rw [beq_eq_false_iff_ne];omega
 have HPL:=Lib.hid (fun u b0 hb0=>wide_plus2 u T c (by omega) hcu b0 hb0)
 by_cases hc:T+c≤9223372036854775807
 ·rw [plus2_ok T c hc] at HPL
  have HP:=Lib.hid (fun u (hu:CapS u p s rv D)=>high_put u p s rv D hu hok hhi i hi c (by omega) (by omega))
  have HA:=Lib.hid (show D.addE c=0 from by unfold CapD.addE;rw [if_neg h0,if_pos (by omega)])
  generalize D.addE c=A at *
  have hA:=HA.out
  subst hA
  rw [if_pos rfl]
  clear h hok hi hT htm hhi h0 hcu HA hc
  generalize T+c=S at *
  generalize D.put i c=DP at *
  go_enter Tryz.func267,Tryz.ntmps267
  go_wp2_with fail
  refine HT.out.mono ?_
  rintro e w1 ⟨rfl,hc1⟩
  have HC1:=Lib.hid hc1
  clear hc1 HT
  go_wp2_with fail
  refine (HPL.out _ _ rfl).mono ?_
  rintro e w2 ⟨rfl,rfl⟩
  have HC2:=Lib.hid (HC1.out.alloc (.cells #[.int .u64 (T:Nat),.int .u64 (c:Nat)] 23))
  clear HPL
  generalize w1.alloc (.cells #[.int .u64 (T:Nat),.int .u64 (c:Nat)] 23)=w2 at *
  go_wp2_with fail
  refine (HP.out _ (HH.out.chg HC2.out (by simp))).mono ?_
  rintro e w3 ⟨rfl,rv',hcap,hm⟩
  have HX:=Lib.hid (And.intro hcap hm)
  clear hcap hm HP
  go_wp2
  go_ret
  exact ⟨rfl,rv',HX.out.1,(Mv.of_chg HC2.out.nil).trans HX.out.2⟩
 ·rw [plus2_no T c (by omega)] at HPL
  have HA:=Lib.hid (show D.addE c=6 from by unfold CapD.addE;rw [if_neg h0,if_neg (by omega)])
  generalize D.addE c=A at *
  have hA:=HA.out
  subst hA
  rw [if_neg (by decide)]
  clear h hok hi hT htm hhi h0 hcu HA hc
  go_enter Tryz.func267,Tryz.ntmps267
  go_wp2_with fail
  refine HT.out.mono ?_
  rintro e w1 ⟨rfl,hc1⟩
  have HC1:=Lib.hid hc1
  clear hc1 HT
  go_wp2_with fail
  refine (HPL.out _ _ rfl).mono ?_
  rintro e w2 ⟨rfl,rfl⟩
  have HC2:=Lib.hid (HC1.out.alloc (.cells #[.int .u64 (T:Nat),.int .u64 (c:Nat)] 23))
  clear HPL
  generalize w1.alloc (.cells #[.int .u64 (T:Nat),.int .u64 (c:Nat)] 23)=w2 at *
  go_wp2
  go_ret
  exact ⟨rfl,rv,HH.out.chg HC2.out (by simp),Mv.of_chg HC2.out.nil⟩
end Go.Proofs.YthoolcpcmhhkpaaGreatDoor
namespace Go.Proofs.YthoolcpcmhhkpaaGreatDoor
end Go.Proofs.YthoolcpcmhhkpaaGreatDoor
namespace Go.Proofs.YthoolcpcmhhkpaaGreatDoor
open Go.RowKit
end Go.Proofs.YthoolcpcmhhkpaaGreatDoor
