/-
  Parts of a proof, pressed. Conditions: the form's own reach.
-/
import Derived.Test.YthoolcpcmhhkpaaGreatDoorSuiteConfigsB41
import Derived.Test.YthoolcpcmhhkpaaGreatDoorSuiteConfigsB29
import Derived.Test.YthoolcpcmhhkpaaGreatDoorSuiteConfigsB20
import Derived.Test.YthoolcpcmhhkpaaGreatDoorSuiteConfigsB15
namespace Go.Proofs.YthoolcpcmhhkpaaGreatDoor
open Go.RowKit
theorem HdD.setSide_ends (D:HdD) (x lo hi:Int):(D.ends lo hi).digits=D.digits∧(D.ends lo hi).limit=D.limit∧(D.ends lo hi).zero=D.zero∧(D.ends lo hi).minus=D.minus∧(D.ends lo hi).plus=D.plus∧(D.ends lo hi).side x=D.side x:=by
 unfold HdD.ends
 split<;>exact ⟨rfl,rfl,rfl,rfl,rfl,rfl⟩
theorem HdD.row (D:HdD) (h:D.ok) (x:Int):RowHd D.L (D.side x):=by
 unfold HdD.side
 split
 ·exact h.minus
 ·exact h.plus
theorem HdD.side_tot (D:HdD) (x:Int):totP (D.side x)≤D.total:=by
 unfold HdD.side HdD.total
 split<;>omega
theorem hasI_cnt {l:List Pr} (hr:rises l) (hp:∀ p∈l,1≤p.c) (i:Int):hasI l i=decide (cntI l i≠0):=by
 rcases find_cnt (i:=i) hr with ⟨h1,h2⟩|⟨h1,h,h2⟩
 ·rw [h1,h2];rfl
 ·have:=hp l[cntLt l i] (List.getElem_mem h)
  rw [h1,decide_eq_true (by omega)]
set_option maxRecDepth 100000 in
set_option maxHeartbeats 4000000 in
theorem hd_put (w:World) (h p s0 s1:Nat) (r0 r1:Value) (D:HdD) (d:HdS w h p s0 s1 r0 r1 D) (hok:D.ok) (x:Int) (hx:InR x) (c:Nat) (hcu:c<18446744073709551616) :
 Calls Tryz.prog 48 #[.pointer (some ⟨h,0,none⟩),.int .i64 x,.int .u64 (c:Nat)] w fun e w'=>e=.returned (.int .i64 (D.putE x c:Nat))∧∃ r0' r1',HdS w' h p s0 s1 r0' r1' (D.put x c)∧Mv (fpHd h p s0 s1 r0 r1) w (fpHd h p s0 s1 r0' r1') w':=by
 by_cases hc0:c=0
 ·have hE:D.putE x c=1:=by unfold HdD.putE;rw [if_pos hc0]
  have hP:D.put x c=D:=by unfold HdD.put;rw [hE,if_neg (by decide)]
  rw [hE,hP]
  subst hc0
  refine (hd_put_zero w h x).mono ?_
  rintro e w' ⟨rfl,rfl⟩
  exact ⟨rfl,r0,r1,d,Mv.of_chg (Chg.refl _ _)⟩
 obtain ⟨m,hm⟩:∃ m,m=x.natAbs:=⟨_,rfl⟩
 obtain ⟨lim,hlim⟩:∃ l,l=D.limit:=⟨_,rfl⟩
 obtain ⟨T,hT⟩:∃ T,T=D.total:=⟨_,rfl⟩
 have htm:=hok.tot
 have hlm:=hok.lim
 rw [←hT] at htm
 rw [←hlim] at hlm
 have HO:=Lib.hid (fun W=>sign_of W x hx.1 hx.2 m hm (decide (x<0)) rfl)
 have HT:=Lib.hid (fun W (hc:Chg [] w W)=>hd_total W h p s0 s1 r0 r1 D (d.nil hc) T hT htm)
 have HPL:=Lib.hid (fun u b0 hb0=>wide_plus2 u T c (by omega) hcu b0 hb0)
 obtain ⟨i,hi⟩:∃ i,i=if x=0 then 0 else D.idx x:=⟨_,rfl⟩
 obtain ⟨s,hs⟩:∃ s,s=if x<0 then s0 else s1:=⟨_,rfl⟩
 obtain ⟨rv,hrv⟩:∃ s,s=if x<0 then r0 else r1:=⟨_,rfl⟩
 obtain ⟨R,hR⟩:∃ R,R=D.side x:=⟨_,rfl⟩
 have hpk:=d.pick x
 rw [←hs,←hrv,←hR] at hpk
 have hrow:=D.row hok x
 rw [←hR] at hrow
 have HS:=Lib.hid (fun W (hc:Chg [] w W)=>hd_side W h p s0 s1 r0 r1 D (d.nil hc) x hx i hi s hs (decide (x≠0)) rfl)
 obtain ⟨N,hN⟩:∃ N,N=R.length:=⟨_,rfl⟩
 obtain ⟨A,hA⟩:∃ A,A=cntI R i:=⟨_,rfl⟩
 have hNf:=hrow.few
 rw [←hN] at hNf
 have HAT:=Lib.hid (fun W (hc:Chg [] w W)=>stm_at W s 4096 rv R (hpk.chg hc (by simp)) hrow.rises (by omega) i)
 rw [←hA] at HAT
 have HLN:=Lib.hid (fun W (hc:Chg [] w W)=>stm_len W s 4096 rv R (hpk.chg hc (by simp)) N hN)
 have HEN:=Lib.hid (fun W (hc:Chg [] w W)=>hd_ends W h p s0 s1 r0 r1 D (d.nil hc) (by rw [←hT];exact htm) x x)
 have HD:=Lib.hid d
 have HPE:=Lib.hid (show D.putE x c=if 0<lim∧lim<m then 7 else if 9223372036854775807<T+c then 6 else if x≠0∧roomP R i=false then 6 else 0 from by
  unfold HdD.putE
  rw [if_neg hc0,←hlim,←hm,←hT,←hR]
  have e:(x≠0∧roomP R (D.idx x)=false)=(x≠0∧roomP R i=false):=by
   apply propext
   constructor
   ·rintro ⟨a,b⟩
    exact ⟨a,by rw [hi,if_neg a];exact b⟩
   ·rintro ⟨a,b⟩
    rw [hi,if_neg a] at b
    exact ⟨a,b⟩
  simp only [e])
 have HPT:=Lib.hid (show D.put x c=if D.putE x c=0 then D.put1 x c else D from rfl)
 have HNO:=Lib.hid (fun (u:World) (hu:Chg [] w u)=>show ∃ r0' r1',HdS u h p s0 s1 r0' r1' D∧Mv (fpHd h p s0 s1 r0 r1) w (fpHd h p s0 s1 r0' r1') u from ⟨r0,r1,d.nil hu,Mv.of_chg hu.nil⟩)
 have HRW:=Lib.hid hrow
 have HDF:=Lib.hid (show (R=D.side x∧A=cntI R i∧N=R.length)∧(s=if x<0 then s0 else s1)∧(rv=if x<0 then r0 else r1)∧(i=if x=0 then 0 else D.idx x)∧totP R≤T∧D.zero≤T from ⟨⟨hR,hA,hN⟩,hs,hrv,hi,by rw [hR,hT];exact D.side_tot x,by rw [hT];unfold HdD.total;omega⟩)
 obtain ⟨-,c1,-,-,-,-,-,-⟩:=d.cells
 rw [←hlim] at c1
 have HNE:=Lib.hid (show rises R∧(∀ p∈R,1≤p.c) from ⟨hrow.rises,hrow.pos⟩)
 have HOKH:=Lib.hid hok
 have d0:((c:Int)==0)=false:=by rw [beq_eq_false_iff_ne];omega
 have HC0:=Lib.hid hc0
 generalize hDP:D.put x c=DP at *
 generalize hEP:D.putE x c=EP at *
 clear d hok hx hm hlim hT hs hrv hR hpk hrow hN hA hi hc0 hDP hEP
 go_enter Tryz.func48,Tryz.ntmps48
 go_wp2_with fail
 refine (HO.out _).mono ?_
 rintro e w1 ⟨rfl,hw⟩
 obtain rfl:=hw.symm
 clear hw
 by_cases hl:0<lim∧lim<m
 ·have hpe:=HPE.out
  rw [if_pos hl] at hpe
  have l1:decide ((0:Int)<(lim:Int))=true:=decide_eq_true (by omega)
  have l1':decide (0<lim)=true:=decide_eq_true hl.1
  have l2:decide ((lim:Int)<(m:Int))=true:=decide_eq_true (by omega)
  have l2':decide (lim<m)=true:=decide_eq_true hl.2
  subst hpe
  have hpt:=HPT.out
  rw [if_neg (by decide)] at hpt
  clear hl HPE HAT HLN HEN HS HPL HT
  go_wp2
  go_ret
  rw [hpt]
  exact ⟨rfl,HNO.out w (Chg.refl _ _)⟩
 have hpe:=HPE.out
 rw [if_neg hl] at hpe
 have HPE2:=Lib.hid hpe
 have HTC:=Lib.hid (show T≤9223372036854775807∧c<18446744073709551616 from ⟨htm,hcu⟩)
 clear hpe HPE hlm htm hcu hNf
 rcases (show (¬0<lim)∨(0<lim∧¬lim<m) by omega) with hl1|⟨hl1,hl2⟩
 case' inl =>
  have l1:decide ((0:Int)<(lim:Int))=false:=decide_eq_false (by omega)
  have l1':decide (0<lim)=false:=decide_eq_false hl1
 case' inr =>
  have l1:decide ((0:Int)<(lim:Int))=true:=decide_eq_true (by omega)
  have l1':decide (0<lim)=true:=decide_eq_true hl1
  have l2:decide ((lim:Int)<(m:Int))=false:=decide_eq_false (by omega)
  have l2':decide (lim<m)=false:=decide_eq_false hl2
  clear hl2
 all_goals
  clear hl hl1
  go_wp2_with fail
  refine (HT.out _ (Chg.refl _ _)).mono ?_
  rintro e w2 ⟨rfl,hc2⟩
  by_cases hf:9223372036854775807<T+c
  case pos =>
   have hp:plusV [T,c]=.tuple #[.int .u64 0,.bool false]:=by
    unfold plusV
    rw [if_neg (by simp;omega)]
   rw [hp] at HPL
   have hpe:=HPE2.out
   rw [if_pos hf] at hpe
   subst hpe
   have hpt:=HPT.out
   rw [if_neg (by decide)] at hpt
   have HPT2:=Lib.hid hpt
   have HC2:=Lib.hid (hc2.alloc (.cells #[.int .u64 (T:Nat),.int .u64 (c:Nat)] 23))
   clear hf hp hpt HPE2 HAT HLN HEN HS HT HPT hc2
   go_wp2_with fail
   refine (HPL.out _ _ rfl).mono ?_
   rintro e w3 ⟨rfl,rfl⟩
   go_wp2
   go_ret
   rw [HPT2.out]
   exact ⟨rfl,HNO.out _ HC2.out⟩
  case neg =>
  obtain ⟨S,hS⟩:∃ S,S=T+c:=⟨_,rfl⟩
  have hp:plusV [T,c]=.tuple #[.int .u64 (S:Nat),.bool true]:=by
   have e0:[T,c].sum=S:=by simp [hS]
   unfold plusV
   rw [e0,if_pos (by omega)]
  rw [hp] at HPL
  have hpe:=HPE2.out
  rw [if_neg hf] at hpe
  have HPE3:=Lib.hid hpe
  have HSB:=Lib.hid (show T+c≤9223372036854775807 from by omega)
  clear hpe HPE2 hf hp hS
  have HC2:=Lib.hid (hc2.alloc (.cells #[.int .u64 (T:Nat),.int .u64 (c:Nat)] 23))
  go_wp2_with fail
  refine (HPL.out _ _ rfl).mono ?_
  rintro e w3 ⟨rfl,rfl⟩
  generalize w2.alloc (.cells #[.int .u64 (T:Nat),.int .u64 (c:Nat)] 23)=w3 at *
  clear hc2 HPL HT c1
  go_wp2_with fail
  refine (HS.out _ HC2.out).mono ?_
  rintro e w4 ⟨rfl,hc4⟩
  have HC4:=Lib.hid (HC2.out.trans hc4)
  clear hc4 HS HC2
  by_cases hx0:x=0
  case pos =>
   have hb:decide (x≠0)=false:=by rw [decide_eq_false_iff_not];exact fun h=>h hx0
   have hpe:=HPE3.out
   rw [if_neg (fun h=>h.1 hx0)] at hpe
   subst hpe
   have hpt:=HPT.out
   rw [if_pos rfl] at hpt
   have HPT2:=Lib.hid hpt
   have HX0:=Lib.hid hx0
   rw [hb]
   clear hpt HPE3 HPT hx0 hb HAT HLN
   go_wp2_with fail
   refine (HEN.out _ HC4.out).mono ?_
   rintro e w5 ⟨rfl,hd5,hc5⟩
   have HD5:=Lib.hid hd5
   have HC5:=Lib.hid (HC4.out.nil.trans hc5:Chg [h] w w5)
   obtain ⟨-,-,-,-,-,c5,-,-⟩:=hd5.cells
   have f5:=hd5.blk.free 5
   obtain ⟨e1,e2,e3,e4,e5,-⟩:=D.setSide_ends x x x
   rw [e3] at c5
   have hz1:IntKind.u64.wrap ((D.zero:Int)+(c:Int))=((D.zero+c:Nat):Int):=by rw [IntKind.wrap_u64];have:=HSB.out;have:=HDF.out.2.2.2.2.2;omega
   have HSZ:=Lib.hid (hd5.setZero (D.zero+c))
   have HP1:=Lib.hid (show D.put1 x c={ D.ends x x with zero:=D.zero+c } from if_pos HX0.out)
   generalize D.zero+c=Z at *
   clear hd5 hc5 HEN e1 e2 e3 e4 e5
   go_wp2
   go_ret
   rw [HPT2.out,HP1.out]
   exact ⟨rfl,r0,r1,HSZ.out.1,(HdS.mvOwn HC5.out).trans (HdS.mvOwn HSZ.out.2)⟩
  case neg =>
  have hb:decide (x≠0)=true:=decide_eq_true hx0
  have HX0:=Lib.hid hx0
  rw [hb]
  clear hb
  go_wp2_with fail
  refine (HAT.out _ HC4.out).mono ?_
  rintro e w5 ⟨rfl,hc5⟩
  have HC5:=Lib.hid (HC4.out.trans hc5)
  have hpe:=HPE3.out
  have HRM:=Lib.hid (show roomP R i=(decide (A≠0) || decide (N<4096)) from by unfold roomP;rw [HDF.out.1.2.1,HDF.out.1.2.2])
  clear hc5 HAT HC4 HPE3
  rcases (show (A=0∧4096≤N)∨(A=0∧N<4096)∨A≠0 by omega) with ⟨rfl,hn⟩|⟨rfl,hn⟩|hA
  case inl =>
   have n1:decide ((4096:Int)≤(N:Int))=true:=decide_eq_true (by omega)
   have n1':decide (4096≤N)=true:=decide_eq_true hn
   have hrm:=HRM.out
   rw [decide_eq_false (by omega:¬N<4096)] at hrm
   rw [if_pos ⟨hx0,by rw [hrm];rfl⟩] at hpe
   subst hpe
   have hpt:=HPT.out
   rw [if_neg (by decide)] at hpt
   have HPT2:=Lib.hid hpt
   clear hn hrm hpt HPT HEN hx0
   go_wp2_with fail
   refine (HLN.out _ HC5.out).mono ?_
   rintro e w6 ⟨rfl,rfl⟩
   go_wp2
   go_ret
   rw [HPT2.out]
   exact ⟨rfl,HNO.out _ HC5.out⟩
  case' inr.inl =>
   have n1:decide ((4096:Int)≤(N:Int))=false:=decide_eq_false (by omega)
   have n1':decide (4096≤N)=false:=decide_eq_false (by omega)
   have hrm:=HRM.out
   rw [decide_eq_true hn,Bool.or_true] at hrm
   have HRT:=Lib.hid (show hasI R i=true∨(R.length:Int)<4096 from .inr (by rw [←HDF.out.1.2.2];omega))
   rw [if_neg (fun h=>by rw [hrm] at h;exact absurd h.2 (by decide))] at hpe
   clear hn hrm hx0
   go_wp2_with fail
   refine (HLN.out _ HC5.out).mono ?_
   rintro e w6 ⟨rfl,rfl⟩
  case' inr.inr =>
   have n1:((A:Int)==0)=false:=by rw [beq_eq_false_iff_ne];omega
   have n1':(A==0)=false:=by rw [beq_eq_false_iff_ne];exact hA
   have hrm:=HRM.out
   rw [decide_eq_true hA,Bool.true_or] at hrm
   have HRT:=Lib.hid (show hasI R i=true∨(R.length:Int)<4096 from .inl (by rw [hasI_cnt HNE.out.1 HNE.out.2,←HDF.out.1.2.1];exact decide_eq_true hA))
   rw [if_neg (fun h=>by rw [hrm] at h;exact absurd h.2 (by decide))] at hpe
   clear hA hrm hx0
  all_goals
   subst hpe
   have hpt:=HPT.out
   rw [if_pos rfl] at hpt
   have HPT2:=Lib.hid hpt
   clear hpt HPT
   go_wp2_with fail
   refine (HEN.out _ HC5.out).mono ?_
   rintro e w7 ⟨rfl,hd7,hc7⟩
   have HD7:=Lib.hid hd7
   have HC7:=Lib.hid (HC5.out.nil.trans hc7:Chg [h] w w7)
   obtain ⟨⟨hR,-,hN⟩,hs,hrv,hi,htt,-⟩:=HDF.out
   obtain ⟨-,-,-,-,-,e6⟩:=D.setSide_ends x x x
   have hpk:=hd7.pick x
   rw [e6,←hs,←hrv,←hR] at hpk
   have HADD:=Lib.hid (stm_add w7 s 4096 rv R hpk HNE.out.1 HNE.out.2 (by have:=HRW.out.few;omega) i c (by have:=HC0.out;omega) (by have:=HSB.out;omega) HRT.out)
   clear hd7 hc7 hR hN hs hrv hi htt e6 hpk HEN n1 n1'
   go_wp2_with fail
   refine HADD.out.mono ?_
   rintro e w8 ⟨rfl,rv',hs8,hm8⟩
   obtain ⟨⟨hR,-,hN⟩,hs,hrv,hi,htt,-⟩:=HDF.out
   rw [if_neg HX0.out] at hi
   have HPS:=Lib.hid (HD7.out.putSide x (rv':=rv') (r':=refAdd R i c) (by rw [←hs];exact hs8) (by rw [←hs,←hrv];exact hm8))
   have HP1:=Lib.hid (show D.put1 x c=(D.ends x x).setSide x (refAdd R i c) from by
    unfold HdD.put1
    rw [if_neg HX0.out,hR,hi])
   clear hR hN hs hrv hi htt hs8 hm8 HADD
   go_wp2
   go_ret
   rw [HPT2.out,HP1.out]
   exact ⟨rfl,_,_,HPS.out.1,(HdS.mvOwn HC7.out).trans HPS.out.2⟩
set_option maxRecDepth 100000 in
set_option maxHeartbeats 1000000 in
theorem hd_config (w:World) (h p s0 s1:Nat) (r0 r1:Value) (D:HdD) (d:HdS w h p s0 s1 r0 r1 D):Calls Tryz.prog 367 #[.pointer (some ⟨h,0,none⟩)] w fun e w'=>e=.returned (.agg #[.int .i64 (D.digits:Nat),.int .u64 (D.limit:Nat)])∧Chg [] w w':=by
 obtain ⟨c0,c1,-,-,-,-,-,-⟩:=(d.nil ((Chg.refl [] w).alloc (.cells #[.int .i64 0,.int .u64 0] 105))).cells
 have hb:=Blk.alloc_new w #[.int .i64 0,.int .u64 0] 105
 have z0:=hb.cell 0
 have z1:=hb.cell 1
 have f0:=hb.free 0
 have f1:=hb.free 1
 go_enter Tryz.func367,Tryz.ntmps367
 go_wp2
 have hb2:=Blk.alloc_new w #[.int .i64 (D.digits:Nat),.int .u64 (D.limit:Nat)] 105
 have y0:=hb2.cell 0
 have y1:=hb2.cell 1
 refine bodyPost_ret (v:=.agg #[.int .i64 (D.digits:Nat),.int .u64 (D.limit:Nat)]) (by simp [results,Tryz.results367,go_sem,y0,y1]) rfl ⟨rfl,?_⟩
 with_reducible (repeat (first|exact Chg.refl _ _|apply Chg.alloc))
set_option maxRecDepth 100000 in
theorem hd_zero (w:World) (h p s0 s1:Nat) (r0 r1:Value) (D:HdD) (d:HdS w h p s0 s1 r0 r1 D):Calls Tryz.prog 51 #[.pointer (some ⟨h,0,none⟩)] w fun e w'=>e=.returned (.int .u64 (D.zero:Nat))∧w=w':=by
 obtain ⟨-,-,-,-,-,c5,-,-⟩:=d.cells
 clear d
 go_enter Tryz.func51,Tryz.ntmps51
 go_wp2
 go_ret
 exact ⟨rfl,rfl⟩
set_option maxRecDepth 100000 in
set_option maxHeartbeats 1000000 in
theorem hd_Ends (w:World) (h p s0 s1:Nat) (r0 r1:Value) (D:HdD) (d:HdS w h p s0 s1 r0 r1 D) (hok:D.ok) (B:Bool) (hB:B=decide (D.total≠0)):Calls Tryz.prog 50 #[.pointer (some ⟨h,0,none⟩)] w fun e w'=>e=.returned (.tuple #[.int .i64 D.least,.int .i64 D.most,.bool B])∧Chg [] w w':=by
 have htm:=hok.tot
 obtain ⟨T,hT⟩:∃ T,T=D.total:=⟨_,rfl⟩
 have HTO:=Lib.hid (hd_total w h p s0 s1 r0 r1 D d T hT (by omega))
 have HD:=Lib.hid d
 by_cases h0:T=0
 ·have d0:((T:Int)==0)=true:=by rw [beq_iff_eq];omega
  obtain ⟨e1,e2⟩:=hok.none (by omega)
  have hb:B=false:=by rw [hB];exact decide_eq_false (by omega)
  subst hb
  rw [e1,e2]
  clear d hok htm hT h0 hB e1 e2
  go_enter Tryz.func50,Tryz.ntmps50
  go_wp2_with fail
  refine HTO.out.mono ?_
  rintro e w1 ⟨rfl,hc1⟩
  have HC1:=Lib.hid hc1
  clear hc1 HTO
  go_wp2
  refine bodyPost_ret (v:=.tuple #[.int .i64 0,.int .i64 0,.bool false]) (by simp [results,Tryz.results50,go_sem]) rfl ?_
  exact ⟨rfl,HC1.out⟩
 ·have d0:((T:Int)==0)=false:=by rw [beq_eq_false_iff_ne];omega
  have hb:B=true:=by rw [hB];exact decide_eq_true (by omega)
  subst hb
  clear d hok htm hT h0 hB
  go_enter Tryz.func50,Tryz.ntmps50
  go_wp2_with fail
  refine HTO.out.mono ?_
  rintro e w1 ⟨rfl,hc1⟩
  have HC1:=Lib.hid hc1
  obtain ⟨-,-,-,-,-,-,c6,c7⟩:=(HD.out.nil hc1).cells
  clear hc1 HTO
  go_wp2_with fail
  go_quiet (fail)
  go_wp2
  refine bodyPost_ret (v:=.tuple #[.int .i64 D.least,.int .i64 D.most,.bool true]) (by simp [results,Tryz.results50,go_sem]) rfl ?_
  exact ⟨rfl,HC1.out.drewN _⟩
theorem enters_hpairs:∀ (args:Array Value) (w:World),(callFunc 99 args).run Tryz.prog w=.ok (.enter 99 args) w:=enters_of Tryz.func99 (by kernel_rfl) rfl
set_option maxRecDepth 100000 in
set_option maxHeartbeats 2000000 in
theorem hd_rows (w:World) (h p s0 s1:Nat) (r0 r1:Value) (D:HdD) (d:HdS w h p s0 s1 r0 r1 D) (hok:D.ok) (n m:Nat) (hn:n=D.minus.length) (hm:m=D.plus.length):Calls Tryz.prog 49 #[.pointer (some ⟨h,0,none⟩)] w fun e w'=>∃ a1 k1 a2 k2,e=.returned (.tuple #[.slice a1 n k1,.slice a2 m k2])∧Own w' 183 2 (.slice a1 n k1) n (prCells D.minus)∧Own w' 183 2 (.slice a2 m k2) m (prCells D.plus)∧Chg [] w w'∧(∀ b∈abl a1,w.heap.size≤b)∧∀ b∈abl a2,w.heap.size≤b:=by
 have n5:=hok.minus.few
 have m5:=hok.plus.few
 have HM:=Lib.hid (fun u (hu:Chg [] w u)=>stm_pairs u s0 4096 r0 D.minus (d.st0.chg hu (by simp)) n hn (by omega))
 have HP:=Lib.hid (fun u (hu:Chg [] w u)=>stm_pairs u s1 4096 r1 D.plus (d.st1.chg hu (by simp)) m hm (by omega))
 have HCC:=Lib.hid (fun u (hu:Chg [] w u)=>(d.nil hu).cells)
 clear d hok n5 m5 hn hm
 go_enter Tryz.func49,Tryz.ntmps49
 go_wp2_with fail
 have HS:=Lib.hid (fun wx (hu:Chg [] w wx)=>show Chg [] w wx∧wx.cell? ⟨h,3,none⟩=some (.pointer (some ⟨s0,0,none⟩))∧wx.cell? ⟨h,4,none⟩=some (.pointer (some ⟨s1,0,none⟩)) from ⟨hu,(HCC.out wx hu).2.2.2.1,(HCC.out wx hu).2.2.2.2.1⟩)
 have hS0:=HS.out w.drew (Chg.refl [] w).drew
 refine startN (S:=fun wx=>Chg [] w wx∧wx.cell? ⟨h,3,none⟩=some (.pointer (some ⟨s0,0,none⟩))∧wx.cell? ⟨h,4,none⟩=some (.pointer (some ⟨s1,0,none⟩))) (by kernel_rfl) hS0 (fun hHeld => ?_)
 refine takeN (i:=0) (v:=?va0) rfl (by kernel_rfl) (by kernel_rfl) (by kernel_rfl) (fun _ _ _ h=>h) (Or.inl ⟨by rfl,?ya0⟩) hS0 ?ra0
 case ya0=>(intro w hSw;(try dsimp only at hSw);go_simp;first|done|with_reducible rfl)
 try simp only [Act.put,jI,jZ,jS]
 refine takeN (i:=1) (v:=?va1) rfl (by kernel_rfl) (by kernel_rfl) (by kernel_rfl) (fun _ _ _ h=>h) (Or.inl ⟨by rfl,?ya1⟩) hS0 ?ra1
 case ya1=>(intro w hSw;(try dsimp only at hSw);go_simp;first|done|with_reducible rfl)
 try simp only [Act.put,jI,jZ,jS]
 refine takeN (i:=2) (v:=?va2) rfl (by kernel_rfl) (by kernel_rfl) (by kernel_rfl) (fun _ _ _ h=>h) (Or.inl ⟨by rfl,?ya2⟩) hS0 ?ra2
 case ya2=>(intro w hSw;(try dsimp only at hSw);go_simp;first|done|with_reducible rfl)
 try simp only [Act.put,jI,jZ,jS]
 refine takeN (i:=3) (v:=?va3) rfl (by kernel_rfl) (by kernel_rfl) (by kernel_rfl) (fun _ _ _ h=>h) (Or.inl ⟨by rfl,?ya3⟩) hS0 ?ra3
 case ya3=>(intro w hSw;(try dsimp only at hSw);go_simp;first|done|with_reducible rfl)
 try simp only [Act.put,jI,jZ,jS]
 refine takeN (i:=4) (v:=?va4) rfl (by kernel_rfl) (by kernel_rfl) (by kernel_rfl) (fun _ _ _ h=>h) (Or.inl ⟨by rfl,?ya4⟩) hS0 ?ra4
 case ya4=>(intro w hSw;(try dsimp only at hSw);go_simp;first|done|with_reducible rfl)
 try simp only [Act.put,jI,jZ,jS]
 refine takeN (i:=6) (v:=?va6) rfl (by kernel_rfl) (by kernel_rfl) (by kernel_rfl) (fun _ _ _ h=>h) (Or.inl ⟨by rfl,?ya6⟩) hS0 ?ra6
 case ya6=>(intro w hSw;(try dsimp only at hSw);go_simp;first|done|with_reducible rfl)
 try simp only [Act.put,jI,jZ,jS]
 refine takeN (i:=7) (v:=?va7) rfl (by kernel_rfl) (by kernel_rfl) (by kernel_rfl) (fun _ _ _ h=>h) (Or.inl ⟨by rfl,?ya7⟩) hS0 ?ra7
 case ya7=>(intro w hSw;(try dsimp only at hSw);go_simp;first|done|with_reducible rfl)
 try simp only [Act.put,jI,jZ,jS]
 refine takeN (i:=8) (v:=?va8) rfl (by kernel_rfl) (by kernel_rfl) (by kernel_rfl) (fun _ _ _ h=>h) (Or.inl ⟨by rfl,?ya8⟩) hS0 ?ra8
 case ya8=>(intro w hSw;(try dsimp only at hSw);go_simp;first|done|with_reducible rfl)
 try simp only [Act.put,jI,jZ,jS]
 refine takeN (i:=9) (v:=?va9) rfl (by kernel_rfl) (by kernel_rfl) (by kernel_rfl) (fun _ _ _ h=>h) (Or.inl ⟨by rfl,?ya9⟩) hS0 ?ra9
 case ya9=>(intro w hSw;(try dsimp only at hSw);go_simp;first|done|with_reducible rfl)
 try simp only [Act.put,jI,jZ,jS]
 refine takeN (i:=10) (v:=?va10) rfl (by kernel_rfl) (by kernel_rfl) (by kernel_rfl) (fun _ _ _ h=>h) (Or.inl ⟨by rfl,?ya10⟩) hS0 ?ra10
 case ya10=>(intro w hSw;(try dsimp only at hSw);go_simp;first|done|with_reducible rfl)
 try simp only [Act.put,jI,jZ,jS]
 refine readyN (rs:=[5]) (by kernel_rfl) (by simp) (consN rfl (fun K hK => ?_) nilN)
 refine step_callsG (by rfl) 99 _ _ rfl enters_hpairs _ #[.pointer (some ⟨s0,0,none⟩)] (by simp [Act.eval]) (HM.out _ hS0.1) ?_;rintro e w1 ⟨a1,k1,rfl,ho1,hc1,hf1⟩;refine ⟨_,rfl,?_⟩
 have HO1:=Lib.hid (And.intro ho1 (show ∀ b∈abl a1,w.heap.size≤b from fun b hb=>Nat.le_trans hS0.1.size (hf1 b hb)))
 have hS1:=HS.out _ (hS0.1.trans hc1)
 clear ho1 hc1 hf1
 refine hK.out _ _ hS1 (fun hHeld => ?_)
 clear hK K hHeld
 try simp only [Act.put,jI,jZ,jS]
 refine readyN (rs:=[11]) (by kernel_rfl) (by simp) (consN rfl (fun K hK => ?_) nilN)
 refine step_callsG (by rfl) 99 _ _ rfl enters_hpairs _ #[.pointer (some ⟨s1,0,none⟩)] (by simp [Act.eval]) (HP.out _ hS1.1) ?_;rintro e w2 ⟨a2,k2,rfl,ho2,hc2,hf2⟩;refine ⟨_,rfl,?_⟩
 have HR1:=Lib.hid (And.intro (HO1.out.1.chg hc2 (fun b hb e=>absurd e (by simp))) HO1.out.2)
 have HR2:=Lib.hid (And.intro ho2 (show ∀ b∈abl a2,w.heap.size≤b from fun b hb=>Nat.le_trans hS1.1.size (hf2 b hb)))
 have hS2:=HS.out _ (hS1.1.trans hc2)
 clear ho2 hc2 hf2
 refine hK.out _ _ hS2 (fun hHeld => ?_)
 clear hK K hHeld
 try simp only [Act.put,jI,jZ,jS]
 refine takeN (i:=12) (v:=?va12) rfl (by kernel_rfl) (by kernel_rfl) (by kernel_rfl) (fun _ _ _ h=>h) (Or.inl ⟨by rfl,?ya12⟩) hS2 ?ra12
 case ya12=>(intro w hSw;(try dsimp only at hSw);go_simp;first|done|with_reducible rfl)
 try simp only [Act.put,jI,jZ,jS]
 refine takeN (i:=13) (v:=?va13) rfl (by kernel_rfl) (by kernel_rfl) (by kernel_rfl) (fun _ _ _ h=>h) (Or.inl ⟨by rfl,?ya13⟩) hS2 ?ra13
 case ya13=>(intro w hSw;(try dsimp only at hSw);go_simp;first|done|with_reducible rfl)
 try simp only [Act.put,jI,jZ,jS]
 refine doneN (by kernel_rfl) ?_ _
 have HC2:=Lib.hid hS2.1
 clear hS0 hS1 hS2 HS HM HP HCC
 go_wp2
 go_ret2
 exact ⟨a1,k1,a2,k2,rfl,HR1.out.1,HR2.out.1,HC2.out,HR1.out.2,HR2.out.2⟩
theorem enters_hwconfig:∀ (args:Array Value) (w:World),(callFunc 367 args).run Tryz.prog w=.ok (.enter 367 args) w:=enters_of Tryz.func367 (by kernel_rfl) rfl
theorem fa_hcfg0 (u:World) (a b:Int):(Instr.field 105 (.agg #[.int .i64 a,.int .u64 b]) 0).run Tryz.prog u=.ok (.int .i64 a) u:=by kernel_rfl
theorem fa_hcfg1 (u:World) (a b:Int):(Instr.field 105 (.agg #[.int .i64 a,.int .u64 b]) 1).run Tryz.prog u=.ok (.int .u64 b) u:=by kernel_rfl
set_option maxRecDepth 100000 in
set_option maxHeartbeats 4000000 in
theorem hd_write (w:World) (h p s0 s1:Nat) (r0 r1:Value) (D:HdD) (d:HdS w h p s0 s1 r0 r1 D) (hok:D.ok) (q:Nat) (F:List Nat) (l:List UInt8) (hl:l.length≤1000) (hql:Qul w q F l) (hd:∀ b∈F,b∉fpHd h p s0 s1 r0 r1) :
 Calls Tryz.prog 365 #[.agg #[.pointer (some ⟨h,0,none⟩)],.pointer (some ⟨q,0,none⟩)] w fun e w'=>e=.returned (.tuple #[])∧∃ F',Qul w' q F' (l++putHd D)∧Mv F w F' w':=by
 obtain ⟨B,hB⟩:∃ B,B=decide (D.total≠0):=⟨_,rfl⟩
 obtain ⟨n,hn⟩:∃ n,n=D.minus.length:=⟨_,rfl⟩
 obtain ⟨m,hm⟩:∃ n,n=D.plus.length:=⟨_,rfl⟩
 have hdg:=hok.d2
 have hlm:=hok.lim
 have hzr:D.zero≤9223372036854775807:=by have:=hok.tot;unfold HdD.total at this;omega
 have hn5:n≤4096:=by have:=hok.minus.few;omega
 have hm5:m≤4096:=by have:=hok.plus.few;omega
 have HEN:=Lib.hid (fun u (hu:Chg [] w u)=>hd_Ends u h p s0 s1 r0 r1 D (d.nil hu) hok B hB)
 have HLO:=Lib.hid (show (-9223372036854775808≤D.least∧D.least<9223372036854775808)∧(-9223372036854775808≤D.most∧D.most<9223372036854775808) from by
  have h1:=hok.le
  have h2:=hok.low
  have h3:=hok.high
  omega)
 have HRW:=Lib.hid (fun u (hu:Chg [] w u)=>hd_rows u h p s0 s1 r0 r1 D (d.nil hu) hok n m hn hm)
 have HCF:=Lib.hid (fun u (hu:Chg [] w u)=>hd_config u h p s0 s1 r0 r1 D (d.nil hu))
 have HZR:=Lib.hid (fun u (hu:Chg F w u)=>hd_zero u h p s0 s1 r0 r1 D (d.chg hu (fun b hb e=>hd b e hb)))
 have htm:totP D.minus≤9223372036854775807∧totP D.plus≤9223372036854775807:=by have:=hok.tot;unfold HdD.total at this;omega
 have hlast:(spLast D.L:Int)<9223372036854775808:=by have:=spLast_le (logD_cases hok.d1 hok.d2);unfold HdD.L;omega
 have HROK:=Lib.hid (show (∀ p∈D.minus,p.ok)∧∀ p∈D.plus,p.ok from ⟨row_ok (a:=1) (b:=(spLast D.L:Int)) (by omega) hlast hok.minus.ix htm.1,row_ok (a:=1) (b:=(spLast D.L:Int)) (by omega) hlast hok.plus.ix htm.2⟩)
 have HQL:=Lib.hid (fun u (hu:Chg [] w u)=>hql.chg hu (by simp))
 have HFL:=Lib.hid (show ∀ b∈F,b<w.heap.size from hql.lt)
 have HPD:=Lib.hid (show putHd D=natB D.digits++(natB D.limit++(natB (zig D.least)++(natB (zig D.most)++(natB D.zero++(putB D.minus++putB D.plus))))) from rfl)
 have HN:=Lib.hid (And.intro hn hm)
 generalize putHd D=PD at *
 have HGE:Hid True:=Lib.hid trivial
 obtain ⟨lo,hlo⟩:∃ x,x=D.least:=⟨_,rfl⟩
 obtain ⟨hi,hhi⟩:∃ x,x=D.most:=⟨_,rfl⟩
 obtain ⟨dp,hdp⟩:∃ x,x=D.digits:=⟨_,rfl⟩
 obtain ⟨lm,hlmm⟩:∃ x,x=D.limit:=⟨_,rfl⟩
 obtain ⟨zr,hzz⟩:∃ x,x=D.zero:=⟨_,rfl⟩
 rw [←hlo,←hhi] at HEN HLO HPD
 rw [←hdp,←hlmm] at HCF HPD
 rw [←hzz] at HZR HPD hzr
 rw [←hdp] at hdg
 rw [←hlmm] at hlm
 obtain ⟨b0,hb0⟩:∃ z,z=w.heap.size:=⟨_,rfl⟩
 have HB:=Lib.hid (show Blk (w.alloc (.cells #[.pointer (some ⟨h,0,none⟩)] 219)) b0 #[.pointer (some ⟨h,0,none⟩)] 219 from by rw [hb0];exact Blk.alloc_new _ _ _)
 have HC0:=Lib.hid ((Chg.refl [] w).alloc (.cells #[.pointer (some ⟨h,0,none⟩)] 219))
 have HB0:=Lib.hid (show w.heap.size≤b0 from by omega)
 have hwd:IntKind.u64.wrap (dp:Int)=(dp:Int):=IntWalk.u64_in _ (by omega)
 have HDF:=Lib.hid (And.intro hdg (And.intro hlm (And.intro hzr (And.intro hn5 hm5))))
 clear d hok hql hd hB hn hm hdg hlm hzr hn5 hm5 htm hlast HGE hlo hhi hdp hlmm hzz
 go_enter Tryz.func365,Tryz.ntmps365
 go_wp2_with fail
 rw [←hb0]
 clear hb0
 generalize w.alloc (.cells #[.pointer (some ⟨h,0,none⟩)] 219)=w0 at *
 have hc0:=HB.out.cell 0
 simp only [List.getElem?_toArray,List.getElem?_cons_zero] at hc0
 go_wp2_with fail
 refine (HEN.out _ HC0.out).mono ?_
 rintro e wE ⟨rfl,hcE⟩
 have HCE:=Lib.hid (HC0.out.trans hcE)
 have HBE:=Lib.hid (HB.out.chg hcE (by simp))
 clear hc0 hcE HB HC0 HEN
 have hc0:=HBE.out.cell 0
 simp only [List.getElem?_toArray,List.getElem?_cons_zero] at hc0
 go_wp2_with fail
 refine (HRW.out _ HCE.out).mono ?_
 rintro e w1 ⟨a1,k1,a2,k2,rfl,ho1,ho2,hc1,hf1,hf2⟩
 have HC1:=Lib.hid (HCE.out.trans hc1)
 have HB1:=Lib.hid (HBE.out.chg hc1 (by simp))
 have HOW:=Lib.hid (And.intro ho1 ho2)
 have HFR:=Lib.hid (show (∀ b∈abl a1,w.heap.size≤b)∧∀ b∈abl a2,w.heap.size≤b from ⟨fun b hb=>Nat.le_trans HCE.out.size (hf1 b hb),fun b hb=>Nat.le_trans HCE.out.size (hf2 b hb)⟩)
 clear hc0 hc1 ho1 ho2 hf1 hf2 HBE HCE HRW
 have hc0:=HB1.out.cell 0
 simp only [List.getElem?_toArray,List.getElem?_cons_zero] at hc0
 go_wp2_with fail
 have fa0:=fa_hcfg0
 have fa1:=fa_hcfg1
 have hSS:w1.drew.cell? ⟨b0,0,none⟩=some (.pointer (some ⟨h,0,none⟩)):=hc0
 have HKS:=Lib.hid ((Chg.refl [] w1).drew)
 refine startN (S:=fun wx=>wx.cell? ⟨b0,0,none⟩=some (.pointer (some ⟨h,0,none⟩))) (by kernel_rfl) hSS (fun hHeld => ?_)
 refine takeN (i:=0) (v:=?va0) rfl (by kernel_rfl) (by kernel_rfl) (by kernel_rfl) (fun _ _ _ h=>h) (Or.inl ⟨by rfl,?ya0⟩) hSS ?ra0
 case ya0=>(intro w hSw;(try dsimp only at hSw);go_simp;first|done|with_reducible rfl)
 try simp only [Act.put,jI,jZ,jS]
 refine takeN (i:=1) (v:=?va1) rfl (by kernel_rfl) (by kernel_rfl) (by kernel_rfl) (fun _ _ _ h=>h) (Or.inl ⟨by rfl,?ya1⟩) hSS ?ra1
 case ya1=>(intro w hSw;(try dsimp only at hSw);go_simp;first|done|with_reducible rfl)
 try simp only [Act.put,jI,jZ,jS]
 refine takeN (i:=2) (v:=?va2) rfl (by kernel_rfl) (by kernel_rfl) (by kernel_rfl) (fun _ _ _ h=>h) (Or.inl ⟨by rfl,?ya2⟩) hSS ?ra2
 case ya2=>(intro w hSw;(try dsimp only at hSw);go_simp;first|done|with_reducible rfl)
 try simp only [Act.put,jI,jZ,jS]
 refine takeN (i:=6) (v:=?va6) rfl (by kernel_rfl) (by kernel_rfl) (by kernel_rfl) (fun _ _ _ h=>h) (Or.inl ⟨by rfl,?ya6⟩) hSS ?ra6
 case ya6=>(intro w hSw;(try dsimp only at hSw);go_simp;first|done|with_reducible rfl)
 try simp only [Act.put,jI,jZ,jS]
 refine takeN (i:=7) (v:=?va7) rfl (by kernel_rfl) (by kernel_rfl) (by kernel_rfl) (fun _ _ _ h=>h) (Or.inl ⟨by rfl,?ya7⟩) hSS ?ra7
 case ya7=>(intro w hSw;(try dsimp only at hSw);go_simp;first|done|with_reducible rfl)
 try simp only [Act.put,jI,jZ,jS]
 refine readyN (rs:=[3]) (by kernel_rfl) (by simp) (consN rfl (fun K hK => ?_) nilN)
 refine step_callsG (by rfl) 367 _ _ rfl enters_hwconfig _ #[.pointer (some ⟨h,0,none⟩)] (by simp [Act.eval]) (HCF.out _ (HC1.out.trans HKS.out)) ?_;rintro e wa ⟨rfl,hccwa⟩;refine ⟨_,rfl,?_⟩
 have HKwa:=Lib.hid (HKS.out.trans hccwa)
 have hSwa:wa.cell? ⟨b0,0,none⟩=some (.pointer (some ⟨h,0,none⟩)):=hccwa.cell hSS (by simp)
 clear hccwa
 refine hK.out _ _ hSwa (fun hHeld => ?_)
 clear hK K hHeld
 try simp only [Act.put,jI,jZ,jS]
 refine takeN (i:=4) (v:=?va4) rfl (by kernel_rfl) (by kernel_rfl) (by kernel_rfl) (fun _ _ _ h=>h) (Or.inl ⟨by rfl,?ya4⟩) hSwa ?ra4
 case ya4=>(intro w hSw;(try dsimp only at hSw);go_simp;first|done|with_reducible rfl)
 try simp only [Act.put,jI,jZ,jS]
 refine takeN (i:=5) (v:=?va5) rfl (by kernel_rfl) (by kernel_rfl) (by kernel_rfl) (fun _ _ _ h=>h) (Or.inl ⟨by rfl,?ya5⟩) hSwa ?ra5
 case ya5=>(intro w hSw;(try dsimp only at hSw);go_simp;first|done|with_reducible rfl)
 try simp only [Act.put,jI,jZ,jS]
 refine readyN (rs:=[8]) (by kernel_rfl) (by simp) (consN rfl (fun K hK => ?_) nilN)
 refine step_callsG (by rfl) 367 _ _ rfl enters_hwconfig _ #[.pointer (some ⟨h,0,none⟩)] (by simp [Act.eval]) (HCF.out _ (HC1.out.trans HKwa.out)) ?_;rintro e wb ⟨rfl,hccwb⟩;refine ⟨_,rfl,?_⟩
 have HKwb:=Lib.hid (HKwa.out.trans hccwb)
 have hSwb:wb.cell? ⟨b0,0,none⟩=some (.pointer (some ⟨h,0,none⟩)):=hccwb.cell hSwa (by simp)
 clear hccwb
 refine hK.out _ _ hSwb (fun hHeld => ?_)
 clear hK K hHeld
 try simp only [Act.put,jI,jZ,jS]
 refine takeN (i:=9) (v:=?va9) rfl (by kernel_rfl) (by kernel_rfl) (by kernel_rfl) (fun _ _ _ h=>h) (Or.inl ⟨by rfl,?ya9⟩) hSwb ?ra9
 case ya9=>(intro w hSw;(try dsimp only at hSw);go_simp;first|done|with_reducible rfl)
 try simp only [Act.put,jI,jZ,jS]
 refine readyN (rs:=[10]) (by kernel_rfl) (by simp) (consN rfl (fun K hK => ?_) nilN)
 refine step_bU2 rfl 27 31 rfl dp lm (by simp [Act.eval]) (by simp [Act.eval]) ?_;intro gb wc hrc hcc hgc
 have hSwc:wc.cell? ⟨b0,0,none⟩=some (.pointer (some ⟨h,0,none⟩)):=hcc.cell hSwb (by simp)
 have HKwc:=Lib.hid (HKwb.out.trans hcc)
 have HRC:=Lib.hid hrc
 have HGC:=Lib.hid (show w.heap.size≤gb from Nat.le_trans HC1.out.size (Nat.le_trans HKwb.out.size hgc))
 clear hcc hrc hgc
 refine hK.out _ _ hSwc (fun hHeld => ?_)
 clear hK K hHeld
 try simp only [Act.put,jI,jZ,jS]
 refine readyN (rs:=[11]) (by kernel_rfl) (by simp) (consN rfl (fun K hK => ?_) nilN)
 refine step_callsG (by rfl) 135 _ _ rfl enters_qnat _ #[.pointer (some ⟨q,0,none⟩),.slice (some ⟨gb,0,none⟩) 2 2] (by simp [Act.eval]) (qn_rd wc q F l (HQL.out _ (HC1.out.trans HKwc.out)) [dp,lm] (by have:=HDF.out;intro u hu;simp only [List.mem_cons,List.not_mem_nil,or_false] at hu;rcases hu with rfl|rfl<;>omega) (by simp only [List.length_cons,List.length_nil];omega) 2 rfl gb HRC.out (fun e=>by have h1:=HFL.out gb e;have h2:=HGC.out;omega)) ?_;rintro e wd ⟨rfl,F3,T3,hq3,hT3,hL3,hm3⟩;refine ⟨_,rfl,?_⟩
 have HQ3:=Lib.hid (And.intro hq3 (And.intro hT3 hL3))
 have HM3:=Lib.hid ((Mv.of_chg (HKwc.out.mono (by simp)):Mv F w1 F wc).trans hm3)
 have hSwd:wd.cell? ⟨b0,0,none⟩=some (.pointer (some ⟨h,0,none⟩)):=hm3.chg.cell hSwc (fun e=>by have h1:=HFL.out b0 e;have h2:=HB0.out;omega)
 clear hq3 hm3 hT3 hL3
 refine hK.out _ _ hSwd (fun hHeld => ?_)
 clear hK K hHeld
 try simp only [Act.put,jI,jZ,jS]
 refine doneN (by kernel_rfl) ?_ _
 clear hSS hSwa hSwb hSwc hSwd HKS HKwa HKwb HKwc HRC HGC HCF hwd fa0 fa1 hc0
 have HBF:=Lib.hid (show b0∉F from fun e=>by have h1:=HFL.out b0 e;have h2:=HB0.out;omega)
 go_wp2_with fail
 refine (qi_lit wd q F3 T3 HQ3.out.1 [lo,hi] (by have:=HLO.out;intro u hu;simp only [List.mem_cons,List.not_mem_nil,or_false] at hu;rcases hu with rfl|rfl;exact this.1;exact this.2) (by have:=HQ3.out.2.2;simp only [List.length_cons,List.length_nil];omega) _ rfl 2 rfl _ rfl).mono ?_
 rintro e w4 ⟨rfl,F4,T4,hq4,hT4,hL4,hm4⟩
 have HM4:=Lib.hid (HM3.out.trans hm4)
 have HT4:=Lib.hid (And.intro hT4 hL4)
 have HQ4:=Lib.hid hq4
 have hc0:w4.cell? ⟨b0,0,none⟩=some (.pointer (some ⟨h,0,none⟩)):=(HB1.out.chg HM4.out.chg HBF.out).cell 0
 clear hq4 hT4 hL4 hm4
 go_wp2_with fail
 refine (HZR.out _ (HC1.out.nil.trans HM4.out.chg)).mono ?_
 rintro e w5 ⟨rfl,rfl⟩
 go_wp2_with fail
 refine (qn_lit w4 q F4 T4 HQ4.out [zr] (by have:=HDF.out;intro u hu;simp only [List.mem_cons,List.not_mem_nil,or_false] at hu;rcases hu with rfl;omega) (by have h1:=HQ3.out.2.2;have h2:=HT4.out.2;simp only [List.length_cons,List.length_nil];omega) _ rfl 1 rfl _ rfl).mono ?_
 rintro e w6 ⟨rfl,F6,T6,hq6,hT6,hL6,hm6⟩
 have HM6:=Lib.hid (HM4.out.trans hm6)
 have HT6:=Lib.hid (And.intro hT6 hL6)
 have HQ6:=Lib.hid hq6
 have HL6:=Lib.hid (show T6.length≤2000 from by have h1:=HQ3.out.2.2;have h2:=HT4.out.2;omega)
 have HAP:=Lib.hid (show (∀ b∈abl a1,b∉F)∧∀ b∈abl a2,b∉F from ⟨fun b hb e=>by have h1:=HFR.out.1 b hb;have h2:=HFL.out b e;omega,fun b hb e=>by have h1:=HFR.out.2 b hb;have h2:=HFL.out b e;omega⟩)
 have ho1:=HOW.out.1.chg HM6.out.chg (by simpa using HAP.out.1)
 have ho2:=HOW.out.2.chg HM6.out.chg (by simpa using HAP.out.2)
 have HAP6:=Lib.hid (show (∀ b∈abl a1,b∉F6)∧∀ b∈abl a2,b∉F6 from ⟨fun b hb e=>by
  rcases HM6.out.fr b e with h1|h1
  ·exact HAP.out.1 b hb h1
  ·have:=HOW.out.1.lt b (by simpa using hb);omega,fun b hb e=>by
  rcases HM6.out.fr b e with h1|h1
  ·exact HAP.out.2 b hb h1
  ·have:=HOW.out.2.lt b (by simpa using hb);omega⟩)
 have HPU:=Lib.hid (runs_put w6 q F6 T6 a1 k1 D.minus HROK.out.1 HQ6.out (by have:=ho1.rd;rw [HN.out.1] at this;exact this) (fun _ b hb=>HAP6.out.1 b (by simpa using hb)) (by have h1:=HL6.out;have h3:=HN.out.1;have h4:=HDF.out;omega))
 rw [←HN.out.1] at HPU
 have HO2:=Lib.hid ho2
 clear hq6 hT6 hL6 hm6 hc0 ho1 ho2 HZR
 go_wp2_with fail
 refine HPU.out.mono ?_
 rintro e w7 ⟨rfl,F7,hq7,hm7⟩
 obtain ⟨T7,hT7⟩:∃ T,T=T6++putB D.minus:=⟨_,rfl⟩
 have hl7:=putB_lenG D.minus HROK.out.1 (by have h3:=HN.out.1;have h4:=HDF.out;omega)
 have HL7:=Lib.hid (show T7.length≤100000 from by rw [hT7,List.length_append];have h1:=HL6.out;have h3:=HN.out.1;have h4:=HDF.out;omega)
 rw [←hT7] at hq7
 have HT7:=Lib.hid hT7
 have HM7:=Lib.hid hm7
 have HPU2:=Lib.hid (runs_put w7 q F7 T7 a2 k2 D.plus HROK.out.2 hq7 (by
  have h1:=HO2.out.chg hm7.chg (by simpa using HAP6.out.2)
  have:=h1.rd
  rw [HN.out.2] at this
  exact this) (fun _ b hb e=>by
  rcases hm7.fr b e with h1|h1
  ·exact HAP6.out.2 b (by simpa using hb) h1
  ·have:=HO2.out.lt b (by simpa using hb);omega) (by have h1:=HL7.out;have h3:=HN.out.2;have h4:=HDF.out;omega))
 rw [←HN.out.2] at HPU2
 clear hT7 hl7 hq7 hm7 HPU
 go_wp2_with fail
 refine HPU2.out.mono ?_
 rintro e w8 ⟨rfl,F8,hq8,hm8⟩
 have HQ8:=Lib.hid hq8
 have HM8:=Lib.hid hm8
 clear hq8 hm8 HPU2
 go_wp2
 go_end0
 refine ⟨rfl,F8,?_,((Mv.of_chg HC1.out.nil).trans HM6.out).trans (HM7.out.trans HM8.out)⟩
 have h1:=HQ8.out
 have e:T7++putB D.plus=l++PD:=by
  rw [HPD.out,HT7.out,HT6.out.1,HT4.out.1,HQ3.out.2.1]
  simp
 rw [←e]
 exact h1
end Go.Proofs.YthoolcpcmhhkpaaGreatDoor
