/-
  Parts of a proof, pressed. Conditions: the form's own reach.
-/
import Derived.Test.YthoolcpcmhhkpaaGreatDoorSuiteConfigsB11
import Derived.Test.YthoolcpcmhhkpaaGreatDoorSuiteConfigsB1
namespace Go.Proofs.YthoolcpcmhhkpaaGreatDoor
open Go.RowKit
set_option maxRecDepth 100000 in
set_option maxHeartbeats 1000000 in
theorem bits_div_small (w:World) (lo y:Nat) (hl:lo<18446744073709551616) (hy:y<18446744073709551616) (h0:0<y) :
 Calls Tryz.prog 231 #[.int .u64 0,.int .u64 lo,.int .u64 y] w fun e w'=>e=.returned (.tuple #[.int .u64 (lo / y:Nat),.int .u64 (lo % y:Nat)])∧Chg [] w w':=by
 have e1:((y:Int)==0)=false:=by rw [beq_eq_false_iff_ne];omega
 have e2:decide ((y:Int)≤0)=false:=decide_eq_false (by omega)
 have e3:¬((y:Int)=0):=by omega
 have e4:¬(y=0):=by omega
 have hle:lo / y≤lo:=Nat.div_le_self lo y
 have hq64:lo / y<18446744073709551616:=by omega
 have HQ:=Lib.hid (show IntKind.u64.wrap ((lo:Int) / (y:Int))=((lo / y:Nat):Int) from by rw [←Int.natCast_ediv];generalize lo / y=Q at *;exact IntWalk.u64_in _ (by omega))
 have HR:=Lib.hid (show (lo:Int) % (y:Int)=((lo % y:Nat):Int) from (Int.natCast_emod _ _).symm)
 go_enter Tryz.func231,Tryz.ntmps231
 go_wp2
 go_quiet (fail)
 go_wp2
 go_ret2
 refine ⟨?_,(Chg.refl [] w).drewN nq⟩
 rw [←HQ.out,←HR.out]
 rfl
theorem hUX_of {U HH LH V X B b:Nat} (hN:U=HH*B+(LH*B+V)) (hX:X=HH+LH):U=X*B+V / b*b+V % b:=by
 have h:=Nat.div_add_mod V b
 rw [Nat.mul_comm b] at h
 rw [hN,hX,Nat.add_mul,Nat.add_assoc,Nat.add_assoc,h]
set_option maxRecDepth 100000 in
set_option maxHeartbeats 4000000 in
theorem bits_div (w:World) (hi lo y NN:Nat) (hNN:hi*18446744073709551616+lo=NN) (hl:lo<18446744073709551616) (hy:y<18446744073709551616) (hh:hi<y) (h0:0<hi) :
 Calls Tryz.prog 231 #[.int .u64 hi,.int .u64 lo,.int .u64 y] w fun e w'=>e=.returned (.tuple #[.int .u64 (NN / y:Nat),.int .u64 (NN % y:Nat)])∧w=w':=by
 have e1:((y:Int)==0)=false:=by rw [beq_eq_false_iff_ne];omega
 have e2:decide (y≤hi)=false:=decide_eq_false (by omega)
 have e3:((hi:Int)==0)=false:=by rw [beq_eq_false_iff_ne];omega
 obtain ⟨hs63,hlb1,hlb2⟩:=lz_bounds (show 0<y by omega) hy
 have HLZ:=Lib.hid (bits_lz w y hy)
 generalize lzN y=s at *
 obtain ⟨p,hp⟩:∃ p,p=2^s:=⟨_,rfl⟩
 have hpi:((2:Int)^s)=(p:Int):=by rw [hp];norm_cast
 have hp0:0<p:=by rw [hp];exact Nat.pow_pos (by omega)
 have hpp:2^(64-s)*p=18446744073709551616:=by rw [hp,←Nat.pow_add,show 64-s+s=64 from by omega]
 rw [←hp] at hlb1 hlb2
 obtain ⟨Y,hYd⟩:∃ Y,Y=y*p:=⟨_,rfl⟩
 rw [←hYd] at hlb1 hlb2
 have hYi:IntKind.u64.wrap ((y:Int)*2^s)=(Y:Int):=by rw [hpi,←Int.natCast_mul,←hYd];exact IntWalk.u64_in _ (by omega)
 obtain ⟨HH,hHH⟩:∃ HH,HH=hi*p:=⟨_,rfl⟩
 have hHY:HH+p≤Y:=by
  have h1:(hi+1)*p≤y*p:=Nat.mul_le_mul_right p (by omega)
  rw [Nat.add_mul,Nat.one_mul] at h1
  omega
 have hHi:IntKind.u64.wrap ((hi:Int)*2^s)=(HH:Int):=by rw [hpi,←Int.natCast_mul,←hHH];exact IntWalk.u64_in _ (by omega)
 obtain ⟨LH,hLH⟩:∃ LH,LH=lo / 2^(64-s):=⟨_,rfl⟩
 have hLp:LH<p:=by
  rw [hLH,Nat.div_lt_iff_lt_mul (Nat.pow_pos (by omega)),Nat.mul_comm,hpp]
  exact hl
 have hLi:(lo:Int) / 2^(64-s)=(LH:Int):=by
  rw [hLH,Int.natCast_ediv]
  norm_cast
 have hOr:bits .or .u64 (HH:Int) (LH:Int)=((HH+LH:Nat):Int):=by
  rw [u64_or_nat _ _ (by omega) (by omega)]
  congr 1
  have h1:=Nat.shiftLeft_add_eq_or_of_lt (show LH<2^s by rw [←hp];exact hLp) hi
  rw [Nat.shiftLeft_eq,←hp,←hHH] at h1
  exact h1.symm
 obtain ⟨V,hV⟩:∃ V,V=lo*p % 18446744073709551616:=⟨_,rfl⟩
 have hV64:V<18446744073709551616:=by omega
 have hVi:IntKind.u64.wrap ((lo:Int)*2^s)=(V:Int):=by rw [hpi,←Int.natCast_mul,IntKind.wrap_u64,hV];omega
 have hlo:lo*p=LH*18446744073709551616+V:=by
  have h1:lo*p / 18446744073709551616=LH:=by
   rw [←hpp,Nat.mul_div_mul_right _ _ hp0,hLH]
  have h2:=Nat.div_add_mod (lo*p) 18446744073709551616
  rw [h1,←hV] at h2
  omega
 have hsh:=kn_shift (N:=NN) (y:=y) hp0
 rw [←hYd] at hsh
 have hN:NN*p=HH*18446744073709551616+(LH*18446744073709551616+V):=by
  rw [←hNN,Nat.add_mul,hlo,hHH]
  have:hi*18446744073709551616*p=hi*p*18446744073709551616:=by rw [Nat.mul_assoc,Nat.mul_comm 18446744073709551616 p,←Nat.mul_assoc]
  omega
 obtain ⟨U,hU⟩:∃ U,U=NN*p:=⟨_,rfl⟩
 rw [←hU] at hN hsh
 obtain ⟨X,hX⟩:∃ X,X=HH+LH:=⟨_,rfl⟩
 rw [←hX] at hOr
 have hXY:X<Y:=by omega
 have hUX:U=X*18446744073709551616+V / 4294967296*4294967296+V % 4294967296:=hUX_of hN hX
 have htwo:=kn_two (U:=U) (y:=Y) (b:=4294967296) (X:=X) (d1:=V / 4294967296) (d0:=V % 4294967296) (B:=18446744073709551616) (by decide) (by omega) hUX
 have hV1i:(V:Int) / 4294967296=((V / 4294967296:Nat):Int):=by omega
 have hV0i:=and_mask32 V hV64
 have hY1i:(Y:Int) / 4294967296=((Y / 4294967296:Nat):Int):=by omega
 have hY0i:=and_mask32 Y hlb2
 have hYY:Y=Y / 4294967296*4294967296+Y % 4294967296:=by omega
 have hyn0:Y % 4294967296<4294967296:=by omega
 have hyn1:Y / 4294967296<4294967296:=by omega
 have hyn2:2147483648≤Y / 4294967296:=by omega
 have hd1:V / 4294967296<4294967296:=by omega
 have hd0:V % 4294967296<4294967296:=by omega
 clear hV hlo hHY hHH hLH hpp hX
 generalize V / 4294967296=d1 at *
 generalize V % 4294967296=d0 at *
 generalize Y / 4294967296=yn1 at *
 generalize Y % 4294967296=yn0 at *
 have hY0:0<Y:=by omega
 obtain ⟨q1,hq1⟩:∃ q1,q1=(X*4294967296+d1) / Y:=⟨_,rfl⟩
 obtain ⟨r1,hr1⟩:∃ r1,r1=(X*4294967296+d1) % Y:=⟨_,rfl⟩
 obtain ⟨q0,hq0⟩:∃ q0,q0=(r1*4294967296+d0) / Y:=⟨_,rfl⟩
 obtain ⟨r0,hr0⟩:∃ r0,r0=(r1*4294967296+d0) % Y:=⟨_,rfl⟩
 simp only [←hq1,←hr1,←hq0,←hr0] at htwo
 have hr1Y:r1<Y:=by rw [hr1];exact Nat.mod_lt _ hY0
 have hq1b:q1<4294967296:=by rw [hq1];exact kn_digit hXY hd1
 have hq0b:q0<4294967296:=by rw [hq0];exact kn_digit hr1Y hd0
 have hdm1:q1*Y+r1=X*4294967296+d1:=by have:=Nat.div_add_mod (X*4294967296+d1) Y;rw [←hq1,←hr1,Nat.mul_comm] at this;exact this
 have hdm0:q0*Y+r0=r1*4294967296+d0:=by have:=Nat.div_add_mod (r1*4294967296+d0) Y;rw [←hq0,←hr0,Nat.mul_comm] at this;exact this
 have hr0Y:r0<Y:=by rw [hr0];exact Nat.mod_lt _ hY0
 have HYY:=Lib.hid hYY
 have HYn:=Lib.hid hyn0
 have HD1Q:=Lib.hid (show q1*Y≤X*4294967296+d1∧q1<4294967296∧X*4294967296+d1<(q1+1)*Y from ⟨by omega,hq1b,by rw [Nat.add_mul,Nat.one_mul];omega⟩)
 have HD0Q:=Lib.hid (show q0*Y≤r1*4294967296+d0∧q0<4294967296∧r1*4294967296+d0<(q0+1)*Y from ⟨by omega,hq0b,by rw [Nat.add_mul,Nat.one_mul];omega⟩)
 have hk1:=kn_first hYY hyn0 (by omega) (by omega) hXY hd1 HD1Q.out.1
 have hk0:=kn_first hYY hyn0 (by omega) (by omega) hr1Y hd0 HD0Q.out.1
 have hy10:0<yn1:=by omega
 obtain ⟨g1,hg1⟩:∃ g,g=X / yn1:=⟨_,rfl⟩
 obtain ⟨g0,hg0⟩:∃ g,g=r1 / yn1:=⟨_,rfl⟩
 rw [←hg1] at hk1
 rw [←hg0] at hk0
 have hG1:(X:Int) / (yn1:Int)=(g1:Int):=by rw [hg1,Int.natCast_ediv]
 have hG0:(r1:Int) / (yn1:Int)=(g0:Int):=by rw [hg0,Int.natCast_ediv]
 have hga1:g1*yn1+X % yn1=X:=by have:=Nat.div_add_mod X yn1;rw [←hg1,Nat.mul_comm] at this;exact this
 have hga0:g0*yn1+r1 % yn1=r1:=by have:=Nat.div_add_mod r1 yn1;rw [←hg0,Nat.mul_comm] at this;exact this
 have hml1:=Nat.mod_lt X hy10
 have hml0:=Nat.mod_lt r1 hy10
 generalize X % yn1=ra at *
 generalize r1 % yn1=rb at *
 have HD1:=Lib.hid (show (g1*yn1+ra=X∧q1≤g1)∧ra<4294967296∧g1≤4294967297 from ⟨⟨hga1,hk1.1⟩,by omega,hk1.2⟩)
 have HD0:=Lib.hid (show (g0*yn1+rb=r1∧q0≤g0)∧rb<4294967296∧g0≤4294967297 from ⟨⟨hga0,hk0.1⟩,by omega,hk0.2⟩)
 obtain ⟨P1,hP1⟩:∃ P,P=g1*yn1:=⟨_,rfl⟩
 obtain ⟨P0,hP0⟩:∃ P,P=g0*yn1:=⟨_,rfl⟩
 have hPi1:(g1:Int)*(yn1:Int)=(P1:Int):=by rw [hP1,Int.natCast_mul]
 have hPi0:(g0:Int)*(yn1:Int)=(P0:Int):=by rw [hP0,Int.natCast_mul]
 have hPs1:(X:Int)-(P1:Int)=(ra:Int):=by rw [hP1];omega
 have hPs0:(r1:Int)-(P0:Int)=(rb:Int):=by rw [hP0];omega
 have hPb1:P1≤X:=by rw [hP1];omega
 have hPb0:P0≤r1:=by rw [hP0];omega
 have hX64:X<18446744073709551616:=by omega
 have hr164:r1<18446744073709551616:=by omega
 have hg1b:=hk1.2
 have hg0b:=hk0.2
 -- the rests, modulo a word
 obtain ⟨Wa,hWa⟩:∃ W,W=X*4294967296 % 18446744073709551616:=⟨_,rfl⟩
 obtain ⟨Wb,hWb⟩:∃ W,W=(Wa+d1) % 18446744073709551616:=⟨_,rfl⟩
 obtain ⟨Wc,hWc⟩:∃ W,W=q1*Y % 18446744073709551616:=⟨_,rfl⟩
 have iWa:IntKind.u64.wrap ((X:Int)*4294967296)=(Wa:Int):=by rw [IntKind.wrap_u64,hWa];omega
 have iWb:IntKind.u64.wrap ((Wa:Int)+(d1:Int))=(Wb:Int):=by rw [IntKind.wrap_u64,hWb];omega
 have iWc:IntKind.u64.wrap ((q1:Int)*(Y:Int))=(Wc:Int):=by rw [←Int.natCast_mul,IntKind.wrap_u64,hWc];omega
 have iWd:IntKind.u64.wrap ((Wb:Int)-(Wc:Int))=(r1:Int):=by
  rw [IntKind.wrap_u64,hWb,hWc,hWa]
  generalize q1*Y=Z at *
  omega
 obtain ⟨Va,hVa⟩:∃ W,W=r1*4294967296 % 18446744073709551616:=⟨_,rfl⟩
 obtain ⟨Vb,hVb⟩:∃ W,W=(Va+d0) % 18446744073709551616:=⟨_,rfl⟩
 obtain ⟨Vc,hVc⟩:∃ W,W=q0*Y % 18446744073709551616:=⟨_,rfl⟩
 have iVa:IntKind.u64.wrap ((r1:Int)*4294967296)=(Va:Int):=by rw [IntKind.wrap_u64,hVa];omega
 have iVb:IntKind.u64.wrap ((Va:Int)+(d0:Int))=(Vb:Int):=by rw [IntKind.wrap_u64,hVb];omega
 have iVc:IntKind.u64.wrap ((q0:Int)*(Y:Int))=(Vc:Int):=by rw [←Int.natCast_mul,IntKind.wrap_u64,hVc];omega
 have iVd:IntKind.u64.wrap ((Vb:Int)-(Vc:Int))=(r0:Int):=by
  rw [IntKind.wrap_u64,hVb,hVc,hVa]
  generalize q0*Y=Z at *
  omega
 have hWab:Wa<18446744073709551616∧Wb<18446744073709551616∧Wc<18446744073709551616∧Va<18446744073709551616∧Vb<18446744073709551616∧Vc<18446744073709551616:=by omega
 obtain ⟨bWa,bWb,bWc,bVa,bVb,bVc⟩:=hWab
 have HQF:=Lib.hid (show q1*4294967296+q0=NN / y from htwo.1.trans hsh.1)
 have HRF:=Lib.hid (show r0 / p=NN % y from by rw [htwo.2];exact hsh.2)
 have hRi:(r0:Int) / 2^s=((r0 / p:Nat):Int):=by rw [hpi,Int.natCast_ediv]
 have hr064:r0<18446744073709551616:=by omega
 generalize r0 / p=RR at *
 clear hN hU hNN
 generalize NN / y=QQ at *
 generalize NN % y=RM at *
 have n1:¬((yn1:Int)=0):=by omega
 have n2:¬(yn1=0):=by omega
 have w1:IntKind.u64.wrap (s:Int)=(s:Int):=IntWalk.u64_in _ (by omega)
 have w2:min s 64=s:=by omega
 have w3:((64:Int)-(s:Int)).toNat=64-s:=by omega
 have w4:min (64-s) 64=64-s:=by omega
 clear hsh htwo hdm1 hdm0 hq1 hr1 hq0 hr0 hYY hk1 hk0 hg1 hg0 hga1 hga0 hml1 hml0 hP1 hP0 hWa hWb hWc hVa hVb hVc hp hpi hYd hlb1 hLp
 go_enter Tryz.func231,Tryz.ntmps231
 go_wp2_with fail
 refine HLZ.out.mono ?_
 rintro e w1' ⟨rfl,rfl⟩
 go_wp2
 go_loopw [15,16] (fun gv rv wx=>∃ qh rh:Nat,gv=.int .u64 (qh:Nat)∧rv=.int .u64 (rh:Nat)∧rh<4294967296∧qh≤4294967297∧Hid (qh*yn1+rh=X∧q1≤qh)∧w=wx) (fun gv _ _=>(intOf gv).toNat)
 case atStart=>exact ⟨_,_,rfl,rfl,HD1.out.2.1,HD1.out.2.2,Lib.hid HD1.out.1,rfl⟩
 case round =>
  obtain ⟨qh,rh,rfl,rfl,hrh,hqh,HI,hw⟩:=hrel
  subst hw
  have hq0':=HYn.out
  by_cases hge:4294967296≤qh
  ·have g1:decide ((4294967296:Int)≤(qh:Int))=true:=decide_eq_true (by omega)
   have HM:=Lib.hid (kn_more (X:=X) (d:=d1) HYY.out HI.out.1 HD1Q.out.1 HD1Q.out.2.1 (.inl hge))
   have h1:1≤qh:=by omega
   have HI2:Hid ((qh-1)*yn1+(rh+yn1)=X∧q1≤qh-1):=Lib.hid ⟨by
    have h2:=HI.out.1
    have h3:qh*yn1=(qh-1)*yn1+yn1:=by
     conv=>lhs;rw [show qh=qh-1+1 from by omega,Nat.add_mul,Nat.one_mul]
    omega,by have:=HM.out;omega⟩
   have g3:(qh:Int)-1=((qh-1:Nat):Int):=by omega
   have g4:(rh:Int)+(yn1:Int)=((rh+yn1:Nat):Int):=by omega
   have hdec:qh-1<qh:=by omega
   have hq2:qh-1≤4294967296:=by omega
   generalize qh-1=qn at *
   have hrn:rh+yn1<8589934592:=by omega
   generalize rh+yn1=rn at *
   by_cases hbr:4294967296≤rn
   ·have g5:decide ((4294967296:Int)≤(rn:Int))=true:=decide_eq_true (by omega)
    have HE:=Lib.hid (show qn=q1 from kn_done (X:=X) (d:=d1) HYY.out HI2.out.1 HD1Q.out.2.2 HI2.out.2 (by
     have h4:qn*yn0≤4294967296*4294967295:=Nat.mul_le_mul hq2 (by have:=HYn.out;omega)
     omega))
    clear hge HM HI HI2 hdec hbr h1
    obtain rfl:=HE.out
    go_wp2
    go_loopw [18,16] (fun gv rv wx=>∃ qh rh:Nat,gv=.int .u64 (qh:Nat)∧rv=.int .u64 (rh:Nat)∧rh<4294967296∧qh≤4294967297∧Hid (qh*yn1+rh=r1∧q0≤qh)∧w=wx) (fun gv _ _=>(intOf gv).toNat)
    case atStart=>exact ⟨_,_,rfl,rfl,HD0.out.2.1,HD0.out.2.2,Lib.hid HD0.out.1,rfl⟩
    case round =>
     obtain ⟨qh,rh,rfl,rfl,hrh,hqh,HI,hw⟩:=hrel
     subst hw
     have hq0':=HYn.out
     by_cases hge:4294967296≤qh
     ·have g1:decide ((4294967296:Int)≤(qh:Int))=true:=decide_eq_true (by omega)
      have HM:=Lib.hid (kn_more (X:=r1) (d:=d0) HYY.out HI.out.1 HD0Q.out.1 HD0Q.out.2.1 (.inl hge))
      have h1:1≤qh:=by omega
      have HI2:Hid ((qh-1)*yn1+(rh+yn1)=r1∧q0≤qh-1):=Lib.hid ⟨by
       have h2:=HI.out.1
       have h3:qh*yn1=(qh-1)*yn1+yn1:=by
        conv=>lhs;rw [show qh=qh-1+1 from by omega,Nat.add_mul,Nat.one_mul]
       omega,by have:=HM.out;omega⟩
      have g3:(qh:Int)-1=((qh-1:Nat):Int):=by omega
      have g4:(rh:Int)+(yn1:Int)=((rh+yn1:Nat):Int):=by omega
      have hdec:qh-1<qh:=by omega
      have hq2:qh-1≤4294967296:=by omega
      generalize qh-1=qn at *
      have hrn:rh+yn1<8589934592:=by omega
      generalize rh+yn1=rn at *
      by_cases hbr:4294967296≤rn
      ·have g5:decide ((4294967296:Int)≤(rn:Int))=true:=decide_eq_true (by omega)
       have HE:=Lib.hid (show qn=q0 from kn_done (X:=r1) (d:=d0) HYY.out HI2.out.1 HD0Q.out.2.2 HI2.out.2 (by
        have h4:qn*yn0≤4294967296*4294967295:=Nat.mul_le_mul hq2 (by have:=HYn.out;omega)
        omega))
       clear hge HM HI HI2 hdec hbr h1
       obtain rfl:=HE.out
       go_wp2
       go_ret2
       refine ⟨?_,rfl⟩
       have eF:=HQF.out
       have eG:=HRF.out
       rw [←eF,←eG,Int.natCast_add,Int.natCast_mul]
       rfl
      ·have g5:decide ((4294967296:Int)≤(rn:Int))=false:=decide_eq_false (by omega)
       have hbr2:rn<4294967296:=by omega
       clear hge HM HI hbr h1
       go_wp2
       exact ⟨⟨qn,rn,rfl,rfl,by omega,by omega,HI2,trivial⟩,by simp [intOf];omega⟩
     ·have g1:decide ((4294967296:Int)≤(qh:Int))=false:=decide_eq_false (by omega)
      have hmb:=half_mul (show qh<4294967296 by omega) HYn.out
      obtain ⟨M,hM⟩:∃ M,M=qh*yn0:=⟨_,rfl⟩
      have hMi:(qh:Int)*(yn0:Int)=(M:Int):=by rw [hM,Int.natCast_mul]
      by_cases hc:4294967296*rh+d0<M
      ·have g2:decide (4294967296*(rh:Int)+(d0:Int)<(M:Int))=true:=decide_eq_true (by omega)
       have HM:=Lib.hid (kn_more (X:=r1) (d:=d0) HYY.out HI.out.1 HD0Q.out.1 HD0Q.out.2.1 (.inr (by rw [←hM];exact hc)))
       have h1:1≤qh:=by have:=HM.out;omega
       have HI2:Hid ((qh-1)*yn1+(rh+yn1)=r1∧q0≤qh-1):=Lib.hid ⟨by
        have h2:=HI.out.1
        have h3:qh*yn1=(qh-1)*yn1+yn1:=by
         conv=>lhs;rw [show qh=qh-1+1 from by omega,Nat.add_mul,Nat.one_mul]
        omega,by have:=HM.out;omega⟩
       have g3:(qh:Int)-1=((qh-1:Nat):Int):=by omega
       have g4:(rh:Int)+(yn1:Int)=((rh+yn1:Nat):Int):=by omega
       have hdec:qh-1<qh:=by omega
       have hq2:qh-1≤4294967296:=by omega
       have hM64:M<18446744073709551616:=by omega
       rw [←hM] at hmb
       clear hM
       generalize qh-1=qn at *
       have hrn:rh+yn1<8589934592:=by omega
       generalize rh+yn1=rn at *
       by_cases hbr:4294967296≤rn
       ·have g5:decide ((4294967296:Int)≤(rn:Int))=true:=decide_eq_true (by omega)
        have HE:=Lib.hid (show qn=q0 from kn_done (X:=r1) (d:=d0) HYY.out HI2.out.1 HD0Q.out.2.2 HI2.out.2 (by
         have h4:qn*yn0≤4294967296*4294967295:=Nat.mul_le_mul hq2 (by have:=HYn.out;omega)
         omega))
        clear hge HM HI HI2 hdec hbr h1 hc
        obtain rfl:=HE.out
        go_wp2
        go_ret2
        refine ⟨?_,rfl⟩
        have eF:=HQF.out
        have eG:=HRF.out
        rw [←eF,←eG,Int.natCast_add,Int.natCast_mul]
        rfl
       ·have g5:decide ((4294967296:Int)≤(rn:Int))=false:=decide_eq_false (by omega)
        have hbr2:rn<4294967296:=by omega
        clear hge HM HI hbr h1 hc
        go_wp2
        exact ⟨⟨qn,rn,rfl,rfl,by omega,by omega,HI2,trivial⟩,by simp [intOf];omega⟩
      ·have g2:decide (4294967296*(rh:Int)+(d0:Int)<(M:Int))=false:=decide_eq_false (by omega)
       have HE:=Lib.hid (show qh=q0 from kn_done (X:=r1) (d:=d0) HYY.out HI.out.1 HD0Q.out.2.2 HI.out.2 (by rw [←hM];omega))
       have hM64:M<18446744073709551616:=by rw [←hM] at hmb;omega
       rw [←hM] at hmb
       clear hM hge HI hc
       obtain rfl:=HE.out
       go_wp2
       go_ret2
       refine ⟨?_,rfl⟩
       have eF:=HQF.out
       have eG:=HRF.out
       rw [←eF,←eG,Int.natCast_add,Int.natCast_mul]
       rfl
   ·have g5:decide ((4294967296:Int)≤(rn:Int))=false:=decide_eq_false (by omega)
    have hbr2:rn<4294967296:=by omega
    clear hge HM HI hbr h1
    go_wp2
    exact ⟨⟨qn,rn,rfl,rfl,by omega,by omega,HI2,trivial⟩,by simp [intOf];omega⟩
  ·have g1:decide ((4294967296:Int)≤(qh:Int))=false:=decide_eq_false (by omega)
   have hmb:=half_mul (show qh<4294967296 by omega) HYn.out
   obtain ⟨M,hM⟩:∃ M,M=qh*yn0:=⟨_,rfl⟩
   have hMi:(qh:Int)*(yn0:Int)=(M:Int):=by rw [hM,Int.natCast_mul]
   by_cases hc:4294967296*rh+d1<M
   ·have g2:decide (4294967296*(rh:Int)+(d1:Int)<(M:Int))=true:=decide_eq_true (by omega)
    have HM:=Lib.hid (kn_more (X:=X) (d:=d1) HYY.out HI.out.1 HD1Q.out.1 HD1Q.out.2.1 (.inr (by rw [←hM];exact hc)))
    have h1:1≤qh:=by have:=HM.out;omega
    have HI2:Hid ((qh-1)*yn1+(rh+yn1)=X∧q1≤qh-1):=Lib.hid ⟨by
     have h2:=HI.out.1
     have h3:qh*yn1=(qh-1)*yn1+yn1:=by
      conv=>lhs;rw [show qh=qh-1+1 from by omega,Nat.add_mul,Nat.one_mul]
     omega,by have:=HM.out;omega⟩
    have g3:(qh:Int)-1=((qh-1:Nat):Int):=by omega
    have g4:(rh:Int)+(yn1:Int)=((rh+yn1:Nat):Int):=by omega
    have hdec:qh-1<qh:=by omega
    have hq2:qh-1≤4294967296:=by omega
    have hM64:M<18446744073709551616:=by omega
    rw [←hM] at hmb
    clear hM
    generalize qh-1=qn at *
    have hrn:rh+yn1<8589934592:=by omega
    generalize rh+yn1=rn at *
    by_cases hbr:4294967296≤rn
    ·have g5:decide ((4294967296:Int)≤(rn:Int))=true:=decide_eq_true (by omega)
     have HE:=Lib.hid (show qn=q1 from kn_done (X:=X) (d:=d1) HYY.out HI2.out.1 HD1Q.out.2.2 HI2.out.2 (by
      have h4:qn*yn0≤4294967296*4294967295:=Nat.mul_le_mul hq2 (by have:=HYn.out;omega)
      omega))
     clear hge HM HI HI2 hdec hbr h1 hc
     obtain rfl:=HE.out
     go_wp2
     go_loopw [18,16] (fun gv rv wx=>∃ qh rh:Nat,gv=.int .u64 (qh:Nat)∧rv=.int .u64 (rh:Nat)∧rh<4294967296∧qh≤4294967297∧Hid (qh*yn1+rh=r1∧q0≤qh)∧w=wx) (fun gv _ _=>(intOf gv).toNat)
     case atStart=>exact ⟨_,_,rfl,rfl,HD0.out.2.1,HD0.out.2.2,Lib.hid HD0.out.1,rfl⟩
     case round =>
      obtain ⟨qh,rh,rfl,rfl,hrh,hqh,HI,hw⟩:=hrel
      subst hw
      have hq0':=HYn.out
      by_cases hge:4294967296≤qh
      ·have g1:decide ((4294967296:Int)≤(qh:Int))=true:=decide_eq_true (by omega)
       have HM:=Lib.hid (kn_more (X:=r1) (d:=d0) HYY.out HI.out.1 HD0Q.out.1 HD0Q.out.2.1 (.inl hge))
       have h1:1≤qh:=by omega
       have HI2:Hid ((qh-1)*yn1+(rh+yn1)=r1∧q0≤qh-1):=Lib.hid ⟨by
        have h2:=HI.out.1
        have h3:qh*yn1=(qh-1)*yn1+yn1:=by
         conv=>lhs;rw [show qh=qh-1+1 from by omega,Nat.add_mul,Nat.one_mul]
        omega,by have:=HM.out;omega⟩
       have g3:(qh:Int)-1=((qh-1:Nat):Int):=by omega
       have g4:(rh:Int)+(yn1:Int)=((rh+yn1:Nat):Int):=by omega
       have hdec:qh-1<qh:=by omega
       have hq2:qh-1≤4294967296:=by omega
       generalize qh-1=qn at *
       have hrn:rh+yn1<8589934592:=by omega
       generalize rh+yn1=rn at *
       by_cases hbr:4294967296≤rn
       ·have g5:decide ((4294967296:Int)≤(rn:Int))=true:=decide_eq_true (by omega)
        have HE:=Lib.hid (show qn=q0 from kn_done (X:=r1) (d:=d0) HYY.out HI2.out.1 HD0Q.out.2.2 HI2.out.2 (by
         have h4:qn*yn0≤4294967296*4294967295:=Nat.mul_le_mul hq2 (by have:=HYn.out;omega)
         omega))
        clear hge HM HI HI2 hdec hbr h1
        obtain rfl:=HE.out
        go_wp2
        go_ret2
        refine ⟨?_,rfl⟩
        have eF:=HQF.out
        have eG:=HRF.out
        rw [←eF,←eG,Int.natCast_add,Int.natCast_mul]
        rfl
       ·have g5:decide ((4294967296:Int)≤(rn:Int))=false:=decide_eq_false (by omega)
        have hbr2:rn<4294967296:=by omega
        clear hge HM HI hbr h1
        go_wp2
        exact ⟨⟨qn,rn,rfl,rfl,by omega,by omega,HI2,trivial⟩,by simp [intOf];omega⟩
      ·have g1:decide ((4294967296:Int)≤(qh:Int))=false:=decide_eq_false (by omega)
       have hmb:=half_mul (show qh<4294967296 by omega) HYn.out
       obtain ⟨M,hM⟩:∃ M,M=qh*yn0:=⟨_,rfl⟩
       have hMi:(qh:Int)*(yn0:Int)=(M:Int):=by rw [hM,Int.natCast_mul]
       by_cases hc:4294967296*rh+d0<M
       ·have g2:decide (4294967296*(rh:Int)+(d0:Int)<(M:Int))=true:=decide_eq_true (by omega)
        have HM:=Lib.hid (kn_more (X:=r1) (d:=d0) HYY.out HI.out.1 HD0Q.out.1 HD0Q.out.2.1 (.inr (by rw [←hM];exact hc)))
        have h1:1≤qh:=by have:=HM.out;omega
        have HI2:Hid ((qh-1)*yn1+(rh+yn1)=r1∧q0≤qh-1):=Lib.hid ⟨by
         have h2:=HI.out.1
         have h3:qh*yn1=(qh-1)*yn1+yn1:=by
          conv=>lhs;rw [show qh=qh-1+1 from by omega,Nat.add_mul,Nat.one_mul]
         omega,by have:=HM.out;omega⟩
        have g3:(qh:Int)-1=((qh-1:Nat):Int):=by omega
        have g4:(rh:Int)+(yn1:Int)=((rh+yn1:Nat):Int):=by omega
        have hdec:qh-1<qh:=by omega
        have hq2:qh-1≤4294967296:=by omega
        have hM64:M<18446744073709551616:=by omega
        rw [←hM] at hmb
        clear hM
        generalize qh-1=qn at *
        have hrn:rh+yn1<8589934592:=by omega
        generalize rh+yn1=rn at *
        by_cases hbr:4294967296≤rn
        ·have g5:decide ((4294967296:Int)≤(rn:Int))=true:=decide_eq_true (by omega)
         have HE:=Lib.hid (show qn=q0 from kn_done (X:=r1) (d:=d0) HYY.out HI2.out.1 HD0Q.out.2.2 HI2.out.2 (by
          have h4:qn*yn0≤4294967296*4294967295:=Nat.mul_le_mul hq2 (by have:=HYn.out;omega)
          omega))
         clear hge HM HI HI2 hdec hbr h1 hc
         obtain rfl:=HE.out
         go_wp2
         go_ret2
         refine ⟨?_,rfl⟩
         have eF:=HQF.out
         have eG:=HRF.out
         rw [←eF,←eG,Int.natCast_add,Int.natCast_mul]
         rfl
        ·have g5:decide ((4294967296:Int)≤(rn:Int))=false:=decide_eq_false (by omega)
         have hbr2:rn<4294967296:=by omega
         clear hge HM HI hbr h1 hc
         go_wp2
         exact ⟨⟨qn,rn,rfl,rfl,by omega,by omega,HI2,trivial⟩,by simp [intOf];omega⟩
       ·have g2:decide (4294967296*(rh:Int)+(d0:Int)<(M:Int))=false:=decide_eq_false (by omega)
        have HE:=Lib.hid (show qh=q0 from kn_done (X:=r1) (d:=d0) HYY.out HI.out.1 HD0Q.out.2.2 HI.out.2 (by rw [←hM];omega))
        have hM64:M<18446744073709551616:=by rw [←hM] at hmb;omega
        rw [←hM] at hmb
        clear hM hge HI hc
        obtain rfl:=HE.out
        go_wp2
        go_ret2
        refine ⟨?_,rfl⟩
        have eF:=HQF.out
        have eG:=HRF.out
        rw [←eF,←eG,Int.natCast_add,Int.natCast_mul]
        rfl
    ·have g5:decide ((4294967296:Int)≤(rn:Int))=false:=decide_eq_false (by omega)
     have hbr2:rn<4294967296:=by omega
     clear hge HM HI hbr h1 hc
     go_wp2
     exact ⟨⟨qn,rn,rfl,rfl,by omega,by omega,HI2,trivial⟩,by simp [intOf];omega⟩
   ·have g2:decide (4294967296*(rh:Int)+(d1:Int)<(M:Int))=false:=decide_eq_false (by omega)
    have HE:=Lib.hid (show qh=q1 from kn_done (X:=X) (d:=d1) HYY.out HI.out.1 HD1Q.out.2.2 HI.out.2 (by rw [←hM];omega))
    have hM64:M<18446744073709551616:=by rw [←hM] at hmb;omega
    rw [←hM] at hmb
    clear hM hge HI hc
    obtain rfl:=HE.out
    go_wp2
    go_loopw [18,16] (fun gv rv wx=>∃ qh rh:Nat,gv=.int .u64 (qh:Nat)∧rv=.int .u64 (rh:Nat)∧rh<4294967296∧qh≤4294967297∧Hid (qh*yn1+rh=r1∧q0≤qh)∧w=wx) (fun gv _ _=>(intOf gv).toNat)
    case atStart=>exact ⟨_,_,rfl,rfl,HD0.out.2.1,HD0.out.2.2,Lib.hid HD0.out.1,rfl⟩
    case round =>
     obtain ⟨qh,rh,rfl,rfl,hrh,hqh,HI,hw⟩:=hrel
     subst hw
     have hq0':=HYn.out
     by_cases hge:4294967296≤qh
     ·have g1:decide ((4294967296:Int)≤(qh:Int))=true:=decide_eq_true (by omega)
      have HM:=Lib.hid (kn_more (X:=r1) (d:=d0) HYY.out HI.out.1 HD0Q.out.1 HD0Q.out.2.1 (.inl hge))
      have h1:1≤qh:=by omega
      have HI2:Hid ((qh-1)*yn1+(rh+yn1)=r1∧q0≤qh-1):=Lib.hid ⟨by
       have h2:=HI.out.1
       have h3:qh*yn1=(qh-1)*yn1+yn1:=by
        conv=>lhs;rw [show qh=qh-1+1 from by omega,Nat.add_mul,Nat.one_mul]
       omega,by have:=HM.out;omega⟩
      have g3:(qh:Int)-1=((qh-1:Nat):Int):=by omega
      have g4:(rh:Int)+(yn1:Int)=((rh+yn1:Nat):Int):=by omega
      have hdec:qh-1<qh:=by omega
      have hq2:qh-1≤4294967296:=by omega
      generalize qh-1=qn at *
      have hrn:rh+yn1<8589934592:=by omega
      generalize rh+yn1=rn at *
      by_cases hbr:4294967296≤rn
      ·have g5:decide ((4294967296:Int)≤(rn:Int))=true:=decide_eq_true (by omega)
       have HE:=Lib.hid (show qn=q0 from kn_done (X:=r1) (d:=d0) HYY.out HI2.out.1 HD0Q.out.2.2 HI2.out.2 (by
        have h4:qn*yn0≤4294967296*4294967295:=Nat.mul_le_mul hq2 (by have:=HYn.out;omega)
        omega))
       clear hge HM HI HI2 hdec hbr h1
       obtain rfl:=HE.out
       go_wp2
       go_ret2
       refine ⟨?_,rfl⟩
       have eF:=HQF.out
       have eG:=HRF.out
       rw [←eF,←eG,Int.natCast_add,Int.natCast_mul]
       rfl
      ·have g5:decide ((4294967296:Int)≤(rn:Int))=false:=decide_eq_false (by omega)
       have hbr2:rn<4294967296:=by omega
       clear hge HM HI hbr h1
       go_wp2
       exact ⟨⟨qn,rn,rfl,rfl,by omega,by omega,HI2,trivial⟩,by simp [intOf];omega⟩
     ·have g1:decide ((4294967296:Int)≤(qh:Int))=false:=decide_eq_false (by omega)
      have hmb:=half_mul (show qh<4294967296 by omega) HYn.out
      obtain ⟨M,hM⟩:∃ M,M=qh*yn0:=⟨_,rfl⟩
      have hMi:(qh:Int)*(yn0:Int)=(M:Int):=by rw [hM,Int.natCast_mul]
      by_cases hc:4294967296*rh+d0<M
      ·have g2:decide (4294967296*(rh:Int)+(d0:Int)<(M:Int))=true:=decide_eq_true (by omega)
       have HM:=Lib.hid (kn_more (X:=r1) (d:=d0) HYY.out HI.out.1 HD0Q.out.1 HD0Q.out.2.1 (.inr (by rw [←hM];exact hc)))
       have h1:1≤qh:=by have:=HM.out;omega
       have HI2:Hid ((qh-1)*yn1+(rh+yn1)=r1∧q0≤qh-1):=Lib.hid ⟨by
        have h2:=HI.out.1
        have h3:qh*yn1=(qh-1)*yn1+yn1:=by
         conv=>lhs;rw [show qh=qh-1+1 from by omega,Nat.add_mul,Nat.one_mul]
        omega,by have:=HM.out;omega⟩
       have g3:(qh:Int)-1=((qh-1:Nat):Int):=by omega
       have g4:(rh:Int)+(yn1:Int)=((rh+yn1:Nat):Int):=by omega
       have hdec:qh-1<qh:=by omega
       have hq2:qh-1≤4294967296:=by omega
       have hM64:M<18446744073709551616:=by omega
       rw [←hM] at hmb
       clear hM
       generalize qh-1=qn at *
       have hrn:rh+yn1<8589934592:=by omega
       generalize rh+yn1=rn at *
       by_cases hbr:4294967296≤rn
       ·have g5:decide ((4294967296:Int)≤(rn:Int))=true:=decide_eq_true (by omega)
        have HE:=Lib.hid (show qn=q0 from kn_done (X:=r1) (d:=d0) HYY.out HI2.out.1 HD0Q.out.2.2 HI2.out.2 (by
         have h4:qn*yn0≤4294967296*4294967295:=Nat.mul_le_mul hq2 (by have:=HYn.out;omega)
         omega))
        clear hge HM HI HI2 hdec hbr h1 hc
        obtain rfl:=HE.out
        go_wp2
        go_ret2
        refine ⟨?_,rfl⟩
        have eF:=HQF.out
        have eG:=HRF.out
        rw [←eF,←eG,Int.natCast_add,Int.natCast_mul]
        rfl
       ·have g5:decide ((4294967296:Int)≤(rn:Int))=false:=decide_eq_false (by omega)
        have hbr2:rn<4294967296:=by omega
        clear hge HM HI hbr h1 hc
        go_wp2
        exact ⟨⟨qn,rn,rfl,rfl,by omega,by omega,HI2,trivial⟩,by simp [intOf];omega⟩
      ·have g2:decide (4294967296*(rh:Int)+(d0:Int)<(M:Int))=false:=decide_eq_false (by omega)
       have HE:=Lib.hid (show qh=q0 from kn_done (X:=r1) (d:=d0) HYY.out HI.out.1 HD0Q.out.2.2 HI.out.2 (by rw [←hM];omega))
       have hM64:M<18446744073709551616:=by rw [←hM] at hmb;omega
       rw [←hM] at hmb
       clear hM hge HI hc
       obtain rfl:=HE.out
       go_wp2
       go_ret2
       refine ⟨?_,rfl⟩
       have eF:=HQF.out
       have eG:=HRF.out
       rw [←eF,←eG,Int.natCast_add,Int.natCast_mul]
       rfl
set_option maxRecDepth 100000 in
set_option maxHeartbeats 1000000 in
theorem wide_times (w:World) (x y hi lo:Nat) (hx:x<18446744073709551616) (hy:y<18446744073709551616) (hhi:x*y / 18446744073709551616=hi) (hlo:x*y % 18446744073709551616=lo) :
 Calls Tryz.prog 205 #[.int .u64 x,.int .u64 y] w fun e w'=>e=.returned (.agg #[.int .u64 hi,.int .u64 lo])∧Chg [] w w':=by
 have HM:=Lib.hid (bits_mul (w.alloc (.cells #[.int .u64 0,.int .u64 0] 302)) x y hx hy)
 rw [hhi,hlo] at HM
 have hc:=(Chg.refl [] w).alloc (.cells #[.int .u64 0,.int .u64 0] 302)
 have hbx:=Blk.alloc_new w #[.int .u64 0,.int .u64 0] 302
 go_enter Tryz.func205,Tryz.ntmps205
 go_wp2_with fail
 refine HM.out.mono ?_
 rintro e w1 ⟨rfl,rfl⟩
 clear HM hhi hlo
 go_wp2
 have hb:=Blk.alloc_new w #[.int .u64 hi,.int .u64 lo] 302
 have z0:=hb.cell 0
 have z1:=hb.cell 1
 refine bodyPost_ret (v:=.agg #[.int .u64 hi,.int .u64 lo]) (by simp [results,Tryz.results205,go_sem,z0,z1]) rfl ⟨rfl,(Chg.refl [] w).alloc _⟩
def overV (n y:Nat):Value:=if n<y*18446744073709551616 then .tuple #[.int .u64 (n / y:Nat),.int .u64 (n % y:Nat),.bool true] else .tuple #[.int .u64 0,.int .u64 0,.bool false]
set_option maxRecDepth 100000 in
set_option maxHeartbeats 1000000 in
theorem wide_over (w:World) (hi lo y n:Nat) (hn:hi*18446744073709551616+lo=n) (hh:hi<18446744073709551616) (hl:lo<18446744073709551616) (hy:y<18446744073709551616) :
 Calls Tryz.prog 204 #[.agg #[.int .u64 hi,.int .u64 lo],.int .u64 y] w fun e w'=>e=.returned (overV n y)∧Chg [] w w':=by
 have hc:=(Chg.refl [] w).alloc (.cells #[.int .u64 hi,.int .u64 lo] 302)
 have hbx:=Blk.alloc_new w #[.int .u64 hi,.int .u64 lo] 302
 have c0:=hbx.cell 0
 have c1:=hbx.cell 1
 by_cases hlt:y≤hi
 ·have HV:=Lib.hid (show overV n y=.tuple #[.int .u64 0,.int .u64 0,.bool false] from if_neg (by
   have:=Nat.mul_le_mul_right 18446744073709551616 hlt
   omega))
  have hd:decide (y≤hi)=true:=decide_eq_true hlt
  clear hn
  go_enter Tryz.func204,Tryz.ntmps204
  go_wp2
  go_ret3
  rw [HV.out]
  exact ⟨rfl,hc⟩
 ·have HV:=Lib.hid (show overV n y=.tuple #[.int .u64 (n / y:Nat),.int .u64 (n % y:Nat),.bool true] from if_pos (by
   have:=Nat.mul_le_mul_right 18446744073709551616 (show hi+1≤y by omega)
   omega))
  have hd:decide (y≤hi)=false:=decide_eq_false hlt
  have HD:Hid (Calls Tryz.prog 231 #[.int .u64 hi,.int .u64 lo,.int .u64 y] (w.alloc (.cells #[.int .u64 hi,.int .u64 lo] 302)) fun e w'=>e=.returned (.tuple #[.int .u64 (n / y:Nat),.int .u64 (n % y:Nat)])∧Chg [] (w.alloc (.cells #[.int .u64 hi,.int .u64 lo] 302)) w'):=by
   by_cases h0:hi=0
   ·subst h0
    have hnl:n=lo:=by omega
    rw [hnl]
    exact Lib.hid (bits_div_small _ lo y hl hy (by omega))
   ·exact Lib.hid ((bits_div _ hi lo y n hn hl hy (by omega) (by omega)).mono fun e w' h=>⟨h.1,h.2 ▸ Chg.refl _ _⟩)
  generalize n / y=q at *
  generalize n % y=r at *
  go_enter Tryz.func204,Tryz.ntmps204
  go_wp2_with fail
  refine HD.out.mono ?_
  rintro e w1 ⟨rfl,hc1⟩
  go_wp2
  go_ret3
  rw [HV.out]
  exact ⟨rfl,hc.trans hc1⟩
end Go.Proofs.YthoolcpcmhhkpaaGreatDoor
