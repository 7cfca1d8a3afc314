/-
  Parts of a proof, pressed. Conditions: the form's own reach.
-/
import Derived.Test.YthoolcpcmhhkpaaGreatDoorSuiteConfigsB11
import Derived.Test.YthoolcpcmhhkpaaGreatDoorSuiteConfigsB13
import Derived.Test.YthoolcpcmhhkpaaGreatDoorSuiteConfigsB5
namespace Go.Proofs.YthoolcpcmhhkpaaGreatDoor
open Go.RowKit
def pressFrame (p:Nat) (f:Nat→Value):Act:=
 { tmps:=#[.pointer (some ⟨p,0,none⟩),f 1,f 2,f 3,f 4,f 5,f 6,f 7,f 8,f 9,f 10,f 11,f 12,f 13,f 14,f 15,f 16,f 17,f 18,f 19,f 20,f 21,f 22,f 23,f 24,f 25,f 26,f 27,f 28,f 29,f 30,f 31,f 32,f 33,f 34,f 35,f 36,f 37,f 38,f 39,f 40,f 41,f 42,f 43,f 44,f 45,f 46,f 47,f 48,f 49,f 50,f 51,f 52,f 53,f 54,f 55,f 56,f 57,f 58,f 59,f 60,f 61,f 62,f 63,f 64,f 65,f 66,f 67,f 68,f 69,f 70,f 71,f 72,f 73,f 74,f 75,f 76,f 77,f 78,f 79,f 80,f 81,f 82,f 83,f 84,f 85,f 86,f 87,f 88,f 89,f 90,f 91,f 92,f 93,f 94,f 95,f 96,f 97,f 98,f 99,f 100,f 101,f 102,f 103,f 104,f 105],defers:=[] }
structure PressAt (w:World) (F0:List Nat) (p m:Nat) (most:Int) (l:List Lp) (wr:World) (l2:List Lp) (ao:Option Addr) (n c:Nat):Prop where
 at_:Lms wr p (.slice ao n c) most l2 (totL l)
 len:n=l2.length
 few:n≤1000
 rises:risesL l2
 tot:totL l2=totL l
 same:pressL m l2=pressL m l
 mv:Mv F0 w (fpL p (.slice ao n c)) wr
def pressJ (w:World) (F0:List Nat) (p m:Nat) (most:Int) (l:List Lp):Nat→Act→World→Prop
 | 0,a,wr=>∃ l2 ao n c,PressAt w F0 p m most l wr l2 ao n c∧a=pressFrame p (fun k=>a.tmps.getD k undef)
 | _,_,_=>False
def pressM (p:Nat):Nat→Act→World→Nat
 | _,_,wr=>match wr.cell? ⟨p,1,none⟩ with
   | some (.slice _ n _)=>n
   | _=>0
theorem pressM_at {w:World} {F0:List Nat} {p m:Nat} {most:Int} {l:List Lp} {wr:World} {l2:List Lp} {ao:Option Addr} {n c:Nat} (h:PressAt w F0 p m most l wr l2 ao n c) (k:Nat) (a:Act):pressM p k a wr=n:=by
 simp only [pressM,h.at_.cells.2.1]
def PressQ (w:World) (F0:List Nat) (p m:Nat) (most:Int) (l:List Lp) (e:Ending) (w':World):Prop:=
 e=.returned (.tuple #[])∧∃ a2 c2,Lms w' p (.slice a2 (pressL m l).length c2) most (pressL m l) (totL l)∧Mv F0 w (fpL p (.slice a2 (pressL m l).length c2)) w'
set_option maxRecDepth 100000 in
set_option maxHeartbeats 4000000 in
theorem lump_press (w:World) (p:Nat) (ao:Option Addr) (cap n:Nat) (most:Int) (l:List Lp) (hn:n=l.length) (ht:Lms w p (.slice ao n cap) most l (totL l)) (hr:risesL l) (hl:n≤1000) (m:Nat) (hm:most=(m:Int)) (hm1:1≤m) (htl:totL l<9223372036854775808) :
 Calls Tryz.prog 189 #[.pointer (some ⟨p,0,none⟩)] w fun e w'=>PressQ w (fpL p (.slice ao n cap)) p m most l e w':=by
 have h0:PressAt w (fpL p (.slice ao n cap)) p m most l w l ao n cap:=⟨ht,hn,hl,hr,rfl,rfl,Mv.refl _ _⟩
 generalize fpL p (.slice ao n cap)=F0 at *
 have HM:=Lib.hid (And.intro hm hm1)
 clear ht hn hr hl hm hm1
 go_enter Tryz.func189,Tryz.ntmps189
 go_wp2
 refine (fun pass=>wp_scope_labels (pressJ w F0 p m most l) (pressM p) ?_ pass) ?_
 ·go_wp2
  rename_i K hK
  refine wp_label (hK _ _ ?_)
  obtain ⟨R,hf,hp⟩:=pass 0 (pressFrame p (fun _=>undef)) w ⟨l,ao,n,cap,h0,rfl⟩
  obtain rfl:=(Code.seq.inj (Option.some.inj hf)).2
  refine wp_mono hp (fun ex a1 w1 hq => ?_)
  cases ex<;>first|exact hq.1|exact hq
 ·intro lb a wr hJ
  match lb with
  | n+1=>exact hJ.elim
  | 0 =>
    clear h0
    obtain ⟨l2,ao2,n2,c2,hat,ha⟩:=hJ
    generalize (fun k=>a.tmps.getD k undef)=f at ha
    have hM0:=pressM_at hat 0 a
    rw [hM0]
    subst ha
    refine ⟨_,rfl,?_⟩
    have HAT:=Lib.hid hat
    obtain ⟨q0,q1,q2⟩:=hat.at_.cells
    clear hat hM0
    unfold pressFrame
    by_cases hle:(n2:Int)≤most
    ·have d1:decide ((n2:Int)≤most)=true:=decide_eq_true hle
     have HLE:=Lib.hid hle
     clear hle
     go_wp2_with fail
     go_quiet (fail)
     have HW0:=Lib.hid (show Chg [] wr (wr.drewN nq) from (Chg.refl [] wr).drewN nq)
     go_wp2_with fail
     refine bodyPost_ret (results_none rfl _ _ _) rfl ?_
     have hh:=HAT.out
     have he:pressL m l=l2:=by rw [←hh.same,pressL_few (by have h1:=HM.out.1;have h2:=hh.len;have h3:=HLE.out;omega)]
     have HA2:=hh.at_.chg HW0.out (by simp)
     refine ⟨rfl,ao2,c2,?_,?_⟩
     ·rw [he,←hh.len];exact HA2
     ·rw [he,←hh.len];exact hh.mv.trans (Mv.of_chg (HW0.out.mono (by simp)))
    ·have d1:decide ((n2:Int)≤most)=false:=decide_eq_false hle
     have hmn:m<n2:=by have:=HM.out.1;omega
     clear hle
     go_wp2_with fail
     go_quiet (fail)
     have HW0:=Lib.hid (show Chg [] wr (wr.drewN nq) from (Chg.refl [] wr).drewN nq)
     have hn2:1<n2:=by have:=HM.out.2;omega
     have HMN:=Lib.hid hmn
     have hn3:=HAT.out.few
     have hH:=HAT.out.at_.chg HW0.out (by simp)
     have HMV:=Lib.hid (HAT.out.mv.trans (Mv.of_chg (HW0.out.mono (by simp):Chg (fpL p (.slice ao2 n2 c2)) _ _)))
     clear hmn q0 q1 q2 d1
     obtain ⟨T,hT⟩:∃ T,T=totL l:=⟨_,rfl⟩
     have HTT:=Lib.hid (show T=totL l2 from by rw [hT,HAT.out.tot])
     rw [←hT] at hH htl
     have HT0:=Lib.hid hT
     have HNL:=Lib.hid HAT.out.len
     have HH:=Lib.hid hH
     clear hT
     obtain ⟨g,o,rfl⟩:∃ g o,ao2=some ⟨g,o,none⟩:=by
      obtain ⟨b,o,h,-⟩:=(hH.own.rd.of_len HNL.out).addr (by omega)
      exact ⟨b,o,h⟩
     clear hH HW0
     generalize wr.drewN nq=w1 at *
     have hH2:=HH.out.chg ((Chg.refl [] w1).alloc (.cells #[.int .u64 0,.int .u64 0] 25)) (by simp)
     obtain ⟨q0,q1,q2⟩:=hH2.cells
     have HH2:=Lib.hid hH2
     clear hH2
     obtain ⟨b2,hb2⟩:∃ z,z=w1.heap.size:=⟨_,rfl⟩
     have HB2:=Lib.hid (show Blk (w1.alloc (.cells #[.int .u64 0,.int .u64 0] 25)) b2 #[.int .u64 0,.int .u64 0] 25 from by rw [hb2];exact Blk.alloc_new _ _ _)
     have HC2:=Lib.hid ((Chg.refl [] w1).alloc (.cells #[.int .u64 0,.int .u64 0] 25))
     have HBL:=Lib.hid (show w1.heap.size≤b2 from by omega)
     have HNF:=Lib.hid (show ∀ b∈fpL p (.slice (some ⟨g,o,none⟩) n2 c2),b∉[b2] from fun b hb=>by have:=HH.out.lt b hb;simp;omega)
     obtain ⟨n1,hn1⟩:∃ z,z=n2-1:=⟨_,rfl⟩
     have hww:(n2:Int)-1=(n1:Int):=by omega
     have hn12:n1+1=n2:=by omega
     clear hn1
     go_wp2_with fail
     rw [←hb2]
     clear hb2 hww q0 q1 q2 HH
     generalize w1.alloc (.cells #[.int .u64 0,.int .u64 0] 25)=w2 at *
     have HPR:=Lib.hid (fun k (hk:k<n1)=>show totL (l2.take k)+pairN l2 k+totL (l2.drop (k+2))=T from by rw [HTT.out];exact pairN_le l2 k (by have:=HNL.out;omega))
     have HAH:=Lib.hid (fun k (hk:k≤n1)=>show (scanL l2 T k).ahead=totL (l2.take k) from scanL_ahead l2 T k (by have:=HNL.out;omega))
     go_loopw [3,4,26] (fun x y i wx=>∃ (k:Nat) (S:Sc),k≤n1∧i=.int .i64 (k:Nat)∧x=.int .i64 S.at_∧y=.int .u64 (S.ahead:Nat)∧Hid (S=scanL l2 T k)∧Blk wx b2 #[.int .u64 (S.num:Nat),.int .u64 (S.den:Nat)] 25∧Chg [b2] w2 wx) (fun _ _ i _=>n1-(intOf i).toNat)
     case atStart=>exact ⟨0,⟨0,0,-1,0⟩,Nat.zero_le _,rfl,rfl,rfl,Lib.hid rfl,HB2.out,Chg.refl _ _⟩
     case round =>
      obtain ⟨k,S,hk,rfl,rfl,rfl,HS,hbb,hch⟩:=hrel
      by_cases hlt:k<n1
      ·obtain ⟨N,hN⟩:∃ z,z=pairN l2 k:=⟨_,rfl⟩
       obtain ⟨DD,hDD⟩:∃ z,z=costD T S.ahead N:=⟨_,rfl⟩
       have h1:=HPR.out k hlt
       have h2:=HAH.out k (by omega)
       rw [←HS.out] at h2
       rw [←h2,←hN] at h1
       have hkl:k<l2.length:=by have:=HNL.out;omega
       have hsc:=scanL_le l2 k (by have:=HNL.out;omega)
       rw [←HTT.out,←HS.out] at hsc
       have HSB:=Lib.hid hsc
       have hat:=(scanL_at l2 T k).1
       rw [←HS.out] at hat
       have HST:=Lib.hid (show scanL l2 T (k+1)=if betterS S N DD then ⟨N,DD,k,S.ahead+l2[k].n⟩ else ⟨S.num,S.den,S.at_,S.ahead+l2[k].n⟩ from by
        rw [scanL,←HS.out,hDD,hN]
        simp [List.getD,hkl])
       have hx2:S.ahead+l2[k].n≤T:=by
        have h3:=HAH.out (k+1) (by omega)
        rw [HST.out] at h3
        have h4:=totL_take_le l2 (k+1)
        rw [←HTT.out] at h4
        have h5:S.ahead+l2[k].n=totL (l2.take (k+1)):=by
         rw [←h3];split<;>rfl
        omega
       have hL:=HH2.out.chg hch HNF.out
       have HCO:=Lib.hid (lump_cost wr p (some ⟨g,o,none⟩) c2 n2 most l2 HNL.out T hL hn3 k (by omega) S.ahead (by omega) htl N DD hN hDD)
       have HB:=Lib.hid hbb
       have HCH:=Lib.hid hch
       have hND:N<9223372036854775808∧DD<9223372036854775809∧0<DD:=by
        rw [hDD]
        unfold costD
        omega
       obtain ⟨hND1,hND2,hND3⟩:=hND
       have hsa:S.ahead<9223372036854775808:=by omega
       have HIX:=Lib.hid (fun wx (hu:Chg [b2] w2 wx)=>show wx.cell? ⟨p,1,none⟩=some (.slice (some ⟨g,o,none⟩) n2 c2)∧wx.cell? ⟨g,o+k*3,none⟩=some (.int .u64 (l2[k].n:Nat)) from by
        have hL:=HH2.out.chg hu HNF.out
        refine ⟨hL.cells.2.1,?_⟩
        rw [hL.own.cells (k*3) (by have:=HNL.out;omega)]
        have t:=lpCells_get l2 k 0 hkl (by omega)
        simpa [Lp.cells] using t)
       generalize l2[k]=q at *
       clear hN hDD h1 h2 hL hbb hsc hch
       have hk0:(0:Int)≤(k:Int):=by omega
       have hk1:(k:Int)<(n2:Int):=by omega
       go_wp2_with fail
       refine HCO.out.mono ?_
       rintro e wq ⟨rfl,hc⟩
       have HC:=Lib.hid (HCH.out.trans (hc.nil (F:=[b2])))
       have HBC:=Lib.hid (HB.out.chg hc (by simp))
       clear hc HCO HB HCH
       obtain ⟨b6,hb6⟩:∃ z,z=wq.heap.size:=⟨_,rfl⟩
       have HB6:=Lib.hid (show Blk (wq.alloc (.cells #[.int .u64 (N:Nat),.int .u64 (DD:Nat)] 25)) b6 #[.int .u64 (N:Nat),.int .u64 (DD:Nat)] 25 from by rw [hb6];exact Blk.alloc_new _ _ _)
       have HC6:=Lib.hid (HC.out.alloc (.cells #[.int .u64 (N:Nat),.int .u64 (DD:Nat)] 25))
       have HBC6:=Lib.hid (HBC.out.alloc (.cells #[.int .u64 (N:Nat),.int .u64 (DD:Nat)] 25))
       have h62:b6≠b2:=by have:=HBC.out.lt;omega
       have HB6X:=Lib.hid HB6.out
       have HRG:=Lib.hid (HSB.out)
       have y0:=HBC6.out.cell 0
       have y1:=HBC6.out.cell 1
       simp only [List.getElem?_toArray,List.getElem?_cons_zero,List.getElem?_cons_succ] at y0 y1
       have y2:=HBC6.out.free 0
       have y3:=HBC6.out.free 1
       have HC8:=Lib.hid ((HC6.out.setCell (a:=⟨b2,0,none⟩) (.inl (by simp)) (.int .u64 (N:Nat))).setCell (a:=⟨b2,1,none⟩) (.inl (by simp)) (.int .u64 (DD:Nat)))
       have HB8:=Lib.hid ((HBC6.out.setCell 0 (.int .u64 (N:Nat))).setCell 1 (.int .u64 (DD:Nat)))
       obtain ⟨y4,y5⟩:=HIX.out _ HC8.out
       obtain ⟨y6,y7⟩:=HIX.out _ HC6.out
       clear HBC HC hsa
       by_cases hneg:S.at_<0
       ·have d2:decide (S.at_<0)=true:=decide_eq_true hneg
        have HX:=Lib.hid (show scanL l2 T (k+1)=⟨N,DD,k,S.ahead+q.n⟩ from by rw [HST.out,if_pos (by simp [betterS,hneg])])
        clear hneg HST hND1 hND2
        go_wp2_with fail
        exact ⟨⟨k+1,⟨N,DD,k,S.ahead+q.n⟩,by omega,by go_num,rfl,by go_num,Lib.hid HX.out.symm,HB8.out,HC8.out⟩,by simp [intOf];omega⟩
       ·have d2:decide (S.at_<0)=false:=decide_eq_false hneg
        have hk0:0<k:=by
         rcases Nat.eq_zero_or_pos k with h0|h0
         ·exfalso
          subst h0
          have h1:=HS.out
          rw [scanL] at h1
          rw [h1] at hneg
          exact hneg (by decide)
         ·exact h0
        obtain ⟨B,hB⟩:∃ B,B=decide (N*S.den<S.num*DD):=⟨_,rfl⟩
        have HLS:=Lib.hid (fun u=>wide_less u N DD S.num S.den (by omega) (by have:=HRG.out;omega) (by have:=HRG.out;omega) (by have:=HRG.out;omega) hND3 (HRG.out.2.2 hk0) B hB)
        have HX:=Lib.hid (show scanL l2 T (k+1)=if B then ⟨N,DD,k,S.ahead+q.n⟩ else ⟨S.num,S.den,S.at_,S.ahead+q.n⟩ from by
         rw [HST.out]
         simp only [betterS,decide_eq_false hneg,Bool.false_or,←hB])
        clear hneg HST hB hk0 hND1 hND2
        clear y2 y3 y4 y5 y6 y7 HC8 HB8
        go_wp2_with fail
        refine (HLS.out _).mono ?_
        rintro e wd ⟨rfl,hd⟩
        clear y0 y1 HB6 HLS
        have HC9:=Lib.hid (HC6.out.trans (hd.nil (F:=[b2])))
        have HB9:=Lib.hid (HBC6.out.chg hd (by simp))
        have y2:=HB9.out.free 0
        have y3:=HB9.out.free 1
        have y0:=HB9.out.cell 0
        have y1:=HB9.out.cell 1
        simp only [List.getElem?_toArray,List.getElem?_cons_zero,List.getElem?_cons_succ] at y0 y1
        have z0:=(HB6X.out.chg hd (by simp)).cell 0
        have z1:=(HB6X.out.chg hd (by simp)).cell 1
        simp only [List.getElem?_toArray,List.getElem?_cons_zero,List.getElem?_cons_succ] at z0 z1
        rw [←hb6]
        clear hd HC6 HBC6 hb6 HB6X
        obtain ⟨y6,y7⟩:=HIX.out _ HC9.out
        cases B with
        | true =>
          have HC8:=Lib.hid ((HC9.out.setCell (a:=⟨b2,0,none⟩) (.inl (by simp)) (.int .u64 (N:Nat))).setCell (a:=⟨b2,1,none⟩) (.inl (by simp)) (.int .u64 (DD:Nat)))
          have HB8:=Lib.hid ((HB9.out.setCell 0 (.int .u64 (N:Nat))).setCell 1 (.int .u64 (DD:Nat)))
          obtain ⟨y4,y5⟩:=HIX.out _ HC8.out
          go_wp2_with fail
          exact ⟨⟨k+1,⟨N,DD,k,S.ahead+q.n⟩,by omega,by go_num,rfl,by go_num,Lib.hid HX.out.symm,HB8.out,HC8.out⟩,by simp [intOf];omega⟩
        | false =>
          go_wp2_with fail
          exact ⟨⟨k+1,⟨S.num,S.den,S.at_,S.ahead+q.n⟩,by omega,by go_num,rfl,by go_num,Lib.hid HX.out.symm,HB9.out,HC9.out⟩,by simp [intOf];omega⟩
      ·obtain rfl:k=n1:=by omega
       obtain ⟨t,ht⟩:∃ z,z=atL l2:=⟨_,rfl⟩
       have hSt:S.at_=(t:Int):=by
        rw [HS.out,HTT.out,show k=l2.length-1 from by have:=HNL.out;omega,ht]
        exact atL_eq (by have:=HNL.out;omega)
       have htl2:t+1<n2:=by rw [ht,HNL.out];exact atL_lt (by have:=HNL.out;omega)
       have HL:=Lib.hid (HH2.out.chg hch HNF.out)
       have HTA:=Lib.hid ht
       obtain ⟨qa,hqa⟩:∃ z,z=l2[t]'(by have:=HNL.out;omega):=⟨_,rfl⟩
       obtain ⟨t1,ht1⟩:∃ z,z=t+1:=⟨_,rfl⟩
       obtain ⟨t2,ht2⟩:∃ z,z=t+2:=⟨_,rfl⟩
       obtain ⟨qb,hqb⟩:∃ z,z=l2[t1]'(by have:=HNL.out;omega):=⟨_,rfl⟩
       have HQ:=Lib.hid (show l2.getD t default=qa∧l2.getD (t+1) default=qb from by
        rw [hqa,hqb]
        simp only [ht1]
        have:=HNL.out
        exact ⟨by simp [List.getD,show t<l2.length by omega],by simp [List.getD,show t+1<l2.length by omega]⟩)
       have HS10:=Lib.hid (fun wx (hu:Chg [] wr wx)=>show wx.cell? ⟨p,1,none⟩=some (.slice (some ⟨g,o,none⟩) n2 c2)∧wx.cell? ⟨g,o+t*3,none⟩=some (.int .u64 (qa.n:Nat))∧wx.cell? ⟨g,o+t*3+1,none⟩=some (.int .i64 qa.lo)∧wx.cell? ⟨g,o+t*3+2,none⟩=some (.int .i64 qa.hi)∧wx.cell? ⟨g,o+t1*3,none⟩=some (.int .u64 (qb.n:Nat))∧wx.cell? ⟨g,o+t1*3+1,none⟩=some (.int .i64 qb.lo)∧wx.cell? ⟨g,o+t1*3+2,none⟩=some (.int .i64 qb.hi) from by
        have hl:=HL.out.chg hu (by simp)
        have h1:=lp_at (l:=l2) (k:=t) (fun j hj=>hl.own.cells j hj) (by have:=HNL.out;omega)
        have h2:=lp_at (l:=l2) (k:=t1) (fun j hj=>hl.own.cells j hj) (by have:=HNL.out;omega)
        rw [←hqa] at h1
        rw [←hqb] at h2
        exact ⟨hl.cells.2.1,h1.1,h1.2.1,h1.2.2,h2.1,h2.2.1,h2.2.2⟩)
       have htw:IntKind.i64.wrap ((t:Int)+1)=(t1:Int):=by rw [ht1,IntWalk.i64_in _ (by omega)];push_cast;rfl
       have htw2:IntKind.i64.wrap ((t:Int)+2)=(t2:Int):=by rw [ht2,IntWalk.i64_in _ (by omega)];push_cast;rfl
       have hi0:(0:Int)≤(t:Int):=by omega
       have hi1:(t:Int)<(n2:Int):=by omega
       have hi2:(0:Int)≤(t1:Int):=by omega
       have hi3:(t1:Int)<(n2:Int):=by omega
       have HT12:=Lib.hid (And.intro ht1 ht2)
       rw [hSt]
       have HCH:=Lib.hid hch
       clear ht hqa hqb hSt HH2 hch hbb HS HPR HAH hlt hk ht1 ht2
       go_wp2_with fail
       go_cut [7,8] (fun x y wx=>∃ bA bB,x=.pointer (some ⟨bA,0,none⟩)∧y=.pointer (some ⟨bB,0,none⟩)∧Hid (Blk wx bA #[.int .u64 (qa.n:Nat),.int .i64 qa.lo,.int .i64 qa.hi] 213∧Blk wx bB #[.int .u64 (qb.n:Nat),.int .i64 qb.lo,.int .i64 qb.hi] 213∧bA≠bB∧wr.heap.size≤bA∧wr.heap.size≤bB∧Chg [] wr wx))
       case first =>
        have HCW:=Lib.hid ((Chg.refl [] wr).drew)
        have hSS:=HS10.out _ HCW.out
        refine startN (S:=fun wx=>wx.cell? ⟨p,1,none⟩=some (.slice (some ⟨g,o,none⟩) n2 c2)∧wx.cell? ⟨g,o+t*3,none⟩=some (.int .u64 (qa.n:Nat))∧wx.cell? ⟨g,o+t*3+1,none⟩=some (.int .i64 qa.lo)∧wx.cell? ⟨g,o+t*3+2,none⟩=some (.int .i64 qa.hi)∧wx.cell? ⟨g,o+t1*3,none⟩=some (.int .u64 (qb.n:Nat))∧wx.cell? ⟨g,o+t1*3+1,none⟩=some (.int .i64 qb.lo)∧wx.cell? ⟨g,o+t1*3+2,none⟩=some (.int .i64 qb.hi)) (by kernel_rfl) hSS (fun hHeld => ?_)
        refine takeN (i:=0) (v:=?va0) rfl (by kernel_rfl) (by kernel_rfl) (by kernel_rfl) (fun _ _ _ h=>h) (Or.inl ⟨by rfl,?ya0⟩) hSS ?ra0
        case ya0=>(intro w hSw;(try dsimp only at hSw);go_simp;first|done|with_reducible rfl)
        try simp only [Act.put,jI,jZ,jS]
        refine takeN (i:=1) (v:=?va1) rfl (by kernel_rfl) (by kernel_rfl) (by kernel_rfl) (fun _ _ _ h=>h) (Or.inl ⟨by rfl,?ya1⟩) hSS ?ra1
        case ya1=>(intro w hSw;(try dsimp only at hSw);go_simp;first|done|with_reducible rfl)
        try simp only [Act.put,jI,jZ,jS]
        refine takeN (i:=2) (v:=?va2) rfl (by kernel_rfl) (by kernel_rfl) (by kernel_rfl) (fun _ _ _ h=>h) (Or.inl ⟨by rfl,?ya2⟩) hSS ?ra2
        case ya2=>(intro w hSw;(try dsimp only at hSw);go_simp;first|done|with_reducible rfl)
        try simp only [Act.put,jI,jZ,jS]
        refine takeN (i:=3) (v:=?va3) rfl (by kernel_rfl) (by kernel_rfl) (by kernel_rfl) (fun _ _ _ h=>h) (Or.inl ⟨by rfl,?ya3⟩) hSS ?ra3
        case ya3=>(intro w hSw;(try dsimp only at hSw);go_simp;first|done|with_reducible rfl)
        try simp only [Act.put,jI,jZ,jS]
        refine takeN (i:=4) (v:=?va4) rfl (by kernel_rfl) (by kernel_rfl) (by kernel_rfl) (fun _ _ _ h=>h) (Or.inl ⟨by rfl,?ya4⟩) hSS ?ra4
        case ya4=>(intro w hSw;(try dsimp only at hSw);go_simp;first|done|with_reducible rfl)
        try simp only [Act.put,jI,jZ,jS]
        refine takeN (i:=5) (v:=?va5) rfl (by kernel_rfl) (by kernel_rfl) (by kernel_rfl) (fun _ _ _ h=>h) (Or.inl ⟨by rfl,?ya5⟩) hSS ?ra5
        case ya5=>(intro w hSw;(try dsimp only at hSw);go_simp;first|done|with_reducible rfl)
        try simp only [Act.put,jI,jZ,jS]
        refine takeN (i:=6) (v:=?va6) rfl (by kernel_rfl) (by kernel_rfl) (by kernel_rfl) (fun _ _ _ h=>h) (Or.inl ⟨by rfl,?ya6⟩) hSS ?ra6
        case ya6=>(intro w hSw;(try dsimp only at hSw);go_simp;first|done|with_reducible rfl)
        try simp only [Act.put,jI,jZ,jS]
        refine takeN (i:=7) (v:=?va7) rfl (by kernel_rfl) (by kernel_rfl) (by kernel_rfl) (fun _ _ _ h=>h) (Or.inl ⟨by rfl,?ya7⟩) hSS ?ra7
        case ya7=>(intro w hSw;(try dsimp only at hSw);go_simp;first|done|with_reducible rfl)
        try simp only [Act.put,jI,jZ,jS]
        refine takeN (i:=8) (v:=?va8) rfl (by kernel_rfl) (by kernel_rfl) (by kernel_rfl) (fun _ _ _ h=>h) (Or.inl ⟨by rfl,?ya8⟩) hSS ?ra8
        case ya8=>(intro w hSw;(try dsimp only at hSw);go_simp;first|done|with_reducible rfl)
        try simp only [Act.put,jI,jZ,jS]
        refine takeN (i:=9) (v:=?va9) rfl (by kernel_rfl) (by kernel_rfl) (by kernel_rfl) (fun _ _ _ h=>h) (Or.inl ⟨by rfl,?ya9⟩) hSS ?ra9
        case ya9=>(intro w hSw;(try dsimp only at hSw);go_simp;first|done|with_reducible rfl)
        try simp only [Act.put,jI,jZ,jS]
        refine takeN (i:=10) (v:=?va10) rfl (by kernel_rfl) (by kernel_rfl) (by kernel_rfl) (fun _ _ _ h=>h) (Or.inl ⟨by rfl,?ya10⟩) hSS ?ra10
        case ya10=>(intro w hSw;(try dsimp only at hSw);go_simp;first|done|with_reducible rfl)
        try simp only [Act.put,jI,jZ,jS]
        refine takeN (i:=11) (v:=?va11) rfl (by kernel_rfl) (by kernel_rfl) (by kernel_rfl) (fun _ _ _ h=>h) (Or.inl ⟨by rfl,?ya11⟩) hSS ?ra11
        case ya11=>(intro w hSw;(try dsimp only at hSw);go_simp;first|done|with_reducible rfl)
        try simp only [Act.put,jI,jZ,jS]
        refine takeN (i:=12) (v:=?va12) rfl (by kernel_rfl) (by kernel_rfl) (by kernel_rfl) (fun _ _ _ h=>h) (Or.inl ⟨by rfl,?ya12⟩) hSS ?ra12
        case ya12=>(intro w hSw;(try dsimp only at hSw);go_simp;first|done|with_reducible rfl)
        try simp only [Act.put,jI,jZ,jS]
        refine takeN (i:=13) (v:=?va13) rfl (by kernel_rfl) (by kernel_rfl) (by kernel_rfl) (fun _ _ _ h=>h) (Or.inl ⟨by rfl,?ya13⟩) hSS ?ra13
        case ya13=>(intro w hSw;(try dsimp only at hSw);go_simp;first|done|with_reducible rfl)
        try simp only [Act.put,jI,jZ,jS]
        refine takeN (i:=14) (v:=?va14) rfl (by kernel_rfl) (by kernel_rfl) (by kernel_rfl) (fun _ _ _ h=>h) (Or.inl ⟨by rfl,?ya14⟩) hSS ?ra14
        case ya14=>(intro w hSw;(try dsimp only at hSw);go_simp;first|done|with_reducible rfl)
        try simp only [Act.put,jI,jZ,jS]
        refine readyN (rs:=[15,16]) (by kernel_rfl) (by simp) (consN rfl (fun K hK => ?_) (consN rfl (fun K hK => ?_) nilN))
        ·
         refine step_allocL rfl rfl ?_;intro g7 w7 hb hc hg
         have HGA:=Lib.hid (show wr.heap.size≤g7 from by have:=HCW.out.size;omega)
         replace HCW:=Lib.hid (HCW.out.trans hc)
         try have HNE:=Lib.hid (show g7≠g8 from by have:=HBB.out.lt;omega)
         try replace HBB:=Lib.hid (HBB.out.chg hc (by simp))
         have HBA:=Lib.hid hb
         clear hb hc hg
         refine hK.out _ _ (HS10.out _ HCW.out) (fun hHeld => ?_)
         clear hK K hHeld
         try simp only [Act.put,jI,jZ,jS]
         refine readyN (rs:=[16]) (by kernel_rfl) (by simp) (consN rfl (fun K hK => ?_) nilN)
         refine step_allocL rfl rfl ?_;intro g8 w8 hb hc hg
         have HGB:=Lib.hid (show wr.heap.size≤g8 from by have:=HCW.out.size;omega)
         replace HCW:=Lib.hid (HCW.out.trans hc)
         try have HNE:=Lib.hid (show g7≠g8 from by have:=HBA.out.lt;omega)
         try replace HBA:=Lib.hid (HBA.out.chg hc (by simp))
         have HBB:=Lib.hid hb
         clear hb hc hg
         refine hK.out _ _ (HS10.out _ HCW.out) (fun hHeld => ?_)
         clear hK K hHeld
         try simp only [Act.put,jI,jZ,jS]
         refine readyN (rs:=[17]) (by kernel_rfl) (by simp) (consN rfl (fun K hK => ?_) nilN)
         refine step_storeL rfl 7 59 rfl g7 _ HBA.out _ _ _ rfl (by simp [Act.eval]) qa (by simp [Act.eval]) rfl ?_;intro w9 hb hc
         replace HCW:=Lib.hid (HCW.out.trans' hc (fun b hb=>.inr (by rw [List.mem_singleton.1 hb];exact HGA.out)))
         replace HBB:=Lib.hid (HBB.out.chg hc (by have:=HNE.out;simp;omega))
         replace HBA:=Lib.hid hb
         clear hb hc
         refine hK.out _ _ (HS10.out _ HCW.out) (fun hHeld => ?_)
         clear hK K hHeld
         try simp only [Act.put,jI,jZ,jS]
         refine readyN (rs:=[18]) (by kernel_rfl) (by simp) (consN rfl (fun K hK => ?_) nilN)
         refine step_storeL rfl 8 67 rfl g8 _ HBB.out _ _ _ rfl (by simp [Act.eval]) qb (by simp [Act.eval]) rfl ?_;intro w10 hb hc
         replace HCW:=Lib.hid (HCW.out.trans' hc (fun b hb=>.inr (by rw [List.mem_singleton.1 hb];exact HGB.out)))
         replace HBA:=Lib.hid (HBA.out.chg hc (by have:=HNE.out;simp;omega))
         replace HBB:=Lib.hid hb
         clear hb hc
         refine hK.out _ _ (HS10.out _ HCW.out) (fun hHeld => ?_)
         clear hK K hHeld
         try simp only [Act.put,jI,jZ,jS]
         refine doneN (by kernel_rfl) ?_ _
         go_wp2_with fail
         go_meet
         exact ⟨g7,g8,rfl,rfl,Lib.hid ⟨HBA.out,HBB.out,HNE.out,HGA.out,HGB.out,HCW.out⟩⟩
        ·
         refine step_allocL rfl rfl ?_;intro g8 w8 hb hc hg
         have HGB:=Lib.hid (show wr.heap.size≤g8 from by have:=HCW.out.size;omega)
         replace HCW:=Lib.hid (HCW.out.trans hc)
         try have HNE:=Lib.hid (show g7≠g8 from by have:=HBA.out.lt;omega)
         try replace HBA:=Lib.hid (HBA.out.chg hc (by simp))
         have HBB:=Lib.hid hb
         clear hb hc hg
         refine hK.out _ _ (HS10.out _ HCW.out) (fun hHeld => ?_)
         clear hK K hHeld
         try simp only [Act.put,jI,jZ,jS]
         refine readyN (rs:=[15]) (by kernel_rfl) (by simp) (consN rfl (fun K hK => ?_) nilN)
         refine step_allocL rfl rfl ?_;intro g7 w7 hb hc hg
         have HGA:=Lib.hid (show wr.heap.size≤g7 from by have:=HCW.out.size;omega)
         replace HCW:=Lib.hid (HCW.out.trans hc)
         try have HNE:=Lib.hid (show g7≠g8 from by have:=HBB.out.lt;omega)
         try replace HBB:=Lib.hid (HBB.out.chg hc (by simp))
         have HBA:=Lib.hid hb
         clear hb hc hg
         refine hK.out _ _ (HS10.out _ HCW.out) (fun hHeld => ?_)
         clear hK K hHeld
         try simp only [Act.put,jI,jZ,jS]
         refine readyN (rs:=[17]) (by kernel_rfl) (by simp) (consN rfl (fun K hK => ?_) nilN)
         refine step_storeL rfl 7 59 rfl g7 _ HBA.out _ _ _ rfl (by simp [Act.eval]) qa (by simp [Act.eval]) rfl ?_;intro w9 hb hc
         replace HCW:=Lib.hid (HCW.out.trans' hc (fun b hb=>.inr (by rw [List.mem_singleton.1 hb];exact HGA.out)))
         replace HBB:=Lib.hid (HBB.out.chg hc (by have:=HNE.out;simp;omega))
         replace HBA:=Lib.hid hb
         clear hb hc
         refine hK.out _ _ (HS10.out _ HCW.out) (fun hHeld => ?_)
         clear hK K hHeld
         try simp only [Act.put,jI,jZ,jS]
         refine readyN (rs:=[18]) (by kernel_rfl) (by simp) (consN rfl (fun K hK => ?_) nilN)
         refine step_storeL rfl 8 67 rfl g8 _ HBB.out _ _ _ rfl (by simp [Act.eval]) qb (by simp [Act.eval]) rfl ?_;intro w10 hb hc
         replace HCW:=Lib.hid (HCW.out.trans' hc (fun b hb=>.inr (by rw [List.mem_singleton.1 hb];exact HGB.out)))
         replace HBA:=Lib.hid (HBA.out.chg hc (by have:=HNE.out;simp;omega))
         replace HBB:=Lib.hid hb
         clear hb hc
         refine hK.out _ _ (HS10.out _ HCW.out) (fun hHeld => ?_)
         clear hK K hHeld
         try simp only [Act.put,jI,jZ,jS]
         refine doneN (by kernel_rfl) ?_ _
         go_wp2_with fail
         go_meet
         exact ⟨g7,g8,rfl,rfl,Lib.hid ⟨HBA.out,HBB.out,HNE.out,HGA.out,HGB.out,HCW.out⟩⟩
       case rest =>
        obtain ⟨bA,bB,rfl,rfl,HAB⟩:=hcut
        obtain ⟨hbA,hbB,hne,hgA,hgB,hc10⟩:=HAB.out
        have HBA:=Lib.hid hbA
        have HBB:=Lib.hid hbB
        have HGG:=Lib.hid (And.intro hgA (And.intro hgB hne))
        have HL1:=Lib.hid (HL.out.chg hc10 (by simp))
        have HC10:=Lib.hid hc10
        obtain ⟨q0,q1,q2⟩:=HL1.out.cells
        have hd:=delete_lumps wc g o c2 l2 t (by have:=HNL.out;omega) (by have:=HNL.out;omega) (by have h:=HL1.out.own;rw [HNL.out] at h;exact h)
        rw [←HNL.out,show (t:Int)+2=(t2:Int) from by have:=HT12.out.2;omega] at hd
        have HD:=Lib.hid hd
        clear hbA hbB hne hgA hgB hc10 HAB hd HS10
        go_wp2_with fail
        refine HD.out.mono ?_
        rintro e w3 ⟨rfl,ho3,hc3⟩
        have hpg:p∉[g]:=by have:=HL1.out.p_rv;simpa using this
        have hGl:∀ b∈fpL p (.slice (some ⟨g,o,none⟩) n2 c2),b≠bA∧b≠bB:=fun b hb=>by
         have h1:=HL.out.lt b hb
         have h2:=HGG.out
         omega
        have hGl2:=hGl p (by simp [fpL])
        have hGl3:=hGl g (by simp [fpL])
        have hb3:=HL1.out.blk.chg hc3 hpg
        have f1:=hb3.free 1
        have z1:=hb3.cell 1
        simp only [List.getElem?_toArray,List.getElem?_cons_zero,List.getElem?_cons_succ] at z1
        obtain ⟨n3,hn3e⟩:∃ z,z=n2-2:=⟨_,rfl⟩
        obtain ⟨l3,hl3⟩:∃ z,z=l2.take t++l2.drop (t+2):=⟨_,rfl⟩
        rw [←hn3e,←hl3] at ho3
        rw [←hn3e]
        have hlen3:n3=l3.length:=by
         rw [hl3,List.length_append,List.length_take,List.length_drop]
         have:=HNL.out
         omega
        have HL4:=Lib.hid (show Lms (w3.setCell ⟨p,1,none⟩ (.slice (some ⟨g,o,none⟩) n3 c2)) p (.slice (some ⟨g,o,none⟩) n3 c2) most l3 T from ⟨hb3.setCell 1 _,by
         rw [←hlen3]
         exact ho3.chg ((Chg.refl [p] w3).setCell (by simp) _) (fun b hb e=>hpg (by simp at hb e ⊢;omega))⟩)
        have hcS:Chg (fpL p (.slice (some ⟨g,o,none⟩) n2 c2)) wc (w3.setCell ⟨p,1,none⟩ (.slice (some ⟨g,o,none⟩) n3 c2)):=(hc3.mono (fun b hb=>.inl (by simp at hb;simp [fpL,hb]))).setCell (.inl (by simp [fpL])) _
        have HB4:=Lib.hid (And.intro (HBA.out.chg hcS (fun hb=>(hGl bA hb).1 rfl)) (HBB.out.chg hcS (fun hb=>(hGl bB hb).2 rfl)))
        have HC4:=Lib.hid ((HC10.out.nil (F:=fpL p (.slice (some ⟨g,o,none⟩) n2 c2))).trans hcS)
        have HL3:=Lib.hid (And.intro hlen3 (And.intro hl3 hn3e))
        clear hcS ho3 hc3 hb3 hpg hGl hGl2 hGl3 hn3e hl3 hlen3 HD HL1 HBA HBB HC10 q0 q1 q2
        go_wp2_with fail
        clear f1 z1
        generalize w3.setCell ⟨p,1,none⟩ (.slice (some ⟨g,o,none⟩) n3 c2)=w4 at *
        have hprm:totL (l2.take t)+pairN l2 t+totL (l2.drop (t+2))=T:=by rw [HTT.out];exact pairN_le l2 t (by have:=HNL.out;omega)
        have hpn:pairN l2 t=qa.n+qb.n:=by rw [pairN,HQ.out.1,HQ.out.2]
        rw [hpn] at hprm
        obtain ⟨T3,hT3⟩:∃ z,z=T-(qa.n+qb.n):=⟨_,rfl⟩
        obtain ⟨nq2,hnq2⟩:∃ z,z=qa.n+qb.n:=⟨_,rfl⟩
        have hw1:IntKind.u64.wrap ((qa.n:Int)+(qb.n:Int))=(nq2:Int):=by rw [IntKind.wrap_u64];omega
        have hw2:IntKind.u64.wrap ((T:Int)-(nq2:Int))=(T3:Int):=by rw [IntKind.wrap_u64];omega
        have HT3:=Lib.hid (show T3+nq2=T∧nq2=qa.n+qb.n∧totL l3=T3 from ⟨by omega,hnq2,by rw [HL3.out.2.1,totL_app];omega⟩)
        clear hprm hpn hT3 hnq2
        have hS5:w4.drew.cell? ⟨p,2,none⟩=some (.int .u64 (T:Nat))∧w4.drew.cell? ⟨bA,0,none⟩=some (.int .u64 (qa.n:Nat))∧w4.drew.cell? ⟨bB,0,none⟩=some (.int .u64 (qb.n:Nat))∧w4.drew.frozen? ⟨p,2,none⟩=false:=⟨HL4.out.blk.cell 2,HB4.out.1.cell 0,HB4.out.2.cell 0,HL4.out.blk.free 2⟩
        refine startG (S:=fun wx=>wx.cell? ⟨p,2,none⟩=some (.int .u64 (T:Nat))∧wx.cell? ⟨bA,0,none⟩=some (.int .u64 (qa.n:Nat))∧wx.cell? ⟨bB,0,none⟩=some (.int .u64 (qb.n:Nat))∧wx.frozen? ⟨p,2,none⟩=false) (st:=12) (by kernel_rfl) hS5 (fun hHeld => ?_)
        refine takeP (i:=0) (v:=?vd0) rfl (by kernel_rfl) (by kernel_rfl) (by kernel_rfl) (by decide) (fun _ _ _ h=>h) (Or.inl ⟨by rfl,?yd0⟩) hS5 ?rd0
        case yd0=>(intro w _;go_simp;first|done|with_reducible rfl)
        try simp only [Act.put,jI,jZ,jS]
        refine takeP (i:=1) (v:=?vd1) rfl (by kernel_rfl) (by kernel_rfl) (by kernel_rfl) (by decide) (fun _ _ _ h=>h) (Or.inl ⟨by rfl,?yd1⟩) hS5 ?rd1
        case yd1=>(intro w _;go_simp;first|done|with_reducible rfl)
        try simp only [Act.put,jI,jZ,jS]
        refine takeP (i:=2) (v:=?vd2) rfl (by kernel_rfl) (by kernel_rfl) (by kernel_rfl) (by decide) (fun _ _ _ h=>h) (Or.inl ⟨by rfl,?yd2⟩) hS5 ?rd2
        case yd2=>(intro w _;go_simp;first|done|with_reducible rfl)
        try simp only [Act.put,jI,jZ,jS]
        refine takeG (i:=3) (v:=?vd3) rfl (by kernel_rfl) (by kernel_rfl) (by kernel_rfl) (by decide) (by kernel_rfl) (by kernel_rfl) (fun _ _ _ h=>h) (Or.inl ⟨by rfl,?yd3⟩) hS5 ?rd3
        case yd3=>(intro w hSw;(try dsimp only at hSw);go_simp;first|done|with_reducible rfl)
        try simp only [Act.put,jI,jZ,jS]
        refine takeP (i:=4) (v:=?vd4) rfl (by kernel_rfl) (by kernel_rfl) (by kernel_rfl) (by decide) (fun _ _ _ h=>h) (Or.inl ⟨by rfl,?yd4⟩) hS5 ?rd4
        case yd4=>(intro w _;go_simp;first|done|with_reducible rfl)
        try simp only [Act.put,jI,jZ,jS]
        refine takeG (i:=5) (v:=?vd5) rfl (by kernel_rfl) (by kernel_rfl) (by kernel_rfl) (by decide) (by kernel_rfl) (by kernel_rfl) (fun _ _ _ h=>h) (Or.inl ⟨by rfl,?yd5⟩) hS5 ?rd5
        case yd5=>(intro w hSw;(try dsimp only at hSw);go_simp;first|done|with_reducible rfl)
        try simp only [Act.put,jI,jZ,jS]
        refine takeP (i:=6) (v:=?vd6) rfl (by kernel_rfl) (by kernel_rfl) (by kernel_rfl) (by decide) (fun _ _ _ h=>h) (Or.inl ⟨by rfl,?yd6⟩) hS5 ?rd6
        case yd6=>(intro w _;go_simp;first|done|with_reducible rfl)
        try simp only [Act.put,jI,jZ,jS]
        refine takeG (i:=7) (v:=?vd7) rfl (by kernel_rfl) (by kernel_rfl) (by kernel_rfl) (by decide) (by kernel_rfl) (by kernel_rfl) (fun _ _ _ h=>h) (Or.inl ⟨by rfl,?yd7⟩) hS5 ?rd7
        case yd7=>(intro w hSw;(try dsimp only at hSw);go_simp;first|done|with_reducible rfl)
        try simp only [Act.put,jI,jZ,jS]
        refine takeP (i:=8) (v:=?vd8) rfl (by kernel_rfl) (by kernel_rfl) (by kernel_rfl) (by decide) (fun _ _ _ h=>h) (Or.inl ⟨by rfl,?yd8⟩) hS5 ?rd8
        case yd8=>(intro w _;go_simp;first|done|with_reducible rfl)
        try simp only [Act.put,jI,jZ,jS]
        refine takeP (i:=9) (v:=?vd9) rfl (by kernel_rfl) (by kernel_rfl) (by kernel_rfl) (by decide) (fun _ _ _ h=>h) (Or.inl ⟨by rfl,?yd9⟩) hS5 ?rd9
        case yd9=>(intro w _;go_simp;first|done|with_reducible rfl)
        try simp only [Act.put,jI,jZ,jS]
        refine takeP (i:=10) (v:=?vd10) rfl (by kernel_rfl) (by kernel_rfl) (by kernel_rfl) (by decide) (fun _ _ _ h=>h) (Or.inl ⟨by rfl,?yd10⟩) hS5 ?rd10
        case yd10=>(intro w _;go_simp;first|done|with_reducible rfl)
        try simp only [Act.put,jI,jZ,jS]
        refine takeP (i:=11) (v:=?vd11) rfl (by kernel_rfl) (by kernel_rfl) (by kernel_rfl) (by decide) (fun _ _ _ h=>h) (Or.inl ⟨by rfl,?yd11⟩) hS5 ?rd11
        case yd11=>(intro w _;go_simp;first|done|with_reducible rfl)
        try simp only [Act.put,jI,jZ,jS]
        refine readyG (rs:=[12]) (by kernel_rfl) (by simp) (consG rfl (fun K hK => ?_) nilG)
        go_simp
        refine hK.out _ _ (fun h=>absurd rfl h) (fun hHeld => ?_)
        clear hK K hHeld
        try simp only [Act.put,jI,jZ,jS]
        refine doneG (by kernel_rfl) ?_ _
        have hpAB:p≠bA∧p≠bB:=by have h1:=HL.out.lt p (by simp [fpL]);have h2:=HGG.out;omega
        have HL5:=Lib.hid (show Lms (w4.setCell ⟨p,2,none⟩ (.int .u64 (T3:Nat))).drew p (.slice (some ⟨g,o,none⟩) n3 c2) most l3 T3 from ⟨by
         have:=HL4.out.blk.setCell 2 (.int .u64 (T3:Nat))
         exact this,HL4.out.own.chg ((Chg.refl [p] w4).setCell (by simp) _).drew (fun b hb=>by simp only [List.mem_singleton];rintro rfl;exact HL4.out.p_rv hb)⟩)
        have hcS:Chg [p] w4 (w4.setCell ⟨p,2,none⟩ (.int .u64 (T3:Nat))).drew:=((Chg.refl [p] w4).setCell (by simp) _).drew
        have HB5:=Lib.hid (And.intro (HB4.out.1.chg hcS (fun e=>hpAB.1 (List.mem_singleton.1 e).symm)) (HB4.out.2.chg hcS (fun e=>hpAB.2 (List.mem_singleton.1 e).symm)))
        have HC5:=Lib.hid (HC4.out.trans (hcS.mono (fun b hb=>.inl (by rw [List.mem_singleton.1 hb];simp [fpL]))))
        clear hcS hpAB hS5 HL4 HB4 HC4 hw2
        generalize (w4.setCell ⟨p,2,none⟩ (.int .u64 (T3:Nat))).drew=w5 at *
        have x0:=HB5.out.1.cell 0
        have x1:=HB5.out.1.cell 1
        have x2:=HB5.out.1.cell 2
        have x3:=HB5.out.2.cell 0
        have x5:=HB5.out.2.cell 2
        simp only [List.getElem?_toArray,List.getElem?_cons_zero,List.getElem?_cons_succ] at x0 x1 x2 x3 x5
        have hrs3:risesL l3:=by rw [HL3.out.2.1];exact HAT.out.rises.sublist (by
         conv=>rhs;rw [←List.take_append_drop t l2]
         refine List.Sublist.append (List.Sublist.refl _) ?_
         rw [←List.drop_drop]
         exact List.drop_sublist _ _)
        have HLAY:=Lib.hid (lump_lay w5 p (some ⟨g,o,none⟩) c2 n3 most l3 HL3.out.1 T3 HL5.out hrs3 (by have:=HL3.out.2.2;omega) ⟨nq2,qa.lo,max qa.hi qb.hi⟩ (by have:=HT3.out.2.2;omega) (by have:=HT3.out.1;simp only;omega))
        clear hrs3
        go_wp2_with fail
        refine HLAY.out.mono ?_
        rintro e w6 ⟨rfl,a6,c6,hL6,hm6⟩
        have HE:=Lib.hid (show layL l3 ⟨nq2,qa.lo,max qa.hi qb.hi⟩=meltL l2 (atL l2) from by
         unfold meltL
         rw [←HTA.out,HQ.out.1,HQ.out.2,HL3.out.2.1,HT3.out.2.1])
        have hT6:T3+(⟨nq2,qa.lo,max qa.hi qb.hi⟩:Lp).n=totL l:=by rw [←HT0.out];exact HT3.out.1
        rw [HE.out,hT6] at hL6
        rw [HE.out] at hm6
        have h2l:1<l2.length:=by have:=HNL.out;omega
        have hml:=melt_len HAT.out.rises (atL_lt h2l)
        have HPA:PressAt w F0 p m most l w6 (meltL l2 (atL l2)) a6 (meltL l2 (atL l2)).length c6:=by
         refine ⟨hL6,rfl,by have:=HNL.out;omega,melt_rises HAT.out.rises _,by rw [melt_tot (atL_lt h2l)];exact HAT.out.tot,?_,?_⟩
         ·rw [←HAT.out.same]
          exact (pressL_step HAT.out.rises HM.out.2 (by have h1:=HNL.out;have h2:=HMN.out;omega)).symm
         ·have hm0:Mv (fpL p (.slice (some ⟨g,o,none⟩) n2 c2)) w1 (fpL p (.slice (some ⟨g,o,none⟩) n2 c2)) wr:=Mv.of_chg ((HC2.out.nil (F:=fpL p (.slice (some ⟨g,o,none⟩) n2 c2))).trans' (HCH.out) (fun b hb=>.inr (by rw [List.mem_singleton.1 hb];exact HBL.out)))
          have hm1:Mv (fpL p (.slice (some ⟨g,o,none⟩) n2 c2)) wr (fpL p (.slice (some ⟨g,o,none⟩) n3 c2)) w5:=⟨HC5.out,fun b hb=>.inl (by simpa [fpL] using hb)⟩
          exact ((HMV.out.trans hm0).trans hm1).trans hm6
        clear hL6 hm6 HLAY x0 x1 x2 x3 x5
        have HPX:=Lib.hid HPA
        have HML:=Lib.hid hml
        clear HPA hml
        go_wp2
        go_step3
        refine ⟨⟨_,_,_,_,HPX.out,rfl⟩,?_⟩
        rw [pressM_at HPX.out]
        have h1:=HML.out
        have h2:=HNL.out
        omega
end Go.Proofs.YthoolcpcmhhkpaaGreatDoor
