/-
  Parts of a proof, pressed. Conditions: the form's own reach.
-/
import Derived.Test.YthoolcpcmhhkpaaGreatDoorSuiteConfigsB43
import Derived.Test.YthoolcpcmhhkpaaGreatDoorSuiteConfigsB15
import Derived.Test.YthoolcpcmhhkpaaGreatDoorSuiteConfigsB20
import Derived.Test.YthoolcpcmhhkpaaGreatDoorSuiteConfigsB4
import Derived.Test.YthoolcpcmhhkpaaGreatDoorSuiteConfigsB5
import Derived.Test.YthoolcpcmhhkpaaGreatDoorSuiteConfigsB16
namespace Go.Proofs.YthoolcpcmhhkpaaGreatDoor
open Go.RowKit
theorem enters_gwpart:∀ (args:Array Value) (w:World),(callFunc 380 args).run Tryz.prog w=.ok (.enter 380 args) w:=enters_of Tryz.func380 (by kernel_rfl) rfl
theorem fa_rat0 (u:World) (a b:Int):(Instr.field 25 (.agg #[.int .u64 a,.int .u64 b]) 0).run Tryz.prog u=.ok (.int .u64 a) u:=by kernel_rfl
theorem fa_rat1 (u:World) (a b:Int):(Instr.field 25 (.agg #[.int .u64 a,.int .u64 b]) 1).run Tryz.prog u=.ok (.int .u64 b) u:=by kernel_rfl
theorem flatMap_takeT {α:Type} (f:α→List UInt8) (l:List α) (k:Nat) (h:k<l.length):(l.take (k+1)).flatMap f=(l.take k).flatMap f++f l[k]:=by
 rw [List.take_succ_eq_append_getElem h,List.flatMap_append];simp
set_option maxRecDepth 100000 in
set_option maxHeartbeats 4000000 in
theorem gk_write (w:World) (p:Nat) (rv wv:Value) (D:GkD) (d:Gk w p rv wv D) (hok:D.ok) (hinr:D.inr) (hg:goodK D.num D.den=true) (hs:D.total≤40000) (q:Nat) (F:List Nat) (l:List UInt8) (hl:l.length≤1000) (hql:Qul w q F l) :
 Calls Tryz.prog 378 #[.agg #[.pointer (some ⟨p,0,none⟩)],.pointer (some ⟨q,0,none⟩)] w fun e w'=>e=.returned (.tuple #[])∧∃ F',Qul w' q F' (l++putGk D)∧Mv F w F' w':=by
 obtain ⟨n,hn⟩:∃ n,n=D.row.length:=⟨_,rfl⟩
 obtain ⟨m,hm⟩:∃ n,n=D.waits.length:=⟨_,rfl⟩
 have hgd:=of_decide_eq_true hg
 have hfit:=hok.fit hinr hg (by omega)
 have hlen:=hok.len
 have hfew:=hok.few
 have hn5:n≤40000:=by unfold GkD.total at hs;omega
 have hm16:m<16:=by omega
 have HRW:=Lib.hid (fun u (hu:Chg [] w u)=>gk_row u p rv wv D (d.chg hu (by simp)) n m hn hm (by omega) (by omega))
 have HPT:=Lib.hid (fun u (hu:Chg [] w u)=>gk_part u p rv wv D (d.chg hu (by simp)))
 have HFIT:=Lib.hid hfit
 have HTB:=Lib.hid (fun k=>show ((D.row.take k).flatMap tupB).length≤30*40000 from by
  have h1:=(tupsB_len (D.row.take k) (fun p hp=>(hfit p (List.mem_of_mem_take hp)).1)).2
  have h2:(D.row.take k).length≤D.row.length:=by rw [List.length_take];omega
  omega)
 have HWR:=Lib.hid hinr.waits
 have HQL:=Lib.hid (fun u (hu:Chg [] w u)=>hql.chg hu (by simp))
 have HFL:=Lib.hid (show ∀ b∈F,b<w.heap.size from hql.lt)
 have HPD:=Lib.hid (show putGk D=natB D.num++(natB D.den++(natB D.row.length++(D.row.flatMap tupB++(natB D.waits.length++intsB D.waits)))) from rfl)
 rw [←hn,←hm] at HPD
 have HN:=Lib.hid (And.intro hn hm)
 generalize putGk D=PD at *
 obtain ⟨nu,hnu⟩:∃ x,x=D.num:=⟨_,rfl⟩
 obtain ⟨de,hde⟩:∃ x,x=D.den:=⟨_,rfl⟩
 rw [←hnu,←hde] at HPT HPD hgd
 obtain ⟨b0,hb0⟩:∃ z,z=w.heap.size:=⟨_,rfl⟩
 have HB:=Lib.hid (show Blk (w.alloc (.cells #[.pointer (some ⟨p,0,none⟩)] 223)) b0 #[.pointer (some ⟨p,0,none⟩)] 223 from by rw [hb0];exact Blk.alloc_new _ _ _)
 have HC0:=Lib.hid ((Chg.refl [] w).alloc (.cells #[.pointer (some ⟨p,0,none⟩)] 223))
 have HB0:=Lib.hid (show w.heap.size≤b0 from by omega)
 have hwn:IntKind.u64.wrap (n:Int)=(n:Int):=IntWalk.u64_in _ (by omega)
 have hwm:IntKind.u64.wrap (m:Int)=(m:Int):=IntWalk.u64_in _ (by omega)
 have HDF:=Lib.hid (show nu≤2147483648∧de≤2147483648∧n≤40000∧m<16 from ⟨by omega,by omega,hn5,hm16⟩)
 clear d hok hql hinr hg hs hn hm hgd hfit hlen hfew hnu hde
 go_enter Tryz.func378,Tryz.ntmps378
 go_wp2_with fail
 rw [←hb0]
 clear hb0
 generalize w.alloc (.cells #[.pointer (some ⟨p,0,none⟩)] 223)=w0 at *
 have hc0:=HB.out.cell 0
 simp only [List.getElem?_toArray,List.getElem?_cons_zero] at hc0
 go_wp2_with fail
 refine (HRW.out _ HC0.out).mono ?_
 rintro e w1 ⟨a1,k1,a2,k2,rfl,ho1,ho2,hc1,hf1,hf2⟩
 have HC1:=Lib.hid (HC0.out.trans hc1)
 have HB1:=Lib.hid (HB.out.chg hc1 (by simp))
 have HOW:=Lib.hid (And.intro ho1 ho2)
 have HFR:=Lib.hid (show (∀ b∈abl a1,w.heap.size≤b)∧∀ b∈abl a2,w.heap.size≤b from ⟨fun b hb=>Nat.le_trans HC0.out.size (hf1 b hb),fun b hb=>Nat.le_trans HC0.out.size (hf2 b hb)⟩)
 clear hc0 hc1 ho1 ho2 hf1 hf2 HB HC0 HRW
 have hc0:=HB1.out.cell 0
 simp only [List.getElem?_toArray,List.getElem?_cons_zero] at hc0
 go_wp2_with fail
 have fa0:=fa_rat0
 have fa1:=fa_rat1
 have hSS:w1.drew.cell? ⟨b0,0,none⟩=some (.pointer (some ⟨p,0,none⟩)):=hc0
 have HKS:=Lib.hid ((Chg.refl [] w1).drew)
 refine startN (S:=fun wx=>wx.cell? ⟨b0,0,none⟩=some (.pointer (some ⟨p,0,none⟩))) (by kernel_rfl) hSS (fun hHeld => ?_)
 refine takeN (i:=0) (v:=?va0) rfl (by kernel_rfl) (by kernel_rfl) (by kernel_rfl) (fun _ _ _ h=>h) (Or.inl ⟨by rfl,?ya0⟩) hSS ?ra0
 case ya0=>(intro w hSw;(try dsimp only at hSw);go_simp;first|done|with_reducible rfl)
 try simp only [Act.put,jI,jZ,jS]
 refine takeN (i:=1) (v:=?va1) rfl (by kernel_rfl) (by kernel_rfl) (by kernel_rfl) (fun _ _ _ h=>h) (Or.inl ⟨by rfl,?ya1⟩) hSS ?ra1
 case ya1=>(intro w hSw;(try dsimp only at hSw);go_simp;first|done|with_reducible rfl)
 try simp only [Act.put,jI,jZ,jS]
 refine takeN (i:=2) (v:=?va2) rfl (by kernel_rfl) (by kernel_rfl) (by kernel_rfl) (fun _ _ _ h=>h) (Or.inl ⟨by rfl,?ya2⟩) hSS ?ra2
 case ya2=>(intro w hSw;(try dsimp only at hSw);go_simp;first|done|with_reducible rfl)
 try simp only [Act.put,jI,jZ,jS]
 refine takeN (i:=5) (v:=?va5) rfl (by kernel_rfl) (by kernel_rfl) (by kernel_rfl) (fun _ _ _ h=>h) (Or.inl ⟨by rfl,?ya5⟩) hSS ?ra5
 case ya5=>(intro w hSw;(try dsimp only at hSw);go_simp;first|done|with_reducible rfl)
 try simp only [Act.put,jI,jZ,jS]
 refine takeN (i:=6) (v:=?va6) rfl (by kernel_rfl) (by kernel_rfl) (by kernel_rfl) (fun _ _ _ h=>h) (Or.inl ⟨by rfl,?ya6⟩) hSS ?ra6
 case ya6=>(intro w hSw;(try dsimp only at hSw);go_simp;first|done|with_reducible rfl)
 try simp only [Act.put,jI,jZ,jS]
 refine takeN (i:=9) (v:=?va9) rfl (by kernel_rfl) (by kernel_rfl) (by kernel_rfl) (fun _ _ _ h=>h) (Or.inl ⟨by rfl,?ya9⟩) hSS ?ra9
 case ya9=>(intro w hSw;(try dsimp only at hSw);go_simp;first|done|with_reducible rfl)
 try simp only [Act.put,jI,jZ,jS]
 refine takeN (i:=10) (v:=?va10) rfl (by kernel_rfl) (by kernel_rfl) (by kernel_rfl) (fun _ _ _ h=>h) (Or.inl ⟨by rfl,?ya10⟩) hSS ?ra10
 case ya10=>(intro w hSw;(try dsimp only at hSw);go_simp;first|done|with_reducible rfl)
 try simp only [Act.put,jI,jZ,jS]
 refine takeN (i:=11) (v:=?va11) rfl (by kernel_rfl) (by kernel_rfl) (by kernel_rfl) (fun _ _ _ h=>h) (Or.inl ⟨by rfl,?ya11⟩) hSS ?ra11
 case ya11=>(intro w hSw;(try dsimp only at hSw);go_simp;first|done|with_reducible rfl)
 try simp only [Act.put,jI,jZ,jS]
 refine readyN (rs:=[3]) (by kernel_rfl) (by simp) (consN rfl (fun K hK => ?_) nilN)
 refine step_callsG (by rfl) 380 _ _ rfl enters_gwpart _ #[.pointer (some ⟨p,0,none⟩)] (by simp [Act.eval]) (HPT.out _ (HC1.out.trans HKS.out)) ?_;rintro e wa ⟨rfl,hccwa⟩;refine ⟨_,rfl,?_⟩
 have HKwa:=Lib.hid (HKS.out.trans hccwa)
 have hSwa:wa.cell? ⟨b0,0,none⟩=some (.pointer (some ⟨p,0,none⟩)):=hccwa.cell hSS (by simp)
 clear hccwa
 refine hK.out _ _ hSwa (fun hHeld => ?_)
 clear hK K hHeld
 try simp only [Act.put,jI,jZ,jS]
 refine takeN (i:=4) (v:=?va4) rfl (by kernel_rfl) (by kernel_rfl) (by kernel_rfl) (fun _ _ _ h=>h) (Or.inl ⟨by rfl,?ya4⟩) hSwa ?ra4
 case ya4=>(intro w hSw;(try dsimp only at hSw);go_simp;first|done|with_reducible rfl)
 try simp only [Act.put,jI,jZ,jS]
 refine readyN (rs:=[7]) (by kernel_rfl) (by simp) (consN rfl (fun K hK => ?_) nilN)
 refine step_callsG (by rfl) 380 _ _ rfl enters_gwpart _ #[.pointer (some ⟨p,0,none⟩)] (by simp [Act.eval]) (HPT.out _ (HC1.out.trans HKwa.out)) ?_;rintro e wb ⟨rfl,hccwb⟩;refine ⟨_,rfl,?_⟩
 have HKwb:=Lib.hid (HKwa.out.trans hccwb)
 have hSwb:wb.cell? ⟨b0,0,none⟩=some (.pointer (some ⟨p,0,none⟩)):=hccwb.cell hSwa (by simp)
 clear hccwb
 refine hK.out _ _ hSwb (fun hHeld => ?_)
 clear hK K hHeld
 try simp only [Act.put,jI,jZ,jS]
 refine takeN (i:=8) (v:=?va8) rfl (by kernel_rfl) (by kernel_rfl) (by kernel_rfl) (fun _ _ _ h=>h) (Or.inl ⟨by rfl,?ya8⟩) hSwb ?ra8
 case ya8=>(intro w hSw;(try dsimp only at hSw);go_simp;first|done|with_reducible rfl)
 try simp only [Act.put,jI,jZ,jS]
 refine readyN (rs:=[12]) (by kernel_rfl) (by simp) (consN rfl (fun K hK => ?_) nilN)
 refine step_bU3 rfl 18 22 25 rfl nu de n (by simp [Act.eval]) (by simp [Act.eval]) (by simp [Act.eval]) ?_;intro gb wc hrc hcc hgc
 have hSwc:wc.cell? ⟨b0,0,none⟩=some (.pointer (some ⟨p,0,none⟩)):=hcc.cell hSwb (by simp)
 have HKwc:=Lib.hid (HKwb.out.trans hcc)
 have HRC:=Lib.hid hrc
 have HGC:=Lib.hid (show w.heap.size≤gb from Nat.le_trans HC1.out.size (Nat.le_trans HKwb.out.size hgc))
 clear hcc hrc hgc
 refine hK.out _ _ hSwc (fun hHeld => ?_)
 clear hK K hHeld
 try simp only [Act.put,jI,jZ,jS]
 refine readyN (rs:=[13]) (by kernel_rfl) (by simp) (consN rfl (fun K hK => ?_) nilN)
 refine step_callsG (by rfl) 135 _ _ rfl enters_qnat _ #[.pointer (some ⟨q,0,none⟩),.slice (some ⟨gb,0,none⟩) 3 3] (by simp [Act.eval]) (qn_rd wc q F l (HQL.out _ (HC1.out.trans HKwc.out)) [nu,de,n] (by have:=HDF.out;intro u hu;simp only [List.mem_cons,List.not_mem_nil,or_false] at hu;rcases hu with rfl|rfl|rfl<;>omega) (by simp only [List.length_cons,List.length_nil];omega) 3 rfl gb HRC.out (fun e=>by have h1:=HFL.out gb e;have h2:=HGC.out;omega)) ?_;rintro e wd ⟨rfl,F3,T3,hq3,hT3,hL3,hm3⟩;refine ⟨_,rfl,?_⟩
 have HQ3:=Lib.hid (And.intro hq3 (And.intro hT3 hL3))
 have HM3:=Lib.hid ((Mv.of_chg (HKwc.out.mono (by simp)):Mv F w1 F wc).trans hm3)
 have hSwd:wd.cell? ⟨b0,0,none⟩=some (.pointer (some ⟨p,0,none⟩)):=hm3.chg.cell hSwc (fun e=>by have h1:=HFL.out b0 e;have h2:=HB0.out;omega)
 clear hq3 hm3 hT3 hL3
 refine hK.out _ _ hSwd (fun hHeld => ?_)
 clear hK K hHeld
 try simp only [Act.put,jI,jZ,jS]
 refine doneN (by kernel_rfl) ?_ _
 clear hSS hSwa hSwb hSwc hSwd HKS HKwa HKwb HKwc HRC HGC HPT hwn fa0 fa1 hc0
 have HAP:=Lib.hid (show (∀ b∈abl a1,b∉F)∧∀ b∈abl a2,b∉F from ⟨fun b hb e=>by have h1:=HFR.out.1 b hb;have h2:=HFL.out b e;omega,fun b hb e=>by have h1:=HFR.out.2 b hb;have h2:=HFL.out b e;omega⟩)
 have HLT:=Lib.hid (show (∀ b∈abl a1,b<w1.heap.size)∧∀ b∈abl a2,b<w1.heap.size from ⟨fun b hb=>HOW.out.1.lt b (by simpa using hb),fun b hb=>HOW.out.2.lt b (by simpa using hb)⟩)
 have HT3:=Lib.hid (show T3.length≤1030 from by have:=HQ3.out.2.2;omega)
 go_wp2_with fail
 go_loopw [30] (fun i wx=>∃ (k:Nat) (F':List Nat),k≤n∧i=.int .i64 (k:Nat)∧Hid (Qul wx q F' (T3++(D.row.take k).flatMap tupB)∧Mv F w1 F' wx)) (fun i _=>n-(intOf i).toNat)
 case atStart=>exact ⟨0,F3,Nat.zero_le _,rfl,Lib.hid ⟨by simpa using HQ3.out.1,HM3.out⟩⟩
 case round =>
  obtain ⟨k,F4,hk,rfl,HX⟩:=hrel
  by_cases hlt:k<n
  ·have hkl:k<D.row.length:=by have:=HN.out.1;omega
   have hrd:=HOW.out.1.rd.chg HX.out.2.chg (fun b hb e=>HAP.out.1 b (by simpa using hb) e)
   obtain ⟨g,o,rfl,hc⟩:=hrd.addr (by omega)
   obtain ⟨d0,d1,d2⟩:=tp_at (l:=D.row) (fun j hj=>hc j (by rw [HN.out.1];exact hj)) hkl
   have HFI:=Lib.hid (HFIT.out _ (List.getElem_mem hkl)).1
   have HFT:=Lib.hid (flatMap_takeT tupB D.row k hkl)
   obtain ⟨Z,hZ⟩:∃ Z,Z=T3++(D.row.take k).flatMap tupB:=⟨_,rfl⟩
   have hZl:Z.length≤2000000:=by
    rw [hZ]
    have h1:=HT3.out
    have h2:=HTB.out k
    simp only [List.length_append]
    omega
   have HZ:=Lib.hid hZ
   generalize D.row[k]=y at *
   obtain ⟨b6,hb6⟩:∃ z,z=wr.heap.size:=⟨_,rfl⟩
   have HB6:=Lib.hid (show Blk (wr.alloc (.cells #[.int .i64 y.x,.int .u64 (y.st:Nat),.int .u64 (y.sl:Nat)] 194)) b6 #[.int .i64 y.x,.int .u64 (y.st:Nat),.int .u64 (y.sl:Nat)] 194 from by rw [hb6];exact Blk.alloc_new _ _ _)
   have HC6:=Lib.hid ((Chg.refl [] wr).alloc (.cells #[.int .i64 y.x,.int .u64 (y.st:Nat),.int .u64 (y.sl:Nat)] 194))
   have hq4:=HX.out.1.chg HC6.out (by simp)
   rw [←hZ] at hq4
   have HQ4:=Lib.hid hq4
   have HM4:=Lib.hid (HX.out.2.trans (Mv.of_chg (HC6.out.nil (F:=F4))))
   have H64:=Lib.hid (show b6∉F4 from fun hb=>by have:=HX.out.1.lt _ hb;omega)
   clear hc hrd hZ hq4 HX
   go_wp2_with fail
   rw [←hb6]
   clear d0 d1 d2
   have HSZ:=Lib.hid (show (wr.alloc (.cells #[.int .i64 y.x,.int .u64 (y.st:Nat),.int .u64 (y.sl:Nat)] 194)).heap.size=b6+1 from by rw [World.size_alloc,hb6])
   clear hb6 HC6
   generalize wr.alloc (.cells #[.int .i64 y.x,.int .u64 (y.st:Nat),.int .u64 (y.sl:Nat)] 194)=w6 at *
   have z0:=HB6.out.cell 0
   have z1:=HB6.out.cell 1
   have z2:=HB6.out.cell 2
   simp only [List.getElem?_toArray,List.getElem?_cons_zero,List.getElem?_cons_succ] at z0 z1 z2
   have HQI:=Lib.hid (qi_lit w6 q F4 Z HQ4.out [y.x] (by intro u hu;simp only [List.mem_cons,List.not_mem_nil,or_false] at hu;rcases hu with rfl;exact HFI.out.x) (by simp only [List.length_cons,List.length_nil];omega) _ rfl 1 rfl (b6+1) HSZ.out.symm)
   go_wp2_with fail
   refine HQI.out.mono ?_
   rintro e w7 ⟨rfl,F7,T7,hq7,hT7,hL7,hm7⟩
   have HB7:=Lib.hid (HB6.out.chg hm7.chg H64.out)
   have HQ7:=Lib.hid (And.intro hq7 (And.intro hT7 hL7))
   have HM7:=Lib.hid (HM4.out.trans hm7)
   clear hq7 hm7 hT7 hL7 HQI z0 z1 z2 HB6
   have z1:=HB7.out.cell 1
   have z2:=HB7.out.cell 2
   simp only [List.getElem?_toArray,List.getElem?_cons_zero,List.getElem?_cons_succ] at z1 z2
   go_wp2_with fail
   refine (qn_lit w7 q F7 T7 HQ7.out.1 [y.st,y.sl] (by have h1:=HFI.out.s2;have h2:=HFI.out.sl;intro u hu;simp only [List.mem_cons,List.not_mem_nil,or_false] at hu;rcases hu with rfl|rfl<;>omega) (by have:=HQ7.out.2.2;simp only [List.length_cons,List.length_nil];omega) _ rfl 2 rfl _ rfl).mono ?_
   rintro e w8 ⟨rfl,F8,T8,hq8,hT8,hL8,hm8⟩
   have HM8:=Lib.hid (HM7.out.trans hm8)
   have HQ8:=Lib.hid (show Qul w8 q F8 (T3++(D.row.take (k+1)).flatMap tupB) from by
    have e:T8=T3++(D.row.take (k+1)).flatMap tupB:=by
     rw [HFT.out,←List.append_assoc,←HZ.out,hT8,HQ7.out.2.1]
     simp [tupB]
    rw [←e]
    exact hq8)
   clear hq8 hm8 hT8 hL8 z1 z2
   go_wp2_with fail
   exact ⟨⟨k+1,F8,by omega,by go_num,Lib.hid ⟨HQ8.out,HM8.out⟩⟩,by simp [intOf];omega⟩
  ·obtain rfl:k=n:=by omega
   have hfull:D.row.take k=D.row:=List.take_of_length_le (by have:=HN.out.1;omega)
   have hx:=HX.out
   rw [hfull] at hx
   obtain ⟨Z,hZ⟩:∃ Z,Z=T3++D.row.flatMap tupB:=⟨_,rfl⟩
   have hZl:Z.length≤2000000:=by
    rw [hZ]
    have h1:=HT3.out
    have h2:=HTB.out k
    rw [hfull] at h2
    simp only [List.length_append]
    omega
   rw [←hZ] at hx
   have HZ:=Lib.hid hZ
   have HE:=Lib.hid hx
   clear hx hfull HX hZ
   go_wp2_with fail
   refine (qn_lit wr q F4 Z HE.out.1 [m] (by have:=HDF.out;intro u hu;simp only [List.mem_cons,List.not_mem_nil,or_false] at hu;rcases hu with rfl;omega) (by simp only [List.length_cons,List.length_nil];omega) _ rfl 1 rfl _ rfl).mono ?_
   rintro e w9 ⟨rfl,F9,T9,hq9,hT9,hL9,hm9⟩
   have HM9:=Lib.hid (HE.out.2.trans hm9)
   have HQ9:=Lib.hid (And.intro hq9 (And.intro hT9 hL9))
   have hrw:=HOW.out.2.rd.chg HM9.out.chg (fun b hb e=>HAP.out.2 b (by simpa using hb) e)
   rw [HN.out.2] at hrw
   have HQI:=Lib.hid (quill_int w9 q F9 T9 a2 k2 D.waits (fun x hx=>HWR.out x hx) hq9 hrw (fun b hb e=>by
    rcases HM9.out.fr b e with h1|h1
    ·exact HAP.out.2 b hb h1
    ·have:=HLT.out.2 b hb;omega) (by have h1:=HN.out.2;have h2:=HDF.out;omega))
   rw [←HN.out.2] at HQI
   clear hq9 hT9 hL9 hm9 hrw
   go_wp2_with fail
   refine HQI.out.mono ?_
   rintro e w10 ⟨rfl,F10,hq10,hm10⟩
   have HQ10:=Lib.hid hq10
   have HM10:=Lib.hid hm10
   clear hq10 hm10 HQI
   go_wp2
   go_end0
   refine ⟨rfl,F10,?_,(Mv.of_chg (HC1.out.nil (F:=F))).trans (HM9.out.trans HM10.out)⟩
   have h1:=HQ10.out
   have e:T9++D.waits.flatMap (fun x=>natB (zig x))=l++PD:=by
    rw [HPD.out,HQ9.out.2.1,HZ.out,HQ3.out.2.1]
    simp [intsB]
   rw [←e]
   exact h1
set_option maxRecDepth 100000 in
set_option maxHeartbeats 4000000 in
theorem sk_enc_green (w:World) (s p:Nat) (c:Cf) (h:Sk w s c 223 p) (kk:UInt8) (hkk:c.kind=(kk.toNat:Nat)) (X:List UInt8)
 (HW0:∀ u q F,Chg [] w u→Qul u q F []→(∀ b∈F,w.heap.size≤b)→Calls Tryz.prog 378 #[.agg #[.pointer (some ⟨p,0,none⟩)],.pointer (some ⟨q,0,none⟩)] u fun e w'=>e=.returned (.tuple #[])∧∃ F',Qul w' q F' X∧Mv F u F' w') :
 Calls Tryz.prog 23 #[.pointer (some ⟨s,0,none⟩)] w fun e w'=>e=.returned (.tuple #[.string ⟨(encS kk X).toArray⟩,.int .i64 (encE X)])∧Chg [] w w':=by
 obtain ⟨S,hS⟩:∃ S,S=encS kk X:=⟨_,rfl⟩
 obtain ⟨E,hE⟩:∃ E,E=encE X:=⟨_,rfl⟩
 have HFC:=Lib.hid (fun u=>frame_closeV u kk X S E hS hE)
 rw [←hS,←hE]
 clear hS hE
 have HW:=Lib.hid HW0
 have hwk:=u8_kind hkk
 have HS:=Lib.hid (fun u (hu:Chg [] w u)=>(⟨(h.nil hu).kind,(h.nil hu).core⟩:_∧_))
 obtain ⟨k,hk⟩:∃ k,k=c.kind:=⟨_,rfl⟩
 rw [←hk] at HS hwk
 obtain ⟨q,hq⟩:∃ q,q=w.heap.size:=⟨_,rfl⟩
 have HQ0:=Lib.hid (show Qul (w.alloc (.cells #[.slice none 0 0] 120)) q [q] [] from by rw [hq];exact Qul.new w)
 have HC0:=Lib.hid ((Chg.refl [] w).alloc (.cells #[.slice none 0 0] 120))
 have HQN:=Lib.hid (show ∀ b∈[q],w.heap.size≤b from by intro b hb;rw [List.mem_singleton.1 hb,hq];exact Nat.le_refl _)
 obtain ⟨-,c11⟩:=HS.out _ HC0.out
 clear HW0 h hkk hk
 go_enter Tryz.func23,Tryz.ntmps23
 go_wp2_with fail
 rw [←hq]
 clear hq
 generalize w.alloc (.cells #[.slice none 0 0] 120)=w0 at *
 refine (HW.out w0 q [q] HC0.out HQ0.out HQN.out).mono ?_
 rintro e w1 ⟨rfl,F1,hq1,hm1⟩
 have HQ1:=Lib.hid hq1
 have HC1:=Lib.hid (hm1.chg_own HC0.out HQN.out)
 clear hq1 hm1 HQ0 HC0 HQN HW c11
 obtain ⟨c0,-⟩:=HS.out _ HC1.out
 go_wp2_with fail
 have hSS:w1.drew.cell? ⟨s,0,none⟩=some (.int .i64 k):=c0
 refine startN (S:=fun wx=>wx.cell? ⟨s,0,none⟩=some (.int .i64 k)) (by kernel_rfl) hSS (fun hHeld => ?_)
 refine takeN (i:=0) (v:=?va0) rfl (by kernel_rfl) (by kernel_rfl) (by kernel_rfl) (fun _ _ _ h=>h) (Or.inl ⟨by rfl,?ya0⟩) hSS ?ra0
 case ya0=>(intro w hSw;(try dsimp only at hSw);go_simp;first|done|with_reducible rfl)
 try simp only [Act.put,jI,jZ,jS]
 refine takeN (i:=1) (v:=?va1) rfl (by kernel_rfl) (by kernel_rfl) (by kernel_rfl) (fun _ _ _ h=>h) (Or.inl ⟨by rfl,?ya1⟩) hSS ?ra1
 case ya1=>(intro w hSw;(try dsimp only at hSw);go_simp;first|done|with_reducible rfl)
 try simp only [Act.put,jI,jZ,jS]
 refine takeN (i:=2) (v:=?va2) rfl (by kernel_rfl) (by kernel_rfl) (by kernel_rfl) (fun _ _ _ h=>h) (Or.inl ⟨by rfl,?ya2⟩) hSS ?ra2
 case ya2=>(intro w hSw;(try dsimp only at hSw);go_simp;first|done|with_reducible rfl)
 try simp only [Act.put,jI,jZ,jS]
 refine takeN (i:=3) (v:=?va3) rfl (by kernel_rfl) (by kernel_rfl) (by kernel_rfl) (fun _ _ _ h=>h) (Or.inl ⟨by rfl,?ya3⟩) hSS ?ra3
 case ya3=>(intro w hSw;(try dsimp only at hSw);go_simp;first|done|with_reducible rfl)
 try simp only [Act.put,jI,jZ,jS]
 refine takeN (i:=4) (v:=?va4) rfl (by kernel_rfl) (by kernel_rfl) (by kernel_rfl) (fun _ _ _ h=>h) (Or.inl ⟨by rfl,?ya4⟩) hSS ?ra4
 case ya4=>(intro w hSw;(try dsimp only at hSw);go_simp;first|done|with_reducible rfl)
 try simp only [Act.put,jI,jZ,jS]
 refine takeN (i:=5) (v:=?va5) rfl (by kernel_rfl) (by kernel_rfl) (by kernel_rfl) (fun _ _ _ h=>h) (Or.inl ⟨by rfl,?ya5⟩) hSS ?ra5
 case ya5=>(intro w hSw;(try dsimp only at hSw);go_simp;first|done|with_reducible rfl)
 try simp only [Act.put,jI,jZ,jS]
 refine takeN (i:=6) (v:=?va6) rfl (by kernel_rfl) (by kernel_rfl) (by kernel_rfl) (fun _ _ _ h=>h) (Or.inl ⟨by rfl,?ya6⟩) hSS ?ra6
 case ya6=>(intro w hSw;(try dsimp only at hSw);go_simp;first|done|with_reducible rfl)
 try simp only [Act.put,jI,jZ,jS]
 refine readyN (rs:=[7]) (by kernel_rfl) (by simp) (consN rfl (fun K hK => ?_) nilN)
 refine step_callsG (by rfl) 68 _ _ rfl enters_etext _ #[.pointer (some ⟨q,0,none⟩)] (by simp [Act.eval]) (quill_text _ q F1 X (HQ1.out.chg (G:=[]) ((Chg.refl [] _).drew) (by simp))) ?_;rintro e w' ⟨rfl,rfl⟩;refine ⟨_,rfl,?_⟩
 refine hK.out _ _ hSS (fun hHeld => ?_)
 clear hK K hHeld
 try simp only [Act.put,jI,jZ,jS]
 refine readyN (rs:=[8]) (by kernel_rfl) (by simp) (consN rfl (fun K hK => ?_) nilN)
 refine step_callsG (by rfl) 67 _ _ rfl enters_eclose _ #[.int .u8 (kk.toNat:Nat),.string ⟨X.toArray⟩] (by simp [Act.eval]) (HFC.out _) ?_;rintro e w2 ⟨rfl,hc2⟩;refine ⟨_,rfl,?_⟩
 have hS2:w2.cell? ⟨s,0,none⟩=some (.int .i64 k):=hc2.cell hSS (by simp)
 have HC2:=Lib.hid (HC1.out.drew.trans hc2)
 clear hc2
 refine hK.out _ _ hS2 (fun hHeld => ?_)
 clear hK K hHeld
 try simp only [Act.put,jI,jZ,jS]
 refine takeN (i:=9) (v:=?va9) rfl (by kernel_rfl) (by kernel_rfl) (by kernel_rfl) (fun _ _ _ h=>h) (Or.inl ⟨by rfl,?ya9⟩) hS2 ?ra9
 case ya9=>(intro w hSw;(try dsimp only at hSw);go_simp;first|done|with_reducible rfl)
 try simp only [Act.put,jI,jZ,jS]
 refine takeN (i:=10) (v:=?va10) rfl (by kernel_rfl) (by kernel_rfl) (by kernel_rfl) (fun _ _ _ h=>h) (Or.inl ⟨by rfl,?ya10⟩) hS2 ?ra10
 case ya10=>(intro w hSw;(try dsimp only at hSw);go_simp;first|done|with_reducible rfl)
 try simp only [Act.put,jI,jZ,jS]
 refine takeN (i:=11) (v:=?va11) rfl (by kernel_rfl) (by kernel_rfl) (by kernel_rfl) (fun _ _ _ h=>h) (Or.inl ⟨by rfl,?ya11⟩) hS2 ?ra11
 case ya11=>(intro w hSw;(try dsimp only at hSw);go_simp;first|done|with_reducible rfl)
 try simp only [Act.put,jI,jZ,jS]
 refine takeN (i:=12) (v:=?va12) rfl (by kernel_rfl) (by kernel_rfl) (by kernel_rfl) (fun _ _ _ h=>h) (Or.inl ⟨by rfl,?ya12⟩) hS2 ?ra12
 case ya12=>(intro w hSw;(try dsimp only at hSw);go_simp;first|done|with_reducible rfl)
 try simp only [Act.put,jI,jZ,jS]
 refine doneN (by kernel_rfl) ?_ _
 go_wp2_with fail
 go_ret2
 exact ⟨rfl,HC2.out⟩
def GkD.putE (n:Nat):Nat:=if n=0 then 1 else if 1024<n then 3 else 0
def GkD.putV (D:GkD) (x:Int) (n:Nat):GkD:=if GkD.putE n=0 then D.putN x n else D
def GkRk (num den:Nat) (w:World) (p:Nat) (G:List Nat) (D:GkD):Prop:=∃ rv wv,Gk w p rv wv D∧D.ok∧D.inr∧goodK num den=true∧(D.num=num∧D.den=den)∧G=fpK p rv wv
theorem GkRk.und (num den:Nat):Und (GkRk num den) where
 lt:=fun ⟨rv,wv,h1,_,_,_,_,h6⟩ b hb=>by subst h6;exact Gk.lt h1 b hb
 chg:=fun ⟨rv,wv,h1,h2,h3,h4,h5,h6⟩ k hF=>by subst h6;exact ⟨rv,wv,Gk.chg h1 k hF,h2,h3,h4,h5,rfl⟩
set_option maxRecDepth 100000 in
theorem gk_put_longN (w:World) (p:Nat) (x:Int) (n:Nat) (hn:1024<n):Calls Tryz.prog 110 #[.pointer (some ⟨p,0,none⟩),.int .i64 x,.int .u64 (n:Nat)] w fun e w'=>e=.returned (.int .i64 3)∧w=w':=by
 have d0:((n:Int)==0)=false:=by rw [beq_eq_false_iff_ne];omega
 have d0':(n==0)=false:=by rw [beq_eq_false_iff_ne];omega
 have d1:decide ((1024:Int)<(n:Int))=true:=decide_eq_true (by omega)
 have d1':decide (1024<n)=true:=decide_eq_true hn
 clear hn
 go_enter Tryz.func110,Tryz.ntmps110
 go_wp2
 go_ret
 exact ⟨rfl,rfl⟩
theorem gkR_put (num den:Nat) (w:World) (p:Nat) (G:List Nat) (D:GkD) (h:GkRk num den w p G D) (hs:D.total≤2000000000) (x:Int) (hx:InR x) (n:Nat) :
 Calls Tryz.prog 110 #[.pointer (some ⟨p,0,none⟩),.int .i64 x,.int .u64 (n:Nat)] w fun e w'=>e=.returned (.int .i64 (GkD.putE n:Nat))∧∃ G',GkRk num den w' p G' (D.putV x n)∧Mv G w G' w':=by
 obtain ⟨rv,wv,h1,h2,h3,h4,h5,rfl⟩:=h
 unfold GkD.putV
 by_cases h0:n=0
 ·subst h0
  refine (gk_put_zero w p x).mono ?_
  rintro e w' ⟨rfl,rfl⟩
  exact ⟨rfl,_,⟨rv,wv,h1,h2,h3,h4,h5,rfl⟩,Mv.of_chg (Chg.refl _ _)⟩
 ·by_cases hf:1024<n
  ·have hE:GkD.putE n=3:=by unfold GkD.putE;rw [if_neg h0,if_pos hf]
   rw [hE,if_neg (by decide)]
   refine (gk_put_longN w p x n hf).mono ?_
   rintro e w' ⟨rfl,rfl⟩
   exact ⟨rfl,_,⟨rv,wv,h1,h2,h3,h4,h5,rfl⟩,Mv.of_chg (Chg.refl _ _)⟩
  ·have hE:GkD.putE n=0:=by unfold GkD.putE;rw [if_neg h0,if_neg hf]
   rw [hE,if_pos rfl]
   refine (gk_put w p rv wv D h1 h2 (by rw [h5.1,h5.2];exact h4) x n (by omega) (by omega) (by omega)).mono ?_
   rintro e w' ⟨rfl,rv',wv',ht,hm⟩
   obtain ⟨e1,e2,-⟩:=D.putN_same x n
   exact ⟨rfl,_,⟨rv',wv',ht,GkD.putN_ok h2 x n,h3.putN hx n,h4,⟨by rw [e1];exact h5.1,by rw [e2];exact h5.2⟩,rfl⟩,hm⟩
theorem freshR_green (w:World) (c:Cf) (hk:c.kind=4) :
 Calls Tryz.prog 66 #[c.val] w fun e w'=>∃ v k,e=.returned (.tuple #[.iface 223 (.agg #[.pointer v]),.int .i64 k])∧FQ (GkRk c.num c.den) (GkD.new c.num c.den) (goodK c.num c.den) w.heap.size v k w'∧Chg [] w w':=
 freshk_green w c hk _ (fun u hu=>by
  cases hg:goodK c.num c.den with
  | false =>
    refine (gk_new_bad u c.num c.den hg).mono ?_
    rintro e w' ⟨rfl,hc⟩
    exact ⟨_,_,rfl,.inl ⟨rfl,by decide⟩,hc⟩
  | true =>
    refine (gk_new u c.num c.den hg).mono ?_
    rintro e w' ⟨p,rfl,ht,hc,hp⟩
    refine ⟨_,_,rfl,.inr ⟨rfl,rfl,p,_,rfl,⟨_,_,ht,GkD.new_ok _ _,GkD.inr.new _ _,hg,⟨rfl,rfl⟩,rfl⟩,fun b hb => ?_⟩,hc⟩
    simp only [fpK,blkOf_none,List.mem_cons,List.append_nil,List.not_mem_nil,or_false] at hb
    have:=hu.size
    omega)
def kbGreen (c:Cf) (hk:c.kind=4):Kb c where
 S:=GkD
 P:=Up 223 c (GkRk c.num c.den)
 sz:=GkD.total
 init:=GkD.new c.num c.den
 ok:=c.same { Cf.none 4 with num:=c.num,den:=c.den } && goodK c.num c.den
 put:=GkD.putV
 putE:=fun _ _ n=>(GkD.putE n:Nat)
 enc:=putGk
 tot:=GkD.total
 kk:=4
 kind:=by rw [hk];rfl
 lt:=fun h=>Up.lt (GkRk.und _ _) h
 chg:=fun h k hF=>Up.chg (GkRk.und _ _) h k hF
 sz0:=rfl
 szp:=fun D x n=>by
  show (D.putV x n).total≤_∧(D.putV x n).total≤_
  unfold GkD.putV
  split
  ·rename_i he
   have h2:=(D.putN_same x n).2.2
   unfold GkD.putE at he
   rw [h2]
   refine ⟨Nat.le_refl _,?_⟩
   by_cases h0:n=0
   ·omega
   ·rw [if_neg h0] at he
    by_cases h1:1024<n
    ·rw [if_pos h1] at he;exact absurd he (by decide)
    ·omega
  ·omega
 new:=fun w _=>new_up (GkRk.und _ _) w c _ (fun u=>bare_green u c hk) (fun u hu=>(freshR_green u c hk).mono (by
  rintro e w' ⟨v,k,rfl,hq,hc⟩
  exact ⟨v,k,rfl,hq.mono hu.size,hc⟩))
 putC:=fun {w s F st} h hs x n hx hn=>by
  obtain ⟨p,G,hsk,hr,rfl,hns⟩:=h
  refine kk_put_green w s p c hsk x n _ ((gkR_put _ _ w p G st hr hs x hx n).mono ?_)
  rintro e w' ⟨rfl,G',hr',hm⟩
  obtain ⟨hU,hM⟩:=Up.mv hsk hr hns hr' hm
  exact ⟨_,rfl,rfl,_,hU,hM⟩
 encC:=fun {w s F st} h hs=>by
  obtain ⟨p,G,hsk,⟨rv,wv,h1,h2,h3,h4,h5,rfl⟩,rfl,hns⟩:=h
  exact sk_enc_green w s p c hsk 4 (by rw [hk];rfl) (putGk st) (fun u q F hu hq hF=>gk_write u p rv wv st (h1.chg hu (by simp)) h2 h3 (by rw [h5.1,h5.2];exact h4) hs q F [] (by simp) hq)
 fit:=fun {w s F st} h hs=>by
  obtain ⟨p,G,hsk,⟨rv,wv,h1,h2,h3,h4,h5,rfl⟩,rfl,hns⟩:=h
  have:=putGk_len h2 h3 (by rw [h5.1,h5.2];exact h4) hs
  omega
 totC:=fun {w s F st} h=>by
  obtain ⟨p,G,hsk,⟨rv,wv,h1,h2,h3,h4,h5,rfl⟩,rfl,hns⟩:=h
  exact kk_total_green w s p c hsk _ (fun u hu=>(gk_total u p rv wv st (h1.chg hu (by simp))).mono (by rintro e w' ⟨rfl,rfl⟩;exact ⟨rfl,Chg.refl _ _⟩))
 tot0:=rfl
 reset:=fun {w s F st} h hok _=>by
  have ho:goodK c.num c.den=true:=by
   cases h:goodK c.num c.den with
   | true=>rfl
   | false=>rw [h] at hok;simp at hok
  refine reset_up (GkRk.und _ _) w c s F st h (fun u hu=>(freshR_green u c hk).mono ?_)
  rintro e w' ⟨v,k,rfl,hq,hc⟩
  rw [ho] at hq
  exact ⟨v,k,rfl,hq.mono hu.size,hc⟩
def refBit (b:Nat):Nat→Nat→Nat
 | 0,c=>c
 | i+1,c=>if b / 2^i % 2≠refBit b i c % 2 then (refBit b i c / 2) ^^^ 3988292384 else refBit b i c / 2
theorem refBit_eq (b c i:Nat):crcTN i (c ^^^ b)=refBit b i c ^^^ b / 2^i:=by
 induction i with
 | zero=>simp [crcTN,refBit]
 | succ i ih =>
   rw [crcTN,ih,crcT,refBit]
   have hm:=@Nat.xor_mod_two_eq_one (refBit b i c) (b / 2^i)
   have hd:(refBit b i c ^^^ b / 2^i) / 2=refBit b i c / 2 ^^^ b / 2^i / 2:=Nat.xor_div_two
   rw [hd,Nat.pow_succ,←Nat.div_div_eq_div_mul]
   generalize refBit b i c=r at *
   generalize b / 2^i=y at *
   by_cases h:(r ^^^ y) % 2=1
   ·rw [if_pos h,if_pos (by rw [hm] at h;omega),Nat.xor_assoc,Nat.xor_assoc,Nat.xor_comm (y / 2)]
   ·rw [if_neg h,if_neg (by rw [hm] at h;omega)]
theorem refBit_8 (b:UInt8) (c:Nat):refBit b.toNat 8 c=crcStep c b:=by
 have h:=refBit_eq b.toNat c 8
 have hb:=b.toNat_lt
 rw [show b.toNat / 2^8=0 from Nat.div_eq_of_lt hb,Nat.xor_zero] at h
 rw [crcStep,h]
theorem refBit_lt (b c i:Nat) (h:c<4294967296):refBit b i c<4294967296:=by
 induction i with
 | zero=>exact h
 | succ i ih =>
   rw [refBit]
   split
   ·exact Nat.xor_lt_two_pow (n:=32) (by omega) (by omega)
   ·omega
theorem bit_bne (u i r:Nat) (hu:u<256):((((u:Int) % 4294967296) / 2^i).tmod 2 != (r:Int) % 2)=decide (u / 2^i % 2≠r % 2):=by
 have h1:(u:Int) % 4294967296=(u:Int):=by omega
 have h2:(u:Int) / 2^i=((u / 2^i:Nat):Int):=by simp
 rw [h1,h2]
 generalize u / 2^i=y
 rw [Int.tmod_eq_emod_of_nonneg (by omega),Bool.eq_iff_iff]
 simp only [bne_iff_ne,decide_eq_true_eq]
 omega
set_option maxRecDepth 100000 in
set_option maxHeartbeats 1000000 in
theorem ref_sum (w:World) (s:List UInt8) (hs:s.length≤70368744177664) :
 Calls Tryz.prog 65 #[.string ⟨s.toArray⟩] w fun e w'=>e=.returned (.int .u32 (crcSum s:Nat))∧w=w':=by
 go_enter Tryz.func65,Tryz.ntmps65
 go_wp2
 go_loopw [3,4] (fun c i wx=>∃ k,k≤s.length∧i=.int .i64 (k:Nat)∧c=.int .u32 (crcOf 4294967295 (s.take k):Nat)∧w=wx) (fun _ i _=>s.length-(intOf i).toNat)
 case atStart=>exact ⟨0,by omega,rfl,rfl,rfl⟩
 case round =>
  obtain ⟨k,hk,rfl,rfl,rfl⟩:=hrel
  have hcl:=crcOf_lt (c:=4294967295) (by omega) (s.take k)
  by_cases hlt:k<s.length
  ·have HS:=Lib.hid (crcOf_take_succ 4294967295 s k hlt)
   have H8:=Lib.hid (refBit_8 s[k] (crcOf 4294967295 (s.take k)))
   generalize crcOf 4294967295 (s.take k)=c at *
   have HB:=Lib.hid (s[k].toNat_lt)
   go_wp2
   go_loopw [3,5] (fun c' j wx=>∃ i,i≤8∧j=.int .i64 (i:Nat)∧c'=.int .u32 (refBit s[k].toNat i c:Nat)∧w=wx) (fun _ j _=>8-(intOf j).toNat)
   case atStart=>exact ⟨0,by omega,rfl,rfl,rfl⟩
   case round =>
    obtain ⟨i,hi,rfl,rfl,rfl⟩:=hrel
    by_cases h8:i<8
    ·have hrl:=refBit_lt s[k].toNat c i hcl
     have hstep:refBit s[k].toNat (i+1) c=if s[k].toNat / 2^i % 2≠refBit s[k].toNat i c % 2 then (refBit s[k].toNat i c / 2) ^^^ 3988292384 else refBit s[k].toNat i c / 2:=rfl
     obtain ⟨nx,hnx⟩:∃ nx,nx=refBit s[k].toNat (i+1) c:=⟨_,rfl⟩
     rw [←hnx] at hstep
     have HN:=Lib.hid hnx
     clear hnx
     generalize refBit s[k].toNat i c=r at *
     have hbb:=bit_bne s[k].toNat i r HB.out
     by_cases hq:s[k].toNat / 2^i % 2≠r % 2
     ·rw [if_pos hq] at hstep
      rw [decide_eq_true hq] at hbb
      have hx:bits .xor .u32 ((r:Int) / 2) 3988292384=(nx:Int):=by
       have:=u32_xor_nat (r / 2) 3988292384 (by omega) (by omega)
       rw [hstep]
       simpa using this
      clear hq hstep
      go_wp2
      exact ⟨⟨i+1,by omega,by go_num,by rw [HN.out],trivial⟩,by simp [intOf];omega⟩
     ·rw [if_neg hq] at hstep
      rw [decide_eq_false hq] at hbb
      have hx:(r:Int) / 2=(nx:Int):=by rw [hstep];simp
      clear hq hstep
      go_wp2
      exact ⟨⟨i+1,by omega,by go_num,by rw [HN.out],trivial⟩,by simp [intOf];omega⟩
    ·obtain rfl:i=8:=by omega
     go_wp2
     exact ⟨⟨k+1,by omega,by go_num,by rw [HS.out,←H8.out],trivial⟩,by simp [intOf];omega⟩
  ·obtain rfl:k=s.length:=by omega
   rw [List.take_length] at hcl ⊢
   have hn:(4294967295:Int)-(crcOf 4294967295 s:Nat)=((crcSum s:Nat):Int):=by rw [crcSum];omega
   generalize crcOf 4294967295 s=c at *
   go_wp2
   go_ret
   exact ⟨rfl,rfl⟩
theorem one_byte_at (wx:World) (n:Nat) (k:UInt8) (h:wx.cell? ⟨n,0,none⟩=some (.int .u8 (k.toNat:Nat))) :
 (convert 37 9 (.slice (some ⟨n,0,none⟩) 1 1)).run Tryz.prog wx=.ok (.string ⟨[k].toArray⟩) wx:=by
 refine run_string_rd (P:=Tryz.prog) (dst:=9) (n:=1) under_bytes under_u8 under_string ⟨rfl,_,_,rfl,.inr ⟨_,_,rfl,fun j hj => ?_⟩⟩
 obtain rfl:j=0:=by omega
 rw [Nat.zero_add,h]
 rfl
theorem ref_nat_e' (w:World) (x:Int) (n:Nat) (hn:n<18446744073709551616) (hx:x=(n:Int)) :
 Calls Tryz.prog 64 #[.int .u64 x] w fun e w'=>e=.returned (.string ⟨(natB n).toArray⟩)∧Chg [] w w':=by
 subst hx
 exact ref_nat w n hn
set_option maxRecDepth 100000 in
set_option maxHeartbeats 200000 in
theorem ref_close (w:World) (k:UInt8) (t:List UInt8) (ht:t.length≤1000000) :
 Calls Tryz.prog 16 #[.int .u8 (k.toNat:Nat),.string ⟨t.toArray⟩] w fun e w'=>e=.returned (.string ⟨(closeB k t).toArray⟩)∧Chg [] w w':=by
 have HT:=Lib.hid (show t.length<18446744073709551616 by omega)
 have HW:=Lib.hid (show IntKind.u64.wrap (t.length:Int)=(t.length:Int) from IntWalk.u64_in _ (by omega))
 have HN:=Lib.hid (natB_len10 (n:=t.length) (by omega))
 go_enter Tryz.func16,Tryz.ntmps16
 have hgl:=HN.out
 have hj:ByteArray.mk #[79,71,1]++ByteArray.mk #[k]=ByteArray.mk [79,71,1,k].toArray:=rfl
 have f1:¬9223372036854775807<4+(natB t.length).length:=by omega
 have f2:¬9223372036854775807 < [79,71,1,k].length+(natB t.length).length:=by simp;omega
 have f3:¬9223372036854775807<4+(natB t.length).length+t.length:=by omega
 have f4:¬9223372036854775807 < [79,71,1,k].length+(natB t.length).length+t.length:=by simp;omega
 have hcv:=fun wx:World=>run_one_byte wx _ k rfl
 have hcvD:∀ wx:World,(convert 37 9 (.slice (some ⟨wx.heap.size,0,none⟩) 1 1)).run Tryz.prog (wx.alloc (.cells #[.int .u8 (k.toNat:Nat)] 5)).drew=.ok (.string ⟨[k].toArray⟩) (wx.alloc (.cells #[.int .u8 (k.toNat:Nat)] 5)).drew:=fun wx =>
  one_byte_at _ _ k (Blk.drew (Blk.alloc_new wx #[.int .u8 (k.toNat:Nat)] 5) |>.cell 0)
 go_wp2_with fail
 go_cut [5] (fun x wx=>x=.string ⟨(headF k t).toArray⟩∧Chg [] w wx)
 case first =>
  go_region_with (first|(go_at_call 64;refine (ref_nat_e' _ _ t.length HT.out HW.out).mono ?_;rintro e w' ⟨rfl,hc1⟩;(first|(have hcC:=one_byte_at w' w.heap.size k (hc1.cell (show _=some _ from (Blk.drew (Blk.alloc_new w #[.int .u8 (k.toNat:Nat)] 5)).cell 0) (by simp)))|skip)))
  all_goals
   go_wp2_with fail
   go_meet
   exact ⟨by simp [headF,markB,ByteArray.mk_append_mk],by with_reducible (repeat (first|exact Chg.refl _ _|assumption|apply Chg.drew|apply Chg.alloc|refine Chg.trans ?_ (by assumption)))⟩
 case rest =>
  obtain ⟨rfl,hc1⟩:=hcut
  have hlH:(headF k t).length≤2000000:=by rw [headF_len];omega
  have HCL:=Lib.hid (show closeB k t=headF k t++fourB (crcSum (headF k t)) from rfl)
  clear f1 f2 f3 f4 hcv hcvD hgl hj
  generalize headF k t=H at *
  go_wp2_with fail
  refine (ref_sum wc H (by omega)).mono ?_
  rintro e w2 ⟨rfl,rfl⟩
  have hlt:=crcSum_lt H
  have h0:=u8_of1 (crcSum H)
  have h1:IntKind.u8.wrap ((crcSum H:Int) / 256)=_:=u8_of (crcSum H) 256
  have h2:IntKind.u8.wrap ((crcSum H:Int) / 65536)=_:=u8_of (crcSum H) 65536
  have h3:IntKind.u8.wrap ((crcSum H:Int) / 16777216)=_:=u8_of (crcSum H) 16777216
  rw [fourB] at HCL
  generalize crcSum H=c at *
  generalize UInt8.ofNat (c % 256)=b0 at *
  generalize UInt8.ofNat (c / 256 % 256)=b1 at *
  generalize UInt8.ofNat (c / 65536 % 256)=b2 at *
  generalize UInt8.ofNat (c / 16777216 % 256)=b3 at *
  have k0:(c:Int) % 256=(b0.toNat:Int):=by simpa [IntKind.wrap,IntKind.bits,IntKind.signed] using h0
  have k1:(c:Int) / 256 % 256=(b1.toNat:Int):=by simpa [IntKind.wrap,IntKind.bits,IntKind.signed] using h1
  have k2:(c:Int) / 65536 % 256=(b2.toNat:Int):=by simpa [IntKind.wrap,IntKind.bits,IntKind.signed] using h2
  have hr:=Rd.lit wc #[.int .u8 b0.toNat,.int .u8 b1.toNat,.int .u8 b2.toNat,.int .u8 b3.toNat] 5 1 4 4 (by simp)
  have hcv:=run_string_rd (P:=Tryz.prog) (dst:=9) under_bytes under_u8 under_string (l:=[b0,b1,b2,b3]) (by simpa [u8s] using hr)
  go_wp2
  go_ret
  exact ⟨by rw [HCL.out];simp [ByteArray.mk_append_mk],hc1.alloc _⟩
end Go.Proofs.YthoolcpcmhhkpaaGreatDoor
