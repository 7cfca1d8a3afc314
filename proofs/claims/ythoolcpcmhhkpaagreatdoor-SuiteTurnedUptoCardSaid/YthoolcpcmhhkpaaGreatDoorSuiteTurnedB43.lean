/-
  Parts of a proof, pressed. Conditions: the form's own reach.
-/
import Derived.Test.YthoolcpcmhhkpaaGreatDoorSuiteTurnedB42
import Derived.Test.YthoolcpcmhhkpaaGreatDoorSuiteTurnedB21
import Derived.Test.YthoolcpcmhhkpaaGreatDoorSuiteTurnedB16
import Derived.Test.YthoolcpcmhhkpaaGreatDoorSuiteTurnedB4
import Derived.Test.YthoolcpcmhhkpaaGreatDoorSuiteTurnedB6
import Derived.Test.YthoolcpcmhhkpaaGreatDoorSuiteTurnedB17
import Derived.Test.YthoolcpcmhhkpaaGreatDoorSuiteTurnedB9
import Derived.Test.YthoolcpcmhhkpaaGreatDoorSuiteTurnedB39
namespace Go.Proofs.YthoolcpcmhhkpaaGreatDoor
open Go.RowKit
set_option maxRecDepth 100000 in
set_option maxHeartbeats 1000000 in
theorem hd_config (w:World) (h p s0 s1:Nat) (r0 r1:Value) (D:HdD) (d:HdS w h p s0 s1 r0 r1 D):Calls Tryz.prog 367 #[.pointer (some ⟨h,0,none⟩)] w fun e w'=>e=.returned (.agg #[.int .i64 (D.digits:Nat),.int .u64 (D.limit:Nat)])∧Chg [] w w':=by
 obtain ⟨c0,c1,-,-,-,-,-,-⟩:=(d.nil ((Chg.refl [] w).alloc (.cells #[.int .i64 0,.int .u64 0] 105))).cells
 have hb:=Blk.alloc_new w #[.int .i64 0,.int .u64 0] 105
 have z0:=hb.cell 0
 have z1:=hb.cell 1
 have f0:=hb.free 0
 have f1:=hb.free 1
 go_enter Tryz.func367,Tryz.ntmps367
 go_wp2
 have hb2:=Blk.alloc_new w #[.int .i64 (D.digits:Nat),.int .u64 (D.limit:Nat)] 105
 have y0:=hb2.cell 0
 have y1:=hb2.cell 1
 refine bodyPost_ret (v:=.agg #[.int .i64 (D.digits:Nat),.int .u64 (D.limit:Nat)]) (by simp [results,Tryz.results367,go_sem,y0,y1]) rfl ⟨rfl,?_⟩
 with_reducible (repeat (first|exact Chg.refl _ _|apply Chg.alloc))
set_option maxRecDepth 100000 in
theorem hd_zero (w:World) (h p s0 s1:Nat) (r0 r1:Value) (D:HdD) (d:HdS w h p s0 s1 r0 r1 D):Calls Tryz.prog 51 #[.pointer (some ⟨h,0,none⟩)] w fun e w'=>e=.returned (.int .u64 (D.zero:Nat))∧w=w':=by
 obtain ⟨-,-,-,-,-,c5,-,-⟩:=d.cells
 clear d
 go_enter Tryz.func51,Tryz.ntmps51
 go_wp2
 go_ret
 exact ⟨rfl,rfl⟩
set_option maxRecDepth 100000 in
set_option maxHeartbeats 1000000 in
theorem hd_Ends (w:World) (h p s0 s1:Nat) (r0 r1:Value) (D:HdD) (d:HdS w h p s0 s1 r0 r1 D) (hok:D.ok) (B:Bool) (hB:B=decide (D.total≠0)):Calls Tryz.prog 50 #[.pointer (some ⟨h,0,none⟩)] w fun e w'=>e=.returned (.tuple #[.int .i64 D.least,.int .i64 D.most,.bool B])∧Chg [] w w':=by
 have htm:=hok.tot
 obtain ⟨T,hT⟩:∃ T,T=D.total:=⟨_,rfl⟩
 have HTO:=Lib.hid (hd_total w h p s0 s1 r0 r1 D d T hT (by omega))
 have HD:=Lib.hid d
 by_cases h0:T=0
 ·have d0:((T:Int)==0)=true:=by rw [beq_iff_eq];omega
  obtain ⟨e1,e2⟩:=hok.none (by omega)
  have hb:B=false:=by rw [hB];exact decide_eq_false (by omega)
  subst hb
  rw [e1,e2]
  clear d hok htm hT h0 hB e1 e2
  go_enter Tryz.func50,Tryz.ntmps50
  go_wp2_with fail
  refine HTO.out.mono ?_
  rintro e w1 ⟨rfl,hc1⟩
  have HC1:=Lib.hid hc1
  clear hc1 HTO
  go_wp2
  refine bodyPost_ret (v:=.tuple #[.int .i64 0,.int .i64 0,.bool false]) (by simp [results,Tryz.results50,go_sem]) rfl ?_
  exact ⟨rfl,HC1.out⟩
 ·have d0:((T:Int)==0)=false:=by rw [beq_eq_false_iff_ne];omega
  have hb:B=true:=by rw [hB];exact decide_eq_true (by omega)
  subst hb
  clear d hok htm hT h0 hB
  go_enter Tryz.func50,Tryz.ntmps50
  go_wp2_with fail
  refine HTO.out.mono ?_
  rintro e w1 ⟨rfl,hc1⟩
  have HC1:=Lib.hid hc1
  obtain ⟨-,-,-,-,-,-,c6,c7⟩:=(HD.out.nil hc1).cells
  clear hc1 HTO
  go_wp2_with fail
  go_quiet (fail)
  go_wp2
  refine bodyPost_ret (v:=.tuple #[.int .i64 D.least,.int .i64 D.most,.bool true]) (by simp [results,Tryz.results50,go_sem]) rfl ?_
  exact ⟨rfl,HC1.out.drewN _⟩
theorem enters_hpairs:∀ (args:Array Value) (w:World),(callFunc 99 args).run Tryz.prog w=.ok (.enter 99 args) w:=enters_of Tryz.func99 (by kernel_rfl) rfl
set_option maxRecDepth 100000 in
set_option maxHeartbeats 2000000 in
theorem hd_rows (w:World) (h p s0 s1:Nat) (r0 r1:Value) (D:HdD) (d:HdS w h p s0 s1 r0 r1 D) (hok:D.ok) (n m:Nat) (hn:n=D.minus.length) (hm:m=D.plus.length):Calls Tryz.prog 49 #[.pointer (some ⟨h,0,none⟩)] w fun e w'=>∃ a1 k1 a2 k2,e=.returned (.tuple #[.slice a1 n k1,.slice a2 m k2])∧Own w' 183 2 (.slice a1 n k1) n (prCells D.minus)∧Own w' 183 2 (.slice a2 m k2) m (prCells D.plus)∧Chg [] w w'∧(∀ b∈abl a1,w.heap.size≤b)∧∀ b∈abl a2,w.heap.size≤b:=by
 have n5:=hok.minus.few
 have m5:=hok.plus.few
 have HM:=Lib.hid (fun u (hu:Chg [] w u)=>stm_pairs u s0 4096 r0 D.minus (d.st0.chg hu (by simp)) n hn (by omega))
 have HP:=Lib.hid (fun u (hu:Chg [] w u)=>stm_pairs u s1 4096 r1 D.plus (d.st1.chg hu (by simp)) m hm (by omega))
 have HCC:=Lib.hid (fun u (hu:Chg [] w u)=>(d.nil hu).cells)
 clear d hok n5 m5 hn hm
 go_enter Tryz.func49,Tryz.ntmps49
 go_wp2_with fail
 have HS:=Lib.hid (fun wx (hu:Chg [] w wx)=>show Chg [] w wx∧wx.cell? ⟨h,3,none⟩=some (.pointer (some ⟨s0,0,none⟩))∧wx.cell? ⟨h,4,none⟩=some (.pointer (some ⟨s1,0,none⟩)) from ⟨hu,(HCC.out wx hu).2.2.2.1,(HCC.out wx hu).2.2.2.2.1⟩)
 have hS0:=HS.out w.drew (Chg.refl [] w).drew
 refine startN (S:=fun wx=>Chg [] w wx∧wx.cell? ⟨h,3,none⟩=some (.pointer (some ⟨s0,0,none⟩))∧wx.cell? ⟨h,4,none⟩=some (.pointer (some ⟨s1,0,none⟩))) (by kernel_rfl) hS0 (fun hHeld => ?_)
 refine takeN (i:=0) (v:=?va0) rfl (by kernel_rfl) (by kernel_rfl) (by kernel_rfl) (fun _ _ _ h=>h) (Or.inl ⟨by rfl,?ya0⟩) hS0 ?ra0
 case ya0=>(intro w hSw;(try dsimp only at hSw);go_simp;first|done|with_reducible rfl)
 try simp only [Act.put,jI,jZ,jS]
 refine takeN (i:=1) (v:=?va1) rfl (by kernel_rfl) (by kernel_rfl) (by kernel_rfl) (fun _ _ _ h=>h) (Or.inl ⟨by rfl,?ya1⟩) hS0 ?ra1
 case ya1=>(intro w hSw;(try dsimp only at hSw);go_simp;first|done|with_reducible rfl)
 try simp only [Act.put,jI,jZ,jS]
 refine takeN (i:=2) (v:=?va2) rfl (by kernel_rfl) (by kernel_rfl) (by kernel_rfl) (fun _ _ _ h=>h) (Or.inl ⟨by rfl,?ya2⟩) hS0 ?ra2
 case ya2=>(intro w hSw;(try dsimp only at hSw);go_simp;first|done|with_reducible rfl)
 try simp only [Act.put,jI,jZ,jS]
 refine takeN (i:=3) (v:=?va3) rfl (by kernel_rfl) (by kernel_rfl) (by kernel_rfl) (fun _ _ _ h=>h) (Or.inl ⟨by rfl,?ya3⟩) hS0 ?ra3
 case ya3=>(intro w hSw;(try dsimp only at hSw);go_simp;first|done|with_reducible rfl)
 try simp only [Act.put,jI,jZ,jS]
 refine takeN (i:=4) (v:=?va4) rfl (by kernel_rfl) (by kernel_rfl) (by kernel_rfl) (fun _ _ _ h=>h) (Or.inl ⟨by rfl,?ya4⟩) hS0 ?ra4
 case ya4=>(intro w hSw;(try dsimp only at hSw);go_simp;first|done|with_reducible rfl)
 try simp only [Act.put,jI,jZ,jS]
 refine takeN (i:=6) (v:=?va6) rfl (by kernel_rfl) (by kernel_rfl) (by kernel_rfl) (fun _ _ _ h=>h) (Or.inl ⟨by rfl,?ya6⟩) hS0 ?ra6
 case ya6=>(intro w hSw;(try dsimp only at hSw);go_simp;first|done|with_reducible rfl)
 try simp only [Act.put,jI,jZ,jS]
 refine takeN (i:=7) (v:=?va7) rfl (by kernel_rfl) (by kernel_rfl) (by kernel_rfl) (fun _ _ _ h=>h) (Or.inl ⟨by rfl,?ya7⟩) hS0 ?ra7
 case ya7=>(intro w hSw;(try dsimp only at hSw);go_simp;first|done|with_reducible rfl)
 try simp only [Act.put,jI,jZ,jS]
 refine takeN (i:=8) (v:=?va8) rfl (by kernel_rfl) (by kernel_rfl) (by kernel_rfl) (fun _ _ _ h=>h) (Or.inl ⟨by rfl,?ya8⟩) hS0 ?ra8
 case ya8=>(intro w hSw;(try dsimp only at hSw);go_simp;first|done|with_reducible rfl)
 try simp only [Act.put,jI,jZ,jS]
 refine takeN (i:=9) (v:=?va9) rfl (by kernel_rfl) (by kernel_rfl) (by kernel_rfl) (fun _ _ _ h=>h) (Or.inl ⟨by rfl,?ya9⟩) hS0 ?ra9
 case ya9=>(intro w hSw;(try dsimp only at hSw);go_simp;first|done|with_reducible rfl)
 try simp only [Act.put,jI,jZ,jS]
 refine takeN (i:=10) (v:=?va10) rfl (by kernel_rfl) (by kernel_rfl) (by kernel_rfl) (fun _ _ _ h=>h) (Or.inl ⟨by rfl,?ya10⟩) hS0 ?ra10
 case ya10=>(intro w hSw;(try dsimp only at hSw);go_simp;first|done|with_reducible rfl)
 try simp only [Act.put,jI,jZ,jS]
 refine readyN (rs:=[5]) (by kernel_rfl) (by simp) (consN rfl (fun K hK => ?_) nilN)
 refine step_callsG (by rfl) 99 _ _ rfl enters_hpairs _ #[.pointer (some ⟨s0,0,none⟩)] (by simp [Act.eval]) (HM.out _ hS0.1) ?_;rintro e w1 ⟨a1,k1,rfl,ho1,hc1,hf1⟩;refine ⟨_,rfl,?_⟩
 have HO1:=Lib.hid (And.intro ho1 (show ∀ b∈abl a1,w.heap.size≤b from fun b hb=>Nat.le_trans hS0.1.size (hf1 b hb)))
 have hS1:=HS.out _ (hS0.1.trans hc1)
 clear ho1 hc1 hf1
 refine hK.out _ _ hS1 (fun hHeld => ?_)
 clear hK K hHeld
 try simp only [Act.put,jI,jZ,jS]
 refine readyN (rs:=[11]) (by kernel_rfl) (by simp) (consN rfl (fun K hK => ?_) nilN)
 refine step_callsG (by rfl) 99 _ _ rfl enters_hpairs _ #[.pointer (some ⟨s1,0,none⟩)] (by simp [Act.eval]) (HP.out _ hS1.1) ?_;rintro e w2 ⟨a2,k2,rfl,ho2,hc2,hf2⟩;refine ⟨_,rfl,?_⟩
 have HR1:=Lib.hid (And.intro (HO1.out.1.chg hc2 (fun b hb e=>absurd e (by simp))) HO1.out.2)
 have HR2:=Lib.hid (And.intro ho2 (show ∀ b∈abl a2,w.heap.size≤b from fun b hb=>Nat.le_trans hS1.1.size (hf2 b hb)))
 have hS2:=HS.out _ (hS1.1.trans hc2)
 clear ho2 hc2 hf2
 refine hK.out _ _ hS2 (fun hHeld => ?_)
 clear hK K hHeld
 try simp only [Act.put,jI,jZ,jS]
 refine takeN (i:=12) (v:=?va12) rfl (by kernel_rfl) (by kernel_rfl) (by kernel_rfl) (fun _ _ _ h=>h) (Or.inl ⟨by rfl,?ya12⟩) hS2 ?ra12
 case ya12=>(intro w hSw;(try dsimp only at hSw);go_simp;first|done|with_reducible rfl)
 try simp only [Act.put,jI,jZ,jS]
 refine takeN (i:=13) (v:=?va13) rfl (by kernel_rfl) (by kernel_rfl) (by kernel_rfl) (fun _ _ _ h=>h) (Or.inl ⟨by rfl,?ya13⟩) hS2 ?ra13
 case ya13=>(intro w hSw;(try dsimp only at hSw);go_simp;first|done|with_reducible rfl)
 try simp only [Act.put,jI,jZ,jS]
 refine doneN (by kernel_rfl) ?_ _
 have HC2:=Lib.hid hS2.1
 clear hS0 hS1 hS2 HS HM HP HCC
 go_wp2
 go_ret2
 exact ⟨a1,k1,a2,k2,rfl,HR1.out.1,HR2.out.1,HC2.out,HR1.out.2,HR2.out.2⟩
theorem enters_hwconfig:∀ (args:Array Value) (w:World),(callFunc 367 args).run Tryz.prog w=.ok (.enter 367 args) w:=enters_of Tryz.func367 (by kernel_rfl) rfl
theorem fa_hcfg0 (u:World) (a b:Int):(Instr.field 105 (.agg #[.int .i64 a,.int .u64 b]) 0).run Tryz.prog u=.ok (.int .i64 a) u:=by kernel_rfl
theorem fa_hcfg1 (u:World) (a b:Int):(Instr.field 105 (.agg #[.int .i64 a,.int .u64 b]) 1).run Tryz.prog u=.ok (.int .u64 b) u:=by kernel_rfl
set_option maxRecDepth 100000 in
set_option maxHeartbeats 4000000 in
theorem hd_write (w:World) (h p s0 s1:Nat) (r0 r1:Value) (D:HdD) (d:HdS w h p s0 s1 r0 r1 D) (hok:D.ok) (q:Nat) (F:List Nat) (l:List UInt8) (hl:l.length≤1000) (hql:Qul w q F l) (hd:∀ b∈F,b∉fpHd h p s0 s1 r0 r1) :
 Calls Tryz.prog 365 #[.agg #[.pointer (some ⟨h,0,none⟩)],.pointer (some ⟨q,0,none⟩)] w fun e w'=>e=.returned (.tuple #[])∧∃ F',Qul w' q F' (l++putHd D)∧Mv F w F' w':=by
 obtain ⟨B,hB⟩:∃ B,B=decide (D.total≠0):=⟨_,rfl⟩
 obtain ⟨n,hn⟩:∃ n,n=D.minus.length:=⟨_,rfl⟩
 obtain ⟨m,hm⟩:∃ n,n=D.plus.length:=⟨_,rfl⟩
 have hdg:=hok.d2
 have hlm:=hok.lim
 have hzr:D.zero≤9223372036854775807:=by have:=hok.tot;unfold HdD.total at this;omega
 have hn5:n≤4096:=by have:=hok.minus.few;omega
 have hm5:m≤4096:=by have:=hok.plus.few;omega
 have HEN:=Lib.hid (fun u (hu:Chg [] w u)=>hd_Ends u h p s0 s1 r0 r1 D (d.nil hu) hok B hB)
 have HLO:=Lib.hid (show (-9223372036854775808≤D.least∧D.least<9223372036854775808)∧(-9223372036854775808≤D.most∧D.most<9223372036854775808) from by
  have h1:=hok.le
  have h2:=hok.low
  have h3:=hok.high
  omega)
 have HRW:=Lib.hid (fun u (hu:Chg [] w u)=>hd_rows u h p s0 s1 r0 r1 D (d.nil hu) hok n m hn hm)
 have HCF:=Lib.hid (fun u (hu:Chg [] w u)=>hd_config u h p s0 s1 r0 r1 D (d.nil hu))
 have HZR:=Lib.hid (fun u (hu:Chg F w u)=>hd_zero u h p s0 s1 r0 r1 D (d.chg hu (fun b hb e=>hd b e hb)))
 have htm:totP D.minus≤9223372036854775807∧totP D.plus≤9223372036854775807:=by have:=hok.tot;unfold HdD.total at this;omega
 have hlast:(spLast D.L:Int)<9223372036854775808:=by have:=spLast_le (logD_cases hok.d1 hok.d2);unfold HdD.L;omega
 have HROK:=Lib.hid (show (∀ p∈D.minus,p.ok)∧∀ p∈D.plus,p.ok from ⟨row_ok (a:=1) (b:=(spLast D.L:Int)) (by omega) hlast hok.minus.ix htm.1,row_ok (a:=1) (b:=(spLast D.L:Int)) (by omega) hlast hok.plus.ix htm.2⟩)
 have HQL:=Lib.hid (fun u (hu:Chg [] w u)=>hql.chg hu (by simp))
 have HFL:=Lib.hid (show ∀ b∈F,b<w.heap.size from hql.lt)
 have HPD:=Lib.hid (show putHd D=natB D.digits++(natB D.limit++(natB (zig D.least)++(natB (zig D.most)++(natB D.zero++(putB D.minus++putB D.plus))))) from rfl)
 have HN:=Lib.hid (And.intro hn hm)
 generalize putHd D=PD at *
 have HGE:Hid True:=Lib.hid trivial
 obtain ⟨lo,hlo⟩:∃ x,x=D.least:=⟨_,rfl⟩
 obtain ⟨hi,hhi⟩:∃ x,x=D.most:=⟨_,rfl⟩
 obtain ⟨dp,hdp⟩:∃ x,x=D.digits:=⟨_,rfl⟩
 obtain ⟨lm,hlmm⟩:∃ x,x=D.limit:=⟨_,rfl⟩
 obtain ⟨zr,hzz⟩:∃ x,x=D.zero:=⟨_,rfl⟩
 rw [←hlo,←hhi] at HEN HLO HPD
 rw [←hdp,←hlmm] at HCF HPD
 rw [←hzz] at HZR HPD hzr
 rw [←hdp] at hdg
 rw [←hlmm] at hlm
 obtain ⟨b0,hb0⟩:∃ z,z=w.heap.size:=⟨_,rfl⟩
 have HB:=Lib.hid (show Blk (w.alloc (.cells #[.pointer (some ⟨h,0,none⟩)] 219)) b0 #[.pointer (some ⟨h,0,none⟩)] 219 from by rw [hb0];exact Blk.alloc_new _ _ _)
 have HC0:=Lib.hid ((Chg.refl [] w).alloc (.cells #[.pointer (some ⟨h,0,none⟩)] 219))
 have HB0:=Lib.hid (show w.heap.size≤b0 from by omega)
 have hwd:IntKind.u64.wrap (dp:Int)=(dp:Int):=IntWalk.u64_in _ (by omega)
 have HDF:=Lib.hid (And.intro hdg (And.intro hlm (And.intro hzr (And.intro hn5 hm5))))
 clear d hok hql hd hB hn hm hdg hlm hzr hn5 hm5 htm hlast HGE hlo hhi hdp hlmm hzz
 go_enter Tryz.func365,Tryz.ntmps365
 go_wp2_with fail
 rw [←hb0]
 clear hb0
 generalize w.alloc (.cells #[.pointer (some ⟨h,0,none⟩)] 219)=w0 at *
 have hc0:=HB.out.cell 0
 simp only [List.getElem?_toArray,List.getElem?_cons_zero] at hc0
 go_wp2_with fail
 refine (HEN.out _ HC0.out).mono ?_
 rintro e wE ⟨rfl,hcE⟩
 have HCE:=Lib.hid (HC0.out.trans hcE)
 have HBE:=Lib.hid (HB.out.chg hcE (by simp))
 clear hc0 hcE HB HC0 HEN
 have hc0:=HBE.out.cell 0
 simp only [List.getElem?_toArray,List.getElem?_cons_zero] at hc0
 go_wp2_with fail
 refine (HRW.out _ HCE.out).mono ?_
 rintro e w1 ⟨a1,k1,a2,k2,rfl,ho1,ho2,hc1,hf1,hf2⟩
 have HC1:=Lib.hid (HCE.out.trans hc1)
 have HB1:=Lib.hid (HBE.out.chg hc1 (by simp))
 have HOW:=Lib.hid (And.intro ho1 ho2)
 have HFR:=Lib.hid (show (∀ b∈abl a1,w.heap.size≤b)∧∀ b∈abl a2,w.heap.size≤b from ⟨fun b hb=>Nat.le_trans HCE.out.size (hf1 b hb),fun b hb=>Nat.le_trans HCE.out.size (hf2 b hb)⟩)
 clear hc0 hc1 ho1 ho2 hf1 hf2 HBE HCE HRW
 have hc0:=HB1.out.cell 0
 simp only [List.getElem?_toArray,List.getElem?_cons_zero] at hc0
 go_wp2_with fail
 have fa0:=fa_hcfg0
 have fa1:=fa_hcfg1
 have hSS:w1.drew.cell? ⟨b0,0,none⟩=some (.pointer (some ⟨h,0,none⟩)):=hc0
 have HKS:=Lib.hid ((Chg.refl [] w1).drew)
 refine startN (S:=fun wx=>wx.cell? ⟨b0,0,none⟩=some (.pointer (some ⟨h,0,none⟩))) (by kernel_rfl) hSS (fun hHeld => ?_)
 refine takeN (i:=0) (v:=?va0) rfl (by kernel_rfl) (by kernel_rfl) (by kernel_rfl) (fun _ _ _ h=>h) (Or.inl ⟨by rfl,?ya0⟩) hSS ?ra0
 case ya0=>(intro w hSw;(try dsimp only at hSw);go_simp;first|done|with_reducible rfl)
 try simp only [Act.put,jI,jZ,jS]
 refine takeN (i:=1) (v:=?va1) rfl (by kernel_rfl) (by kernel_rfl) (by kernel_rfl) (fun _ _ _ h=>h) (Or.inl ⟨by rfl,?ya1⟩) hSS ?ra1
 case ya1=>(intro w hSw;(try dsimp only at hSw);go_simp;first|done|with_reducible rfl)
 try simp only [Act.put,jI,jZ,jS]
 refine takeN (i:=2) (v:=?va2) rfl (by kernel_rfl) (by kernel_rfl) (by kernel_rfl) (fun _ _ _ h=>h) (Or.inl ⟨by rfl,?ya2⟩) hSS ?ra2
 case ya2=>(intro w hSw;(try dsimp only at hSw);go_simp;first|done|with_reducible rfl)
 try simp only [Act.put,jI,jZ,jS]
 refine takeN (i:=6) (v:=?va6) rfl (by kernel_rfl) (by kernel_rfl) (by kernel_rfl) (fun _ _ _ h=>h) (Or.inl ⟨by rfl,?ya6⟩) hSS ?ra6
 case ya6=>(intro w hSw;(try dsimp only at hSw);go_simp;first|done|with_reducible rfl)
 try simp only [Act.put,jI,jZ,jS]
 refine takeN (i:=7) (v:=?va7) rfl (by kernel_rfl) (by kernel_rfl) (by kernel_rfl) (fun _ _ _ h=>h) (Or.inl ⟨by rfl,?ya7⟩) hSS ?ra7
 case ya7=>(intro w hSw;(try dsimp only at hSw);go_simp;first|done|with_reducible rfl)
 try simp only [Act.put,jI,jZ,jS]
 refine readyN (rs:=[3]) (by kernel_rfl) (by simp) (consN rfl (fun K hK => ?_) nilN)
 refine step_callsG (by rfl) 367 _ _ rfl enters_hwconfig _ #[.pointer (some ⟨h,0,none⟩)] (by simp [Act.eval]) (HCF.out _ (HC1.out.trans HKS.out)) ?_;rintro e wa ⟨rfl,hccwa⟩;refine ⟨_,rfl,?_⟩
 have HKwa:=Lib.hid (HKS.out.trans hccwa)
 have hSwa:wa.cell? ⟨b0,0,none⟩=some (.pointer (some ⟨h,0,none⟩)):=hccwa.cell hSS (by simp)
 clear hccwa
 refine hK.out _ _ hSwa (fun hHeld => ?_)
 clear hK K hHeld
 try simp only [Act.put,jI,jZ,jS]
 refine takeN (i:=4) (v:=?va4) rfl (by kernel_rfl) (by kernel_rfl) (by kernel_rfl) (fun _ _ _ h=>h) (Or.inl ⟨by rfl,?ya4⟩) hSwa ?ra4
 case ya4=>(intro w hSw;(try dsimp only at hSw);go_simp;first|done|with_reducible rfl)
 try simp only [Act.put,jI,jZ,jS]
 refine takeN (i:=5) (v:=?va5) rfl (by kernel_rfl) (by kernel_rfl) (by kernel_rfl) (fun _ _ _ h=>h) (Or.inl ⟨by rfl,?ya5⟩) hSwa ?ra5
 case ya5=>(intro w hSw;(try dsimp only at hSw);go_simp;first|done|with_reducible rfl)
 try simp only [Act.put,jI,jZ,jS]
 refine readyN (rs:=[8]) (by kernel_rfl) (by simp) (consN rfl (fun K hK => ?_) nilN)
 refine step_callsG (by rfl) 367 _ _ rfl enters_hwconfig _ #[.pointer (some ⟨h,0,none⟩)] (by simp [Act.eval]) (HCF.out _ (HC1.out.trans HKwa.out)) ?_;rintro e wb ⟨rfl,hccwb⟩;refine ⟨_,rfl,?_⟩
 have HKwb:=Lib.hid (HKwa.out.trans hccwb)
 have hSwb:wb.cell? ⟨b0,0,none⟩=some (.pointer (some ⟨h,0,none⟩)):=hccwb.cell hSwa (by simp)
 clear hccwb
 refine hK.out _ _ hSwb (fun hHeld => ?_)
 clear hK K hHeld
 try simp only [Act.put,jI,jZ,jS]
 refine takeN (i:=9) (v:=?va9) rfl (by kernel_rfl) (by kernel_rfl) (by kernel_rfl) (fun _ _ _ h=>h) (Or.inl ⟨by rfl,?ya9⟩) hSwb ?ra9
 case ya9=>(intro w hSw;(try dsimp only at hSw);go_simp;first|done|with_reducible rfl)
 try simp only [Act.put,jI,jZ,jS]
 refine readyN (rs:=[10]) (by kernel_rfl) (by simp) (consN rfl (fun K hK => ?_) nilN)
 refine step_bU2 rfl 27 31 rfl dp lm (by simp [Act.eval]) (by simp [Act.eval]) ?_;intro gb wc hrc hcc hgc
 have hSwc:wc.cell? ⟨b0,0,none⟩=some (.pointer (some ⟨h,0,none⟩)):=hcc.cell hSwb (by simp)
 have HKwc:=Lib.hid (HKwb.out.trans hcc)
 have HRC:=Lib.hid hrc
 have HGC:=Lib.hid (show w.heap.size≤gb from Nat.le_trans HC1.out.size (Nat.le_trans HKwb.out.size hgc))
 clear hcc hrc hgc
 refine hK.out _ _ hSwc (fun hHeld => ?_)
 clear hK K hHeld
 try simp only [Act.put,jI,jZ,jS]
 refine readyN (rs:=[11]) (by kernel_rfl) (by simp) (consN rfl (fun K hK => ?_) nilN)
 refine step_callsG (by rfl) 135 _ _ rfl enters_qnat _ #[.pointer (some ⟨q,0,none⟩),.slice (some ⟨gb,0,none⟩) 2 2] (by simp [Act.eval]) (qn_rd wc q F l (HQL.out _ (HC1.out.trans HKwc.out)) [dp,lm] (by have:=HDF.out;intro u hu;simp only [List.mem_cons,List.not_mem_nil,or_false] at hu;rcases hu with rfl|rfl<;>omega) (by simp only [List.length_cons,List.length_nil];omega) 2 rfl gb HRC.out (fun e=>by have h1:=HFL.out gb e;have h2:=HGC.out;omega)) ?_;rintro e wd ⟨rfl,F3,T3,hq3,hT3,hL3,hm3⟩;refine ⟨_,rfl,?_⟩
 have HQ3:=Lib.hid (And.intro hq3 (And.intro hT3 hL3))
 have HM3:=Lib.hid ((Mv.of_chg (HKwc.out.mono (by simp)):Mv F w1 F wc).trans hm3)
 have hSwd:wd.cell? ⟨b0,0,none⟩=some (.pointer (some ⟨h,0,none⟩)):=hm3.chg.cell hSwc (fun e=>by have h1:=HFL.out b0 e;have h2:=HB0.out;omega)
 clear hq3 hm3 hT3 hL3
 refine hK.out _ _ hSwd (fun hHeld => ?_)
 clear hK K hHeld
 try simp only [Act.put,jI,jZ,jS]
 refine doneN (by kernel_rfl) ?_ _
 clear hSS hSwa hSwb hSwc hSwd HKS HKwa HKwb HKwc HRC HGC HCF hwd fa0 fa1 hc0
 have HBF:=Lib.hid (show b0∉F from fun e=>by have h1:=HFL.out b0 e;have h2:=HB0.out;omega)
 go_wp2_with fail
 refine (qi_lit wd q F3 T3 HQ3.out.1 [lo,hi] (by have:=HLO.out;intro u hu;simp only [List.mem_cons,List.not_mem_nil,or_false] at hu;rcases hu with rfl|rfl;exact this.1;exact this.2) (by have:=HQ3.out.2.2;simp only [List.length_cons,List.length_nil];omega) _ rfl 2 rfl _ rfl).mono ?_
 rintro e w4 ⟨rfl,F4,T4,hq4,hT4,hL4,hm4⟩
 have HM4:=Lib.hid (HM3.out.trans hm4)
 have HT4:=Lib.hid (And.intro hT4 hL4)
 have HQ4:=Lib.hid hq4
 have hc0:w4.cell? ⟨b0,0,none⟩=some (.pointer (some ⟨h,0,none⟩)):=(HB1.out.chg HM4.out.chg HBF.out).cell 0
 clear hq4 hT4 hL4 hm4
 go_wp2_with fail
 refine (HZR.out _ (HC1.out.nil.trans HM4.out.chg)).mono ?_
 rintro e w5 ⟨rfl,rfl⟩
 go_wp2_with fail
 refine (qn_lit w4 q F4 T4 HQ4.out [zr] (by have:=HDF.out;intro u hu;simp only [List.mem_cons,List.not_mem_nil,or_false] at hu;rcases hu with rfl;omega) (by have h1:=HQ3.out.2.2;have h2:=HT4.out.2;simp only [List.length_cons,List.length_nil];omega) _ rfl 1 rfl _ rfl).mono ?_
 rintro e w6 ⟨rfl,F6,T6,hq6,hT6,hL6,hm6⟩
 have HM6:=Lib.hid (HM4.out.trans hm6)
 have HT6:=Lib.hid (And.intro hT6 hL6)
 have HQ6:=Lib.hid hq6
 have HL6:=Lib.hid (show T6.length≤2000 from by have h1:=HQ3.out.2.2;have h2:=HT4.out.2;omega)
 have HAP:=Lib.hid (show (∀ b∈abl a1,b∉F)∧∀ b∈abl a2,b∉F from ⟨fun b hb e=>by have h1:=HFR.out.1 b hb;have h2:=HFL.out b e;omega,fun b hb e=>by have h1:=HFR.out.2 b hb;have h2:=HFL.out b e;omega⟩)
 have ho1:=HOW.out.1.chg HM6.out.chg (by simpa using HAP.out.1)
 have ho2:=HOW.out.2.chg HM6.out.chg (by simpa using HAP.out.2)
 have HAP6:=Lib.hid (show (∀ b∈abl a1,b∉F6)∧∀ b∈abl a2,b∉F6 from ⟨fun b hb e=>by
  rcases HM6.out.fr b e with h1|h1
  ·exact HAP.out.1 b hb h1
  ·have:=HOW.out.1.lt b (by simpa using hb);omega,fun b hb e=>by
  rcases HM6.out.fr b e with h1|h1
  ·exact HAP.out.2 b hb h1
  ·have:=HOW.out.2.lt b (by simpa using hb);omega⟩)
 have HPU:=Lib.hid (runs_put w6 q F6 T6 a1 k1 D.minus HROK.out.1 HQ6.out (by have:=ho1.rd;rw [HN.out.1] at this;exact this) (fun _ b hb=>HAP6.out.1 b (by simpa using hb)) (by have h1:=HL6.out;have h3:=HN.out.1;have h4:=HDF.out;omega))
 rw [←HN.out.1] at HPU
 have HO2:=Lib.hid ho2
 clear hq6 hT6 hL6 hm6 hc0 ho1 ho2 HZR
 go_wp2_with fail
 refine HPU.out.mono ?_
 rintro e w7 ⟨rfl,F7,hq7,hm7⟩
 obtain ⟨T7,hT7⟩:∃ T,T=T6++putB D.minus:=⟨_,rfl⟩
 have hl7:=putB_lenG D.minus HROK.out.1 (by have h3:=HN.out.1;have h4:=HDF.out;omega)
 have HL7:=Lib.hid (show T7.length≤100000 from by rw [hT7,List.length_append];have h1:=HL6.out;have h3:=HN.out.1;have h4:=HDF.out;omega)
 rw [←hT7] at hq7
 have HT7:=Lib.hid hT7
 have HM7:=Lib.hid hm7
 have HPU2:=Lib.hid (runs_put w7 q F7 T7 a2 k2 D.plus HROK.out.2 hq7 (by
  have h1:=HO2.out.chg hm7.chg (by simpa using HAP6.out.2)
  have:=h1.rd
  rw [HN.out.2] at this
  exact this) (fun _ b hb e=>by
  rcases hm7.fr b e with h1|h1
  ·exact HAP6.out.2 b (by simpa using hb) h1
  ·have:=HO2.out.lt b (by simpa using hb);omega) (by have h1:=HL7.out;have h3:=HN.out.2;have h4:=HDF.out;omega))
 rw [←HN.out.2] at HPU2
 clear hT7 hl7 hq7 hm7 HPU
 go_wp2_with fail
 refine HPU2.out.mono ?_
 rintro e w8 ⟨rfl,F8,hq8,hm8⟩
 have HQ8:=Lib.hid hq8
 have HM8:=Lib.hid hm8
 clear hq8 hm8 HPU2
 go_wp2
 go_end0
 refine ⟨rfl,F8,?_,((Mv.of_chg HC1.out.nil).trans HM6.out).trans (HM7.out.trans HM8.out)⟩
 have h1:=HQ8.out
 have e:T7++putB D.plus=l++PD:=by
  rw [HPD.out,HT7.out,HT6.out.1,HT4.out.1,HQ3.out.2.1]
  simp
 rw [←e]
 exact h1
set_option maxRecDepth 100000 in
set_option maxHeartbeats 4000000 in
theorem sk_enc_hdr (w:World) (s p:Nat) (c:Cf) (h:Sk w s c 219 p) (kk:UInt8) (hkk:c.kind=(kk.toNat:Nat)) (X:List UInt8)
 (HW0:∀ u q F,Chg [] w u→Qul u q F []→(∀ b∈F,w.heap.size≤b)→Calls Tryz.prog 365 #[.agg #[.pointer (some ⟨p,0,none⟩)],.pointer (some ⟨q,0,none⟩)] u fun e w'=>e=.returned (.tuple #[])∧∃ F',Qul w' q F' X∧Mv F u F' w') :
 Calls Tryz.prog 23 #[.pointer (some ⟨s,0,none⟩)] w fun e w'=>e=.returned (.tuple #[.string ⟨(encS kk X).toArray⟩,.int .i64 (encE X)])∧Chg [] w w':=by
 obtain ⟨S,hS⟩:∃ S,S=encS kk X:=⟨_,rfl⟩
 obtain ⟨E,hE⟩:∃ E,E=encE X:=⟨_,rfl⟩
 have HFC:=Lib.hid (fun u=>frame_closeV u kk X S E hS hE)
 rw [←hS,←hE]
 clear hS hE
 have HW:=Lib.hid HW0
 have hwk:=u8_kind hkk
 have HS:=Lib.hid (fun u (hu:Chg [] w u)=>(⟨(h.nil hu).kind,(h.nil hu).core⟩:_∧_))
 obtain ⟨k,hk⟩:∃ k,k=c.kind:=⟨_,rfl⟩
 rw [←hk] at HS hwk
 obtain ⟨q,hq⟩:∃ q,q=w.heap.size:=⟨_,rfl⟩
 have HQ0:=Lib.hid (show Qul (w.alloc (.cells #[.slice none 0 0] 120)) q [q] [] from by rw [hq];exact Qul.new w)
 have HC0:=Lib.hid ((Chg.refl [] w).alloc (.cells #[.slice none 0 0] 120))
 have HQN:=Lib.hid (show ∀ b∈[q],w.heap.size≤b from by intro b hb;rw [List.mem_singleton.1 hb,hq];exact Nat.le_refl _)
 obtain ⟨-,c11⟩:=HS.out _ HC0.out
 clear HW0 h hkk hk
 go_enter Tryz.func23,Tryz.ntmps23
 go_wp2_with fail
 rw [←hq]
 clear hq
 generalize w.alloc (.cells #[.slice none 0 0] 120)=w0 at *
 refine (HW.out w0 q [q] HC0.out HQ0.out HQN.out).mono ?_
 rintro e w1 ⟨rfl,F1,hq1,hm1⟩
 have HQ1:=Lib.hid hq1
 have HC1:=Lib.hid (hm1.chg_own HC0.out HQN.out)
 clear hq1 hm1 HQ0 HC0 HQN HW c11
 obtain ⟨c0,-⟩:=HS.out _ HC1.out
 go_wp2_with fail
 have hSS:w1.drew.cell? ⟨s,0,none⟩=some (.int .i64 k):=c0
 refine startN (S:=fun wx=>wx.cell? ⟨s,0,none⟩=some (.int .i64 k)) (by kernel_rfl) hSS (fun hHeld => ?_)
 refine takeN (i:=0) (v:=?va0) rfl (by kernel_rfl) (by kernel_rfl) (by kernel_rfl) (fun _ _ _ h=>h) (Or.inl ⟨by rfl,?ya0⟩) hSS ?ra0
 case ya0=>(intro w hSw;(try dsimp only at hSw);go_simp;first|done|with_reducible rfl)
 try simp only [Act.put,jI,jZ,jS]
 refine takeN (i:=1) (v:=?va1) rfl (by kernel_rfl) (by kernel_rfl) (by kernel_rfl) (fun _ _ _ h=>h) (Or.inl ⟨by rfl,?ya1⟩) hSS ?ra1
 case ya1=>(intro w hSw;(try dsimp only at hSw);go_simp;first|done|with_reducible rfl)
 try simp only [Act.put,jI,jZ,jS]
 refine takeN (i:=2) (v:=?va2) rfl (by kernel_rfl) (by kernel_rfl) (by kernel_rfl) (fun _ _ _ h=>h) (Or.inl ⟨by rfl,?ya2⟩) hSS ?ra2
 case ya2=>(intro w hSw;(try dsimp only at hSw);go_simp;first|done|with_reducible rfl)
 try simp only [Act.put,jI,jZ,jS]
 refine takeN (i:=3) (v:=?va3) rfl (by kernel_rfl) (by kernel_rfl) (by kernel_rfl) (fun _ _ _ h=>h) (Or.inl ⟨by rfl,?ya3⟩) hSS ?ra3
 case ya3=>(intro w hSw;(try dsimp only at hSw);go_simp;first|done|with_reducible rfl)
 try simp only [Act.put,jI,jZ,jS]
 refine takeN (i:=4) (v:=?va4) rfl (by kernel_rfl) (by kernel_rfl) (by kernel_rfl) (fun _ _ _ h=>h) (Or.inl ⟨by rfl,?ya4⟩) hSS ?ra4
 case ya4=>(intro w hSw;(try dsimp only at hSw);go_simp;first|done|with_reducible rfl)
 try simp only [Act.put,jI,jZ,jS]
 refine takeN (i:=5) (v:=?va5) rfl (by kernel_rfl) (by kernel_rfl) (by kernel_rfl) (fun _ _ _ h=>h) (Or.inl ⟨by rfl,?ya5⟩) hSS ?ra5
 case ya5=>(intro w hSw;(try dsimp only at hSw);go_simp;first|done|with_reducible rfl)
 try simp only [Act.put,jI,jZ,jS]
 refine takeN (i:=6) (v:=?va6) rfl (by kernel_rfl) (by kernel_rfl) (by kernel_rfl) (fun _ _ _ h=>h) (Or.inl ⟨by rfl,?ya6⟩) hSS ?ra6
 case ya6=>(intro w hSw;(try dsimp only at hSw);go_simp;first|done|with_reducible rfl)
 try simp only [Act.put,jI,jZ,jS]
 refine readyN (rs:=[7]) (by kernel_rfl) (by simp) (consN rfl (fun K hK => ?_) nilN)
 refine step_callsG (by rfl) 68 _ _ rfl enters_etext _ #[.pointer (some ⟨q,0,none⟩)] (by simp [Act.eval]) (quill_text _ q F1 X (HQ1.out.chg (G:=[]) ((Chg.refl [] _).drew) (by simp))) ?_;rintro e w' ⟨rfl,rfl⟩;refine ⟨_,rfl,?_⟩
 refine hK.out _ _ hSS (fun hHeld => ?_)
 clear hK K hHeld
 try simp only [Act.put,jI,jZ,jS]
 refine readyN (rs:=[8]) (by kernel_rfl) (by simp) (consN rfl (fun K hK => ?_) nilN)
 refine step_callsG (by rfl) 67 _ _ rfl enters_eclose _ #[.int .u8 (kk.toNat:Nat),.string ⟨X.toArray⟩] (by simp [Act.eval]) (HFC.out _) ?_;rintro e w2 ⟨rfl,hc2⟩;refine ⟨_,rfl,?_⟩
 have hS2:w2.cell? ⟨s,0,none⟩=some (.int .i64 k):=hc2.cell hSS (by simp)
 have HC2:=Lib.hid (HC1.out.drew.trans hc2)
 clear hc2
 refine hK.out _ _ hS2 (fun hHeld => ?_)
 clear hK K hHeld
 try simp only [Act.put,jI,jZ,jS]
 refine takeN (i:=9) (v:=?va9) rfl (by kernel_rfl) (by kernel_rfl) (by kernel_rfl) (fun _ _ _ h=>h) (Or.inl ⟨by rfl,?ya9⟩) hS2 ?ra9
 case ya9=>(intro w hSw;(try dsimp only at hSw);go_simp;first|done|with_reducible rfl)
 try simp only [Act.put,jI,jZ,jS]
 refine takeN (i:=10) (v:=?va10) rfl (by kernel_rfl) (by kernel_rfl) (by kernel_rfl) (fun _ _ _ h=>h) (Or.inl ⟨by rfl,?ya10⟩) hS2 ?ra10
 case ya10=>(intro w hSw;(try dsimp only at hSw);go_simp;first|done|with_reducible rfl)
 try simp only [Act.put,jI,jZ,jS]
 refine takeN (i:=11) (v:=?va11) rfl (by kernel_rfl) (by kernel_rfl) (by kernel_rfl) (fun _ _ _ h=>h) (Or.inl ⟨by rfl,?ya11⟩) hS2 ?ra11
 case ya11=>(intro w hSw;(try dsimp only at hSw);go_simp;first|done|with_reducible rfl)
 try simp only [Act.put,jI,jZ,jS]
 refine takeN (i:=12) (v:=?va12) rfl (by kernel_rfl) (by kernel_rfl) (by kernel_rfl) (fun _ _ _ h=>h) (Or.inl ⟨by rfl,?ya12⟩) hS2 ?ra12
 case ya12=>(intro w hSw;(try dsimp only at hSw);go_simp;first|done|with_reducible rfl)
 try simp only [Act.put,jI,jZ,jS]
 refine doneN (by kernel_rfl) ?_ _
 go_wp2_with fail
 go_ret2
 exact ⟨rfl,HC2.out⟩
def HdRr (w:World) (h:Nat) (G:List Nat) (D:HdD):Prop:=∃ p s0 s1 r0 r1,HdS w h p s0 s1 r0 r1 D∧D.ok∧G=fpHd h p s0 s1 r0 r1
theorem HdRr.und:Und HdRr where
 lt:=fun ⟨p,s0,s1,r0,r1,h1,_,h3⟩ b hb=>by subst h3;exact HdS.lt h1 b hb
 chg:=fun ⟨p,s0,s1,r0,r1,h1,h2,h3⟩ k hF=>by subst h3;exact ⟨p,s0,s1,r0,r1,HdS.chg h1 k hF,h2,rfl⟩
def hdOk (c:Cf):Bool:=decide ((1≤c.digits∧c.digits≤4)∧c.limit≤9223372036854775808)
theorem HdD.new_ok {d l:Nat} (h1:1≤d) (h2:d≤4) (h3:l≤9223372036854775808):(HdD.new d l).ok:=by
 have hr:∀ L,RowHd L []:=fun L=>⟨fun j k _ hk=>by simp at hk,by simp,Nat.zero_le _,by simp⟩
 exact ⟨h1,h2,h3,hr _,hr _,by simp [HdD.new,HdD.total,totP],fun _=>⟨rfl,rfl⟩,Int.le_refl _,by show (-9223372036854775808:Int)≤0;omega,by show (0:Int)<9223372036854775808;omega⟩
theorem freshR_hdr (w:World) (ht:Tens4 w) (c:Cf) (hk:c.kind=2) :
 Calls Tryz.prog 66 #[c.val] w fun e w'=>∃ v k,e=.returned (.tuple #[.iface 219 (.agg #[.pointer v]),.int .i64 k])∧FQ HdRr (HdD.new c.digits.toNat c.limit) (hdOk c) w.heap.size v k w'∧Chg [] w w':=
 freshk_hdr w c hk _ (fun u hu=>(hdr_new u (ht.chg hu) c.digits c.limit).mono (by
  rintro e w' (⟨hno,rfl,hc⟩|⟨hy,h,p,s0,s1,rfl,hd,hc,hf⟩)
  ·exact ⟨_,_,rfl,.inl ⟨decide_eq_false hno,by decide⟩,hc⟩
  ·exact ⟨_,_,rfl,.inr ⟨decide_eq_true hy,rfl,h,_,rfl,⟨p,s0,s1,_,_,hd,HdD.new_ok (by omega) (by omega) hy.2,rfl⟩,fun b hb=>Nat.le_trans hu.size (hf b hb)⟩,hc⟩))
theorem HdD.ok.len_le {D:HdD} (h:D.ok):(putHd D).length≤200000:=by
 have ht:=h.tot
 have t1:D.total=totP D.minus+D.zero+totP D.plus:=rfl
 have h2:=h.d2
 have hl:=h.lim
 have f1:=h.minus.few
 have f2:=h.plus.few
 have hlast:=spLast_le (logD_cases h.d1 h.d2)
 have x1:InR D.least:=⟨h.low,by have:=h.le;have:=h.high;omega⟩
 have x2:InR D.most:=⟨by have:=h.le;have:=h.low;omega,h.high⟩
 have e1:=natB_len10 (n:=D.digits) (by omega)
 have e2:=natB_len10 (n:=D.limit) (by omega)
 have e5:=natB_len10 (n:=zig D.least) (by have:=x1.zig;omega)
 have e6:=natB_len10 (n:=zig D.most) (by have:=x2.zig;omega)
 have e7:=natB_len10 (n:=D.zero) (by omega)
 have g1:=putB_lenG D.minus (row_ok (a:=1) (b:=(spLast D.L:Int)) (by omega) (by unfold HdD.L;omega) h.minus.ix (by omega)) (by omega)
 have g2:=putB_lenG D.plus (row_ok (a:=1) (b:=(spLast D.L:Int)) (by omega) (by unfold HdD.L;omega) h.plus.ix (by omega)) (by omega)
 unfold putHd
 simp only [List.length_append]
 omega
def kbHdr (c:Cf) (hk:c.kind=2):Kb c where
 S:=HdD
 P:=Up 219 c HdRr
 sz:=fun _=>0
 init:=HdD.new c.digits.toNat c.limit
 ok:=c.same { Cf.none 2 with digits:=c.digits,limit:=c.limit } && hdOk c
 put:=HdD.put
 putE:=fun D x n=>(D.putE x n:Nat)
 enc:=putHd
 tot:=HdD.total
 kk:=2
 kind:=by rw [hk];rfl
 lt:=fun h=>Up.lt HdRr.und h
 chg:=fun h k hF=>Up.chg HdRr.und h k hF
 sz0:=rfl
 szp:=fun _ _ _=>⟨Nat.zero_le _,Nat.zero_le _⟩
 new:=fun w ht=>new_up HdRr.und w c _ (fun u=>bare_hdr u c hk) (fun u hu=>(freshR_hdr u (ht.chg hu) c hk).mono (by
  rintro e w' ⟨v,k,rfl,hq,hc⟩
  exact ⟨v,k,rfl,hq.mono hu.size,hc⟩))
 putC:=fun {w s F st} h _ x n hx hn=>by
  obtain ⟨p,G,hs,⟨p0,s0,s1,r0,r1,h1,h2,rfl⟩,rfl,hns⟩:=h
  refine kk_put_hdr w s p c hs x n _ ((hd_put w p p0 s0 s1 r0 r1 st h1 h2 x hx n hn).mono ?_)
  rintro e w' ⟨rfl,r0',r1',h1',hm⟩
  have a:HdRr w p (fpHd p p0 s0 s1 r0 r1) st:=⟨p0,s0,s1,r0,r1,h1,h2,rfl⟩
  have b:HdRr w' p (fpHd p p0 s0 s1 r0' r1') (st.put x n):=⟨p0,s0,s1,r0',r1',h1',HdD.put_ok h2 hx n,rfl⟩
  obtain ⟨hU,hM⟩:=Up.mv (R:=HdRr) hs a hns b hm
  exact ⟨_,rfl,rfl,_,hU,hM⟩
 encC:=fun {w s F st} h _=>by
  obtain ⟨p,G,hs,⟨p0,s0,s1,r0,r1,h1,h2,rfl⟩,rfl,hns⟩:=h
  exact sk_enc_hdr w s p c hs 2 (by rw [hk];rfl) (putHd st) (fun u q F hu hq hF=>hd_write u p p0 s0 s1 r0 r1 st (h1.nil hu) h2 q F [] (by simp) hq (fun b hb e=>by have:=hF b hb;have:=h1.lt b e;omega))
 fit:=fun {w s F st} h _=>by
  obtain ⟨p,G,hs,⟨p0,s0,s1,r0,r1,h1,h2,rfl⟩,rfl,hns⟩:=h
  have:=h2.len_le
  omega
 totC:=fun {w s F st} h=>by
  obtain ⟨p,G,hs,⟨p0,s0,s1,r0,r1,h1,h2,rfl⟩,rfl,hns⟩:=h
  exact kk_total_hdr w s p c hs _ (fun u hu=>hd_total u p p0 s0 s1 r0 r1 st (h1.nil hu) _ rfl h2.tot)
 tot0:=by simp [HdD.new,HdD.total,totP]
 reset:=fun {w s F st} h hok ht=>by
  have ho:hdOk c=true:=by
   cases h:hdOk c with
   | true=>rfl
   | false=>rw [h] at hok;simp at hok
  refine reset_up HdRr.und w c s F st h (fun u hu=>(freshR_hdr u (ht.chg hu) c hk).mono ?_)
  rintro e w' ⟨v,k,rfl,hq,hc⟩
  rw [ho] at hq
  exact ⟨v,k,rfl,hq.mono hu.size,hc⟩
set_option maxRecDepth 100000 in
set_option maxHeartbeats 4000000 in
theorem kk_put_green (w:World) (s p:Nat) (c:Cf) (h:Sk w s c 223 p) (x:Int) (n:Nat) (R:Ending→World→Prop)
 (HP0:Calls Tryz.prog 110 #[.pointer (some ⟨p,0,none⟩),.int .i64 x,.int .u64 n] w fun e w'=>∃ k,e=.returned (.int .i64 k)∧R e w') :
 Calls Tryz.prog 21 #[.pointer (some ⟨s,0,none⟩),.int .i64 x,.int .u64 n] w R:=by
 have c11:=h.core
 have HP:=Lib.hid HP0
 clear h HP0
 go_enter Tryz.func21,Tryz.ntmps21
 go_wp2_with fail
 refine HP.out.mono ?_
 rintro e w1 ⟨k,rfl,hR⟩
 have HR:=Lib.hid hR
 clear hR HP
 go_wp2_with fail
 exact HR.out
set_option maxRecDepth 100000 in
set_option maxHeartbeats 4000000 in
theorem kc_total_green (w:World) (p:Nat) (n:Nat)
 (HP0:∀ u,Chg [] w u→Calls Tryz.prog 113 #[.pointer (some ⟨p,0,none⟩)] u fun e w'=>e=.returned (.int .u64 (n:Nat))∧Chg [] u w') :
 Calls Tryz.prog 377 #[.agg #[.pointer (some ⟨p,0,none⟩)]] w fun e w'=>e=.returned (.int .u64 (n:Nat))∧Chg [] w w':=by
 have HP:=Lib.hid HP0
 have HC:=Lib.hid ((Chg.refl [] w).alloc (.cells #[.pointer (some ⟨p,0,none⟩)] 223))
 clear HP0
 go_enter Tryz.func377,Tryz.ntmps377
 go_wp2_with fail
 refine (HP.out _ HC.out).mono ?_
 rintro e w1 ⟨rfl,hc⟩
 have HC1:=Lib.hid (HC.out.trans hc)
 clear hc HP
 go_wp2
 go_ret
 exact ⟨rfl,HC1.out⟩
set_option maxRecDepth 100000 in
set_option maxHeartbeats 4000000 in
theorem kk_total_green (w:World) (s p:Nat) (c:Cf) (h:Sk w s c 223 p) (n:Nat)
 (HP0:∀ u,Chg [] w u→Calls Tryz.prog 113 #[.pointer (some ⟨p,0,none⟩)] u fun e w'=>e=.returned (.int .u64 (n:Nat))∧Chg [] u w') :
 Calls Tryz.prog 20 #[.pointer (some ⟨s,0,none⟩)] w fun e w'=>e=.returned (.int .u64 (n:Nat))∧Chg [] w w':=by
 have c11:=h.core
 have HT:=Lib.hid (kc_total_green w p n HP0)
 clear h HP0
 go_enter Tryz.func20,Tryz.ntmps20
 go_wp2_with fail
 refine HT.out.mono ?_
 rintro e w1 ⟨rfl,hc⟩
 have HC:=Lib.hid hc
 clear hc HT
 go_wp2
 go_ret
 exact ⟨rfl,HC.out⟩
end Go.Proofs.YthoolcpcmhhkpaaGreatDoor
