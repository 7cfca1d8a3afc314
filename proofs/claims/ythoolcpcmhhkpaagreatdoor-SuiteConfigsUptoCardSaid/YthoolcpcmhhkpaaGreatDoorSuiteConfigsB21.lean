/-
  Parts of a proof, pressed. Conditions: the form's own reach.
-/
import Derived.Test.YthoolcpcmhhkpaaGreatDoorSuiteConfigsB20
import Derived.Test.YthoolcpcmhhkpaaGreatDoorSuiteConfigsB19
import Derived.Test.YthoolcpcmhhkpaaGreatDoorSuiteConfigsB15
import Derived.Test.YthoolcpcmhhkpaaGreatDoorSuiteConfigsB4
import Derived.Test.YthoolcpcmhhkpaaGreatDoorSuiteConfigsB5
import Derived.Test.YthoolcpcmhhkpaaGreatDoorSuiteConfigsB16
import Derived.Test.YthoolcpcmhhkpaaGreatDoorProg
import Derived.Shelf.SlIterI.Sorted
import Derived.Shelf.SortM.Plain
import Derived.Shelf.SortM.SortNone
import Derived.Test.YthoolcpcmhhkpaaGreatDoorSuiteConfigsB1
import Derived.Laws.BitsAllLaws
namespace Go.Proofs.YthoolcpcmhhkpaaGreatDoor
open Go.RowKit
theorem enters_dwconfig:∀ (args:Array Value) (w:World),(callFunc 374 args).run Tryz.prog w=.ok (.enter 374 args) w:=enters_of Tryz.func374 (by kernel_rfl) rfl
theorem fa_dcfg0 (u:World) (a b:Int):(Instr.field 110 (.agg #[.int .i64 a,.int .i64 b]) 0).run Tryz.prog u=.ok (.int .i64 a) u:=by kernel_rfl
theorem fa_dcfg1 (u:World) (a b:Int):(Instr.field 110 (.agg #[.int .i64 a,.int .i64 b]) 1).run Tryz.prog u=.ok (.int .i64 b) u:=by kernel_rfl
set_option maxRecDepth 100000 in
set_option maxHeartbeats 4000000 in
theorem dg_write (w:World) (p s:Nat) (rv:Value) (D:DgD) (h:Dg w p s rv D) (hok:D.ok) (hfew:D.few) (hin:D.inEnds) (q:Nat) (F:List Nat) (l:List UInt8) (hl:l.length≤1000) (hql:Qul w q F l) (hd:∀ b∈F,b∉fpD p s rv) :
 Calls Tryz.prog 372 #[.agg #[.pointer (some ⟨p,0,none⟩)],.pointer (some ⟨q,0,none⟩)] w fun e w'=>e=.returned (.tuple #[])∧∃ F',Qul w' q F' (l++putDg D)∧Mv F w F' w':=by
 obtain ⟨lo,hlo⟩:∃ x,x=D.least:=⟨_,rfl⟩
 obtain ⟨hi,hhi⟩:∃ x,x=D.most:=⟨_,rfl⟩
 obtain ⟨T,hT⟩:∃ T,T=totP D.row:=⟨_,rfl⟩
 obtain ⟨B,hB⟩:∃ B,B=!decide (T=0):=⟨_,rfl⟩
 have hp2:=two_d hok.d1 hok.d2
 have hd24:=hok.d2
 have hf64:=hok.f2
 have HEN:=Lib.hid (fun u (hu:Chg [] w u)=>show Calls Tryz.prog 57 #[.pointer (some ⟨p,0,none⟩)] u fun e w'=>e=.returned (.tuple #[.int .i64 lo,.int .i64 hi,.bool B])∧Chg [] u w' from by
  have h1:=dg_endsR u p s rv D (h.chg hu (by simp)) T hT
  by_cases h0:T=0
  ·obtain ⟨e1,e2⟩:=hin.1 (by rw [←hT];exact h0)
   rw [if_pos h0,if_pos h0] at h1
   rw [hlo,hhi,e1,e2,hB]
   exact h1
  ·rw [if_neg h0,if_neg h0] at h1
   rw [hlo,hhi,hB]
   exact h1)
 have HLO:=Lib.hid (show (-9223372036854775808≤lo∧lo<9223372036854775808)∧(-9223372036854775808≤hi∧hi<9223372036854775808) from by
  obtain ⟨-,k2,k3,k4⟩:=hin
  omega)
 have HCF:=Lib.hid (fun u (hu:Chg [] w u)=>dg_config u p s rv D (h.chg hu (by simp)))
 obtain ⟨n,hn⟩:∃ n,n=D.row.length:=⟨_,rfl⟩
 have hn5:n≤300:=by have:=hfew.2;omega
 have HND:=Lib.hid (fun u (hu:Chg F w u)=>dg_nodes u p s rv D (h.chg hu (fun b hb e=>hd b e hb)) n hn (by omega))
 have HROK:=Lib.hid (row_ok (a:=-1) (b:=D.top) (by omega) (by unfold DgD.top;omega) (fun p hp=>by have:=hok.nodes.ix p hp;omega) hok.tot)
 have HQL:=Lib.hid (fun u (hu:Chg [] w u)=>hql.chg hu (by simp))
 have HFL:=Lib.hid (show ∀ b∈F,b<w.heap.size from hql.lt)
 obtain ⟨dp,hdp⟩:∃ x,x=D.depth:=⟨_,rfl⟩
 obtain ⟨ft,hft⟩:∃ x,x=D.factor:=⟨_,rfl⟩
 rw [←hdp] at hd24
 rw [←hft] at hf64
 rw [←hdp,←hft] at HCF
 have HPD:=Lib.hid (show putDg D=natB dp++(natB ft++(natB (zig lo)++(natB (zig hi)++putB D.row))) from by rw [hdp,hft,hlo,hhi];rfl)
 have HN:=Lib.hid hn
 generalize putDg D=PD at *
 obtain ⟨b0,hb0⟩:∃ z,z=w.heap.size:=⟨_,rfl⟩
 have HB:=Lib.hid (show Blk (w.alloc (.cells #[.pointer (some ⟨p,0,none⟩)] 221)) b0 #[.pointer (some ⟨p,0,none⟩)] 221 from by rw [hb0];exact Blk.alloc_new _ _ _)
 have HC0:=Lib.hid ((Chg.refl [] w).alloc (.cells #[.pointer (some ⟨p,0,none⟩)] 221))
 have HB0:=Lib.hid (show w.heap.size≤b0 from by omega)
 have hwd:IntKind.u64.wrap (dp:Int)=(dp:Int):=IntWalk.u64_in _ (by omega)
 have hwf:IntKind.u64.wrap (ft:Int)=(ft:Int):=IntWalk.u64_in _ (by omega)
 have HDF:=Lib.hid (And.intro hd24 hf64)
 clear h hok hfew hin hql hd hlo hhi hT hB hp2 hd24 hf64 hn hdp hft
 go_enter Tryz.func372,Tryz.ntmps372
 go_wp2_with fail
 rw [←hb0]
 clear hb0
 generalize w.alloc (.cells #[.pointer (some ⟨p,0,none⟩)] 221)=w0 at *
 have hc0:=HB.out.cell 0
 simp only [List.getElem?_toArray,List.getElem?_cons_zero] at hc0
 go_wp2_with fail
 refine (HEN.out _ HC0.out).mono ?_
 rintro e w1 ⟨rfl,hc1⟩
 have HC1:=Lib.hid (HC0.out.trans hc1)
 have HB1:=Lib.hid (HB.out.chg hc1 (by simp))
 clear hc0 hc1 HB HC0 HEN
 have hc0:=HB1.out.cell 0
 simp only [List.getElem?_toArray,List.getElem?_cons_zero] at hc0
 go_wp2_with fail
 have fa0:=fa_dcfg0
 have fa1:=fa_dcfg1
 have hSS:w1.drew.cell? ⟨b0,0,none⟩=some (.pointer (some ⟨p,0,none⟩)):=hc0
 have HKS:=Lib.hid ((Chg.refl [] w1).drew)
 refine startN (S:=fun wx=>wx.cell? ⟨b0,0,none⟩=some (.pointer (some ⟨p,0,none⟩))) (by kernel_rfl) hSS (fun hHeld => ?_)
 refine takeN (i:=0) (v:=?va0) rfl (by kernel_rfl) (by kernel_rfl) (by kernel_rfl) (fun _ _ _ h=>h) (Or.inl ⟨by rfl,?ya0⟩) hSS ?ra0
 case ya0=>(intro w hSw;(try dsimp only at hSw);go_simp;first|done|with_reducible rfl)
 try simp only [Act.put,jI,jZ,jS]
 refine takeN (i:=1) (v:=?va1) rfl (by kernel_rfl) (by kernel_rfl) (by kernel_rfl) (fun _ _ _ h=>h) (Or.inl ⟨by rfl,?ya1⟩) hSS ?ra1
 case ya1=>(intro w hSw;(try dsimp only at hSw);go_simp;first|done|with_reducible rfl)
 try simp only [Act.put,jI,jZ,jS]
 refine takeN (i:=2) (v:=?va2) rfl (by kernel_rfl) (by kernel_rfl) (by kernel_rfl) (fun _ _ _ h=>h) (Or.inl ⟨by rfl,?ya2⟩) hSS ?ra2
 case ya2=>(intro w hSw;(try dsimp only at hSw);go_simp;first|done|with_reducible rfl)
 try simp only [Act.put,jI,jZ,jS]
 refine takeN (i:=6) (v:=?va6) rfl (by kernel_rfl) (by kernel_rfl) (by kernel_rfl) (fun _ _ _ h=>h) (Or.inl ⟨by rfl,?ya6⟩) hSS ?ra6
 case ya6=>(intro w hSw;(try dsimp only at hSw);go_simp;first|done|with_reducible rfl)
 try simp only [Act.put,jI,jZ,jS]
 refine takeN (i:=7) (v:=?va7) rfl (by kernel_rfl) (by kernel_rfl) (by kernel_rfl) (fun _ _ _ h=>h) (Or.inl ⟨by rfl,?ya7⟩) hSS ?ra7
 case ya7=>(intro w hSw;(try dsimp only at hSw);go_simp;first|done|with_reducible rfl)
 try simp only [Act.put,jI,jZ,jS]
 refine readyN (rs:=[3]) (by kernel_rfl) (by simp) (consN rfl (fun K hK => ?_) nilN)
 refine step_callsG (by rfl) 374 _ _ rfl enters_dwconfig _ #[.pointer (some ⟨p,0,none⟩)] (by simp [Act.eval]) (HCF.out _ (HC1.out.trans HKS.out)) ?_;rintro e wa ⟨rfl,hccwa⟩;refine ⟨_,rfl,?_⟩
 have HKwa:=Lib.hid (HKS.out.trans hccwa)
 have hSwa:wa.cell? ⟨b0,0,none⟩=some (.pointer (some ⟨p,0,none⟩)):=hccwa.cell hSS (by simp)
 clear hccwa
 refine hK.out _ _ hSwa (fun hHeld => ?_)
 clear hK K hHeld
 try simp only [Act.put,jI,jZ,jS]
 refine takeN (i:=4) (v:=?va4) rfl (by kernel_rfl) (by kernel_rfl) (by kernel_rfl) (fun _ _ _ h=>h) (Or.inl ⟨by rfl,?ya4⟩) hSwa ?ra4
 case ya4=>(intro w hSw;(try dsimp only at hSw);go_simp;first|done|with_reducible rfl)
 try simp only [Act.put,jI,jZ,jS]
 refine takeN (i:=5) (v:=?va5) rfl (by kernel_rfl) (by kernel_rfl) (by kernel_rfl) (fun _ _ _ h=>h) (Or.inl ⟨by rfl,?ya5⟩) hSwa ?ra5
 case ya5=>(intro w hSw;(try dsimp only at hSw);go_simp;first|done|with_reducible rfl)
 try simp only [Act.put,jI,jZ,jS]
 refine readyN (rs:=[8]) (by kernel_rfl) (by simp) (consN rfl (fun K hK => ?_) nilN)
 refine step_callsG (by rfl) 374 _ _ rfl enters_dwconfig _ #[.pointer (some ⟨p,0,none⟩)] (by simp [Act.eval]) (HCF.out _ (HC1.out.trans HKwa.out)) ?_;rintro e wb ⟨rfl,hccwb⟩;refine ⟨_,rfl,?_⟩
 have HKwb:=Lib.hid (HKwa.out.trans hccwb)
 have hSwb:wb.cell? ⟨b0,0,none⟩=some (.pointer (some ⟨p,0,none⟩)):=hccwb.cell hSwa (by simp)
 clear hccwb
 refine hK.out _ _ hSwb (fun hHeld => ?_)
 clear hK K hHeld
 try simp only [Act.put,jI,jZ,jS]
 refine takeN (i:=9) (v:=?va9) rfl (by kernel_rfl) (by kernel_rfl) (by kernel_rfl) (fun _ _ _ h=>h) (Or.inl ⟨by rfl,?ya9⟩) hSwb ?ra9
 case ya9=>(intro w hSw;(try dsimp only at hSw);go_simp;first|done|with_reducible rfl)
 try simp only [Act.put,jI,jZ,jS]
 refine takeN (i:=10) (v:=?va10) rfl (by kernel_rfl) (by kernel_rfl) (by kernel_rfl) (fun _ _ _ h=>h) (Or.inl ⟨by rfl,?ya10⟩) hSwb ?ra10
 case ya10=>(intro w hSw;(try dsimp only at hSw);go_simp;first|done|with_reducible rfl)
 try simp only [Act.put,jI,jZ,jS]
 refine readyN (rs:=[11]) (by kernel_rfl) (by simp) (consN rfl (fun K hK => ?_) nilN)
 refine step_bU2 rfl 19 24 rfl dp ft (by simp [Act.eval]) (by simp [Act.eval]) ?_;intro gb wc hrc hcc hgc
 have hSwc:wc.cell? ⟨b0,0,none⟩=some (.pointer (some ⟨p,0,none⟩)):=hcc.cell hSwb (by simp)
 have HKwc:=Lib.hid (HKwb.out.trans hcc)
 have HRC:=Lib.hid hrc
 have HGC:=Lib.hid (show w.heap.size≤gb from Nat.le_trans HC1.out.size (Nat.le_trans HKwb.out.size hgc))
 clear hcc hrc hgc
 refine hK.out _ _ hSwc (fun hHeld => ?_)
 clear hK K hHeld
 try simp only [Act.put,jI,jZ,jS]
 refine readyN (rs:=[12]) (by kernel_rfl) (by simp) (consN rfl (fun K hK => ?_) nilN)
 refine step_callsG (by rfl) 135 _ _ rfl enters_qnat _ #[.pointer (some ⟨q,0,none⟩),.slice (some ⟨gb,0,none⟩) 2 2] (by simp [Act.eval]) (qn_rd wc q F l (HQL.out _ (HC1.out.trans HKwc.out)) [dp,ft] (by have:=HDF.out;intro u hu;simp only [List.mem_cons,List.not_mem_nil,or_false] at hu;rcases hu with rfl|rfl<;>omega) (by simp only [List.length_cons,List.length_nil];omega) 2 rfl gb HRC.out (fun e=>by have h1:=HFL.out gb e;have h2:=HGC.out;omega)) ?_;rintro e wd ⟨rfl,F3,T3,hq3,hT3,hL3,hm3⟩;refine ⟨_,rfl,?_⟩
 have HQ3:=Lib.hid (And.intro hq3 (And.intro hT3 hL3))
 have HM3:=Lib.hid ((Mv.of_chg (HKwc.out.mono (by simp)):Mv F w1 F wc).trans hm3)
 have hSwd:wd.cell? ⟨b0,0,none⟩=some (.pointer (some ⟨p,0,none⟩)):=hm3.chg.cell hSwc (fun e=>by have h1:=HFL.out b0 e;have h2:=HB0.out;omega)
 clear hq3 hm3 hT3 hL3
 refine hK.out _ _ hSwd (fun hHeld => ?_)
 clear hK K hHeld
 try simp only [Act.put,jI,jZ,jS]
 refine doneN (by kernel_rfl) ?_ _
 clear hSS hSwa hSwb hSwc hSwd HKS HKwa HKwb HKwc HRC HGC HCF hwd hwf fa0 fa1 hc0
 have HBF:=Lib.hid (show b0∉F from fun e=>by have h1:=HFL.out b0 e;have h2:=HB0.out;omega)
 go_wp2_with fail
 refine (qi_lit wd q F3 T3 HQ3.out.1 [lo,hi] (by have:=HLO.out;intro u hu;simp only [List.mem_cons,List.not_mem_nil,or_false] at hu;rcases hu with rfl|rfl;exact this.1;exact this.2) (by have:=HQ3.out.2.2;simp only [List.length_cons,List.length_nil];omega) _ rfl 2 rfl _ rfl).mono ?_
 rintro e w4 ⟨rfl,F4,T4,hq4,hT4,hL4,hm4⟩
 have HM4:=Lib.hid (HM3.out.trans hm4)
 have HT4:=Lib.hid (And.intro hT4 hL4)
 have HQ4:=Lib.hid hq4
 have hc0:w4.cell? ⟨b0,0,none⟩=some (.pointer (some ⟨p,0,none⟩)):=(HB1.out.chg HM4.out.chg HBF.out).cell 0
 clear hq4 hT4 hL4 hm4
 go_wp2_with fail
 refine (HND.out _ (HC1.out.nil.trans HM4.out.chg)).mono ?_
 rintro e w5 ⟨a3,c3,rfl,ho5,hc5,hf5⟩
 have HPU:=Lib.hid (runs_put w5 q F4 T4 a3 c3 D.row HROK.out (HQ4.out.chg hc5 (by simp)) (by have:=ho5.rd;rw [HN.out] at this;exact this) (fun _ b hb e=>by have h1:=hf5 b (by simpa using hb);have h2:=HQ4.out.lt b e;omega) (by have h1:=HT4.out.2;have h2:=HQ3.out.2.2;have h3:=HN.out;omega))
 rw [←HN.out] at HPU
 have HC5:=Lib.hid hc5
 clear ho5 hc5 hf5 hc0 HND
 go_wp2_with fail
 refine HPU.out.mono ?_
 rintro e w6 ⟨rfl,F6,hq6,hm6⟩
 have HQ6:=Lib.hid hq6
 have HM6:=Lib.hid hm6
 clear hq6 hm6 HPU
 go_wp2
 go_end0
 refine ⟨rfl,F6,?_,((Mv.of_chg HC1.out.nil).trans HM4.out).trans ((Mv.of_chg HC5.out.nil).trans HM6.out)⟩
 have h1:=HQ6.out
 have e:T4++putB D.row=l++PD:=by
  rw [HPD.out,HT4.out.1,HQ3.out.2.1]
  simp
 rw [←e]
 exact h1
set_option maxRecDepth 100000 in
set_option maxHeartbeats 4000000 in
theorem sk_enc_digest (w:World) (s p:Nat) (c:Cf) (h:Sk w s c 221 p) (kk:UInt8) (hkk:c.kind=(kk.toNat:Nat)) (X:List UInt8)
 (HW0:∀ u q F,Chg [] w u→Qul u q F []→(∀ b∈F,w.heap.size≤b)→Calls Tryz.prog 372 #[.agg #[.pointer (some ⟨p,0,none⟩)],.pointer (some ⟨q,0,none⟩)] u fun e w'=>e=.returned (.tuple #[])∧∃ F',Qul w' q F' X∧Mv F u F' w') :
 Calls Tryz.prog 23 #[.pointer (some ⟨s,0,none⟩)] w fun e w'=>e=.returned (.tuple #[.string ⟨(encS kk X).toArray⟩,.int .i64 (encE X)])∧Chg [] w w':=by
 obtain ⟨S,hS⟩:∃ S,S=encS kk X:=⟨_,rfl⟩
 obtain ⟨E,hE⟩:∃ E,E=encE X:=⟨_,rfl⟩
 have HFC:=Lib.hid (fun u=>frame_closeV u kk X S E hS hE)
 rw [←hS,←hE]
 clear hS hE
 have HW:=Lib.hid HW0
 have hwk:=u8_kind hkk
 have HS:=Lib.hid (fun u (hu:Chg [] w u)=>(⟨(h.nil hu).kind,(h.nil hu).core⟩:_∧_))
 obtain ⟨k,hk⟩:∃ k,k=c.kind:=⟨_,rfl⟩
 rw [←hk] at HS hwk
 obtain ⟨q,hq⟩:∃ q,q=w.heap.size:=⟨_,rfl⟩
 have HQ0:=Lib.hid (show Qul (w.alloc (.cells #[.slice none 0 0] 120)) q [q] [] from by rw [hq];exact Qul.new w)
 have HC0:=Lib.hid ((Chg.refl [] w).alloc (.cells #[.slice none 0 0] 120))
 have HQN:=Lib.hid (show ∀ b∈[q],w.heap.size≤b from by intro b hb;rw [List.mem_singleton.1 hb,hq];exact Nat.le_refl _)
 obtain ⟨-,c11⟩:=HS.out _ HC0.out
 clear HW0 h hkk hk
 go_enter Tryz.func23,Tryz.ntmps23
 go_wp2_with fail
 rw [←hq]
 clear hq
 generalize w.alloc (.cells #[.slice none 0 0] 120)=w0 at *
 refine (HW.out w0 q [q] HC0.out HQ0.out HQN.out).mono ?_
 rintro e w1 ⟨rfl,F1,hq1,hm1⟩
 have HQ1:=Lib.hid hq1
 have HC1:=Lib.hid (hm1.chg_own HC0.out HQN.out)
 clear hq1 hm1 HQ0 HC0 HQN HW c11
 obtain ⟨c0,-⟩:=HS.out _ HC1.out
 go_wp2_with fail
 have hSS:w1.drew.cell? ⟨s,0,none⟩=some (.int .i64 k):=c0
 refine startN (S:=fun wx=>wx.cell? ⟨s,0,none⟩=some (.int .i64 k)) (by kernel_rfl) hSS (fun hHeld => ?_)
 refine takeN (i:=0) (v:=?va0) rfl (by kernel_rfl) (by kernel_rfl) (by kernel_rfl) (fun _ _ _ h=>h) (Or.inl ⟨by rfl,?ya0⟩) hSS ?ra0
 case ya0=>(intro w hSw;(try dsimp only at hSw);go_simp;first|done|with_reducible rfl)
 try simp only [Act.put,jI,jZ,jS]
 refine takeN (i:=1) (v:=?va1) rfl (by kernel_rfl) (by kernel_rfl) (by kernel_rfl) (fun _ _ _ h=>h) (Or.inl ⟨by rfl,?ya1⟩) hSS ?ra1
 case ya1=>(intro w hSw;(try dsimp only at hSw);go_simp;first|done|with_reducible rfl)
 try simp only [Act.put,jI,jZ,jS]
 refine takeN (i:=2) (v:=?va2) rfl (by kernel_rfl) (by kernel_rfl) (by kernel_rfl) (fun _ _ _ h=>h) (Or.inl ⟨by rfl,?ya2⟩) hSS ?ra2
 case ya2=>(intro w hSw;(try dsimp only at hSw);go_simp;first|done|with_reducible rfl)
 try simp only [Act.put,jI,jZ,jS]
 refine takeN (i:=3) (v:=?va3) rfl (by kernel_rfl) (by kernel_rfl) (by kernel_rfl) (fun _ _ _ h=>h) (Or.inl ⟨by rfl,?ya3⟩) hSS ?ra3
 case ya3=>(intro w hSw;(try dsimp only at hSw);go_simp;first|done|with_reducible rfl)
 try simp only [Act.put,jI,jZ,jS]
 refine takeN (i:=4) (v:=?va4) rfl (by kernel_rfl) (by kernel_rfl) (by kernel_rfl) (fun _ _ _ h=>h) (Or.inl ⟨by rfl,?ya4⟩) hSS ?ra4
 case ya4=>(intro w hSw;(try dsimp only at hSw);go_simp;first|done|with_reducible rfl)
 try simp only [Act.put,jI,jZ,jS]
 refine takeN (i:=5) (v:=?va5) rfl (by kernel_rfl) (by kernel_rfl) (by kernel_rfl) (fun _ _ _ h=>h) (Or.inl ⟨by rfl,?ya5⟩) hSS ?ra5
 case ya5=>(intro w hSw;(try dsimp only at hSw);go_simp;first|done|with_reducible rfl)
 try simp only [Act.put,jI,jZ,jS]
 refine takeN (i:=6) (v:=?va6) rfl (by kernel_rfl) (by kernel_rfl) (by kernel_rfl) (fun _ _ _ h=>h) (Or.inl ⟨by rfl,?ya6⟩) hSS ?ra6
 case ya6=>(intro w hSw;(try dsimp only at hSw);go_simp;first|done|with_reducible rfl)
 try simp only [Act.put,jI,jZ,jS]
 refine readyN (rs:=[7]) (by kernel_rfl) (by simp) (consN rfl (fun K hK => ?_) nilN)
 refine step_callsG (by rfl) 68 _ _ rfl enters_etext _ #[.pointer (some ⟨q,0,none⟩)] (by simp [Act.eval]) (quill_text _ q F1 X (HQ1.out.chg (G:=[]) ((Chg.refl [] _).drew) (by simp))) ?_;rintro e w' ⟨rfl,rfl⟩;refine ⟨_,rfl,?_⟩
 refine hK.out _ _ hSS (fun hHeld => ?_)
 clear hK K hHeld
 try simp only [Act.put,jI,jZ,jS]
 refine readyN (rs:=[8]) (by kernel_rfl) (by simp) (consN rfl (fun K hK => ?_) nilN)
 refine step_callsG (by rfl) 67 _ _ rfl enters_eclose _ #[.int .u8 (kk.toNat:Nat),.string ⟨X.toArray⟩] (by simp [Act.eval]) (HFC.out _) ?_;rintro e w2 ⟨rfl,hc2⟩;refine ⟨_,rfl,?_⟩
 have hS2:w2.cell? ⟨s,0,none⟩=some (.int .i64 k):=hc2.cell hSS (by simp)
 have HC2:=Lib.hid (HC1.out.drew.trans hc2)
 clear hc2
 refine hK.out _ _ hS2 (fun hHeld => ?_)
 clear hK K hHeld
 try simp only [Act.put,jI,jZ,jS]
 refine takeN (i:=9) (v:=?va9) rfl (by kernel_rfl) (by kernel_rfl) (by kernel_rfl) (fun _ _ _ h=>h) (Or.inl ⟨by rfl,?ya9⟩) hS2 ?ra9
 case ya9=>(intro w hSw;(try dsimp only at hSw);go_simp;first|done|with_reducible rfl)
 try simp only [Act.put,jI,jZ,jS]
 refine takeN (i:=10) (v:=?va10) rfl (by kernel_rfl) (by kernel_rfl) (by kernel_rfl) (fun _ _ _ h=>h) (Or.inl ⟨by rfl,?ya10⟩) hS2 ?ra10
 case ya10=>(intro w hSw;(try dsimp only at hSw);go_simp;first|done|with_reducible rfl)
 try simp only [Act.put,jI,jZ,jS]
 refine takeN (i:=11) (v:=?va11) rfl (by kernel_rfl) (by kernel_rfl) (by kernel_rfl) (fun _ _ _ h=>h) (Or.inl ⟨by rfl,?ya11⟩) hS2 ?ra11
 case ya11=>(intro w hSw;(try dsimp only at hSw);go_simp;first|done|with_reducible rfl)
 try simp only [Act.put,jI,jZ,jS]
 refine takeN (i:=12) (v:=?va12) rfl (by kernel_rfl) (by kernel_rfl) (by kernel_rfl) (fun _ _ _ h=>h) (Or.inl ⟨by rfl,?ya12⟩) hS2 ?ra12
 case ya12=>(intro w hSw;(try dsimp only at hSw);go_simp;first|done|with_reducible rfl)
 try simp only [Act.put,jI,jZ,jS]
 refine doneN (by kernel_rfl) ?_ _
 go_wp2_with fail
 go_ret2
 exact ⟨rfl,HC2.out⟩
def DgD.inD (D:DgD) (x:Int):Bool:=decide (0≤x)&&decide (x<((2^D.depth:Nat):Int))
def DgD.putE (D:DgD) (x:Int) (n:Nat):Nat:=if n=0 then 1 else if D.inD x=false then 7 else if 9223372036854775807<totP D.row+n then 6 else 0
noncomputable def DgD.putV (D:DgD) (x:Int) (n:Nat):DgD:=if D.putE x n=0 then D.put x n else D
def DgR' (d f:Int) (w:World) (p:Nat) (G:List Nat) (D:DgD):Prop:=∃ s rv,Dg w p s rv D∧D.ok∧D.few∧D.inEnds∧((D.depth:Int)=d∧(D.factor:Int)=f)∧G=fpD p s rv
theorem DgR'.und (d f:Int):Und (DgR' d f) where
 lt:=fun ⟨s,rv,h1,_,_,_,_,h6⟩ b hb=>by subst h6;exact Dg.lt h1 b hb
 chg:=fun ⟨s,rv,h1,h2,h3,h4,h5,h6⟩ k hF=>by subst h6;exact ⟨s,rv,Dg.chg h1 k hF,h2,h3,h4,h5,rfl⟩
set_option maxRecDepth 100000 in
set_option maxHeartbeats 1000000 in
theorem dg_put_fullN (w:World) (p s:Nat) (rv:Value) (D:DgD) (h:Dg w p s rv D) (hok:D.ok) (x:Int) (h0:0≤x) (h1:x<((2^D.depth:Nat):Int)) (c:Nat) (hc1:1≤c) (hcu:c<18446744073709551616) (hc:9223372036854775807<totP D.row+c):Calls Tryz.prog 56 #[.pointer (some ⟨p,0,none⟩),.int .i64 x,.int .u64 (c:Nat)] w fun e w'=>e=.returned (.int .i64 6)∧Chg [] w w':=by
 obtain ⟨-,-,c2,-,-,-⟩:=h.cells
 have HL:=Lib.hid (tree_leaf w D.depth (2^D.depth) hok.d1 hok.d2 rfl x h0 h1)
 obtain ⟨T,hT⟩:∃ T,T=totP D.row:=⟨_,rfl⟩
 have htt:=hok.tot
 have HTO:=Lib.hid (fun u (hu:Chg [] w u)=>dg_total u p s rv D (h.chg hu (by simp)))
 rw [←hT] at HTO hc htt
 have HPL:=Lib.hid (fun u b0 hb0=>wide_plus2 u T c (by omega) hcu b0 hb0)
 have e:plusV [T,c]=.tuple #[.int .u64 0,.bool false]:=by
  unfold plusV
  rw [if_neg (by simp;omega)]
 rw [e] at HPL
 have d0:((c:Int)==0)=false:=by rw [beq_eq_false_iff_ne];omega
 obtain ⟨L,hL⟩:∃ L:Int,L=((2^D.depth:Nat):Int)+x:=⟨_,rfl⟩
 rw [←hL] at HL
 clear h hok hc htt hT e hL h0 h1 hc1 hcu
 go_enter Tryz.func56,Tryz.ntmps56
 go_wp2_with fail
 refine HL.out.mono ?_
 rintro e w1 ⟨rfl,hc1⟩
 go_wp2_with fail
 refine (HTO.out _ hc1).mono ?_
 rintro e w2 ⟨rfl,rfl⟩
 go_wp2_with fail
 refine (HPL.out _ _ rfl).mono ?_
 rintro e w2 ⟨rfl,rfl⟩
 go_wp2_with fail
 go_ret
 exact ⟨rfl,hc1.alloc _⟩
theorem dgR_put (d f:Int) (w:World) (p:Nat) (G:List Nat) (D:DgD) (h:DgR' d f w p G D) (x:Int) (hx:InR x) (n:Nat) (hn:n<18446744073709551616) :
 Calls Tryz.prog 56 #[.pointer (some ⟨p,0,none⟩),.int .i64 x,.int .u64 (n:Nat)] w fun e w'=>e=.returned (.int .i64 (D.putE x n:Nat))∧∃ G',DgR' d f w' p G' (D.putV x n)∧Mv G w G' w':=by
 obtain ⟨s,rv,h1,h2,h3,h4,h5,rfl⟩:=h
 have hl:D.row.length+1≤1000:=by have:=h3.2;have:=h2.f2;omega
 unfold DgD.putV
 by_cases h0:n=0
 ·subst h0
  refine (dg_put_zero w p x).mono ?_
  rintro e w' ⟨rfl,rfl⟩
  exact ⟨rfl,_,⟨s,rv,h1,h2,h3,h4,h5,rfl⟩,Mv.of_chg (Chg.refl _ _)⟩
 ·by_cases hin:0≤x∧x<((2^D.depth:Nat):Int)
  ·have hI:D.inD x=true:=by unfold DgD.inD;rw [decide_eq_true hin.1,decide_eq_true hin.2];rfl
   by_cases hf:9223372036854775807<totP D.row+n
   ·have hE:D.putE x n=6:=by unfold DgD.putE;rw [if_neg h0,hI,if_neg (by decide),if_pos hf]
    rw [hE,if_neg (by decide)]
    refine (dg_put_fullN w p s rv D h1 h2 x hin.1 hin.2 n (by omega) hn hf).mono ?_
    rintro e w' ⟨rfl,hc⟩
    exact ⟨rfl,_,⟨s,rv,h1.chg hc (by simp),h2,h3,h4,h5,rfl⟩,Mv.of_chg hc.nil⟩
   ·have hE:D.putE x n=0:=by unfold DgD.putE;rw [if_neg h0,hI,if_neg (by decide),if_neg hf]
    rw [hE,if_pos rfl]
    refine (dg_put w p s rv D h1 h2 x n hin.1 hin.2 (by omega) (by omega) hl).mono ?_
    rintro e w' ⟨rfl,s',rv',ht,hm⟩
    obtain ⟨a1,a2,a3,a4,-⟩:=DgD.put_ok h2 hin.1 hin.2 (c:=n) (by omega) hl
    exact ⟨rfl,_,⟨s',rv',ht,a1,DgD.put_few h2 h3 n hin.1 hin.2,DgD.put_inEnds h2 h4 hin.1 hin.2 (by omega) (by omega) hl,⟨by rw [a2];exact h5.1,by rw [a3];exact h5.2⟩,rfl⟩,hm⟩
  ·have hI:D.inD x=false:=by
    unfold DgD.inD
    rw [Bool.and_eq_false_iff,decide_eq_false_iff_not,decide_eq_false_iff_not]
    omega
   have hE:D.putE x n=7:=by unfold DgD.putE;rw [if_neg h0,if_pos hI]
   rw [hE,if_neg (by decide)]
   refine (dg_put_rangeN w p s rv D h1 h2 x (by omega) hx.2 n (by omega)).mono ?_
   rintro e w' ⟨rfl,hc⟩
   exact ⟨rfl,_,⟨s,rv,h1.chg hc (by simp),h2,h3,h4,h5,rfl⟩,Mv.of_chg hc.nil⟩
theorem newD_all {d f:Int} (h:goodC d f=true):(DgD.new d.toNat f.toNat).ok∧(DgD.new d.toNat f.toNat).few∧(DgD.new d.toNat f.toNat).inEnds∧(((DgD.new d.toNat f.toNat).depth:Nat):Int)=d∧(((DgD.new d.toNat f.toNat).factor:Nat):Int)=f:=by
 obtain ⟨⟨h1,h2⟩,h3,h4⟩:=of_decide_eq_true h
 have h5:=two_d (d:=d.toNat) (by omega) (by omega)
 refine ⟨⟨by show 1≤d.toNat;omega,by show d.toNat≤24;omega,by show 1≤f.toNat;omega,by show f.toNat≤64;omega,⟨fun j k _ hk=>by simp [DgD.new] at hk,by simp [DgD.new],by simp [DgD.new]⟩,by simp [DgD.new,totP],by simp [DgD.new]⟩,⟨fun p hp=>by simp [DgD.new] at hp,Nat.zero_le _⟩,⟨fun _=>⟨rfl,rfl⟩,Int.le_refl _,Int.le_refl _,?_⟩,?_,?_⟩
 ·show (0:Int)<((2^d.toNat:Nat):Int)
  omega
 ·show ((d.toNat:Nat):Int)=d
  omega
 ·show ((f.toNat:Nat):Int)=f
  omega
theorem freshR_digest (w:World) (c:Cf) (hk:c.kind=3) :
 Calls Tryz.prog 66 #[c.val] w fun e w'=>∃ v k,e=.returned (.tuple #[.iface 221 (.agg #[.pointer v]),.int .i64 k])∧FQ (DgR' c.depth c.factor) (DgD.new c.depth.toNat c.factor.toNat) (goodC c.depth c.factor) w.heap.size v k w'∧Chg [] w w':=
 freshk_digest w c hk _ (fun u hu=>(dg_new u c.depth c.factor).mono (by
  rintro e w' (⟨hno,rfl,hc⟩|⟨hy,p,s,rfl,ht,hc,hp⟩)
  ·exact ⟨_,_,rfl,.inl ⟨hno,by decide⟩,hc⟩
  ·obtain ⟨a1,a2,a3,a4,a5⟩:=newD_all hy
   exact ⟨_,_,rfl,.inr ⟨hy,rfl,p,_,rfl,⟨_,_,ht,a1,a2,a3,⟨a4,a5⟩,rfl⟩,fun b hb=>Nat.le_trans hu.size (hp b hb)⟩,hc⟩))
theorem DgD.ok.len_le {D:DgD} (h:D.ok) (hf:D.few) (he:D.inEnds):(putDg D).length≤20000:=by
 have h1:=h.d2
 have h2:=h.f2
 have h3:=hf.2
 have h4:=two_d h.d1 h.d2
 obtain ⟨-,k2,k3,k4⟩:=he
 have e1:=natB_len10 (n:=D.depth) (by omega)
 have e2:=natB_len10 (n:=D.factor) (by omega)
 have e3:=natB_len10 (n:=zig D.least) (by have:=(show InR D.least from ⟨by omega,by omega⟩).zig;omega)
 have e4:=natB_len10 (n:=zig D.most) (by have:=(show InR D.most from ⟨by omega,by omega⟩).zig;omega)
 have e5:=putB_lenG D.row (row_ok (a:=-1) (b:=2*((2^D.depth:Nat):Int)) (by omega) (by omega) (fun p hp=>by have:=h.nodes.ix p hp;unfold DgD.top at this;omega) h.tot) (by omega)
 unfold putDg
 simp only [List.length_append]
 omega
noncomputable def kbDig (c:Cf) (hk:c.kind=3):Kb c where
 S:=DgD
 P:=Up 221 c (DgR' c.depth c.factor)
 sz:=fun _=>0
 init:=DgD.new c.depth.toNat c.factor.toNat
 ok:=c.same { Cf.none 3 with depth:=c.depth,factor:=c.factor } && goodC c.depth c.factor
 put:=DgD.putV
 putE:=fun D x n=>(D.putE x n:Nat)
 enc:=putDg
 tot:=fun D=>totP D.row
 kk:=3
 kind:=by rw [hk];rfl
 lt:=fun h=>Up.lt (DgR'.und _ _) h
 chg:=fun h k hF=>Up.chg (DgR'.und _ _) h k hF
 sz0:=rfl
 szp:=fun _ _ _=>⟨Nat.zero_le _,Nat.zero_le _⟩
 new:=fun w _=>new_up (DgR'.und _ _) w c _ (fun u=>bare_digest u c hk) (fun u hu=>(freshR_digest u c hk).mono (by
  rintro e w' ⟨v,k,rfl,hq,hc⟩
  exact ⟨v,k,rfl,hq.mono hu.size,hc⟩))
 putC:=fun {w s F st} h _ x n hx hn=>by
  obtain ⟨p,G,hs,hr,rfl,hns⟩:=h
  refine kk_put_digest w s p c hs x n _ ((dgR_put _ _ w p G st hr x hx n hn).mono ?_)
  rintro e w' ⟨rfl,G',hr',hm⟩
  obtain ⟨hU,hM⟩:=Up.mv hs hr hns hr' hm
  exact ⟨_,rfl,rfl,_,hU,hM⟩
 encC:=fun {w s F st} h _=>by
  obtain ⟨p,G,hs,⟨z,rv,h1,h2,h3,h4,h5,rfl⟩,rfl,hns⟩:=h
  exact sk_enc_digest w s p c hs 3 (by rw [hk];rfl) (putDg st) (fun u q F hu hq hF=>dg_write u p z rv st (h1.chg hu (by simp)) h2 h3 h4 q F [] (by simp) hq (fun b hb e=>by have:=hF b hb;have:=h1.lt b e;omega))
 fit:=fun {w s F st} h _=>by
  obtain ⟨p,G,hs,⟨z,rv,h1,h2,h3,h4,h5,rfl⟩,rfl,hns⟩:=h
  have:=h2.len_le h3 h4
  omega
 totC:=fun {w s F st} h=>by
  obtain ⟨p,G,hs,⟨z,rv,h1,h2,h3,h4,h5,rfl⟩,rfl,hns⟩:=h
  exact kk_total_digest w s p c hs _ (fun u hu=>(dg_total u p z rv st (h1.chg hu (by simp))).mono (by rintro e w' ⟨rfl,rfl⟩;exact ⟨rfl,Chg.refl _ _⟩))
 tot0:=rfl
 reset:=fun {w s F st} h hok _=>by
  have ho:goodC c.depth c.factor=true:=by
   cases h:goodC c.depth c.factor with
   | true=>rfl
   | false=>rw [h] at hok;simp at hok
  refine reset_up (DgR'.und _ _) w c s F st h (fun u hu=>(freshR_digest u c hk).mono ?_)
  rintro e w' ⟨v,k,rfl,hq,hc⟩
  rw [ho] at hq
  exact ⟨v,k,rfl,hq.mono hu.size,hc⟩
set_option maxRecDepth 100000 in
set_option maxHeartbeats 4000000 in
theorem kk_put_req (w:World) (s p:Nat) (c:Cf) (h:Sk w s c 225 p) (x:Int) (n:Nat) (R:Ending→World→Prop)
 (HP0:Calls Tryz.prog 118 #[.pointer (some ⟨p,0,none⟩),.int .i64 x,.int .u64 n] w fun e w'=>∃ k,e=.returned (.int .i64 k)∧R e w') :
 Calls Tryz.prog 21 #[.pointer (some ⟨s,0,none⟩),.int .i64 x,.int .u64 n] w R:=by
 have c11:=h.core
 have HP:=Lib.hid HP0
 clear h HP0
 go_enter Tryz.func21,Tryz.ntmps21
 go_wp2_with fail
 refine HP.out.mono ?_
 rintro e w1 ⟨k,rfl,hR⟩
 have HR:=Lib.hid hR
 clear hR HP
 go_wp2_with fail
 exact HR.out
set_option maxRecDepth 100000 in
set_option maxHeartbeats 4000000 in
theorem kc_total_req (w:World) (p:Nat) (n:Nat)
 (HP0:∀ u,Chg [] w u→Calls Tryz.prog 123 #[.pointer (some ⟨p,0,none⟩)] u fun e w'=>e=.returned (.int .u64 (n:Nat))∧Chg [] u w') :
 Calls Tryz.prog 389 #[.agg #[.pointer (some ⟨p,0,none⟩)]] w fun e w'=>e=.returned (.int .u64 (n:Nat))∧Chg [] w w':=by
 have HP:=Lib.hid HP0
 have HC:=Lib.hid ((Chg.refl [] w).alloc (.cells #[.pointer (some ⟨p,0,none⟩)] 225))
 clear HP0
 go_enter Tryz.func389,Tryz.ntmps389
 go_wp2_with fail
 refine (HP.out _ HC.out).mono ?_
 rintro e w1 ⟨rfl,hc⟩
 have HC1:=Lib.hid (HC.out.trans hc)
 clear hc HP
 go_wp2
 go_ret
 exact ⟨rfl,HC1.out⟩
set_option maxRecDepth 100000 in
set_option maxHeartbeats 4000000 in
theorem kk_total_req (w:World) (s p:Nat) (c:Cf) (h:Sk w s c 225 p) (n:Nat)
 (HP0:∀ u,Chg [] w u→Calls Tryz.prog 123 #[.pointer (some ⟨p,0,none⟩)] u fun e w'=>e=.returned (.int .u64 (n:Nat))∧Chg [] u w') :
 Calls Tryz.prog 20 #[.pointer (some ⟨s,0,none⟩)] w fun e w'=>e=.returned (.int .u64 (n:Nat))∧Chg [] w w':=by
 have c11:=h.core
 have HT:=Lib.hid (kc_total_req w p n HP0)
 clear h HP0
 go_enter Tryz.func20,Tryz.ntmps20
 go_wp2_with fail
 refine HT.out.mono ?_
 rintro e w1 ⟨rfl,hc⟩
 have HC:=Lib.hid hc
 clear hc HT
 go_wp2
 go_ret
 exact ⟨rfl,HC.out⟩
end Go.Proofs.YthoolcpcmhhkpaaGreatDoor
namespace Go.Proofs.YthoolcpcmhhkpaaGreatDoor
open Go.Shelf
def sortedL_ren:Go.Shelf.Ren:=⟨fun|6=>253|8=>291|9=>215|11=>306|13=>214|12=>249|23=>247|24=>248|14=>278|15=>279|16=>280|17=>281|18=>282|19=>283|20=>284|21=>285|22=>286|25=>301|26=>274|27=>275|28=>302|29=>303|30=>304|31=>315|n=>n,fun|26=>2|28=>351|24=>100|0=>0|3=>3|37=>38|48=>30|50=>23|4=>4|40=>339|39=>338|45=>156|5=>5|9=>9|51=>364|55=>367|57=>383|58=>384|33=>378|n=>n,fun|n=>n⟩
theorem sortedL:Go.Proofs.SlLaysZI.n6 Tryz.prog sortedL_ren:={
 mixed:=by kernel_rfl,
 f6:=⟨Tryz.f253.name,by decide,Tryz.func253.trans (congrArg some (by kernel_rfl))⟩,
 f8:=⟨Tryz.f291.name,by decide,Tryz.func291.trans (congrArg some (by kernel_rfl))⟩,
 f11:=⟨Tryz.f306.name,by decide,Tryz.func306.trans (congrArg some (by kernel_rfl))⟩,
 t0:=Tryz.underlying0,
 a0:=Tryz.isAgg0,
 z0:=Tryz.sizeOf0,
 v0:=Tryz.zeroValue0,
 t24:=Tryz.underlying100,
 a24:=Tryz.isAgg100,
 z24:=Tryz.sizeOf100,
 v24:=Tryz.zeroValue100,
 t26:=Tryz.underlying2,
 a26:=Tryz.isAgg2,
 z26:=Tryz.sizeOf2,
 v26:=Tryz.zeroValue2,
 t28:=Tryz.underlying351,
 a28:=Tryz.isAgg351,
 z28:=Tryz.sizeOf351,
 v28:=Tryz.zeroValue351,
 i26:=by kernel_rfl }
def sortL5_ren:Go.Shelf.Ren:=⟨fun|5=>215|8=>214|7=>249|19=>247|20=>248|10=>278|11=>279|12=>280|13=>281|14=>282|15=>283|16=>284|17=>285|18=>286|30=>301|31=>274|32=>275|33=>302|34=>303|35=>304|40=>315|n=>n,fun|23=>100|25=>2|3=>3|32=>38|22=>100|0=>0|44=>30|46=>23|4=>4|36=>339|35=>338|41=>156|5=>5|9=>9|53=>364|57=>367|63=>383|64=>384|n=>n,fun|n=>n⟩
theorem sortL5:Go.Proofs.SlLaysM.n5 Tryz.prog sortL5_ren:={
 mixed:=by kernel_rfl,
 f5:=⟨Tryz.f215.name,by decide,Tryz.func215.trans (congrArg some (by kernel_rfl))⟩,
 f7:=⟨Tryz.f249.name,by decide,Tryz.func249.trans (congrArg some (by kernel_rfl))⟩,
 f8:=Tryz.func214.trans (congrArg some (by kernel_rfl)),
 f10:=⟨Tryz.f278.name,by decide,Tryz.func278.trans (congrArg some (by kernel_rfl))⟩,
 f11:=⟨Tryz.f279.name,by decide,Tryz.func279.trans (congrArg some (by kernel_rfl))⟩,
 f12:=⟨Tryz.f280.name,by decide,Tryz.func280.trans (congrArg some (by kernel_rfl))⟩,
 f13:=⟨Tryz.f281.name,by decide,Tryz.func281.trans (congrArg some (by kernel_rfl))⟩,
 f14:=⟨Tryz.f282.name,by decide,Tryz.func282.trans (congrArg some (by kernel_rfl))⟩,
 f15:=⟨Tryz.f283.name,by decide,Tryz.func283.trans (congrArg some (by kernel_rfl))⟩,
 f16:=⟨Tryz.f284.name,by decide,Tryz.func284.trans (congrArg some (by kernel_rfl))⟩,
 f17:=⟨Tryz.f285.name,by decide,Tryz.func285.trans (congrArg some (by kernel_rfl))⟩,
 f18:=⟨Tryz.f286.name,by decide,Tryz.func286.trans (congrArg some (by kernel_rfl))⟩,
 f19:=Tryz.func247.trans (congrArg some (by kernel_rfl)),
 f20:=Tryz.func248.trans (congrArg some (by kernel_rfl)),
 f30:=⟨Tryz.f301.name,by decide,Tryz.func301.trans (congrArg some (by kernel_rfl))⟩,
 f31:=Tryz.func274.trans (congrArg some (by kernel_rfl)),
 f32:=Tryz.func275.trans (congrArg some (by kernel_rfl)),
 f33:=⟨Tryz.f302.name,by decide,Tryz.func302.trans (congrArg some (by kernel_rfl))⟩,
 f34:=⟨Tryz.f303.name,by decide,Tryz.func303.trans (congrArg some (by kernel_rfl))⟩,
 f35:=⟨Tryz.f304.name,by decide,Tryz.func304.trans (congrArg some (by kernel_rfl))⟩,
 f40:=⟨Tryz.f315.name,by decide,Tryz.func315.trans (congrArg some (by kernel_rfl))⟩,
 t0:=Tryz.underlying0,
 a0:=Tryz.isAgg0,
 z0:=Tryz.sizeOf0,
 v0:=Tryz.zeroValue0,
 t3:=Tryz.underlying3,
 a3:=Tryz.isAgg3,
 z3:=Tryz.sizeOf3,
 v3:=Tryz.zeroValue3,
 t4:=Tryz.underlying4,
 a4:=Tryz.isAgg4,
 z4:=Tryz.sizeOf4,
 v4:=Tryz.zeroValue4,
 t5:=Tryz.underlying5,
 a5:=Tryz.isAgg5,
 z5:=Tryz.sizeOf5,
 v5:=Tryz.zeroValue5,
 t9:=Tryz.underlying9,
 a9:=Tryz.isAgg9,
 z9:=Tryz.sizeOf9,
 v9:=Tryz.zeroValue9,
 t22:=Tryz.underlying100,
 a22:=Tryz.isAgg100,
 z22:=Tryz.sizeOf100,
 v22:=Tryz.zeroValue100,
 t23:=Tryz.underlying100,
 a23:=Tryz.isAgg100,
 z23:=Tryz.sizeOf100,
 v23:=Tryz.zeroValue100,
 t25:=Tryz.underlying2,
 a25:=Tryz.isAgg2,
 z25:=Tryz.sizeOf2,
 v25:=Tryz.zeroValue2,
 t32:=Tryz.underlying38,
 a32:=Tryz.isAgg38,
 z32:=Tryz.sizeOf38,
 v32:=Tryz.zeroValue38,
 t35:=Tryz.underlying338,
 a35:=Tryz.isAgg338,
 z35:=Tryz.sizeOf338,
 v35:=Tryz.zeroValue338,
 t36:=Tryz.underlying339,
 a36:=Tryz.isAgg339,
 z36:=Tryz.sizeOf339,
 v36:=Tryz.zeroValue339,
 t41:=Tryz.underlying156,
 a41:=Tryz.isAgg156,
 z41:=Tryz.sizeOf156,
 v41:=Tryz.zeroValue156,
 t44:=Tryz.underlying30,
 a44:=Tryz.isAgg30,
 z44:=Tryz.sizeOf30,
 v44:=Tryz.zeroValue30,
 t46:=Tryz.underlying23,
 a46:=Tryz.isAgg23,
 z46:=Tryz.sizeOf23,
 v46:=Tryz.zeroValue23,
 t53:=Tryz.underlying364,
 a53:=Tryz.isAgg364,
 z53:=Tryz.sizeOf364,
 v53:=Tryz.zeroValue364,
 t57:=Tryz.underlying367,
 a57:=Tryz.isAgg367,
 z57:=Tryz.sizeOf367,
 v57:=Tryz.zeroValue367,
 t63:=Tryz.underlying383,
 a63:=Tryz.isAgg383,
 z63:=Tryz.sizeOf383,
 v63:=Tryz.zeroValue383,
 t64:=Tryz.underlying384,
 a64:=Tryz.isAgg384,
 z64:=Tryz.sizeOf384,
 v64:=Tryz.zeroValue384 }
end Go.Proofs.YthoolcpcmhhkpaaGreatDoor
namespace Go.Proofs.YthoolcpcmhhkpaaGreatDoor
open Go.RowKit
def coinB (word k:Nat):Bool:=decide (word / 2^(k % 64) % 2=1)
def Tape (w:World) (t word used:Nat):Prop:=Blk w t #[.int .u64 (word:Nat),.int .i64 (used:Nat)] 316
theorem Tape.chg {w w1:World} {t word used:Nat} {F:List Nat} (h:Tape w t word used) (k:Chg F w w1) (hn:t∉F):Tape w1 t word used:=Blk.chg h k hn
theorem and_one64 (c:Nat) (h:c<18446744073709551616):bits .and .u64 (c:Int) 1=((c % 2:Nat):Int):=by
 have:=u64_and_nat c 1 h (by omega)
 rw [Nat.and_one_is_mod] at this
 exact this
set_option maxRecDepth 100000 in
theorem coins_new (w:World) (word:Nat) :
 Calls Tryz.prog 181 #[.int .u64 word] w fun e w'=>e=.returned (.pointer (some ⟨w.heap.size,0,none⟩))∧Tape w' w.heap.size word 0∧Chg [] w w':=by
 go_enter Tryz.func181,Tryz.ntmps181
 go_wp2
 go_ret
 exact ⟨rfl,Blk.alloc_new _ _ _,(Chg.refl [] w).alloc _⟩
set_option maxRecDepth 100000 in
theorem coins_next (w:World) (t word used:Nat) (hw:word<18446744073709551616) (hu:used<9223372036854775807) (ht:Tape w t word used) :
 Calls Tryz.prog 221 #[.pointer (some ⟨t,0,none⟩)] w fun e w'=>e=.returned (.bool (coinB word used))∧Tape w' t word (used+1)∧Chg [t] w w':=by
 have c0:=ht.cell 0
 have c1:=ht.cell 1
 have f1:=ht.free 1
 have hm:(used:Int).tmod 64=((used % 64:Nat):Int):=by rw [Int.tmod_eq_emod_of_nonneg (by omega)];omega
 have hd:word / 2^(used % 64)<18446744073709551616:=Nat.lt_of_le_of_lt (Nat.div_le_self _ _) hw
 have HB:Hid ((bits .and .u64 ((word:Int) / 2^(used % 64)) 1==1)=coinB word used):=Lib.hid (by
  have hb:=and_one64 _ hd
  rw [show ((word / 2^(used % 64):Nat):Int)=(word:Int) / 2^(used % 64) from by simp] at hb
  rw [hb,coinB,Bool.eq_iff_iff,beq_iff_eq,decide_eq_true_eq]
  omega)
 have HT:=Lib.hid ht
 clear hd
 go_enter Tryz.func221,Tryz.ntmps221
 go_wp2
 go_quiet (fail)
 go_wp2
 go_ret
 refine ⟨by rw [←HB.out];rfl,?_,Chg.setCell ((Chg.refl [t] w).drewN nq) (.inl (by simp)) _⟩
 exact Blk.setCell (show Blk (w.drewN nq) t _ _ from HT.out) 1 _
theorem coins_used (w:World) (t word used:Nat) (ht:Tape w t word used) :
 Calls Tryz.prog 185 #[.pointer (some ⟨t,0,none⟩)] w fun e w'=>e=.returned (.int .i64 (used:Nat))∧w=w':=by
 have c1:=ht.cell 1
 go_enter Tryz.func185,Tryz.ntmps185
 go_wp2
 go_ret
 exact ⟨rfl,rfl⟩
end Go.Proofs.YthoolcpcmhhkpaaGreatDoor
