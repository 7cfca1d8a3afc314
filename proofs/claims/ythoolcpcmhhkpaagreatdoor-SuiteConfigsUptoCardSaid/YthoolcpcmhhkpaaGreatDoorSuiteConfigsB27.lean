/-
  Parts of a proof, pressed. Conditions: the form's own reach.
-/
import Derived.Test.YthoolcpcmhhkpaaGreatDoorSuiteConfigsB26
import Derived.Test.YthoolcpcmhhkpaaGreatDoorSuiteConfigsB15
import Derived.Test.YthoolcpcmhhkpaaGreatDoorSuiteConfigsB5
import Derived.Test.YthoolcpcmhhkpaaGreatDoorSuiteConfigsB20
import Derived.Test.YthoolcpcmhhkpaaGreatDoorSuiteConfigsB4
import Derived.Test.YthoolcpcmhhkpaaGreatDoorSuiteConfigsB21
import Derived.Test.YthoolcpcmhhkpaaGreatDoorSuiteConfigsB25
namespace Go.Proofs.YthoolcpcmhhkpaaGreatDoor
open Go.RowKit
theorem enters_wconfig:∀ (args:Array Value) (w:World),(callFunc 392 args).run Tryz.prog w=.ok (.enter 392 args) w:=enters_of Tryz.func392 (by kernel_rfl) rfl
theorem enters_wused:∀ (args:Array Value) (w:World),(callFunc 121 args).run Tryz.prog w=.ok (.enter 121 args) w:=enters_of Tryz.func121 (by kernel_rfl) rfl
theorem enters_wnat:∀ (args:Array Value) (w:World),(callFunc 135 args).run Tryz.prog w=.ok (.enter 135 args) w:=enters_of Tryz.func135 (by kernel_rfl) rfl
theorem fa_cfg0 (u:World) (a b:Int):(Instr.field 201 (.agg #[.int .i64 a,.int .u64 b]) 0).run Tryz.prog u=.ok (.int .i64 a) u:=by kernel_rfl
theorem fa_cfg1 (u:World) (a b:Int):(Instr.field 201 (.agg #[.int .i64 a,.int .u64 b]) 1).run Tryz.prog u=.ok (.int .u64 b) u:=by kernel_rfl
set_option maxRecDepth 100000 in
set_option maxHeartbeats 1000000 in
theorem req_Ends0 (w:World) (p tp:Nat) (rv:Value) (vs:List Value) (D:TwD) (ht:Tow w p tp rv vs D) (lo hi:Int) (B:Bool) (hlo:lo=D.lo) (hhi:hi=D.hi) (hB:B=decide (0<D.total)) :
 Calls Tryz.prog 119 #[.pointer (some ⟨p,0,none⟩)] w fun e w'=>e=.returned (.tuple #[.int .i64 lo,.int .i64 hi,.bool B])∧Chg [] w w':=by
 obtain ⟨-,-,-,-,c4,c5,c6⟩:=ht.cells
 by_cases hl:D.total=0
 ·rw [TwD.lo,if_pos hl] at hlo
  rw [TwD.hi,if_pos hl] at hhi
  have hB':B=false:=by rw [hB];simp;exact hl
  subst hlo hhi hB'
  rw [hl] at c4
  clear hB
  go_enter Tryz.func119,Tryz.ntmps119
  go_wp2
  refine bodyPost_ret (v:=.tuple #[.int .i64 0,.int .i64 0,.bool false]) (by simp [results,Tryz.results119,go_sem]) rfl ?_
  exact ⟨rfl,Chg.refl _ _⟩
 ·rw [TwD.lo,if_neg hl] at hlo
  rw [TwD.hi,if_neg hl] at hhi
  have d0:((D.total:Int)==0)=false:=by rw [beq_eq_false_iff_ne];omega
  have hBt:B=true:=by rw [hB];simp;omega
  rw [←hlo] at c5
  rw [←hhi] at c6
  subst hBt
  clear hB hlo hhi
  go_enter Tryz.func119,Tryz.ntmps119
  go_wp2
  go_quiet (fail)
  go_wp2
  refine bodyPost_ret (v:=.tuple #[.int .i64 lo,.int .i64 hi,.bool true]) (by simp [results,Tryz.results119,go_sem]) rfl ?_
  exact ⟨rfl,(Chg.refl [] w).drewN _⟩
theorem flatMap_take {α:Type} (f:α→List UInt8) (l:List α) (k:Nat) (h:k<l.length):(l.take (k+1)).flatMap f=(l.take k).flatMap f++f l[k]:=by
 rw [List.take_succ_eq_append_getElem h,List.flatMap_append];simp
theorem flatMap_take_len (l:List (List Int)) (h:∀ q∈l,q.length≤64∧∀ x∈q,InR x) (k:Nat):((l.take k).flatMap rowB).length≤642*l.length:=by
 have h1:=rowsB_len l h
 have h3:((l.take k).flatMap rowB).length≤(l.flatMap rowB).length:=by
  conv=>rhs;rw [←List.take_append_drop k l,List.flatMap_append,List.length_append]
  omega
 omega
def headReq (D:TwD):List UInt8:=natB D.W++(natB D.word++(natB (D.used % 64)++(natB (zig D.lo)++(natB (zig D.hi)++natB D.rows.length))))
theorem putReq_eq (D:TwD):putReq D=headReq D++D.rows.flatMap rowB:=by simp [putReq,headReq]
set_option maxRecDepth 100000 in
set_option maxHeartbeats 4000000 in
theorem req_write (w:World) (p tp:Nat) (rv:Value) (vs:List Value) (D:TwD) (ht:Tow w p tp rv vs D) (hD:D.allQ InR) (hW:D.W≤64) (hword:D.word<18446744073709551616) (hR:D.rows.length≤1000) (hr64:∀ r∈D.rows,r.length≤64) (hU:D.used≤1000000000)
 (q:Nat) (F:List Nat) (l:List UInt8) (hl:l.length≤1000) (hql:Qul w q F l) :
 Calls Tryz.prog 390 #[.agg #[.pointer (some ⟨p,0,none⟩)],.pointer (some ⟨q,0,none⟩)] w fun e w'=>e=.returned (.tuple #[])∧∃ F',Qul w' q F' (l++putReq D)∧Mv F w F' w':=by
 have hN:D.rows.flatten.length≤100000:=by
  have:∀ l:List (List Int),(∀ r∈l,r.length≤64)→l.flatten.length≤64*l.length:=by
   intro l
   induction l with
   | nil=>simp
   | cons x l ih =>
     intro h
     have h1:=ih (fun y hy=>h y (by simp [hy]))
     have h2:=h x (by simp)
     simp only [List.flatten_cons,List.length_append,List.length_cons]
     omega
  have:=this _ hr64
  omega
 have HT:=Lib.hid (fun u (hu:Chg [] w u)=>ht.chg hu (by simp))
 have HQL:=Lib.hid (fun u (hu:Chg [] w u)=>hql.chg hu (by simp))
 have HLO:=Lib.hid hD.lo
 have HHI:=Lib.hid hD.hi
 have HRQ:=Lib.hid (fun r hr=>(⟨hr64 r hr,hD.rows r hr⟩:r.length≤64∧∀ x∈r,InR x))
 obtain ⟨lo,hlo⟩:∃ x,x=D.lo:=⟨_,rfl⟩
 obtain ⟨hi,hhi⟩:∃ x,x=D.hi:=⟨_,rfl⟩
 obtain ⟨B,hB⟩:∃ x,x=decide (0<D.total):=⟨_,rfl⟩
 obtain ⟨n,hn⟩:∃ x,x=D.rows.length:=⟨_,rfl⟩
 have HEN:=Lib.hid (fun u (hu:Chg [] w u)=>req_Ends0 u p tp rv vs D (HT.out u hu) lo hi B hlo hhi hB)
 have HRW:=Lib.hid (fun u (hu:Chg [] w u)=>req_rows u p tp rv vs D (HT.out u hu) hN (by omega))
 have HCF:=Lib.hid (fun u (hu:Chg [] w u)=>req_config u p tp rv vs D (HT.out u hu))
 have HUS:=Lib.hid (fun u (hu:Chg [] w u)=>req_used u p tp rv vs D (HT.out u hu))
 rw [←hn] at HRW
 have HN:=Lib.hid hn
 have HE:=Lib.hid (And.intro hlo hhi)
 obtain ⟨b0,hb0⟩:∃ z,z=w.heap.size:=⟨_,rfl⟩
 have HB:=Lib.hid (show Blk (w.alloc (.cells #[.pointer (some ⟨p,0,none⟩)] 225)) b0 #[.pointer (some ⟨p,0,none⟩)] 225 from by rw [hb0];exact Blk.alloc_new _ _ _)
 have HC0:=Lib.hid ((Chg.refl [] w).alloc (.cells #[.pointer (some ⟨p,0,none⟩)] 225))
 have HB0:=Lib.hid (show w.heap.size≤b0 from by omega)
 have hwW:IntKind.u64.wrap (D.W:Int)=(D.W:Int):=IntWalk.u64_in _ (by omega)
 have hwU:IntKind.u64.wrap (D.used:Int)=(D.used:Int):=IntWalk.u64_in _ (by omega)
 have hwM:((D.used:Int).tmod 64)=((D.used % 64:Nat):Int):=by rw [Int.tmod_eq_emod_of_nonneg (by omega)];omega
 have hR2:n≤1000:=by omega
 have HDW:=Lib.hid (And.intro hW hword)
 clear ht hql hlo hhi hB hn hD hr64 hN hR hU hword
 go_enter Tryz.func390,Tryz.ntmps390
 go_wp2_with fail
 rw [←hb0]
 clear hb0
 generalize w.alloc (.cells #[.pointer (some ⟨p,0,none⟩)] 225)=w0 at *
 have hc0:=HB.out.cell 0
 simp only [List.getElem?_toArray,List.getElem?_cons_zero] at hc0
 go_wp2_with fail
 refine (HEN.out _ HC0.out).mono ?_
 rintro e w1 ⟨rfl,hc1⟩
 have HC1:=Lib.hid (HC0.out.trans hc1)
 have HB1:=Lib.hid (HB.out.chg hc1 (by simp))
 clear hc0 hc1 HB HC0
 have hc0:=HB1.out.cell 0
 simp only [List.getElem?_toArray,List.getElem?_cons_zero] at hc0
 go_wp2_with fail
 refine (HRW.out _ HC1.out).mono ?_
 rintro e w2 ⟨ro,rc,vs2,rfl,⟨hro,hrr,hrb,hrv⟩,hc2⟩
 have HC2:=Lib.hid (HC1.out.trans hc2)
 have HB2:=Lib.hid (HB1.out.chg hc2 (by simp))
 have HRO:=Lib.hid hro
 have HRR:=Lib.hid hrr
 have HRB:=Lib.hid (show (∀ b∈blkOf (.slice ro n rc),w.heap.size≤b)∧∀ v∈vs2,∀ b∈blkOf v,w.heap.size≤b from ⟨fun b hb=>Nat.le_trans HC1.out.size (hrb b hb),fun v hv b hb=>Nat.le_trans HC1.out.size (hrv v hv b hb)⟩)
 clear hc0 HB1 hro hrr hrb hrv HC1 HRW HEN hc2
 have hc0:=HB2.out.cell 0
 simp only [List.getElem?_toArray,List.getElem?_cons_zero] at hc0
 go_wp2_with fail
 have fa0:=fa_cfg0
 have fa1:=fa_cfg1
 have hSS:w2.drew.cell? ⟨b0,0,none⟩=some (.pointer (some ⟨p,0,none⟩)):=hc0
 have hSS0:=hSS
 have HKS:=Lib.hid ((Chg.refl [] w2).drew)
 refine startN (S:=fun wx=>wx.cell? ⟨b0,0,none⟩=some (.pointer (some ⟨p,0,none⟩))) (by kernel_rfl) hSS (fun hHeld => ?_)
 refine takeN (i:=0) (v:=?va0) rfl (by kernel_rfl) (by kernel_rfl) (by kernel_rfl) (fun _ _ _ h=>h) (Or.inl ⟨by rfl,?ya0⟩) hSS ?ra0
 case ya0=>(intro w hSw;(try dsimp only at hSw);go_simp;first|done|with_reducible rfl)
 try simp only [Act.put,jI,jZ,jS]
 refine takeN (i:=1) (v:=?va1) rfl (by kernel_rfl) (by kernel_rfl) (by kernel_rfl) (fun _ _ _ h=>h) (Or.inl ⟨by rfl,?ya1⟩) hSS ?ra1
 case ya1=>(intro w hSw;(try dsimp only at hSw);go_simp;first|done|with_reducible rfl)
 try simp only [Act.put,jI,jZ,jS]
 refine takeN (i:=2) (v:=?va2) rfl (by kernel_rfl) (by kernel_rfl) (by kernel_rfl) (fun _ _ _ h=>h) (Or.inl ⟨by rfl,?ya2⟩) hSS ?ra2
 case ya2=>(intro w hSw;(try dsimp only at hSw);go_simp;first|done|with_reducible rfl)
 try simp only [Act.put,jI,jZ,jS]
 refine takeN (i:=6) (v:=?va6) rfl (by kernel_rfl) (by kernel_rfl) (by kernel_rfl) (fun _ _ _ h=>h) (Or.inl ⟨by rfl,?ya6⟩) hSS ?ra6
 case ya6=>(intro w hSw;(try dsimp only at hSw);go_simp;first|done|with_reducible rfl)
 try simp only [Act.put,jI,jZ,jS]
 refine takeN (i:=7) (v:=?va7) rfl (by kernel_rfl) (by kernel_rfl) (by kernel_rfl) (fun _ _ _ h=>h) (Or.inl ⟨by rfl,?ya7⟩) hSS ?ra7
 case ya7=>(intro w hSw;(try dsimp only at hSw);go_simp;first|done|with_reducible rfl)
 try simp only [Act.put,jI,jZ,jS]
 refine takeN (i:=10) (v:=?va10) rfl (by kernel_rfl) (by kernel_rfl) (by kernel_rfl) (fun _ _ _ h=>h) (Or.inl ⟨by rfl,?ya10⟩) hSS ?ra10
 case ya10=>(intro w hSw;(try dsimp only at hSw);go_simp;first|done|with_reducible rfl)
 try simp only [Act.put,jI,jZ,jS]
 refine takeN (i:=11) (v:=?va11) rfl (by kernel_rfl) (by kernel_rfl) (by kernel_rfl) (fun _ _ _ h=>h) (Or.inl ⟨by rfl,?ya11⟩) hSS ?ra11
 case ya11=>(intro w hSw;(try dsimp only at hSw);go_simp;first|done|with_reducible rfl)
 try simp only [Act.put,jI,jZ,jS]
 refine readyN (rs:=[3]) (by kernel_rfl) (by simp) (consN rfl (fun K hK => ?_) nilN)
 refine step_callsG (by rfl) 392 _ _ rfl enters_wconfig _ #[.pointer (some ⟨p,0,none⟩)] (by simp [Act.eval]) (HCF.out _ (HC2.out.trans HKS.out)) ?_;rintro e wa ⟨rfl,hccwa⟩;refine ⟨_,rfl,?_⟩
 have HKwa:=Lib.hid (HKS.out.trans hccwa)
 have hSwa:wa.cell? ⟨b0,0,none⟩=some (.pointer (some ⟨p,0,none⟩)):=hccwa.cell hSS (by simp)
 clear hccwa
 refine hK.out _ _ hSwa (fun hHeld => ?_)
 clear hK K hHeld
 try simp only [Act.put,jI,jZ,jS]
 refine takeN (i:=4) (v:=?va4) rfl (by kernel_rfl) (by kernel_rfl) (by kernel_rfl) (fun _ _ _ h=>h) (Or.inl ⟨by rfl,?ya4⟩) hSwa ?ra4
 case ya4=>(intro w hSw;(try dsimp only at hSw);go_simp;first|done|with_reducible rfl)
 try simp only [Act.put,jI,jZ,jS]
 refine takeN (i:=5) (v:=?va5) rfl (by kernel_rfl) (by kernel_rfl) (by kernel_rfl) (fun _ _ _ h=>h) (Or.inl ⟨by rfl,?ya5⟩) hSwa ?ra5
 case ya5=>(intro w hSw;(try dsimp only at hSw);go_simp;first|done|with_reducible rfl)
 try simp only [Act.put,jI,jZ,jS]
 refine readyN (rs:=[8]) (by kernel_rfl) (by simp) (consN rfl (fun K hK => ?_) nilN)
 refine step_callsG (by rfl) 392 _ _ rfl enters_wconfig _ #[.pointer (some ⟨p,0,none⟩)] (by simp [Act.eval]) (HCF.out _ (HC2.out.trans HKwa.out)) ?_;rintro e wb ⟨rfl,hccwb⟩;refine ⟨_,rfl,?_⟩
 have HKwb:=Lib.hid (HKwa.out.trans hccwb)
 have hSwb:wb.cell? ⟨b0,0,none⟩=some (.pointer (some ⟨p,0,none⟩)):=hccwb.cell hSwa (by simp)
 clear hccwb
 refine hK.out _ _ hSwb (fun hHeld => ?_)
 clear hK K hHeld
 try simp only [Act.put,jI,jZ,jS]
 refine takeN (i:=9) (v:=?va9) rfl (by kernel_rfl) (by kernel_rfl) (by kernel_rfl) (fun _ _ _ h=>h) (Or.inl ⟨by rfl,?ya9⟩) hSwb ?ra9
 case ya9=>(intro w hSw;(try dsimp only at hSw);go_simp;first|done|with_reducible rfl)
 try simp only [Act.put,jI,jZ,jS]
 refine readyN (rs:=[12]) (by kernel_rfl) (by simp) (consN rfl (fun K hK => ?_) nilN)
 refine step_callsG (by rfl) 121 _ _ rfl enters_wused _ #[.pointer (some ⟨p,0,none⟩)] (by simp [Act.eval]) (HUS.out _ (HC2.out.trans HKwb.out)) ?_;rintro e w' ⟨rfl,rfl⟩;refine ⟨_,rfl,?_⟩
 refine hK.out _ _ hSwb (fun hHeld => ?_)
 clear hK K hHeld
 try simp only [Act.put,jI,jZ,jS]
 refine takeN (i:=13) (v:=?va13) rfl (by kernel_rfl) (by kernel_rfl) (by kernel_rfl) (fun _ _ _ h=>h) (Or.inl ⟨by rfl,?ya13⟩) hSwb ?ra13
 case ya13=>(intro w hSw;(try dsimp only at hSw);go_simp;first|done|with_reducible rfl)
 try simp only [Act.put,jI,jZ,jS]
 refine takeN (i:=14) (v:=?va14) rfl (by kernel_rfl) (by kernel_rfl) (by kernel_rfl) (fun _ _ _ h=>h) (Or.inl ⟨by rfl,?ya14⟩) hSwb ?ra14
 case ya14=>(intro w hSw;(try dsimp only at hSw);go_simp;first|done|with_reducible rfl)
 try simp only [Act.put,jI,jZ,jS]
 refine readyN (rs:=[15]) (by kernel_rfl) (by simp) (consN rfl (fun K hK => ?_) nilN)
 refine step_bU3 rfl 25 29 34 rfl D.W D.word (D.used % 64) (by simp [Act.eval]) (by simp [Act.eval]) (by simp [Act.eval]) ?_;intro gb wc hrc hcc hgc
 have hSwc:wc.cell? ⟨b0,0,none⟩=some (.pointer (some ⟨p,0,none⟩)):=hcc.cell hSwb (by simp)
 have HKwc:=Lib.hid (HKwb.out.trans hcc)
 have HRC:=Lib.hid hrc
 have HGC:=Lib.hid (show w.heap.size≤gb from Nat.le_trans HC2.out.size (Nat.le_trans HKwb.out.size hgc))
 clear hcc hrc hgc
 refine hK.out _ _ hSwc (fun hHeld => ?_)
 clear hK K hHeld
 try simp only [Act.put,jI,jZ,jS]
 refine readyN (rs:=[16]) (by kernel_rfl) (by simp) (consN rfl (fun K hK => ?_) nilN)
 have hqc:=HQL.out _ (HC2.out.trans HKwc.out)
 have hFl:∀ b∈F,b<w.heap.size:=(HQL.out w (Chg.refl _ _)).lt
 refine step_callsG (by rfl) 135 _ _ rfl enters_wnat _ #[.pointer (some ⟨q,0,none⟩),.slice (some ⟨gb,0,none⟩) 3 3] (by simp [Act.eval]) (quill_nat wc q F l (some ⟨gb,0,none⟩) 3 [D.W,D.word,D.used % 64] (by have:=HDW.out;intro u hu;simp only [List.mem_cons,List.not_mem_nil,or_false] at hu;rcases hu with rfl|rfl|rfl<;>omega) hqc HRC.out (by intro b hb e;simp only [abl_some,List.mem_singleton] at hb;have h1:=hFl b e;have h2:=HGC.out;omega) (by simp only [List.length_cons,List.length_nil];omega)) ?_;rintro e wd ⟨rfl,F3,hq3,hm3⟩;refine ⟨_,rfl,?_⟩
 have HQ3:=Lib.hid hq3
 have HM3:=Lib.hid ((Mv.of_chg (HKwc.out.mono (by simp)):Mv F w2 F wc).trans hm3)
 have hSwd:wd.cell? ⟨b0,0,none⟩=some (.pointer (some ⟨p,0,none⟩)):=hm3.chg.cell hSwc (fun e=>by have h1:=hFl b0 e;have h2:=HB0.out;omega)
 clear hq3 hm3 hqc hFl
 refine hK.out _ _ hSwd (fun hHeld => ?_)
 clear hK K hHeld
 try simp only [Act.put,jI,jZ,jS]
 refine doneN (by kernel_rfl) ?_ _
 clear hSS hSS0 hSwa hSwb hSwc hSwd HKS HKwa HKwb HKwc HRC HGC HCF HUS hwW hwU hwM fa0 fa1 hc0 HT
 have hb3:=flat10 [D.W,D.word,D.used % 64] (by have:=HDW.out;intro u hu;simp only [List.mem_cons,List.not_mem_nil,or_false] at hu;rcases hu with rfl|rfl|rfl<;>omega) 3
 rw [List.take_of_length_le (by simp)] at hb3
 obtain ⟨T3,hT3⟩:∃ T,T=l++[D.W,D.word,D.used % 64].flatMap natB:=⟨_,rfl⟩
 have hL3:T3.length≤1030:=by rw [hT3,List.length_append];omega
 rw [←hT3] at HQ3
 have HT3:=Lib.hid hT3
 have hFl:∀ b∈F,b<w.heap.size:=(HQL.out w (Chg.refl _ _)).lt
 have HFL:=Lib.hid hFl
 have hF3l:=HQ3.out.lt
 clear hb3 hT3 hFl HQL
 go_wp2_with fail
 refine (quill_int (wd.alloc (.cells #[.int .i64 lo,.int .i64 hi] 2)) q F3 T3 (some ⟨wd.heap.size,0,none⟩) 2 [lo,hi] (by have h1:=HLO.out;have h2:=HHI.out;have h3:=HE.out;intro u hu;simp only [List.mem_cons,List.not_mem_nil,or_false] at hu;rcases hu with rfl|rfl;(rw [h3.1];exact h1);(rw [h3.2];exact h2)) (HQ3.out.alloc _) (Rd.lit wd #[.int .i64 lo,.int .i64 hi] 2 1 2 2 rfl) (by intro b hb e;simp only [abl_some,List.mem_singleton] at hb;have h1:=hF3l b e;omega) (by simp only [List.length_cons,List.length_nil];omega)).mono ?_
 rintro e w4 ⟨rfl,F4,hq4,hm4⟩
 have HM4:=Lib.hid (HM3.out.trans ((Mv.alloc F3 wd _).trans hm4))
 have hb4:=intsB_len [lo,hi] (by have h1:=HLO.out;have h2:=HHI.out;have h3:=HE.out;intro u hu;simp only [List.mem_cons,List.not_mem_nil,or_false] at hu;rcases hu with rfl|rfl;(rw [h3.1];exact h1);(rw [h3.2];exact h2))
 simp only [List.length_cons,List.length_nil] at hb4
 obtain ⟨T4,hT4⟩:∃ T,T=T3++[lo,hi].flatMap (fun x=>natB (zig x)):=⟨_,rfl⟩
 have hL4:T4.length≤1050:=by rw [hT4,List.length_append];have:([lo,hi].flatMap (fun x=>natB (zig x))).length≤20:=hb4;omega
 rw [←hT4] at hq4
 have HQ4:=Lib.hid hq4
 have HT4:=Lib.hid hT4
 have hF4l:=HQ4.out.lt
 have hwn:IntKind.u64.wrap (n:Int)=(n:Int):=IntWalk.u64_in _ (by omega)
 clear hb4 hT4 HM3 HQ3 hF3l hq4 hm4
 go_wp2_with fail
 refine (quill_nat1e w4 q F4 T4 n (by omega) HQ4.out (n:Int) rfl w4.heap.size rfl (by omega)).mono ?_
 rintro e w5 ⟨rfl,F5,hq5,hm5⟩
 have HM5:=Lib.hid (HM4.out.trans hm5)
 have hb5:=natB_len10 (n:=n) (by omega)
 obtain ⟨T5,hT5⟩:∃ T,T=T4++natB n:=⟨_,rfl⟩
 have hL5:T5.length≤1060:=by rw [hT5,List.length_append];omega
 rw [←hT5] at hq5
 have HQ5:=Lib.hid hq5
 have HT5:=Lib.hid (show T5=l++headReq D from by rw [hT5,HT4.out,HT3.out,HE.out.1,HE.out.2,HN.out];simp [headReq])
 clear hb5 hT5 HM4 HQ4 hF4l hq5 hm5 HT3 HT4 hwn
 go_wp2_with fail
 go_loopw [50] (fun i wx=>∃ (k:Nat) (F':List Nat),k≤n∧i=.int .i64 (k:Nat)∧Hid (Qul wx q F' (T5++(D.rows.take k).flatMap rowB))∧Hid (Mv F w2 F' wx)) (fun i _=>n-(intOf i).toNat)
 case atStart=>exact ⟨0,F5,Nat.zero_le _,rfl,Lib.hid (by rw [List.take_zero];simpa using HQ5.out),HM5⟩
 case round =>
  obtain ⟨k,F',hk,rfl,HQ',HM'⟩:=hrel
  by_cases hlt:k<n
  ·have hkr:k<D.rows.length:=by have:=HN.out;omega
   have hkv:k<vs2.length:=by have:=HRR.out.1;omega
   have hroC:=HRO.out.chg HM'.out.chg (fun b hb e=>by have h1:=HRB.out.1 b hb;have h2:=HFL.out b e;omega)
   have hrrC:=HRR.out.chg HM'.out.chg (fun v hv b hb e=>by have h1:=HRB.out.2 v hv b hb;have h2:=HFL.out b e;omega)
   obtain ⟨g,o,cp,hsl,c0,-,-⟩:=hroC.at1 (j:=k) hkr hkv
   simp only [Value.slice.injEq] at hsl
   obtain ⟨rfl,-,rfl⟩:=hsl
   have hrow:=hrrC.2.1 k hkv hkr
   obtain ⟨so,sc,hsv⟩:=hrow.shape
   have hvb:∀ b∈abl so,w.heap.size≤b∧b<w2.heap.size:=fun b hb=>by
    have e1:b∈blkOf vs2[k]:=by rw [hsv];simpa using hb
    exact ⟨HRB.out.2 _ (List.getElem_mem hkv) b e1,HRR.out.lt k hkv b e1⟩
   rw [hsv] at c0 hrow
   have hrq:=HRQ.out D.rows[k] (List.getElem_mem hkr)
   have HST:=Lib.hid (flatMap_take rowB D.rows k hkr)
   have hbt:=flatMap_take_len D.rows HRQ.out k
   have hln:=HN.out
   generalize D.rows[k]=r at *
   obtain ⟨m,hm⟩:∃ m,m=r.length:=⟨_,rfl⟩
   rw [←hm] at hrow c0 hrq
   have HROW:=Lib.hid hrow.rd
   have HVB:=Lib.hid hvb
   have HAP:=Lib.hid (show ∀ b∈abl so,b∉F' from fun b hb e=>by
    have h1:=hvb b hb
    rcases HM'.out.fr b e with h2|h2
    ·have:=HFL.out b h2;omega
    ·omega)
   have HRI:=Lib.hid hrq.2
   have HMM:=Lib.hid hm
   have hm64:=hrq.1
   obtain ⟨T,hT⟩:∃ T,T=T5++(D.rows.take k).flatMap rowB:=⟨_,rfl⟩
   have hLT:T.length≤700000:=by rw [hT,List.length_append];omega
   rw [←hT] at HQ'
   have HTT:=Lib.hid hT
   have hwm:IntKind.u64.wrap (m:Int)=(m:Int):=IntWalk.u64_in _ (by omega)
   clear hroC hrrC hsv hrow hrq hvb hm hbt hT hln
   go_wp2_with fail
   refine (quill_nat1e wr q F' T m (by omega) HQ'.out (m:Int) rfl wr.heap.size rfl (by omega)).mono ?_
   rintro e w6 ⟨rfl,F6,hq6,hm6⟩
   have hb6:=natB_len10 (n:=m) (by omega)
   have HQ6:=Lib.hid hq6
   have HM6:=Lib.hid (HM'.out.trans hm6)
   have HRD6:=Lib.hid (HROW.out.chg hm6.chg (fun b hb e=>HAP.out b (by simpa using hb) e))
   have HAP6:=Lib.hid (show ∀ b∈abl so,b∉F6 from fun b hb e=>by
    rcases hm6.fr b e with h1|h1
    ·exact HAP.out b hb h1
    ·have:=HVB.out b hb;have:=HM'.out.chg.size;omega)
   clear hq6 hm6 c0 HQ' HROW HAP
   have hrm:=HMM.out
   subst hrm
   go_wp2_with fail
   refine (quill_int w6 q F6 (T++natB r.length) so sc r HRI.out HQ6.out HRD6.out HAP6.out (by rw [List.length_append];omega)).mono ?_
   rintro e w7 ⟨rfl,F7,hq7,hm7⟩
   have HQ7:=Lib.hid hq7
   have HM7:=Lib.hid (HM6.out.trans hm7)
   clear hq7 hm7 HM6 HQ6 HRD6 HAP6
   go_wp2
   refine ⟨⟨k+1,F7,hlt,by go_num,Lib.hid ?_,HM7⟩,by simp [intOf];omega⟩
   have:=HQ7.out
   rw [HST.out,←List.append_assoc,←HTT.out]
   simpa [rowB,intsB] using this
  ·obtain rfl:k=n:=by omega
   go_wp2
   go_end0
   refine ⟨rfl,F',?_,(Mv.of_chg (HC2.out.mono (by simp)):Mv F w F w2).trans HM'.out⟩
   have:=HQ'.out
   rw [List.take_of_length_le (by have:=HN.out;omega),HT5.out] at this
   rw [putReq_eq,←List.append_assoc]
   exact this
set_option maxRecDepth 100000 in
set_option maxHeartbeats 4000000 in
theorem sk_enc_req (w:World) (s p:Nat) (c:Cf) (h:Sk w s c 225 p) (kk:UInt8) (hkk:c.kind=(kk.toNat:Nat)) (X:List UInt8)
 (HW0:∀ u q F,Chg [] w u→Qul u q F []→(∀ b∈F,w.heap.size≤b)→Calls Tryz.prog 390 #[.agg #[.pointer (some ⟨p,0,none⟩)],.pointer (some ⟨q,0,none⟩)] u fun e w'=>e=.returned (.tuple #[])∧∃ F',Qul w' q F' X∧Mv F u F' w') :
 Calls Tryz.prog 23 #[.pointer (some ⟨s,0,none⟩)] w fun e w'=>e=.returned (.tuple #[.string ⟨(encS kk X).toArray⟩,.int .i64 (encE X)])∧Chg [] w w':=by
 obtain ⟨S,hS⟩:∃ S,S=encS kk X:=⟨_,rfl⟩
 obtain ⟨E,hE⟩:∃ E,E=encE X:=⟨_,rfl⟩
 have HFC:=Lib.hid (fun u=>frame_closeV u kk X S E hS hE)
 rw [←hS,←hE]
 clear hS hE
 have HW:=Lib.hid HW0
 have hwk:=u8_kind hkk
 have HS:=Lib.hid (fun u (hu:Chg [] w u)=>(⟨(h.nil hu).kind,(h.nil hu).core⟩:_∧_))
 obtain ⟨k,hk⟩:∃ k,k=c.kind:=⟨_,rfl⟩
 rw [←hk] at HS hwk
 obtain ⟨q,hq⟩:∃ q,q=w.heap.size:=⟨_,rfl⟩
 have HQ0:=Lib.hid (show Qul (w.alloc (.cells #[.slice none 0 0] 120)) q [q] [] from by rw [hq];exact Qul.new w)
 have HC0:=Lib.hid ((Chg.refl [] w).alloc (.cells #[.slice none 0 0] 120))
 have HQN:=Lib.hid (show ∀ b∈[q],w.heap.size≤b from by intro b hb;rw [List.mem_singleton.1 hb,hq];exact Nat.le_refl _)
 obtain ⟨-,c11⟩:=HS.out _ HC0.out
 clear HW0 h hkk hk
 go_enter Tryz.func23,Tryz.ntmps23
 go_wp2_with fail
 rw [←hq]
 clear hq
 generalize w.alloc (.cells #[.slice none 0 0] 120)=w0 at *
 refine (HW.out w0 q [q] HC0.out HQ0.out HQN.out).mono ?_
 rintro e w1 ⟨rfl,F1,hq1,hm1⟩
 have HQ1:=Lib.hid hq1
 have HC1:=Lib.hid (hm1.chg_own HC0.out HQN.out)
 clear hq1 hm1 HQ0 HC0 HQN HW c11
 obtain ⟨c0,-⟩:=HS.out _ HC1.out
 go_wp2_with fail
 have hSS:w1.drew.cell? ⟨s,0,none⟩=some (.int .i64 k):=c0
 refine startN (S:=fun wx=>wx.cell? ⟨s,0,none⟩=some (.int .i64 k)) (by kernel_rfl) hSS (fun hHeld => ?_)
 refine takeN (i:=0) (v:=?va0) rfl (by kernel_rfl) (by kernel_rfl) (by kernel_rfl) (fun _ _ _ h=>h) (Or.inl ⟨by rfl,?ya0⟩) hSS ?ra0
 case ya0=>(intro w hSw;(try dsimp only at hSw);go_simp;first|done|with_reducible rfl)
 try simp only [Act.put,jI,jZ,jS]
 refine takeN (i:=1) (v:=?va1) rfl (by kernel_rfl) (by kernel_rfl) (by kernel_rfl) (fun _ _ _ h=>h) (Or.inl ⟨by rfl,?ya1⟩) hSS ?ra1
 case ya1=>(intro w hSw;(try dsimp only at hSw);go_simp;first|done|with_reducible rfl)
 try simp only [Act.put,jI,jZ,jS]
 refine takeN (i:=2) (v:=?va2) rfl (by kernel_rfl) (by kernel_rfl) (by kernel_rfl) (fun _ _ _ h=>h) (Or.inl ⟨by rfl,?ya2⟩) hSS ?ra2
 case ya2=>(intro w hSw;(try dsimp only at hSw);go_simp;first|done|with_reducible rfl)
 try simp only [Act.put,jI,jZ,jS]
 refine takeN (i:=3) (v:=?va3) rfl (by kernel_rfl) (by kernel_rfl) (by kernel_rfl) (fun _ _ _ h=>h) (Or.inl ⟨by rfl,?ya3⟩) hSS ?ra3
 case ya3=>(intro w hSw;(try dsimp only at hSw);go_simp;first|done|with_reducible rfl)
 try simp only [Act.put,jI,jZ,jS]
 refine takeN (i:=4) (v:=?va4) rfl (by kernel_rfl) (by kernel_rfl) (by kernel_rfl) (fun _ _ _ h=>h) (Or.inl ⟨by rfl,?ya4⟩) hSS ?ra4
 case ya4=>(intro w hSw;(try dsimp only at hSw);go_simp;first|done|with_reducible rfl)
 try simp only [Act.put,jI,jZ,jS]
 refine takeN (i:=5) (v:=?va5) rfl (by kernel_rfl) (by kernel_rfl) (by kernel_rfl) (fun _ _ _ h=>h) (Or.inl ⟨by rfl,?ya5⟩) hSS ?ra5
 case ya5=>(intro w hSw;(try dsimp only at hSw);go_simp;first|done|with_reducible rfl)
 try simp only [Act.put,jI,jZ,jS]
 refine takeN (i:=6) (v:=?va6) rfl (by kernel_rfl) (by kernel_rfl) (by kernel_rfl) (fun _ _ _ h=>h) (Or.inl ⟨by rfl,?ya6⟩) hSS ?ra6
 case ya6=>(intro w hSw;(try dsimp only at hSw);go_simp;first|done|with_reducible rfl)
 try simp only [Act.put,jI,jZ,jS]
 refine readyN (rs:=[7]) (by kernel_rfl) (by simp) (consN rfl (fun K hK => ?_) nilN)
 refine step_callsG (by rfl) 68 _ _ rfl enters_etext _ #[.pointer (some ⟨q,0,none⟩)] (by simp [Act.eval]) (quill_text _ q F1 X (HQ1.out.chg (G:=[]) ((Chg.refl [] _).drew) (by simp))) ?_;rintro e w' ⟨rfl,rfl⟩;refine ⟨_,rfl,?_⟩
 refine hK.out _ _ hSS (fun hHeld => ?_)
 clear hK K hHeld
 try simp only [Act.put,jI,jZ,jS]
 refine readyN (rs:=[8]) (by kernel_rfl) (by simp) (consN rfl (fun K hK => ?_) nilN)
 refine step_callsG (by rfl) 67 _ _ rfl enters_eclose _ #[.int .u8 (kk.toNat:Nat),.string ⟨X.toArray⟩] (by simp [Act.eval]) (HFC.out _) ?_;rintro e w2 ⟨rfl,hc2⟩;refine ⟨_,rfl,?_⟩
 have hS2:w2.cell? ⟨s,0,none⟩=some (.int .i64 k):=hc2.cell hSS (by simp)
 have HC2:=Lib.hid (HC1.out.drew.trans hc2)
 clear hc2
 refine hK.out _ _ hS2 (fun hHeld => ?_)
 clear hK K hHeld
 try simp only [Act.put,jI,jZ,jS]
 refine takeN (i:=9) (v:=?va9) rfl (by kernel_rfl) (by kernel_rfl) (by kernel_rfl) (fun _ _ _ h=>h) (Or.inl ⟨by rfl,?ya9⟩) hS2 ?ra9
 case ya9=>(intro w hSw;(try dsimp only at hSw);go_simp;first|done|with_reducible rfl)
 try simp only [Act.put,jI,jZ,jS]
 refine takeN (i:=10) (v:=?va10) rfl (by kernel_rfl) (by kernel_rfl) (by kernel_rfl) (fun _ _ _ h=>h) (Or.inl ⟨by rfl,?ya10⟩) hS2 ?ra10
 case ya10=>(intro w hSw;(try dsimp only at hSw);go_simp;first|done|with_reducible rfl)
 try simp only [Act.put,jI,jZ,jS]
 refine takeN (i:=11) (v:=?va11) rfl (by kernel_rfl) (by kernel_rfl) (by kernel_rfl) (fun _ _ _ h=>h) (Or.inl ⟨by rfl,?ya11⟩) hS2 ?ra11
 case ya11=>(intro w hSw;(try dsimp only at hSw);go_simp;first|done|with_reducible rfl)
 try simp only [Act.put,jI,jZ,jS]
 refine takeN (i:=12) (v:=?va12) rfl (by kernel_rfl) (by kernel_rfl) (by kernel_rfl) (fun _ _ _ h=>h) (Or.inl ⟨by rfl,?ya12⟩) hS2 ?ra12
 case ya12=>(intro w hSw;(try dsimp only at hSw);go_simp;first|done|with_reducible rfl)
 try simp only [Act.put,jI,jZ,jS]
 refine doneN (by kernel_rfl) ?_ _
 go_wp2_with fail
 go_ret2
 exact ⟨rfl,HC2.out⟩
def TwD.putE (D:TwD) (n:Nat):Nat:=if n=0 then 1 else if 1024<n then 3 else if D.W*1024<D.total+n then 6 else 0
def TwD.putV (D:TwD) (x:Int) (n:Nat):TwD:=if D.putE n=0 then ((D.ends x x).putN x n).norm else D
def ReqR (W:Int) (word:Nat) (w:World) (p:Nat) (G:List Nat) (st:TwD):Prop:=∃ tp rv vs D,Tow w p tp rv vs D∧D.norm=st∧D.keeps W word∧G=fp p tp rv vs
theorem ReqR.und (W:Int) (word:Nat):Und (ReqR W word) where
 lt:=fun ⟨tp,rv,vs,D,h1,_,_,h4⟩ b hb=>by subst h4;exact Tow.lt h1 b hb
 chg:=fun ⟨tp,rv,vs,D,h1,h2,h3,h4⟩ k hF=>by subst h4;exact ⟨tp,rv,vs,D,Tow.chg h1 k hF,h2,h3,rfl⟩
set_option maxRecDepth 100000 in
theorem req_put_longN (w:World) (p:Nat) (x:Int) (n:Nat) (hn:1024<n):Calls Tryz.prog 118 #[.pointer (some ⟨p,0,none⟩),.int .i64 x,.int .u64 (n:Nat)] w fun e w'=>e=.returned (.int .i64 3)∧w=w':=by
 have d0:((n:Int)==0)=false:=by rw [beq_eq_false_iff_ne];omega
 have d0':(n==0)=false:=by rw [beq_eq_false_iff_ne];omega
 have d1:decide ((1024:Int)<(n:Int))=true:=decide_eq_true (by omega)
 have d1':decide (1024<n)=true:=decide_eq_true hn
 clear hn
 go_enter Tryz.func118,Tryz.ntmps118
 go_wp2
 go_ret
 exact ⟨rfl,rfl⟩
theorem reqR_put (W:Int) (word:Nat) (w:World) (p:Nat) (G:List Nat) (st:TwD) (h:ReqR W word w p G st) (x:Int) (hx:InR x) (n:Nat) :
 Calls Tryz.prog 118 #[.pointer (some ⟨p,0,none⟩),.int .i64 x,.int .u64 (n:Nat)] w fun e w'=>e=.returned (.int .i64 (st.putE n:Nat))∧∃ G',ReqR W word w' p G' (st.putV x n)∧Mv G w G' w':=by
 obtain ⟨tp,rv,vs,D,h1,rfl,h3,rfl⟩:=h
 unfold TwD.putV
 have e0:D.norm.putE n=D.putE n:=rfl
 rw [e0]
 by_cases h0:n=0
 ·subst h0
  refine (req_put_zero w p x).mono ?_
  rintro e w' ⟨rfl,rfl⟩
  exact ⟨rfl,_,⟨tp,rv,vs,D,h1,rfl,h3,rfl⟩,Mv.of_chg (Chg.refl _ _)⟩
 ·by_cases hl:1024<n
  ·have hE:D.putE n=3:=by unfold TwD.putE;rw [if_neg h0,if_pos hl]
   rw [hE,if_neg (by decide)]
   refine (req_put_longN w p x n hl).mono ?_
   rintro e w' ⟨rfl,rfl⟩
   exact ⟨rfl,_,⟨tp,rv,vs,D,h1,rfl,h3,rfl⟩,Mv.of_chg (Chg.refl _ _)⟩
  ·by_cases hf:D.W*1024<D.total+n
   ·have hE:D.putE n=6:=by unfold TwD.putE;rw [if_neg h0,if_neg hl,if_pos hf]
    rw [hE,if_neg (by decide)]
    refine (req_put_fullK w p tp rv vs D h1 h3.w2 x n (by omega) (by omega) h3.room hf).mono ?_
    rintro e w' ⟨rfl,hc⟩
    exact ⟨rfl,_,⟨tp,rv,vs,D,h1.chg hc (by simp),rfl,h3,rfl⟩,Mv.of_chg hc.nil⟩
   ·have hE:D.putE n=0:=by unfold TwD.putE;rw [if_neg h0,if_neg hl,if_neg hf]
    rw [hE,if_pos rfl]
    have hk:=TwD.putN_keeps h3 hx n
    have hr:=h3.room
    have hw2:=h3.w2
    refine (req_putK w p tp rv vs D h1 h3.w1 h3.w2 h3.wb x n (by omega) (by omega) (by omega) (fun k hkn => ?_)).mono ?_
    ·obtain ⟨a1,a2⟩:=hk k hkn
     have a3:((D.ends x x).putN x k).rows.length≤((D.ends x x).putN x k).rows.flatten.length+1:=rows_len_flat a1.full
     exact ⟨a1.ne,by omega,by omega⟩
    ·rintro e w' ⟨rfl,rv',vs',ht',hm'⟩
     exact ⟨rfl,_,⟨tp,rv',vs',_,ht',TwD.putN_norm (TwD.ends_norm (TwD.norm_norm D).symm x x) x n,TwD.put_keeps h3 hx (by omega) (by omega),rfl⟩,hm'⟩
theorem freshR_req (w:World) (c:Cf) (hk:c.kind=5) (hwd:c.word<18446744073709551616) :
 Calls Tryz.prog 66 #[c.val] w fun e w'=>∃ v k,e=.returned (.tuple #[.iface 225 (.agg #[.pointer v]),.int .i64 k])∧FQ (ReqR c.width c.word) (TwD.new c.width.toNat c.word) (goodW c.width) w.heap.size v k w'∧Chg [] w w':=
 freshk_req w c hk _ (fun u hu=>(req_newF u c.width c.word).mono (by
  rintro e w' (⟨hno,rfl,hc⟩|⟨hy,p,tp,rv,rfl,ht,hc,hp⟩)
  ·exact ⟨_,_,rfl,.inl ⟨by cases h:goodW c.width<;>simp_all,by decide⟩,hc⟩
  ·have hw:4≤c.width∧c.width≤64∧c.width % 4=0:=by simpa [goodW] using hy
   have hkp:=TwD.keeps.new (W:=c.width.toNat) (word:=c.word) (by omega) (by omega) hwd
   rw [Int.toNat_of_nonneg (by omega)] at hkp
   exact ⟨_,_,rfl,.inr ⟨hy,rfl,p,_,rfl,⟨tp,rv,_,_,ht,rfl,hkp,rfl⟩,fun b hb=>Nat.le_trans hu.size (hp b hb)⟩,hc⟩))
def kbReq (c:Cf) (hk:c.kind=5) (hwd:c.word<18446744073709551616):Kb c where
 S:=TwD
 P:=Up 225 c (ReqR c.width c.word)
 sz:=fun _=>0
 init:=TwD.new c.width.toNat c.word
 ok:=c.same { Cf.none 5 with width:=c.width,word:=c.word } && goodW c.width
 put:=TwD.putV
 putE:=fun D _ n=>(D.putE n:Nat)
 enc:=putReq
 tot:=fun D=>D.total
 kk:=5
 kind:=by rw [hk];rfl
 lt:=fun h=>Up.lt (ReqR.und _ _) h
 chg:=fun h k hF=>Up.chg (ReqR.und _ _) h k hF
 sz0:=rfl
 szp:=fun _ _ _=>⟨Nat.zero_le _,Nat.zero_le _⟩
 new:=fun w _=>new_up (ReqR.und _ _) w c _ (fun u=>bare_req u c hk) (fun u hu=>(freshR_req u c hk hwd).mono (by
  rintro e w' ⟨v,k,rfl,hq,hc⟩
  exact ⟨v,k,rfl,hq.mono hu.size,hc⟩))
 putC:=fun {w s F st} h _ x n hx hn=>by
  obtain ⟨p,G,hs,hr,rfl,hns⟩:=h
  refine kk_put_req w s p c hs x n _ ((reqR_put _ _ w p G st hr x hx n).mono ?_)
  rintro e w' ⟨rfl,G',hr',hm⟩
  obtain ⟨hU,hM⟩:=Up.mv hs hr hns hr' hm
  exact ⟨_,rfl,rfl,_,hU,hM⟩
 encC:=fun {w s F st} h _=>by
  obtain ⟨p,G,hs,⟨tp,rv,vs,D,h1,rfl,h3,rfl⟩,rfl,hns⟩:=h
  rw [putReq_norm]
  have hr:=h3.room
  have hw2:=h3.w2
  have hu:=h3.used
  exact sk_enc_req w s p c hs 5 (by rw [hk];rfl) (putReq D) (fun u q F hu' hq hF=>req_write u p tp rv vs D (h1.chg hu' (by simp)) h3.inr h3.w2 h3.wb (by have:=h3.rows16;omega) (fun r hr=>by have:=h3.fine.short r hr;omega) (by omega) q F [] (by simp) hq)
 fit:=fun {w s F st} h _=>by
  obtain ⟨p,G,hs,⟨tp,rv,vs,D,h1,rfl,h3,rfl⟩,rfl,hns⟩:=h
  rw [putReq_norm]
  have:=putReq_len h3.inr h3.w2 h3.wb h3.rows16 (fun r hr=>by have:=h3.fine.short r hr;have:=h3.w2;omega)
  omega
 totC:=fun {w s F st} h=>by
  obtain ⟨p,G,hs,⟨tp,rv,vs,D,h1,rfl,h3,rfl⟩,rfl,hns⟩:=h
  exact kk_total_req w s p c hs _ (fun u hu=>(req_total u p tp rv vs D (h1.chg hu (by simp))).mono (by rintro e w' ⟨rfl,rfl⟩;exact ⟨rfl,Chg.refl _ _⟩))
 tot0:=rfl
 reset:=fun {w s F st} h hok _=>by
  have ho:goodW c.width=true:=by
   cases h:goodW c.width with
   | true=>rfl
   | false=>rw [h] at hok;simp at hok
  refine reset_up (ReqR.und _ _) w c s F st h (fun u hu=>(freshR_req u c hk hwd).mono ?_)
  rintro e w' ⟨v,k,rfl,hq,hc⟩
  rw [ho] at hq
  exact ⟨v,k,rfl,hq.mono hu.size,hc⟩
set_option maxRecDepth 100000 in
set_option maxHeartbeats 4000000 in
theorem kk_put_log (w:World) (s p:Nat) (c:Cf) (h:Sk w s c 217 p) (x:Int) (n:Nat) (R:Ending→World→Prop)
 (HP0:Calls Tryz.prog 37 #[.pointer (some ⟨p,0,none⟩),.int .i64 x,.int .u64 n] w fun e w'=>∃ k,e=.returned (.int .i64 k)∧R e w') :
 Calls Tryz.prog 21 #[.pointer (some ⟨s,0,none⟩),.int .i64 x,.int .u64 n] w R:=by
 have c11:=h.core
 have HP:=Lib.hid HP0
 clear h HP0
 go_enter Tryz.func21,Tryz.ntmps21
 go_wp2_with fail
 refine HP.out.mono ?_
 rintro e w1 ⟨k,rfl,hR⟩
 have HR:=Lib.hid hR
 clear hR HP
 go_wp2_with fail
 exact HR.out
set_option maxRecDepth 100000 in
set_option maxHeartbeats 4000000 in
theorem kc_total_log (w:World) (p:Nat) (n:Nat)
 (b:Nat) (HB0:∀ u,Chg [] w u→Calls Tryz.prog 38 #[.pointer (some ⟨p,0,none⟩)] u fun e w'=>e=.returned (.pointer (some ⟨b,0,none⟩))∧w'=u)
 (HP0:∀ u,Chg [] w u→Calls Tryz.prog 44 #[.pointer (some ⟨b,0,none⟩)] u fun e w'=>e=.returned (.int .u64 (n:Nat))∧Chg [] u w') :
 Calls Tryz.prog 350 #[.agg #[.pointer (some ⟨p,0,none⟩)]] w fun e w'=>e=.returned (.int .u64 (n:Nat))∧Chg [] w w':=by
 have HP:=Lib.hid HP0
 have HB:=Lib.hid HB0
 have HC:=Lib.hid ((Chg.refl [] w).alloc (.cells #[.pointer (some ⟨p,0,none⟩)] 217))
 clear HP0 HB0
 go_enter Tryz.func350,Tryz.ntmps350
 go_wp2_with fail
 refine (HB.out _ HC.out).mono ?_
 rintro e w0 ⟨rfl,rfl⟩
 go_wp2_with fail
 refine (HP.out _ HC.out).mono ?_
 rintro e w1 ⟨rfl,hc⟩
 have HC1:=Lib.hid (HC.out.trans hc)
 clear hc HP
 go_wp2
 go_ret
 exact ⟨rfl,HC1.out⟩
set_option maxRecDepth 100000 in
set_option maxHeartbeats 4000000 in
theorem kk_total_log (w:World) (s p:Nat) (c:Cf) (h:Sk w s c 217 p) (n:Nat)
 (b:Nat) (HB0:∀ u,Chg [] w u→Calls Tryz.prog 38 #[.pointer (some ⟨p,0,none⟩)] u fun e w'=>e=.returned (.pointer (some ⟨b,0,none⟩))∧w'=u)
 (HP0:∀ u,Chg [] w u→Calls Tryz.prog 44 #[.pointer (some ⟨b,0,none⟩)] u fun e w'=>e=.returned (.int .u64 (n:Nat))∧Chg [] u w') :
 Calls Tryz.prog 20 #[.pointer (some ⟨s,0,none⟩)] w fun e w'=>e=.returned (.int .u64 (n:Nat))∧Chg [] w w':=by
 have c11:=h.core
 have HT:=Lib.hid (kc_total_log w p n b HB0 HP0)
 clear h HP0 HB0
 go_enter Tryz.func20,Tryz.ntmps20
 go_wp2_with fail
 refine HT.out.mono ?_
 rintro e w1 ⟨rfl,hc⟩
 have HC:=Lib.hid hc
 clear hc HT
 go_wp2
 go_ret
 exact ⟨rfl,HC.out⟩
end Go.Proofs.YthoolcpcmhhkpaaGreatDoor
