/-
  Parts of a proof, pressed. Conditions: the form's own reach.
-/
import Derived.Test.YthoolcpcmhhkpaaGreatDoorSuiteConfigsB4
import Derived.Test.YthoolcpcmhhkpaaGreatDoorSuiteConfigsB5
import Derived.Test.YthoolcpcmhhkpaaGreatDoorSuiteConfigsB3
import Derived.Test.YthoolcpcmhhkpaaGreatDoorSuiteConfigsB6
import Derived.Test.YthoolcpcmhhkpaaGreatDoorSuiteConfigsB15
import Derived.Test.YthoolcpcmhhkpaaGreatDoorSuiteConfigsB2
import Derived.Laws.Bits64
namespace Go.Proofs.YthoolcpcmhhkpaaGreatDoor
open Go.RowKit
set_option maxRecDepth 100000 in
set_option maxHeartbeats 4000000 in
theorem sk_enc_lumps (w:World) (s p:Nat) (c:Cf) (h:Sk w s c 227 p) (kk:UInt8) (hkk:c.kind=(kk.toNat:Nat)) (X:List UInt8)
 (HW0:∀ u q F,Chg [] w u→Qul u q F []→(∀ b∈F,w.heap.size≤b)→Calls Tryz.prog 396 #[.agg #[.pointer (some ⟨p,0,none⟩)],.pointer (some ⟨q,0,none⟩)] u fun e w'=>e=.returned (.tuple #[])∧∃ F',Qul w' q F' X∧Mv F u F' w') :
 Calls Tryz.prog 23 #[.pointer (some ⟨s,0,none⟩)] w fun e w'=>e=.returned (.tuple #[.string ⟨(encS kk X).toArray⟩,.int .i64 (encE X)])∧Chg [] w w':=by
 obtain ⟨S,hS⟩:∃ S,S=encS kk X:=⟨_,rfl⟩
 obtain ⟨E,hE⟩:∃ E,E=encE X:=⟨_,rfl⟩
 have HFC:=Lib.hid (fun u=>frame_closeV u kk X S E hS hE)
 rw [←hS,←hE]
 clear hS hE
 have HW:=Lib.hid HW0
 have hwk:=u8_kind hkk
 have HS:=Lib.hid (fun u (hu:Chg [] w u)=>(⟨(h.nil hu).kind,(h.nil hu).core⟩:_∧_))
 obtain ⟨k,hk⟩:∃ k,k=c.kind:=⟨_,rfl⟩
 rw [←hk] at HS hwk
 obtain ⟨q,hq⟩:∃ q,q=w.heap.size:=⟨_,rfl⟩
 have HQ0:=Lib.hid (show Qul (w.alloc (.cells #[.slice none 0 0] 120)) q [q] [] from by rw [hq];exact Qul.new w)
 have HC0:=Lib.hid ((Chg.refl [] w).alloc (.cells #[.slice none 0 0] 120))
 have HQN:=Lib.hid (show ∀ b∈[q],w.heap.size≤b from by intro b hb;rw [List.mem_singleton.1 hb,hq];exact Nat.le_refl _)
 obtain ⟨-,c11⟩:=HS.out _ HC0.out
 clear HW0 h hkk hk
 go_enter Tryz.func23,Tryz.ntmps23
 go_wp2_with fail
 rw [←hq]
 clear hq
 generalize w.alloc (.cells #[.slice none 0 0] 120)=w0 at *
 refine (HW.out w0 q [q] HC0.out HQ0.out HQN.out).mono ?_
 rintro e w1 ⟨rfl,F1,hq1,hm1⟩
 have HQ1:=Lib.hid hq1
 have HC1:=Lib.hid (hm1.chg_own HC0.out HQN.out)
 clear hq1 hm1 HQ0 HC0 HQN HW c11
 obtain ⟨c0,-⟩:=HS.out _ HC1.out
 go_wp2_with fail
 have hSS:w1.drew.cell? ⟨s,0,none⟩=some (.int .i64 k):=c0
 refine startN (S:=fun wx=>wx.cell? ⟨s,0,none⟩=some (.int .i64 k)) (by kernel_rfl) hSS (fun hHeld => ?_)
 refine takeN (i:=0) (v:=?va0) rfl (by kernel_rfl) (by kernel_rfl) (by kernel_rfl) (fun _ _ _ h=>h) (Or.inl ⟨by rfl,?ya0⟩) hSS ?ra0
 case ya0=>(intro w hSw;(try dsimp only at hSw);go_simp;first|done|with_reducible rfl)
 try simp only [Act.put,jI,jZ,jS]
 refine takeN (i:=1) (v:=?va1) rfl (by kernel_rfl) (by kernel_rfl) (by kernel_rfl) (fun _ _ _ h=>h) (Or.inl ⟨by rfl,?ya1⟩) hSS ?ra1
 case ya1=>(intro w hSw;(try dsimp only at hSw);go_simp;first|done|with_reducible rfl)
 try simp only [Act.put,jI,jZ,jS]
 refine takeN (i:=2) (v:=?va2) rfl (by kernel_rfl) (by kernel_rfl) (by kernel_rfl) (fun _ _ _ h=>h) (Or.inl ⟨by rfl,?ya2⟩) hSS ?ra2
 case ya2=>(intro w hSw;(try dsimp only at hSw);go_simp;first|done|with_reducible rfl)
 try simp only [Act.put,jI,jZ,jS]
 refine takeN (i:=3) (v:=?va3) rfl (by kernel_rfl) (by kernel_rfl) (by kernel_rfl) (fun _ _ _ h=>h) (Or.inl ⟨by rfl,?ya3⟩) hSS ?ra3
 case ya3=>(intro w hSw;(try dsimp only at hSw);go_simp;first|done|with_reducible rfl)
 try simp only [Act.put,jI,jZ,jS]
 refine takeN (i:=4) (v:=?va4) rfl (by kernel_rfl) (by kernel_rfl) (by kernel_rfl) (fun _ _ _ h=>h) (Or.inl ⟨by rfl,?ya4⟩) hSS ?ra4
 case ya4=>(intro w hSw;(try dsimp only at hSw);go_simp;first|done|with_reducible rfl)
 try simp only [Act.put,jI,jZ,jS]
 refine takeN (i:=5) (v:=?va5) rfl (by kernel_rfl) (by kernel_rfl) (by kernel_rfl) (fun _ _ _ h=>h) (Or.inl ⟨by rfl,?ya5⟩) hSS ?ra5
 case ya5=>(intro w hSw;(try dsimp only at hSw);go_simp;first|done|with_reducible rfl)
 try simp only [Act.put,jI,jZ,jS]
 refine takeN (i:=6) (v:=?va6) rfl (by kernel_rfl) (by kernel_rfl) (by kernel_rfl) (fun _ _ _ h=>h) (Or.inl ⟨by rfl,?ya6⟩) hSS ?ra6
 case ya6=>(intro w hSw;(try dsimp only at hSw);go_simp;first|done|with_reducible rfl)
 try simp only [Act.put,jI,jZ,jS]
 refine readyN (rs:=[7]) (by kernel_rfl) (by simp) (consN rfl (fun K hK => ?_) nilN)
 refine step_callsG (by rfl) 68 _ _ rfl enters_etext _ #[.pointer (some ⟨q,0,none⟩)] (by simp [Act.eval]) (quill_text _ q F1 X (HQ1.out.chg (G:=[]) ((Chg.refl [] _).drew) (by simp))) ?_;rintro e w' ⟨rfl,rfl⟩;refine ⟨_,rfl,?_⟩
 refine hK.out _ _ hSS (fun hHeld => ?_)
 clear hK K hHeld
 try simp only [Act.put,jI,jZ,jS]
 refine readyN (rs:=[8]) (by kernel_rfl) (by simp) (consN rfl (fun K hK => ?_) nilN)
 refine step_callsG (by rfl) 67 _ _ rfl enters_eclose _ #[.int .u8 (kk.toNat:Nat),.string ⟨X.toArray⟩] (by simp [Act.eval]) (HFC.out _) ?_;rintro e w2 ⟨rfl,hc2⟩;refine ⟨_,rfl,?_⟩
 have hS2:w2.cell? ⟨s,0,none⟩=some (.int .i64 k):=hc2.cell hSS (by simp)
 have HC2:=Lib.hid (HC1.out.drew.trans hc2)
 clear hc2
 refine hK.out _ _ hS2 (fun hHeld => ?_)
 clear hK K hHeld
 try simp only [Act.put,jI,jZ,jS]
 refine takeN (i:=9) (v:=?va9) rfl (by kernel_rfl) (by kernel_rfl) (by kernel_rfl) (fun _ _ _ h=>h) (Or.inl ⟨by rfl,?ya9⟩) hS2 ?ra9
 case ya9=>(intro w hSw;(try dsimp only at hSw);go_simp;first|done|with_reducible rfl)
 try simp only [Act.put,jI,jZ,jS]
 refine takeN (i:=10) (v:=?va10) rfl (by kernel_rfl) (by kernel_rfl) (by kernel_rfl) (fun _ _ _ h=>h) (Or.inl ⟨by rfl,?ya10⟩) hS2 ?ra10
 case ya10=>(intro w hSw;(try dsimp only at hSw);go_simp;first|done|with_reducible rfl)
 try simp only [Act.put,jI,jZ,jS]
 refine takeN (i:=11) (v:=?va11) rfl (by kernel_rfl) (by kernel_rfl) (by kernel_rfl) (fun _ _ _ h=>h) (Or.inl ⟨by rfl,?ya11⟩) hS2 ?ra11
 case ya11=>(intro w hSw;(try dsimp only at hSw);go_simp;first|done|with_reducible rfl)
 try simp only [Act.put,jI,jZ,jS]
 refine takeN (i:=12) (v:=?va12) rfl (by kernel_rfl) (by kernel_rfl) (by kernel_rfl) (fun _ _ _ h=>h) (Or.inl ⟨by rfl,?ya12⟩) hS2 ?ra12
 case ya12=>(intro w hSw;(try dsimp only at hSw);go_simp;first|done|with_reducible rfl)
 try simp only [Act.put,jI,jZ,jS]
 refine doneN (by kernel_rfl) ?_ _
 go_wp2_with fail
 go_ret2
 exact ⟨rfl,HC2.out⟩
set_option maxRecDepth 100000 in
set_option maxHeartbeats 2000000 in
theorem bare_lump (w:World) (c:Cf) (hk:c.kind=6):Calls Tryz.prog 69 #[c.val] w fun e w'=>e=.returned ({ Cf.none 6 with most:=c.most }:Cf).val∧Chg [] w w':=by
 obtain ⟨k,num,den,side,most,digits,limit,depth,factor,width,word⟩:=c
 simp only at hk
 subst hk
 simp only [Cf.val,Cf.cells,Cf.none]
 go_enter Tryz.func69,Tryz.ntmps69
 go_wp2
 refine bodyPost_ret (v:=.agg #[.int .i64 6,.int .u64 0,.int .u64 0,.int .i64 0,.int .i64 most,.int .i64 0,.int .u64 0,.int .i64 0,.int .i64 0,.int .i64 0,.int .u64 0]) (by simp [results,Tryz.results69,go_sem]) rfl ?_
 exact ⟨rfl,by with_reducible (repeat (first|exact Chg.refl _ _|apply Chg.alloc|apply Chg.drew|(apply Chg.setCell;simp)))⟩
set_option maxRecDepth 100000 in
set_option maxHeartbeats 2000000 in
theorem bare_green (w:World) (c:Cf) (hk:c.kind=4):Calls Tryz.prog 69 #[c.val] w fun e w'=>e=.returned ({ Cf.none 4 with num:=c.num,den:=c.den }:Cf).val∧Chg [] w w':=by
 obtain ⟨k,num,den,side,most,digits,limit,depth,factor,width,word⟩:=c
 simp only at hk
 subst hk
 simp only [Cf.val,Cf.cells,Cf.none]
 go_enter Tryz.func69,Tryz.ntmps69
 go_wp2
 refine bodyPost_ret (v:=.agg #[.int .i64 4,.int .u64 num,.int .u64 den,.int .i64 0,.int .i64 0,.int .i64 0,.int .u64 0,.int .i64 0,.int .i64 0,.int .i64 0,.int .u64 0]) (by simp [results,Tryz.results69,go_sem]) rfl ?_
 exact ⟨rfl,by with_reducible (repeat (first|exact Chg.refl _ _|apply Chg.alloc|apply Chg.drew|(apply Chg.setCell;simp)))⟩
set_option maxRecDepth 100000 in
set_option maxHeartbeats 2000000 in
theorem bare_digest (w:World) (c:Cf) (hk:c.kind=3):Calls Tryz.prog 69 #[c.val] w fun e w'=>e=.returned ({ Cf.none 3 with depth:=c.depth,factor:=c.factor }:Cf).val∧Chg [] w w':=by
 obtain ⟨k,num,den,side,most,digits,limit,depth,factor,width,word⟩:=c
 simp only at hk
 subst hk
 simp only [Cf.val,Cf.cells,Cf.none]
 go_enter Tryz.func69,Tryz.ntmps69
 go_wp2_with fail
 go_region_with (fail)
 all_goals
  go_wp2
  refine bodyPost_ret (v:=.agg #[.int .i64 3,.int .u64 0,.int .u64 0,.int .i64 0,.int .i64 0,.int .i64 0,.int .u64 0,.int .i64 depth,.int .i64 factor,.int .i64 0,.int .u64 0]) (by simp [results,Tryz.results69,go_sem]) rfl ?_
  exact ⟨rfl,by with_reducible (repeat (first|exact Chg.refl _ _|apply Chg.alloc|apply Chg.drew|(apply Chg.setCell;simp)))⟩
def LmD.putE (D:LmD) (n:Nat):Nat:=if n=0 then 1 else if 9223372036854775807<totL D.l+n then 6 else 0
def LmD.putV (D:LmD) (x:Int) (n:Nat):LmD:=if D.putE n=0 then D.put x n else D
def LmR (m:Int) (w:World) (p:Nat) (G:List Nat) (D:LmD):Prop:=∃ rv,LmS w p rv D∧D.ok∧(D.most:Int)=m∧G=fpL p rv
theorem LmR.und (m:Int):Und (LmR m) where
 lt:=fun ⟨rv,h1,h2,h3,h4⟩ b hb=>by subst h4;exact Lms.lt h1 b hb
 chg:=fun ⟨rv,h1,h2,h3,h4⟩ k hF=>by subst h4;exact ⟨rv,Lms.chg h1 k hF,h2,h3,rfl⟩
theorem lmR_put (m:Int) (w:World) (p:Nat) (G:List Nat) (D:LmD) (h:LmR m w p G D) (x:Int) (hx:InR x) (n:Nat) (hn:n<18446744073709551616) :
 Calls Tryz.prog 127 #[.pointer (some ⟨p,0,none⟩),.int .i64 x,.int .u64 (n:Nat)] w fun e w'=>e=.returned (.int .i64 (D.putE n:Nat))∧∃ G',LmR m w' p G' (D.putV x n)∧Mv G w G' w':=by
 obtain ⟨rv,h1,h2,h3,rfl⟩:=h
 unfold LmD.putV
 by_cases h0:n=0
 ·subst h0
  refine (lump_put_zero w p x).mono ?_
  rintro e w' ⟨rfl,hc⟩
  exact ⟨rfl,_,⟨rv,Lms.chg h1 hc (by simp),h2,h3,rfl⟩,Mv.of_chg hc.nil⟩
 ·by_cases hf:9223372036854775807<totL D.l+n
  ·have hE:D.putE n=6:=by unfold LmD.putE;rw [if_neg h0,if_pos hf]
   rw [hE,if_neg (by decide)]
   refine (lump_put_full w p rv D h1 h2.tot x n (by omega) hn hf).mono ?_
   rintro e w' ⟨rfl,hc⟩
   exact ⟨rfl,_,⟨rv,Lms.chg h1 hc (by simp),h2,h3,rfl⟩,Mv.of_chg hc.nil⟩
  ·have hE:D.putE n=0:=by unfold LmD.putE;rw [if_neg h0,if_neg hf]
   rw [hE,if_pos rfl]
   refine (lump_put w p rv D h1 h2 x n (by omega) (by omega)).mono ?_
   rintro e w' ⟨rfl,rv',ht,hm⟩
   exact ⟨rfl,_,⟨rv',ht,(LmD.put_ok h2 hx (by omega) (by omega)).1,h3,rfl⟩,hm⟩
theorem freshR_lump (w:World) (c:Cf) (hk:c.kind=6) :
 Calls Tryz.prog 66 #[c.val] w fun e w'=>∃ v k,e=.returned (.tuple #[.iface 227 (.agg #[.pointer v]),.int .i64 k])∧FQ (LmR c.most) ⟨c.most.toNat,[]⟩ (decide (2≤c.most∧c.most≤64)) w.heap.size v k w'∧Chg [] w w':=
 freshk_lump w c hk _ (fun u hu=>(lump_new u c.most).mono (by
  rintro e w' (⟨hno,rfl,hc⟩|⟨hy,p,rfl,ht,hc,hp⟩)
  ·exact ⟨_,_,rfl,.inl ⟨decide_eq_false hno,by decide⟩,hc⟩
  ·have e1:((c.most.toNat:Nat):Int)=c.most:=by omega
   refine ⟨_,_,rfl,.inr ⟨decide_eq_true hy,rfl,p,_,rfl,⟨.slice none 0 0,?_,LmD.new_ok (by omega) (by omega),e1,rfl⟩,fun b hb => ?_⟩,hc⟩
   ·show Lms w' p _ ((c.most.toNat:Nat):Int) [] 0
    rw [e1]
    exact ht
   ·simp only [fpL,blkOf_none,List.mem_cons,List.not_mem_nil,or_false] at hb
    have:=hu.size
    omega))
def kbLump (c:Cf) (hk:c.kind=6):Kb c where
 S:=LmD
 P:=Up 227 c (LmR c.most)
 sz:=fun _=>0
 init:=⟨c.most.toNat,[]⟩
 ok:=c.same { Cf.none 6 with most:=c.most } && decide (2≤c.most∧c.most≤64)
 put:=LmD.putV
 putE:=fun D _ n=>(D.putE n:Nat)
 enc:=fun D=>putLm D.most D.l
 tot:=fun D=>totL D.l
 kk:=6
 kind:=by rw [hk];rfl
 lt:=fun h=>Up.lt (LmR.und _) h
 chg:=fun h k hF=>Up.chg (LmR.und _) h k hF
 sz0:=rfl
 szp:=fun _ _ _=>⟨Nat.zero_le _,Nat.zero_le _⟩
 new:=fun w _=>new_up (LmR.und _) w c _ (fun u=>bare_lump u c hk) (fun u hu=>(freshR_lump u c hk).mono (by
  rintro e w' ⟨v,k,rfl,hq,hc⟩
  exact ⟨v,k,rfl,hq.mono hu.size,hc⟩))
 putC:=fun {w s F st} h _ x n hx hn=>by
  obtain ⟨p,G,hs,hr,rfl,hns⟩:=h
  refine kk_put_lumps w s p c hs x n _ ((lmR_put _ w p G st hr x hx n hn).mono ?_)
  rintro e w' ⟨rfl,G',hr',hm⟩
  obtain ⟨hU,hM⟩:=Up.mv hs hr hns hr' hm
  exact ⟨_,rfl,rfl,_,hU,hM⟩
 encC:=fun {w s F st} h _=>by
  obtain ⟨p,G,hs,⟨rv,h1,h2,h3,rfl⟩,rfl,hns⟩:=h
  exact sk_enc_lumps w s p c hs 6 (by rw [hk];rfl) (putLm st.most st.l) (fun u q F hu hq hF=>lump_write u p rv st (Lms.chg h1 hu (by simp)) h2 q F [] (by simp) hq)
 fit:=fun {w s F st} h _=>by
  obtain ⟨p,G,hs,⟨rv,h1,h2,h3,rfl⟩,rfl,hns⟩:=h
  have:=putLm_len h2.m2 (by have h1:=h2.few;have h2:=h2.m2;omega) h2.fit
  omega
 totC:=fun {w s F st} h=>by
  obtain ⟨p,G,hs,⟨rv,h1,h2,h3,rfl⟩,rfl,hns⟩:=h
  exact kk_total_lumps w s p c hs _ (fun u hu=>lump_total u p rv _ st.l _ (Lms.chg h1 hu (by simp)))
 tot0:=rfl
 reset:=fun {w s F st} h hok _=>by
  have ho:decide (2≤c.most∧c.most≤64)=true:=by
   cases h:decide (2≤c.most∧c.most≤64) with
   | true=>rfl
   | false=>rw [h] at hok;simp at hok
  refine reset_up (LmR.und _) w c s F st h (fun u hu=>(freshR_lump u c hk).mono ?_)
  rintro e w' ⟨v,k,rfl,hq,hc⟩
  rw [ho] at hq
  exact ⟨v,k,rfl,hq.mono hu.size,hc⟩
set_option maxRecDepth 100000 in
set_option maxHeartbeats 4000000 in
theorem kk_put_digest (w:World) (s p:Nat) (c:Cf) (h:Sk w s c 221 p) (x:Int) (n:Nat) (R:Ending→World→Prop)
 (HP0:Calls Tryz.prog 56 #[.pointer (some ⟨p,0,none⟩),.int .i64 x,.int .u64 n] w fun e w'=>∃ k,e=.returned (.int .i64 k)∧R e w') :
 Calls Tryz.prog 21 #[.pointer (some ⟨s,0,none⟩),.int .i64 x,.int .u64 n] w R:=by
 have c11:=h.core
 have HP:=Lib.hid HP0
 clear h HP0
 go_enter Tryz.func21,Tryz.ntmps21
 go_wp2_with fail
 refine HP.out.mono ?_
 rintro e w1 ⟨k,rfl,hR⟩
 have HR:=Lib.hid hR
 clear hR HP
 go_wp2_with fail
 exact HR.out
set_option maxRecDepth 100000 in
set_option maxHeartbeats 4000000 in
theorem kc_total_digest (w:World) (p:Nat) (n:Nat)
 (HP0:∀ u,Chg [] w u→Calls Tryz.prog 60 #[.pointer (some ⟨p,0,none⟩)] u fun e w'=>e=.returned (.int .u64 (n:Nat))∧Chg [] u w') :
 Calls Tryz.prog 371 #[.agg #[.pointer (some ⟨p,0,none⟩)]] w fun e w'=>e=.returned (.int .u64 (n:Nat))∧Chg [] w w':=by
 have HP:=Lib.hid HP0
 have HC:=Lib.hid ((Chg.refl [] w).alloc (.cells #[.pointer (some ⟨p,0,none⟩)] 221))
 clear HP0
 go_enter Tryz.func371,Tryz.ntmps371
 go_wp2_with fail
 refine (HP.out _ HC.out).mono ?_
 rintro e w1 ⟨rfl,hc⟩
 have HC1:=Lib.hid (HC.out.trans hc)
 clear hc HP
 go_wp2
 go_ret
 exact ⟨rfl,HC1.out⟩
set_option maxRecDepth 100000 in
set_option maxHeartbeats 4000000 in
theorem kk_total_digest (w:World) (s p:Nat) (c:Cf) (h:Sk w s c 221 p) (n:Nat)
 (HP0:∀ u,Chg [] w u→Calls Tryz.prog 60 #[.pointer (some ⟨p,0,none⟩)] u fun e w'=>e=.returned (.int .u64 (n:Nat))∧Chg [] u w') :
 Calls Tryz.prog 20 #[.pointer (some ⟨s,0,none⟩)] w fun e w'=>e=.returned (.int .u64 (n:Nat))∧Chg [] w w':=by
 have c11:=h.core
 have HT:=Lib.hid (kc_total_digest w p n HP0)
 clear h HP0
 go_enter Tryz.func20,Tryz.ntmps20
 go_wp2_with fail
 refine HT.out.mono ?_
 rintro e w1 ⟨rfl,hc⟩
 have HC:=Lib.hid hc
 clear hc HT
 go_wp2
 go_ret
 exact ⟨rfl,HC.out⟩
end Go.Proofs.YthoolcpcmhhkpaaGreatDoor
namespace Go.Proofs.YthoolcpcmhhkpaaGreatDoor
def bes (v:Int):Int:=if v % 2=1 then v-1 else v+1
def upSum (r:List Pr) (v:Int):Nat:=cntI r v+cntI r (bes v)+cntI r (v / 2)
def stays (f:Nat) (r:List Pr) (v:Int):Bool:=decide (v=1) || decide (cntI r v=0) || decide (totP r / f<upSum r v)
def rest (r:List Pr) (v:Int):List Pr:=r.filter fun p=>decide (p.i≠v)&&decide (p.i≠bes v)&&decide (p.i≠v / 2)
def liftV (f:Nat) (r:List Pr) (v:Int):Bool × List Pr:=if stays f r v then (false,r) else (true,refAdd (rest r v) (v / 2) (upSum r v))
def rest2 (r:List Pr) (v:Int):List Pr:=r.filter fun p=>decide (p.i≠v)&&decide (p.i≠bes v)
def passV (f:Nat):List Int→Bool→List Pr→Bool × List Pr
 | [],m,r=>(m,r)
 | v::vs,m,r=>passV f vs (m || (liftV f r v).1) (liftV f r v).2
def pass (f:Nat) (r:List Pr):Bool × List Pr:=passV f (r.map Pr.i).reverse false r
inductive SqR (f:Nat):List Pr→List Pr→Prop
 | stop {r R:List Pr}:pass f r=(false,R)→SqR f r R
 | go {r r' R:List Pr}:pass f r=(true,r')→SqR f r' R→SqR f r R
def phi (r:List Pr):Nat:=(r.map fun p=>p.i.toNat).sum
structure Nodes (r:List Pr) (top:Int):Prop where
 up:rises r
 pos:∀ p∈r,1≤p.c
 ix:∀ p∈r,1≤p.i∧p.i<top
theorem bes_ne (v:Int):bes v≠v:=by unfold bes;split<;>omega
theorem bes_half {v:Int} (h:2≤v):bes v≠v / 2:=by unfold bes;split<;>omega
theorem rises_filter {l:List Pr} (h:rises l) (q:Pr→Bool):rises (l.filter q):=by
 induction l with
 | nil=>intro j k _ hk;simp at hk
 | cons p l ih =>
   have h1:=ih (rises_tail h)
   have h2:=rises_head h
   rw [List.filter_cons]
   split
   ·exact rises_cons h1 (fun x hx=>h2 x (List.mem_filter.1 hx).1)
   ·exact h1
theorem cntI_filter_ne (l:List Pr) (q:Pr→Bool) (i:Int) (h:∀ p,p.i=i→q p=true):cntI (l.filter q) i=cntI l i:=by
 induction l with
 | nil=>rfl
 | cons p l ih =>
   rw [List.filter_cons]
   by_cases hp:p.i=i
   ·rw [if_pos (h p hp)]
    simp only [cntI,List.map_cons,List.sum_cons] at ih ⊢
    omega
   ·split
    ·simp only [cntI,List.map_cons,List.sum_cons] at ih ⊢
     omega
    ·rw [ih]
     simp [cntI,hp]
theorem lift_same (r:List Pr) {v:Int} (h:2≤v):refAdd (rest2 r v) (v / 2) (cntI r v+cntI r (bes v))=refAdd (rest r v) (v / 2) (upSum r v):=by
 have hb:=bes_half h
 have hv:v / 2≠v:=by omega
 have e1:cntI (rest2 r v) (v / 2)=cntI r (v / 2):=cntI_filter_ne r _ _ (fun p hp=>by rw [hp];simp;exact ⟨hv,fun e=>hb e.symm⟩)
 have e2:cntI (rest r v) (v / 2)=0:=cntI_none (fun p hp=>by
  have:=(List.mem_filter.1 hp).2
  simp at this
  exact this.2)
 have e3:∀ q:Pr→Bool,(∀ p,p.i=v / 2→q p=false)→(rest2 r v).filter q=(rest r v).filter q:=fun q hq=>by
  rw [rest2,rest,List.filter_filter,List.filter_filter]
  refine List.filter_congr (fun p _ => ?_)
  by_cases hp:p.i=v / 2
  ·rw [hq p hp];rfl
  ·simp [hp]
 rw [refAdd,refAdd,e1,e2,e3 _ (fun p hp=>by rw [hp];simp),e3 _ (fun p hp=>by rw [hp];simp),upSum]
 have e4:cntI r (v / 2)+(cntI r v+cntI r (bes v))=0+(cntI r v+cntI r (bes v)+cntI r (v / 2)):=by omega
 rw [e4]
theorem totP_filter (l:List Pr) (q:Pr→Bool):totP l=totP (l.filter q)+totP (l.filter fun p=>!q p):=by
 induction l with
 | nil=>rfl
 | cons p l ih =>
   rw [List.filter_cons,List.filter_cons]
   cases h:q p with
   | true=>simp only [if_true,Bool.not_true,Bool.false_eq_true,if_false,totP_cons];omega
   | false=>simp only [Bool.false_eq_true,if_false,Bool.not_false,if_true,totP_cons];omega
theorem totP_one (l:List Pr) (i:Int):totP (l.filter fun p=>decide (p.i=i))=cntI l i:=by
 induction l with
 | nil=>rfl
 | cons p l ih =>
   rw [List.filter_cons]
   by_cases h:p.i=i
   ·simp only [h,decide_true,if_true,totP_cons,ih,cntI,List.map_cons,List.sum_cons]
   ·simp only [h,decide_false,Bool.false_eq_true,if_false,ih,cntI,List.map_cons,List.sum_cons]
    omega
theorem rest_tot (r:List Pr) {v:Int} (h:2≤v):totP r=totP (rest r v)+upSum r v:=by
 have hb:=bes_half h
 have hn:=bes_ne v
 have hv:v / 2≠v:=by omega
 have t1:=totP_filter r (fun p=>decide (p.i=v))
 rw [totP_one] at t1
 have t2:=totP_filter (r.filter fun p=>!decide (p.i=v)) (fun p=>decide (p.i=bes v))
 rw [totP_one,cntI_filter_ne r _ _ (fun p hp=>by rw [hp];simp [hn]),List.filter_filter] at t2
 have t3:=totP_filter (r.filter fun p=>!decide (p.i=bes v) && !decide (p.i=v)) (fun p=>decide (p.i=v / 2))
 rw [totP_one,cntI_filter_ne r _ _ (fun p hp=>by rw [hp];simp;exact ⟨fun e=>hb e.symm,hv⟩),List.filter_filter] at t3
 have e:r.filter (fun p=>!decide (p.i=v / 2)&&(!decide (p.i=bes v) && !decide (p.i=v)))=rest r v:=by
  rw [rest]
  refine List.filter_congr (fun p _ => ?_)
  by_cases h1:p.i=v<;>by_cases h2:p.i=bes v<;>by_cases h3:p.i=v / 2<;>simp [h1,h2,h3]
 rw [e] at t3
 unfold upSum
 omega
theorem rest2_tot (r:List Pr) (v:Int):totP r=totP (rest2 r v)+cntI r v+cntI r (bes v):=by
 have hn:=bes_ne v
 have t1:=totP_filter r (fun p=>decide (p.i=v))
 rw [totP_one] at t1
 have t2:=totP_filter (r.filter fun p=>!decide (p.i=v)) (fun p=>decide (p.i=bes v))
 rw [totP_one,cntI_filter_ne r _ _ (fun p hp=>by rw [hp];simp [hn]),List.filter_filter] at t2
 have e:r.filter (fun p=>!decide (p.i=bes v) && !decide (p.i=v))=rest2 r v:=by
  rw [rest2]
  refine List.filter_congr (fun p _ => ?_)
  by_cases h1:p.i=v<;>by_cases h2:p.i=bes v<;>simp [h1,h2]
 rw [e] at t2
 omega
theorem sumW_drop (W:Pr→Nat) (q:Pr→Bool):∀ {l:List Pr} {p:Pr},p∈l→q p=false→((l.filter q).map W).sum+W p≤(l.map W).sum
 | x::l,p,hp,hq=>by
   have hle:∀ l:List Pr,((l.filter q).map W).sum≤(l.map W).sum:=fun l=>by
    induction l with
    | nil=>exact Nat.le_refl _
    | cons y l ih =>
      rw [List.filter_cons]
      split
      ·simp only [List.map_cons,List.sum_cons];omega
      ·simp only [List.map_cons,List.sum_cons];omega
   rw [List.filter_cons]
   rcases List.mem_cons.1 hp with rfl|hp
   ·rw [hq,if_neg (by simp)]
    have:=hle l
    simp only [List.map_cons,List.sum_cons]
    omega
   ·have:=sumW_drop W q hp hq
    split
    ·simp only [List.map_cons,List.sum_cons];omega
    ·simp only [List.map_cons,List.sum_cons];omega
theorem phi_app (a b:List Pr):phi (a++b)=phi a+phi b:=by simp [phi]
theorem cntI_mem {l:List Pr} {i:Int} (h:cntI l i≠0):∃ p∈l,p.i=i:=by
 by_cases hx:∃ p∈l,p.i=i
 ·exact hx
 ·exact absurd (cntI_none (fun p hp e=>hx ⟨p,hp,e⟩)) h
theorem refAdd_phi {l:List Pr} {i:Int} (hr:rises l) (c:Nat):phi (refAdd l i c)≤phi l+i.toNat:=by
 obtain ⟨A,M,B,h⟩:=parted hr i
 rw [refAdd,h.filter_lt,h.filter_gt,phi_app,phi_app]
 have e:=congrArg phi h.eq
 rw [phi_app,phi_app] at e
 have h1:phi (if 0<cntI l i+c then [⟨i,cntI l i+c⟩] else [])≤i.toNat:=by
  split
  ·simp [phi]
  ·exact Nat.zero_le _
 omega
theorem refAdd_mem {l:List Pr} {i:Int} {c:Nat}:∀ p∈refAdd l i c,p∈l∨p.i=i:=by
 intro p hp
 rw [refAdd] at hp
 rcases List.mem_append.1 hp with hp|hp
 ·rcases List.mem_append.1 hp with hp|hp
  ·exact .inl (List.mem_filter.1 hp).1
  ·split at hp
   ·simp at hp;subst hp;exact .inr rfl
   ·simp at hp
 ·exact .inl (List.mem_filter.1 hp).1
theorem Nodes.add {r:List Pr} {top i:Int} (h:Nodes r top) (h1:1≤i) (h2:i<top) (c:Nat):Nodes (refAdd r i c) top:=
 ⟨refAdd_rises h.up c,refAdd_pos h.pos c,fun p hp=>by
  rcases refAdd_mem p hp with hp|hp
  ·exact h.ix p hp
  ·omega⟩
theorem Nodes.filter {r:List Pr} {top:Int} (h:Nodes r top) (q:Pr→Bool):Nodes (r.filter q) top:=
 ⟨rises_filter h.up q,fun p hp=>h.pos p (List.mem_filter.1 hp).1,fun p hp=>h.ix p (List.mem_filter.1 hp).1⟩
theorem lift_ok {f:Nat} {r:List Pr} {top v:Int} (h:Nodes r top) (hv:1≤v) (hv2:v<top):Nodes (liftV f r v).2 top∧totP (liftV f r v).2=totP r∧((liftV f r v).1=true→phi (liftV f r v).2<phi r)∧(liftV f r v).2.length≤r.length∧((liftV f r v).1=false→(liftV f r v).2=r):=by
 unfold liftV
 split
 ·exact ⟨h,rfl,fun e=>absurd e (by simp),Nat.le_refl _,fun _=>rfl⟩
 ·next hs =>
  have hs':stays f r v=false:=by simpa using hs
  simp only [stays,Bool.or_eq_false_iff,decide_eq_false_iff_not] at hs'
  obtain ⟨⟨h1,h2⟩,-⟩:=hs'
  have h2v:2≤v:=by omega
  have hN:Nodes (rest r v) top:=h.filter _
  obtain ⟨p,hp,hpi⟩:=cntI_mem h2
  have hq:(decide (p.i≠v)&&decide (p.i≠bes v)&&decide (p.i≠v / 2))=false:=by simp [hpi]
  have w1:=sumW_drop (fun p=>p.i.toNat) (fun p=>decide (p.i≠v)&&decide (p.i≠bes v)&&decide (p.i≠v / 2)) hp hq
  have w2:=sumW_drop (fun _=>1) (fun p=>decide (p.i≠v)&&decide (p.i≠bes v)&&decide (p.i≠v / 2)) hp hq
  rw [List.map_const',List.map_const',List.sum_replicate_nat,List.sum_replicate_nat] at w2
  have w3:=refAdd_phi (i:=v / 2) hN.up (upSum r v)
  have w4:=refAdd_len (i:=v / 2) hN.up (upSum r v)
  have e1:rest r v=r.filter fun p=>decide (p.i≠v)&&decide (p.i≠bes v)&&decide (p.i≠v / 2):=rfl
  rw [←e1] at w1 w2
  have e2:phi (rest r v)=((rest r v).map fun p=>p.i.toNat).sum:=rfl
  have e3:phi r=(r.map fun p=>p.i.toNat).sum:=rfl
  refine ⟨hN.add (by omega) (by omega) _,?_,fun _ => ?_,?_,fun e=>absurd e (by simp)⟩
  ·rw [refAdd_tot hN.up,rest_tot r h2v]
  ·rw [←e2,←e3,hpi] at w1
   show phi (refAdd (rest r v) (v / 2) (upSum r v))<phi r
   omega
  ·show (refAdd (rest r v) (v / 2) (upSum r v)).length≤r.length
   omega
theorem passV_ok {f:Nat} {top:Int}:∀ (vs:List Int) (m:Bool) {r:List Pr},Nodes r top→(∀ v∈vs,1≤v∧v<top) →
 Nodes (passV f vs m r).2 top∧totP (passV f vs m r).2=totP r∧((passV f vs m r).1=true→m=false→phi (passV f vs m r).2<phi r)∧phi (passV f vs m r).2≤phi r∧(passV f vs m r).2.length≤r.length
 | [],m,r,h,_=>⟨h,rfl,fun e e2=>by rw [passV] at e;simp only at e;rw [e2] at e;exact absurd e (by decide),Nat.le_refl _,Nat.le_refl _⟩
 | v::vs,m,r,h,hv=>by
   obtain ⟨g1,g2⟩:=hv v (by simp)
   obtain ⟨a1,a2,a3,a4,a5⟩:=lift_ok (f:=f) h g1 g2
   obtain ⟨b1,b2,b3,b4,b5⟩:=passV_ok (f:=f) vs (m || (liftV f r v).1) a1 (fun u hu=>hv u (by simp [hu]))
   rw [passV]
   have hle:phi (liftV f r v).2≤phi r:=by
    cases hc:(liftV f r v).1 with
    | false=>rw [a5 hc];exact Nat.le_refl _
    | true=>have:=a3 hc;omega
   refine ⟨b1,b2.trans a2,fun e e2 => ?_,by omega,by omega⟩
   by_cases hc:(liftV f r v).1=true
   ·have:=a3 hc;omega
   ·have:=b3 e (by rw [e2,show (liftV f r v).1=false from by simpa using hc];rfl)
    omega
theorem pass_ok {f:Nat} {top:Int} {r:List Pr} (h:Nodes r top) :
 Nodes (pass f r).2 top∧totP (pass f r).2=totP r∧((pass f r).1=true→phi (pass f r).2<phi r)∧(pass f r).2.length≤r.length:=by
 obtain ⟨b1,b2,b3,-,b5⟩:=passV_ok (f:=f) (r.map Pr.i).reverse false h (fun v hv=>by
  rw [List.mem_reverse,List.mem_map] at hv
  obtain ⟨p,hp,rfl⟩:=hv
  exact h.ix p hp)
 exact ⟨b1,b2,fun e=>b3 e rfl,b5⟩
theorem sq_ex {f:Nat} {top:Int}:∀ (n:Nat) {r:List Pr},phi r<n→Nodes r top→∃ R,SqR f r R
 | 0,_,h,_=>absurd h (Nat.not_lt_zero _)
 | n+1,r,hn,h=>by
   obtain ⟨b1,-,b3,-⟩:=pass_ok (f:=f) h
   cases hc:(pass f r).1 with
   | false=>exact ⟨(pass f r).2,.stop (by rw [←hc])⟩
   | true =>
     obtain ⟨R,hR⟩:=sq_ex n (by have:=b3 hc;omega) b1
     exact ⟨R,.go (by rw [←hc]) hR⟩
theorem SqR.ok {f:Nat} {top:Int} {r R:List Pr} (h:SqR f r R):Nodes r top→Nodes R top∧totP R=totP r∧R.length≤r.length:=by
 induction h with
 | @stop r R e =>
   intro hr
   obtain ⟨b1,b2,-,b4⟩:=pass_ok (f:=f) hr
   rw [e] at b1 b2 b4
   exact ⟨b1,b2,b4⟩
 | @go r r' R e _ ih =>
   intro hr
   obtain ⟨b1,b2,-,b4⟩:=pass_ok (f:=f) hr
   rw [e] at b1 b2 b4
   obtain ⟨c1,c2,c3⟩:=ih b1
   exact ⟨c1,c2.trans b2,Nat.le_trans c3 b4⟩
open Classical in
noncomputable def squeezeR (f:Nat) (r:List Pr):List Pr:=if h:∃ R,SqR f r R then Classical.choose h else r
theorem squeezeR_is {f:Nat} {top:Int} {r:List Pr} (h:Nodes r top):SqR f r (squeezeR f r):=by
 have hx:=sq_ex (f:=f) _ (Nat.lt_succ_self _) h
 unfold squeezeR
 rw [dif_pos hx]
 exact Classical.choose_spec hx
noncomputable def tidyR (f:Nat) (r:List Pr):List Pr:=if 4*f<r.length then squeezeR f r else r
theorem tidyR_ok {f:Nat} {top:Int} {r:List Pr} (h:Nodes r top):Nodes (tidyR f r) top∧totP (tidyR f r)=totP r∧(tidyR f r).length≤r.length:=by
 unfold tidyR
 split
 ·exact (squeezeR_is h).ok h
 ·exact ⟨h,rfl,Nat.le_refl _⟩
end Go.Proofs.YthoolcpcmhhkpaaGreatDoor
namespace Go.Proofs.YthoolcpcmhhkpaaGreatDoor
open Go.RowKit
theorem bits_xor_i64_nat (a b:Nat) (ha:a<9223372036854775808) (hb:b<9223372036854775808) :
 bits .xor .i64 (a:Int) (b:Int)=((a ^^^ b:Nat):Int):=by
 have hx:a ^^^ b<2^63:=Nat.xor_lt_two_pow (by omega) (by omega)
 have h1:(BitVec.ofInt 64 (a:Int)).toNat=a:=by
  rw [BitVec.ofInt_natCast,BitVec.toNat_ofNat];exact Nat.mod_eq_of_lt (by omega)
 have h2:(BitVec.ofInt 64 (b:Int)).toNat=b:=by
  rw [BitVec.ofInt_natCast,BitVec.toNat_ofNat];exact Nat.mod_eq_of_lt (by omega)
 show IntKind.i64.wrap ((BitVec.ofInt 64 (a:Int) ^^^ BitVec.ofInt 64 (b:Int)).toNat:Int)=_
 rw [BitVec.toNat_xor,h1,h2]
 have hw:∀ n:Int,IntKind.i64.wrap n=(n+9223372036854775808) % 18446744073709551616-9223372036854775808:=fun n=>by simp [IntKind.wrap,IntKind.bits,IntKind.signed];split<;>omega
 rw [hw]
 omega
theorem xor_one (a:Nat):a ^^^ 1=if a % 2=1 then a-1 else a+1:=by
 have h1:(a ^^^ 1) / 2=a / 2:=by
  have:=Nat.xor_div_two_pow (a:=a) (b:=1) (n:=1)
  simpa using this
 have h2:(a ^^^ 1) % 2=(a+1) % 2:=by
  have:=Nat.xor_mod_two_pow (a:=a) (b:=1) (n:=1)
  rw [Nat.pow_one] at this
  have e0:(0:Nat) ^^^ 1 % 2=1:=by decide
  have e1:(1:Nat) ^^^ 1 % 2=0:=by decide
  rcases Nat.mod_two_eq_zero_or_one a with h|h
  ·rw [h,e0] at this;omega
  ·rw [h,e1] at this;omega
 split<;>omega
theorem bes_xor {v:Int} (h:2≤v) (h2:v<9223372036854775808):bits .xor .i64 v 1=bes v:=by
 obtain ⟨n,rfl⟩:=Int.eq_ofNat_of_zero_le (show 0≤v by omega)
 have e:=bits_xor_i64_nat n 1 (by omega) (by omega)
 rw [show ((1:Nat):Int)=1 from rfl] at e
 rw [e,xor_one]
 unfold bes
 split<;>split<;>omega
theorem depths {d:Nat} (h1:1≤d) (h2:d≤24):d=1∨d=2∨d=3∨d=4∨d=5∨d=6∨d=7∨d=8∨d=9∨d=10∨d=11∨d=12∨d=13∨d=14∨d=15∨d=16∨d=17∨d=18∨d=19∨d=20∨d=21∨d=22∨d=23∨d=24:=by omega
theorem two_d {d:Nat} (h1:1≤d) (h2:d≤24):2≤2^d∧2^d≤16777216∧2^d % 2=0:=by
 rcases depths h1 h2 with rfl|rfl|rfl|rfl|rfl|rfl|rfl|rfl|rfl|rfl|rfl|rfl|rfl|rfl|rfl|rfl|rfl|rfl|rfl|rfl|rfl|rfl|rfl|rfl<;>decide
set_option maxRecDepth 100000 in
theorem tree_leaves (w:World) (d P:Nat) (h1:1≤d) (h2:d≤24) (hP:P=2^d) :
 Calls Tryz.prog 166 #[.agg #[.int .i64 (d:Nat)]] w fun e w'=>e=.returned (.int .i64 (P:Nat))∧Chg [] w w':=by
 have hc:=(Chg.refl [] w).alloc (.cells #[.int .i64 (d:Nat)] 176)
 have hb:=Blk.alloc_new w #[.int .i64 (d:Nat)] 176
 have b0:=hb.cell 0
 subst hP
 rcases depths h1 h2 with rfl|rfl|rfl|rfl|rfl|rfl|rfl|rfl|rfl|rfl|rfl|rfl|rfl|rfl|rfl|rfl|rfl|rfl|rfl|rfl|rfl|rfl|rfl|rfl
 all_goals
  go_enter Tryz.func166,Tryz.ntmps166
  go_wp2
  go_ret
  exact ⟨rfl,hc⟩
set_option maxRecDepth 100000 in
set_option maxHeartbeats 1000000 in
theorem tree_good (w:World) (d P:Nat) (h1:1≤d) (h2:d≤24) (hP:P=2^d) (v:Int) (_hv:v<9223372036854775808) :
 Calls Tryz.prog 193 #[.agg #[.int .i64 (d:Nat)],.int .i64 v] w fun e w'=>e=.returned (.bool (decide (1≤v∧v<2*(P:Int))))∧Chg [] w w':=by
 obtain ⟨p1,p2,p3⟩:=two_d h1 h2
 rw [←hP] at p1 p2 p3
 have HLV:=Lib.hid (fun u=>tree_leaves u d P h1 h2 hP)
 have HB:=Lib.hid (Blk.alloc_new w #[.int .i64 (d:Nat)] 176)
 have HC:=Lib.hid ((Chg.refl [] w).alloc (.cells #[.int .i64 (d:Nat)] 176))
 have b0:=HB.out.cell 0
 clear hP h1 h2
 by_cases hv1:1≤v
 ·have d1:decide ((1:Int)≤v)=true:=decide_eq_true hv1
  obtain ⟨Q,hQ⟩:∃ Q:Bool,Q=decide (1≤v∧v<2*(P:Int)):=⟨_,rfl⟩
  rw [←hQ]
  have d2:decide (v<2*(P:Int))=Q:=by rw [hQ];simp [hv1]
  have hw:IntKind.i64.wrap (2*(P:Int))=2*(P:Int):=by rw [IntKind.wrap_i64];omega
  clear hQ
  go_enter Tryz.func193,Tryz.ntmps193
  go_wp2_with fail
  refine (HLV.out _).mono ?_
  rintro e w1 ⟨rfl,hc1⟩
  go_wp2_with fail
  go_ret
  exact ⟨rfl,HC.out.trans hc1⟩
 ·have d1:decide ((1:Int)≤v)=false:=decide_eq_false hv1
  have d2:decide (1≤v∧v<2*(P:Int))=false:=decide_eq_false (fun h=>hv1 h.1)
  rw [d2]
  go_enter Tryz.func193,Tryz.ntmps193
  go_wp2_with fail
  go_ret
  exact ⟨rfl,HC.out⟩
set_option maxRecDepth 100000 in
set_option maxHeartbeats 1000000 in
theorem tree_leaf (w:World) (d P:Nat) (h1:1≤d) (h2:d≤24) (hP:P=2^d) (x:Int) (hx:0≤x) (hx2:x<P) :
 Calls Tryz.prog 104 #[.agg #[.int .i64 (d:Nat)],.int .i64 x] w fun e w'=>e=.returned (.tuple #[.int .i64 ((P:Int)+x),.bool true])∧Chg [] w w':=by
 obtain ⟨p1,p2,p3⟩:=two_d h1 h2
 rw [←hP] at p1 p2 p3
 have HLV:=Lib.hid (fun u=>tree_leaves u d P h1 h2 hP)
 have HB:=Lib.hid (Blk.alloc_new w #[.int .i64 (d:Nat)] 176)
 have HC:=Lib.hid ((Chg.refl [] w).alloc (.cells #[.int .i64 (d:Nat)] 176))
 have b0:=HB.out.cell 0
 clear hP h1 h2
 have d1:decide (x<0)=false:=decide_eq_false (by omega)
 have d2:decide ((P:Int)≤x)=false:=decide_eq_false (by omega)
 have hw:IntKind.i64.wrap ((P:Int)+x)=(P:Int)+x:=by rw [IntKind.wrap_i64];omega
 go_enter Tryz.func104,Tryz.ntmps104
 go_wp2_with fail
 refine (HLV.out _).mono ?_
 rintro e w1 ⟨rfl,hc1⟩
 have b0':=(HB.out.chg hc1 (by simp)).cell 0
 simp only [List.getElem?_toArray,List.getElem?_cons_zero] at b0'
 go_wp2_with fail
 refine (HLV.out _).mono ?_
 rintro e w2 ⟨rfl,hc2⟩
 go_wp2_with fail
 go_ret2
 exact ⟨rfl,(HC.out.trans hc1).trans hc2⟩
set_option maxRecDepth 100000 in
set_option maxHeartbeats 1000000 in
theorem tree_leaf_out (w:World) (d P:Nat) (h1:1≤d) (h2:d≤24) (hP:P=2^d) (x:Int) (hx:x<0∨P≤x) (hx2:x<9223372036854775808) :
 Calls Tryz.prog 104 #[.agg #[.int .i64 (d:Nat)],.int .i64 x] w fun e w'=>e=.returned (.tuple #[.int .i64 0,.bool false])∧Chg [] w w':=by
 obtain ⟨p1,p2,p3⟩:=two_d h1 h2
 rw [←hP] at p1 p2 p3
 have HLV:=Lib.hid (fun u=>tree_leaves u d P h1 h2 hP)
 have HB:=Lib.hid (Blk.alloc_new w #[.int .i64 (d:Nat)] 176)
 have HC:=Lib.hid ((Chg.refl [] w).alloc (.cells #[.int .i64 (d:Nat)] 176))
 have b0:=HB.out.cell 0
 clear hP h1 h2
 by_cases h0:x<0
 ·have d1:decide (x<0)=true:=decide_eq_true h0
  go_enter Tryz.func104,Tryz.ntmps104
  go_wp2_with fail
  go_ret2
  exact ⟨rfl,HC.out⟩
 ·have d1:decide (x<0)=false:=decide_eq_false h0
  have d2:decide ((P:Int)≤x)=true:=decide_eq_true (by omega)
  go_enter Tryz.func104,Tryz.ntmps104
  go_wp2_with fail
  refine (HLV.out _).mono ?_
  rintro e w1 ⟨rfl,hc1⟩
  go_wp2_with fail
  go_ret2
  exact ⟨rfl,HC.out.trans hc1⟩
set_option maxRecDepth 100000 in
set_option maxHeartbeats 1000000 in
theorem tree_up (w:World) (d P:Nat) (h1:1≤d) (h2:d≤24) (hP:P=2^d) (v:Int) (hv:1≤v) (hv2:v<2*(P:Int)) :
 Calls Tryz.prog 238 #[.agg #[.int .i64 (d:Nat)],.int .i64 v] w fun e w'=>e=.returned (.int .i64 (v / 2))∧Chg [] w w':=by
 obtain ⟨p1,p2,p3⟩:=two_d h1 h2
 rw [←hP] at p1 p2 p3
 have HLV:=Lib.hid (fun u=>tree_leaves u d P h1 h2 hP)
 have HB:=Lib.hid (Blk.alloc_new w #[.int .i64 (d:Nat)] 176)
 have HC:=Lib.hid ((Chg.refl [] w).alloc (.cells #[.int .i64 (d:Nat)] 176))
 have b0:=HB.out.cell 0
 have HGD:=Lib.hid (fun u=>tree_good u d P h1 h2 hP v (by omega))
 rw [decide_eq_true (show 1≤v∧v<2*(P:Int) from ⟨hv,hv2⟩)] at HGD
 clear hP h1 h2
 have hq:v.tdiv 2=v / 2:=Int.tdiv_eq_ediv_of_nonneg (by omega)
 have hw:IntKind.i64.wrap (v / 2)=v / 2:=by rw [IntKind.wrap_i64];omega
 go_enter Tryz.func238,Tryz.ntmps238
 go_wp2_with fail
 refine (HGD.out _).mono ?_
 rintro e w1 ⟨rfl,hc1⟩
 go_wp2_with fail
 go_ret
 exact ⟨rfl,HC.out.trans hc1⟩
set_option maxRecDepth 100000 in
set_option maxHeartbeats 1000000 in
theorem tree_beside (w:World) (d P:Nat) (h1:1≤d) (h2:d≤24) (hP:P=2^d) (v:Int) (hv:2≤v) (hv2:v<2*(P:Int)) :
 Calls Tryz.prog 237 #[.agg #[.int .i64 (d:Nat)],.int .i64 v] w fun e w'=>e=.returned (.int .i64 (bes v))∧Chg [] w w':=by
 obtain ⟨p1,p2,p3⟩:=two_d h1 h2
 rw [←hP] at p1 p2 p3
 have HLV:=Lib.hid (fun u=>tree_leaves u d P h1 h2 hP)
 have HB:=Lib.hid (Blk.alloc_new w #[.int .i64 (d:Nat)] 176)
 have HC:=Lib.hid ((Chg.refl [] w).alloc (.cells #[.int .i64 (d:Nat)] 176))
 have b0:=HB.out.cell 0
 have HGD:=Lib.hid (fun u=>tree_good u d P h1 h2 hP v (by omega))
 rw [decide_eq_true (show 1≤v∧v<2*(P:Int) from ⟨by omega,hv2⟩)] at HGD
 clear hP h1 h2
 have d1:(v==1)=false:=by rw [beq_eq_false_iff_ne];omega
 have HX:=Lib.hid (bes_xor hv (by omega))
 go_enter Tryz.func237,Tryz.ntmps237
 go_wp2_with fail
 refine (HGD.out _).mono ?_
 rintro e w1 ⟨rfl,hc1⟩
 go_wp2_with fail
 go_ret
 rw [←HX.out]
 exact ⟨rfl,HC.out.trans hc1⟩
set_option maxRecDepth 100000 in
set_option maxHeartbeats 1000000 in
theorem tree_beside1 (w:World) (d P:Nat) (h1:1≤d) (h2:d≤24) (hP:P=2^d) :
 Calls Tryz.prog 237 #[.agg #[.int .i64 (d:Nat)],.int .i64 1] w fun e w'=>e=.returned (.int .i64 0)∧Chg [] w w':=by
 obtain ⟨p1,p2,p3⟩:=two_d h1 h2
 rw [←hP] at p1 p2 p3
 have HLV:=Lib.hid (fun u=>tree_leaves u d P h1 h2 hP)
 have HB:=Lib.hid (Blk.alloc_new w #[.int .i64 (d:Nat)] 176)
 have HC:=Lib.hid ((Chg.refl [] w).alloc (.cells #[.int .i64 (d:Nat)] 176))
 have b0:=HB.out.cell 0
 have HGD:=Lib.hid (fun u=>tree_good u d P h1 h2 hP 1 (by omega))
 rw [decide_eq_true (show (1:Int)≤1∧(1:Int)<2*(P:Int) from ⟨by omega,by omega⟩)] at HGD
 clear hP h1 h2
 go_enter Tryz.func237,Tryz.ntmps237
 go_wp2_with fail
 refine (HGD.out _).mono ?_
 rintro e w1 ⟨rfl,hc1⟩
 go_wp2_with fail
 go_ret
 exact ⟨rfl,HC.out.trans hc1⟩
set_option maxRecDepth 100000 in
theorem tree_new (w:World) (d:Int) :
 Calls Tryz.prog 103 #[.int .i64 d] w fun e w'=>e=.returned (.tuple #[.agg #[.int .i64 (if 1≤d∧d≤24 then d else 0)],.int .i64 (if 1≤d∧d≤24 then 0 else 1)])∧Chg [] w w':=by
 have hb:=Blk.alloc_new w #[.int .i64 0] 176
 have f0:=hb.free 0
 have c0:=hb.cell 0
 have hc:=(Chg.refl [] w).alloc (.cells #[.int .i64 0] 176)
 by_cases h1:d<1
 ·have d1:decide (d<1)=true:=decide_eq_true h1
  rw [if_neg (by omega),if_neg (by omega)]
  go_enter Tryz.func103,Tryz.ntmps103
  go_wp2_with fail
  refine bodyPost_ret (v:=.tuple #[.agg #[.int .i64 0],.int .i64 1]) (by simp [results,Tryz.results103,go_sem,c0]) rfl ⟨rfl,?_⟩
  with_reducible (repeat (first|exact hc|exact Chg.refl _ _|apply Chg.alloc))
 ·have d1:decide (d<1)=false:=decide_eq_false h1
  by_cases h2:d≤24
  ·have d2:decide (24<d)=false:=decide_eq_false (by omega)
   rw [if_pos (by omega),if_pos (by omega)]
   go_enter Tryz.func103,Tryz.ntmps103
   go_wp2_with fail
   have y0:=(Blk.alloc_new w #[.int .i64 d] 176).cell 0
   refine bodyPost_ret (v:=.tuple #[.agg #[.int .i64 d],.int .i64 0]) (by simp [results,Tryz.results103,go_sem,y0]) rfl ⟨rfl,?_⟩
   with_reducible (repeat (first|exact hc|exact Chg.refl _ _|apply Chg.alloc))
  ·have d2:decide (24<d)=true:=decide_eq_true (by omega)
   rw [if_neg (by omega),if_neg (by omega)]
   go_enter Tryz.func103,Tryz.ntmps103
   go_wp2_with fail
   refine bodyPost_ret (v:=.tuple #[.agg #[.int .i64 0],.int .i64 1]) (by simp [results,Tryz.results103,go_sem,c0]) rfl ⟨rfl,?_⟩
   with_reducible (repeat (first|exact hc|exact Chg.refl _ _|apply Chg.alloc))
end Go.Proofs.YthoolcpcmhhkpaaGreatDoor
