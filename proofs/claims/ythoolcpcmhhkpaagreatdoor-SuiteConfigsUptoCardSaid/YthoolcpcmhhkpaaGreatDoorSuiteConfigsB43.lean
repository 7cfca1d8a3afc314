/-
  Parts of a proof, pressed. Conditions: the form's own reach.
-/
import Derived.Test.YthoolcpcmhhkpaaGreatDoorSuiteConfigsB4
import Derived.Test.YthoolcpcmhhkpaaGreatDoorSuiteConfigsB5
import Derived.Test.YthoolcpcmhhkpaaGreatDoorSuiteConfigsB41
import Derived.Test.YthoolcpcmhhkpaaGreatDoorSuiteConfigsB42
import Derived.Test.YthoolcpcmhhkpaaGreatDoorSuiteConfigsB16
import Derived.Test.YthoolcpcmhhkpaaGreatDoorSuiteConfigsB8
import Derived.Test.YthoolcpcmhhkpaaGreatDoorSuiteConfigsB38
import Derived.Test.YthoolcpcmhhkpaaGreatDoorSuiteConfigsB40
import Derived.Test.YthoolcpcmhhkpaaGreatDoorSuiteConfigsB15
import Derived.Laws.StructEq
import Derived.Test.YthoolcpcmhhkpaaGreatDoorSuiteConfigsB3
import Derived.Test.YthoolcpcmhhkpaaGreatDoorSuiteConfigsB39
namespace Go.Proofs.YthoolcpcmhhkpaaGreatDoor
open Go.RowKit
set_option maxRecDepth 100000 in
set_option maxHeartbeats 4000000 in
theorem sk_enc_hdr (w:World) (s p:Nat) (c:Cf) (h:Sk w s c 219 p) (kk:UInt8) (hkk:c.kind=(kk.toNat:Nat)) (X:List UInt8)
 (HW0:∀ u q F,Chg [] w u→Qul u q F []→(∀ b∈F,w.heap.size≤b)→Calls Tryz.prog 365 #[.agg #[.pointer (some ⟨p,0,none⟩)],.pointer (some ⟨q,0,none⟩)] u fun e w'=>e=.returned (.tuple #[])∧∃ F',Qul w' q F' X∧Mv F u F' w') :
 Calls Tryz.prog 23 #[.pointer (some ⟨s,0,none⟩)] w fun e w'=>e=.returned (.tuple #[.string ⟨(encS kk X).toArray⟩,.int .i64 (encE X)])∧Chg [] w w':=by
 obtain ⟨S,hS⟩:∃ S,S=encS kk X:=⟨_,rfl⟩
 obtain ⟨E,hE⟩:∃ E,E=encE X:=⟨_,rfl⟩
 have HFC:=Lib.hid (fun u=>frame_closeV u kk X S E hS hE)
 rw [←hS,←hE]
 clear hS hE
 have HW:=Lib.hid HW0
 have hwk:=u8_kind hkk
 have HS:=Lib.hid (fun u (hu:Chg [] w u)=>(⟨(h.nil hu).kind,(h.nil hu).core⟩:_∧_))
 obtain ⟨k,hk⟩:∃ k,k=c.kind:=⟨_,rfl⟩
 rw [←hk] at HS hwk
 obtain ⟨q,hq⟩:∃ q,q=w.heap.size:=⟨_,rfl⟩
 have HQ0:=Lib.hid (show Qul (w.alloc (.cells #[.slice none 0 0] 120)) q [q] [] from by rw [hq];exact Qul.new w)
 have HC0:=Lib.hid ((Chg.refl [] w).alloc (.cells #[.slice none 0 0] 120))
 have HQN:=Lib.hid (show ∀ b∈[q],w.heap.size≤b from by intro b hb;rw [List.mem_singleton.1 hb,hq];exact Nat.le_refl _)
 obtain ⟨-,c11⟩:=HS.out _ HC0.out
 clear HW0 h hkk hk
 go_enter Tryz.func23,Tryz.ntmps23
 go_wp2_with fail
 rw [←hq]
 clear hq
 generalize w.alloc (.cells #[.slice none 0 0] 120)=w0 at *
 refine (HW.out w0 q [q] HC0.out HQ0.out HQN.out).mono ?_
 rintro e w1 ⟨rfl,F1,hq1,hm1⟩
 have HQ1:=Lib.hid hq1
 have HC1:=Lib.hid (hm1.chg_own HC0.out HQN.out)
 clear hq1 hm1 HQ0 HC0 HQN HW c11
 obtain ⟨c0,-⟩:=HS.out _ HC1.out
 go_wp2_with fail
 have hSS:w1.drew.cell? ⟨s,0,none⟩=some (.int .i64 k):=c0
 refine startN (S:=fun wx=>wx.cell? ⟨s,0,none⟩=some (.int .i64 k)) (by kernel_rfl) hSS (fun hHeld => ?_)
 refine takeN (i:=0) (v:=?va0) rfl (by kernel_rfl) (by kernel_rfl) (by kernel_rfl) (fun _ _ _ h=>h) (Or.inl ⟨by rfl,?ya0⟩) hSS ?ra0
 case ya0=>(intro w hSw;(try dsimp only at hSw);go_simp;first|done|with_reducible rfl)
 try simp only [Act.put,jI,jZ,jS]
 refine takeN (i:=1) (v:=?va1) rfl (by kernel_rfl) (by kernel_rfl) (by kernel_rfl) (fun _ _ _ h=>h) (Or.inl ⟨by rfl,?ya1⟩) hSS ?ra1
 case ya1=>(intro w hSw;(try dsimp only at hSw);go_simp;first|done|with_reducible rfl)
 try simp only [Act.put,jI,jZ,jS]
 refine takeN (i:=2) (v:=?va2) rfl (by kernel_rfl) (by kernel_rfl) (by kernel_rfl) (fun _ _ _ h=>h) (Or.inl ⟨by rfl,?ya2⟩) hSS ?ra2
 case ya2=>(intro w hSw;(try dsimp only at hSw);go_simp;first|done|with_reducible rfl)
 try simp only [Act.put,jI,jZ,jS]
 refine takeN (i:=3) (v:=?va3) rfl (by kernel_rfl) (by kernel_rfl) (by kernel_rfl) (fun _ _ _ h=>h) (Or.inl ⟨by rfl,?ya3⟩) hSS ?ra3
 case ya3=>(intro w hSw;(try dsimp only at hSw);go_simp;first|done|with_reducible rfl)
 try simp only [Act.put,jI,jZ,jS]
 refine takeN (i:=4) (v:=?va4) rfl (by kernel_rfl) (by kernel_rfl) (by kernel_rfl) (fun _ _ _ h=>h) (Or.inl ⟨by rfl,?ya4⟩) hSS ?ra4
 case ya4=>(intro w hSw;(try dsimp only at hSw);go_simp;first|done|with_reducible rfl)
 try simp only [Act.put,jI,jZ,jS]
 refine takeN (i:=5) (v:=?va5) rfl (by kernel_rfl) (by kernel_rfl) (by kernel_rfl) (fun _ _ _ h=>h) (Or.inl ⟨by rfl,?ya5⟩) hSS ?ra5
 case ya5=>(intro w hSw;(try dsimp only at hSw);go_simp;first|done|with_reducible rfl)
 try simp only [Act.put,jI,jZ,jS]
 refine takeN (i:=6) (v:=?va6) rfl (by kernel_rfl) (by kernel_rfl) (by kernel_rfl) (fun _ _ _ h=>h) (Or.inl ⟨by rfl,?ya6⟩) hSS ?ra6
 case ya6=>(intro w hSw;(try dsimp only at hSw);go_simp;first|done|with_reducible rfl)
 try simp only [Act.put,jI,jZ,jS]
 refine readyN (rs:=[7]) (by kernel_rfl) (by simp) (consN rfl (fun K hK => ?_) nilN)
 refine step_callsG (by rfl) 68 _ _ rfl enters_etext _ #[.pointer (some ⟨q,0,none⟩)] (by simp [Act.eval]) (quill_text _ q F1 X (HQ1.out.chg (G:=[]) ((Chg.refl [] _).drew) (by simp))) ?_;rintro e w' ⟨rfl,rfl⟩;refine ⟨_,rfl,?_⟩
 refine hK.out _ _ hSS (fun hHeld => ?_)
 clear hK K hHeld
 try simp only [Act.put,jI,jZ,jS]
 refine readyN (rs:=[8]) (by kernel_rfl) (by simp) (consN rfl (fun K hK => ?_) nilN)
 refine step_callsG (by rfl) 67 _ _ rfl enters_eclose _ #[.int .u8 (kk.toNat:Nat),.string ⟨X.toArray⟩] (by simp [Act.eval]) (HFC.out _) ?_;rintro e w2 ⟨rfl,hc2⟩;refine ⟨_,rfl,?_⟩
 have hS2:w2.cell? ⟨s,0,none⟩=some (.int .i64 k):=hc2.cell hSS (by simp)
 have HC2:=Lib.hid (HC1.out.drew.trans hc2)
 clear hc2
 refine hK.out _ _ hS2 (fun hHeld => ?_)
 clear hK K hHeld
 try simp only [Act.put,jI,jZ,jS]
 refine takeN (i:=9) (v:=?va9) rfl (by kernel_rfl) (by kernel_rfl) (by kernel_rfl) (fun _ _ _ h=>h) (Or.inl ⟨by rfl,?ya9⟩) hS2 ?ra9
 case ya9=>(intro w hSw;(try dsimp only at hSw);go_simp;first|done|with_reducible rfl)
 try simp only [Act.put,jI,jZ,jS]
 refine takeN (i:=10) (v:=?va10) rfl (by kernel_rfl) (by kernel_rfl) (by kernel_rfl) (fun _ _ _ h=>h) (Or.inl ⟨by rfl,?ya10⟩) hS2 ?ra10
 case ya10=>(intro w hSw;(try dsimp only at hSw);go_simp;first|done|with_reducible rfl)
 try simp only [Act.put,jI,jZ,jS]
 refine takeN (i:=11) (v:=?va11) rfl (by kernel_rfl) (by kernel_rfl) (by kernel_rfl) (fun _ _ _ h=>h) (Or.inl ⟨by rfl,?ya11⟩) hS2 ?ra11
 case ya11=>(intro w hSw;(try dsimp only at hSw);go_simp;first|done|with_reducible rfl)
 try simp only [Act.put,jI,jZ,jS]
 refine takeN (i:=12) (v:=?va12) rfl (by kernel_rfl) (by kernel_rfl) (by kernel_rfl) (fun _ _ _ h=>h) (Or.inl ⟨by rfl,?ya12⟩) hS2 ?ra12
 case ya12=>(intro w hSw;(try dsimp only at hSw);go_simp;first|done|with_reducible rfl)
 try simp only [Act.put,jI,jZ,jS]
 refine doneN (by kernel_rfl) ?_ _
 go_wp2_with fail
 go_ret2
 exact ⟨rfl,HC2.out⟩
def HdRr (w:World) (h:Nat) (G:List Nat) (D:HdD):Prop:=∃ p s0 s1 r0 r1,HdS w h p s0 s1 r0 r1 D∧D.ok∧G=fpHd h p s0 s1 r0 r1
theorem HdRr.und:Und HdRr where
 lt:=fun ⟨p,s0,s1,r0,r1,h1,_,h3⟩ b hb=>by subst h3;exact HdS.lt h1 b hb
 chg:=fun ⟨p,s0,s1,r0,r1,h1,h2,h3⟩ k hF=>by subst h3;exact ⟨p,s0,s1,r0,r1,HdS.chg h1 k hF,h2,rfl⟩
def hdOk (c:Cf):Bool:=decide ((1≤c.digits∧c.digits≤4)∧c.limit≤9223372036854775808)
theorem HdD.new_ok {d l:Nat} (h1:1≤d) (h2:d≤4) (h3:l≤9223372036854775808):(HdD.new d l).ok:=by
 have hr:∀ L,RowHd L []:=fun L=>⟨fun j k _ hk=>by simp at hk,by simp,Nat.zero_le _,by simp⟩
 exact ⟨h1,h2,h3,hr _,hr _,by simp [HdD.new,HdD.total,totP],fun _=>⟨rfl,rfl⟩,Int.le_refl _,by show (-9223372036854775808:Int)≤0;omega,by show (0:Int)<9223372036854775808;omega⟩
theorem freshR_hdr (w:World) (ht:Tens4 w) (c:Cf) (hk:c.kind=2) :
 Calls Tryz.prog 66 #[c.val] w fun e w'=>∃ v k,e=.returned (.tuple #[.iface 219 (.agg #[.pointer v]),.int .i64 k])∧FQ HdRr (HdD.new c.digits.toNat c.limit) (hdOk c) w.heap.size v k w'∧Chg [] w w':=
 freshk_hdr w c hk _ (fun u hu=>(hdr_new u (ht.chg hu) c.digits c.limit).mono (by
  rintro e w' (⟨hno,rfl,hc⟩|⟨hy,h,p,s0,s1,rfl,hd,hc,hf⟩)
  ·exact ⟨_,_,rfl,.inl ⟨decide_eq_false hno,by decide⟩,hc⟩
  ·exact ⟨_,_,rfl,.inr ⟨decide_eq_true hy,rfl,h,_,rfl,⟨p,s0,s1,_,_,hd,HdD.new_ok (by omega) (by omega) hy.2,rfl⟩,fun b hb=>Nat.le_trans hu.size (hf b hb)⟩,hc⟩))
theorem HdD.ok.len_le {D:HdD} (h:D.ok):(putHd D).length≤200000:=by
 have ht:=h.tot
 have t1:D.total=totP D.minus+D.zero+totP D.plus:=rfl
 have h2:=h.d2
 have hl:=h.lim
 have f1:=h.minus.few
 have f2:=h.plus.few
 have hlast:=spLast_le (logD_cases h.d1 h.d2)
 have x1:InR D.least:=⟨h.low,by have:=h.le;have:=h.high;omega⟩
 have x2:InR D.most:=⟨by have:=h.le;have:=h.low;omega,h.high⟩
 have e1:=natB_len10 (n:=D.digits) (by omega)
 have e2:=natB_len10 (n:=D.limit) (by omega)
 have e5:=natB_len10 (n:=zig D.least) (by have:=x1.zig;omega)
 have e6:=natB_len10 (n:=zig D.most) (by have:=x2.zig;omega)
 have e7:=natB_len10 (n:=D.zero) (by omega)
 have g1:=putB_lenG D.minus (row_ok (a:=1) (b:=(spLast D.L:Int)) (by omega) (by unfold HdD.L;omega) h.minus.ix (by omega)) (by omega)
 have g2:=putB_lenG D.plus (row_ok (a:=1) (b:=(spLast D.L:Int)) (by omega) (by unfold HdD.L;omega) h.plus.ix (by omega)) (by omega)
 unfold putHd
 simp only [List.length_append]
 omega
def kbHdr (c:Cf) (hk:c.kind=2):Kb c where
 S:=HdD
 P:=Up 219 c HdRr
 sz:=fun _=>0
 init:=HdD.new c.digits.toNat c.limit
 ok:=c.same { Cf.none 2 with digits:=c.digits,limit:=c.limit } && hdOk c
 put:=HdD.put
 putE:=fun D x n=>(D.putE x n:Nat)
 enc:=putHd
 tot:=HdD.total
 kk:=2
 kind:=by rw [hk];rfl
 lt:=fun h=>Up.lt HdRr.und h
 chg:=fun h k hF=>Up.chg HdRr.und h k hF
 sz0:=rfl
 szp:=fun _ _ _=>⟨Nat.zero_le _,Nat.zero_le _⟩
 new:=fun w ht=>new_up HdRr.und w c _ (fun u=>bare_hdr u c hk) (fun u hu=>(freshR_hdr u (ht.chg hu) c hk).mono (by
  rintro e w' ⟨v,k,rfl,hq,hc⟩
  exact ⟨v,k,rfl,hq.mono hu.size,hc⟩))
 putC:=fun {w s F st} h _ x n hx hn=>by
  obtain ⟨p,G,hs,⟨p0,s0,s1,r0,r1,h1,h2,rfl⟩,rfl,hns⟩:=h
  refine kk_put_hdr w s p c hs x n _ ((hd_put w p p0 s0 s1 r0 r1 st h1 h2 x hx n hn).mono ?_)
  rintro e w' ⟨rfl,r0',r1',h1',hm⟩
  have a:HdRr w p (fpHd p p0 s0 s1 r0 r1) st:=⟨p0,s0,s1,r0,r1,h1,h2,rfl⟩
  have b:HdRr w' p (fpHd p p0 s0 s1 r0' r1') (st.put x n):=⟨p0,s0,s1,r0',r1',h1',HdD.put_ok h2 hx n,rfl⟩
  obtain ⟨hU,hM⟩:=Up.mv (R:=HdRr) hs a hns b hm
  exact ⟨_,rfl,rfl,_,hU,hM⟩
 encC:=fun {w s F st} h _=>by
  obtain ⟨p,G,hs,⟨p0,s0,s1,r0,r1,h1,h2,rfl⟩,rfl,hns⟩:=h
  exact sk_enc_hdr w s p c hs 2 (by rw [hk];rfl) (putHd st) (fun u q F hu hq hF=>hd_write u p p0 s0 s1 r0 r1 st (h1.nil hu) h2 q F [] (by simp) hq (fun b hb e=>by have:=hF b hb;have:=h1.lt b e;omega))
 fit:=fun {w s F st} h _=>by
  obtain ⟨p,G,hs,⟨p0,s0,s1,r0,r1,h1,h2,rfl⟩,rfl,hns⟩:=h
  have:=h2.len_le
  omega
 totC:=fun {w s F st} h=>by
  obtain ⟨p,G,hs,⟨p0,s0,s1,r0,r1,h1,h2,rfl⟩,rfl,hns⟩:=h
  exact kk_total_hdr w s p c hs _ (fun u hu=>hd_total u p p0 s0 s1 r0 r1 st (h1.nil hu) _ rfl h2.tot)
 tot0:=by simp [HdD.new,HdD.total,totP]
 reset:=fun {w s F st} h hok ht=>by
  have ho:hdOk c=true:=by
   cases h:hdOk c with
   | true=>rfl
   | false=>rw [h] at hok;simp at hok
  refine reset_up HdRr.und w c s F st h (fun u hu=>(freshR_hdr u (ht.chg hu) c hk).mono ?_)
  rintro e w' ⟨v,k,rfl,hq,hc⟩
  rw [ho] at hq
  exact ⟨v,k,rfl,hq.mono hu.size,hc⟩
set_option maxRecDepth 100000 in
set_option maxHeartbeats 4000000 in
theorem kk_put_green (w:World) (s p:Nat) (c:Cf) (h:Sk w s c 223 p) (x:Int) (n:Nat) (R:Ending→World→Prop)
 (HP0:Calls Tryz.prog 110 #[.pointer (some ⟨p,0,none⟩),.int .i64 x,.int .u64 n] w fun e w'=>∃ k,e=.returned (.int .i64 k)∧R e w') :
 Calls Tryz.prog 21 #[.pointer (some ⟨s,0,none⟩),.int .i64 x,.int .u64 n] w R:=by
 have c11:=h.core
 have HP:=Lib.hid HP0
 clear h HP0
 go_enter Tryz.func21,Tryz.ntmps21
 go_wp2_with fail
 refine HP.out.mono ?_
 rintro e w1 ⟨k,rfl,hR⟩
 have HR:=Lib.hid hR
 clear hR HP
 go_wp2_with fail
 exact HR.out
set_option maxRecDepth 100000 in
set_option maxHeartbeats 4000000 in
theorem kc_total_green (w:World) (p:Nat) (n:Nat)
 (HP0:∀ u,Chg [] w u→Calls Tryz.prog 113 #[.pointer (some ⟨p,0,none⟩)] u fun e w'=>e=.returned (.int .u64 (n:Nat))∧Chg [] u w') :
 Calls Tryz.prog 377 #[.agg #[.pointer (some ⟨p,0,none⟩)]] w fun e w'=>e=.returned (.int .u64 (n:Nat))∧Chg [] w w':=by
 have HP:=Lib.hid HP0
 have HC:=Lib.hid ((Chg.refl [] w).alloc (.cells #[.pointer (some ⟨p,0,none⟩)] 223))
 clear HP0
 go_enter Tryz.func377,Tryz.ntmps377
 go_wp2_with fail
 refine (HP.out _ HC.out).mono ?_
 rintro e w1 ⟨rfl,hc⟩
 have HC1:=Lib.hid (HC.out.trans hc)
 clear hc HP
 go_wp2
 go_ret
 exact ⟨rfl,HC1.out⟩
set_option maxRecDepth 100000 in
set_option maxHeartbeats 4000000 in
theorem kk_total_green (w:World) (s p:Nat) (c:Cf) (h:Sk w s c 223 p) (n:Nat)
 (HP0:∀ u,Chg [] w u→Calls Tryz.prog 113 #[.pointer (some ⟨p,0,none⟩)] u fun e w'=>e=.returned (.int .u64 (n:Nat))∧Chg [] u w') :
 Calls Tryz.prog 20 #[.pointer (some ⟨s,0,none⟩)] w fun e w'=>e=.returned (.int .u64 (n:Nat))∧Chg [] w w':=by
 have c11:=h.core
 have HT:=Lib.hid (kc_total_green w p n HP0)
 clear h HP0
 go_enter Tryz.func20,Tryz.ntmps20
 go_wp2_with fail
 refine HT.out.mono ?_
 rintro e w1 ⟨rfl,hc⟩
 have HC:=Lib.hid hc
 clear hc HT
 go_wp2
 go_ret
 exact ⟨rfl,HC.out⟩
set_option maxRecDepth 100000 in
set_option maxHeartbeats 1000000 in
theorem clone_i (w:World) (ao:Option Addr) (cap n:Nat) (l:List Int) (hrd:Rd w 1 (.slice ao n cap) n (ints l)) (hl:n≤100000000000) :
 Calls Tryz.prog 176 #[.slice ao n cap] w fun e w'=>∃ a3 c3,e=.returned (.slice a3 n c3)∧Own w' 2 1 (.slice a3 n c3) n (ints l)∧Chg [] w w'∧∀ b∈abl a3,w.heap.size≤b:=by
 have hu:∀ (w:World) (a:Option Addr) (n c n' c':Nat),(binOp .eql 100 (.slice a n c) (.slice none n' c')).run Tryz.prog w=.ok (.bool a.isNone) w:=fun w a n c n' c'=>Lib.run_eql_slice_nil w _ _ a n c n' c' under_ints
 cases ao with
 | none =>
   obtain ⟨hx,ao,cp,h0,h1⟩:=hrd
   simp only [Value.slice.injEq] at h0
   obtain ⟨rfl,-,-⟩:=h0
   obtain rfl:n=0:=by
    rcases h1 with h1|⟨_,_,h1,_⟩
    ·exact h1
    ·simp at h1
   have hxl:l=[]:=List.eq_nil_of_length_eq_zero (by simpa using hx)
   subst hxl
   go_enter Tryz.func176,Tryz.ntmps176
   go_wp2
   go_ret
   exact ⟨none,0,rfl,Own.nil _ _ _,Chg.refl _ _,by simp⟩
 | some a =>
   go_enter Tryz.func176,Tryz.ntmps176
   go_wp2_with (at_builtin;go_must (refine wpList_append_src _ rfl (.tmp 5) (.tmp 6) 100 100 rfl 2 _ 1 8 under_ints info_i64 rfl (by decide) (.slice (some ⟨w.heap.size,0,none⟩) 0 0) 0 (ints []) rfl (Own.lit w 2 1 0 #[] rfl (by unfold maxLen;omega)) (.slice (some a) n cap) n (ints l) rfl (Src.of_rd under_ints (hrd.alloc _)) (ints_oneCell _) (by unfold maxLen;omega) (by omega) ?_;intro a5 c5 w2 ho2 hg2 hf2))
   go_ret
   rw [Nat.zero_add] at ho2
   refine ⟨a5,c5,by simp,by simpa [ints] using ho2,((Chg.refl [] w).alloc _).trans' hg2 (by simp),fun b hb => ?_⟩
   rcases hf2 b hb with h|h
   ·simp at h;omega
   ·simp at h;omega
set_option maxRecDepth 100000 in
set_option maxHeartbeats 1000000 in
theorem clone_t (w:World) (ao:Option Addr) (cap n:Nat) (l:List Tp) (hrd:Rd w 3 (.slice ao n cap) n (tpCells l)) (hl:n≤100000000000) :
 Calls Tryz.prog 175 #[.slice ao n cap] w fun e w'=>∃ a3 c3,e=.returned (.slice a3 n c3)∧Own w' 194 3 (.slice a3 n c3) n (tpCells l)∧Chg [] w w'∧∀ b∈abl a3,w.heap.size≤b:=by
 have hu:∀ (w:World) (a:Option Addr) (n c n' c':Nat),(binOp .eql 189 (.slice a n c) (.slice none n' c')).run Tryz.prog w=.ok (.bool a.isNone) w:=fun w a n c n' c'=>Lib.run_eql_slice_nil w _ _ a n c n' c' under_tuples
 cases ao with
 | none =>
   obtain ⟨hx,ao,cp,h0,h1⟩:=hrd
   simp only [Value.slice.injEq] at h0
   obtain ⟨rfl,-,-⟩:=h0
   obtain rfl:n=0:=by
    rcases h1 with h1|⟨_,_,h1,_⟩
    ·exact h1
    ·simp at h1
   have hxl:l=[]:=List.eq_nil_of_length_eq_zero (by rw [tpCells_len] at hx;omega)
   subst hxl
   go_enter Tryz.func175,Tryz.ntmps175
   go_wp2
   go_ret
   exact ⟨none,0,rfl,Own.nil _ _ _,Chg.refl _ _,by simp⟩
 | some a =>
   go_enter Tryz.func175,Tryz.ntmps175
   go_wp2_with (at_builtin;go_must (refine wpList_append_src _ rfl (.tmp 5) (.tmp 6) 189 189 rfl 194 _ 3 24 under_tuples info_tuple rfl (by decide) (.slice (some ⟨w.heap.size,0,none⟩) 0 0) 0 (tpCells []) rfl (Own.lit w 194 3 0 #[] rfl (by unfold maxLen;omega)) (.slice (some a) n cap) n (tpCells l) rfl (Src.of_rd under_tuples (hrd.alloc _)) (tpCells_oneCell _) (by unfold maxLen;omega) (by omega) ?_;intro a5 c5 w2 ho2 hg2 hf2))
   go_ret
   rw [Nat.zero_add] at ho2
   refine ⟨a5,c5,by simp,by simpa [tpCells] using ho2,((Chg.refl [] w).alloc _).trans' hg2 (by simp),fun b hb => ?_⟩
   rcases hf2 b hb with h|h
   ·simp at h;omega
   ·simp at h;omega
set_option maxRecDepth 100000 in
set_option maxHeartbeats 2000000 in
theorem gk_row (w:World) (p:Nat) (rv wv:Value) (D:GkD) (h:Gk w p rv wv D) (n m:Nat) (hn:n=D.row.length) (hm:m=D.waits.length) (hl:n≤3000000000) (hl2:m≤100) :
 Calls Tryz.prog 111 #[.pointer (some ⟨p,0,none⟩)] w fun e w'=>∃ a1 c1 a2 c2,e=.returned (.tuple #[.slice a1 n c1,.slice a2 m c2])∧Own w' 194 3 (.slice a1 n c1) n (tpCells D.row)∧Own w' 2 1 (.slice a2 m c2) m (ints D.waits)∧Chg [] w w'∧(∀ b∈abl a1,w.heap.size≤b)∧∀ b∈abl a2,w.heap.size≤b:=by
 obtain ⟨ro,rc,hrv⟩:=h.row.shape
 obtain ⟨wo,wc,hwv⟩:=h.wait.shape
 subst hrv hwv
 rw [←hn,←hm] at h
 obtain ⟨-,-,c2,c3,-⟩:=h.cells
 have hb:=h.blk
 have HR:=Lib.hid (fun u (hu:Chg [] w u)=>clone_t u ro rc n D.row (by have h1:=(h.chg hu (by simp)).row.rd;rw [←hn] at h1;exact h1) (by omega))
 have HW:=Lib.hid (fun u (hu:Chg [] w u)=>clone_i u wo wc m D.waits (by have h1:=(h.chg hu (by simp)).wait.rd;rw [←hm] at h1;exact h1) (by omega))
 have HC:=Lib.hid (fun u (hu:Chg [] w u)=>show u.cell? ⟨p,2,none⟩=some (.slice ro n rc)∧u.cell? ⟨p,3,none⟩=some (.slice wo m wc) from by
  obtain ⟨-,-,c2,c3,-⟩:=(h.chg hu (by simp)).cells
  exact ⟨c2,c3⟩)
 clear h hb hn hm
 go_enter Tryz.func111,Tryz.ntmps111
 go_wp2_with fail
 go_region_with (first|(go_at_call 175;refine (HR.out _ (by with_reducible (repeat (first|exact Chg.refl _ _|apply Chg.drew)))).mono ?_;rintro e w1 ⟨a1,c1,rfl,ho1,hc1,hf1⟩;(have h1w:Chg [] w w1:=Chg.trans (by with_reducible (repeat (first|exact Chg.refl _ _|apply Chg.drew))) hc1);obtain ⟨q2,q3⟩:=HC.out _ h1w)|(go_at_call 176;refine (HW.out _ (by with_reducible (repeat (first|exact h1w|apply Chg.drew)))).mono ?_;rintro e w2 ⟨a2,c2',rfl,ho2,hc2,hf2⟩))
 all_goals
  go_wp2_with fail
  go_ret2
  exact ⟨a1,c1,a2,c2',rfl,ho1.chg hc2 (by simp),ho2,h1w.trans hc2,hf1,fun b hb=>Nat.le_trans h1w.size (hf2 b hb)⟩
set_option maxRecDepth 100000 in
theorem gk_put_zero (w:World) (p:Nat) (x:Int):Calls Tryz.prog 110 #[.pointer (some ⟨p,0,none⟩),.int .i64 x,.int .u64 0] w fun e w'=>e=.returned (.int .i64 1)∧w=w':=by
 go_enter Tryz.func110,Tryz.ntmps110
 go_wp2
 go_ret
 exact ⟨rfl,rfl⟩
end Go.Proofs.YthoolcpcmhhkpaaGreatDoor
namespace Go.Proofs.YthoolcpcmhhkpaaGreatDoor
def tupB (p:Tp):List UInt8:=natB (zig p.x)++(natB p.st++natB p.sl)
def putGk (D:GkD):List UInt8:=natB D.num++(natB D.den++(natB D.row.length++(D.row.flatMap tupB++(natB D.waits.length++intsB D.waits))))
structure Tp.fit (p:Tp):Prop where
 x:InR p.x
 s1:1≤p.st
 s2:p.st≤9223372036854775807
 sl:p.sl≤9223372036854775807
theorem tupB_len {p:Tp} (h:p.fit):3≤(tupB p).length∧(tupB p).length≤30:=by
 have h1:=natB_len10 (n:=zig p.x) (by have:=h.x.zig;omega)
 have h2:=natB_len10 (n:=p.st) (by have:=h.s2;omega)
 have h3:=natB_len10 (n:=p.sl) (by have:=h.sl;omega)
 have g:∀ n,1≤(natB n).length:=fun n=>by
  rw [natB]
  split<;>simp
 have g1:=g (zig p.x)
 have g2:=g p.st
 have g3:=g p.sl
 unfold tupB
 simp only [List.length_append]
 omega
theorem tupsB_len (l:List Tp) (h:∀ p∈l,p.fit):3*l.length≤(l.flatMap tupB).length∧(l.flatMap tupB).length≤30*l.length:=by
 induction l with
 | nil=>simp
 | cons p l ih =>
   have h1:=ih (fun q hq=>h q (by simp [hq]))
   have h2:=tupB_len (h p (by simp))
   simp only [List.flatMap_cons,List.length_append,List.length_cons] at h1 ⊢
   omega
structure GkD.inr (D:GkD):Prop where
 row:∀ p∈D.row,InR p.x
 waits:∀ x∈D.waits,InR x
theorem sqStep_from {m i:Nat} {r:List Tp} {p:Tp} (hi:i+1<r.length) (hm:p∈sqStep m i r):∃ q∈r,q.x=p.x:=by
 unfold sqStep at hm
 split at hm
 ·simp only [List.mem_append,List.mem_cons,List.not_mem_nil,or_false] at hm
  rcases hm with (hm|rfl)|hm
  ·exact ⟨p,List.mem_of_mem_take hm,rfl⟩
  ·exact ⟨_,getD_memT hi,rfl⟩
  ·exact ⟨p,List.mem_of_mem_drop hm,rfl⟩
 ·exact ⟨p,hm,rfl⟩
theorem sqStep_len2 {m i:Nat} {r:List Tp} (h:i+1<r.length):i<(sqStep m i r).length:=by
 unfold sqStep
 split
 ·simp only [List.length_append,List.length_take,List.length_drop,List.length_cons,List.length_nil]
  omega
 ·omega
theorem sqTo_from {m:Nat}:∀ (i:Nat) (r:List Tp) (p:Tp),(0<i→i+1<r.length)→p∈sqTo m i r→∃ q∈r,q.x=p.x
 | 0,r,p,_,h=>⟨p,h,rfl⟩
 | i+1,r,p,hi,h=>by
   have h1:=hi (by omega)
   obtain ⟨q,hq,e⟩:=sqTo_from i (sqStep m (i+1) r) p (fun h0=>by have:=sqStep_len2 (m:=m) (i:=i+1) h1;omega) h
   obtain ⟨q2,hq2,e2⟩:=sqStep_from h1 hq
   exact ⟨q2,hq2,e2.trans e⟩
theorem sqT_from {m:Nat} {r:List Tp} {p:Tp} (h:p∈sqT m r):∃ q∈r,q.x=p.x:=sqTo_from _ r p (fun _=>by omega) h
theorem ins1_from {r:List Tp} {x:Int} {p:Tp} (h:p∈ins1 r x):p.x=x∨∃ q∈r,q.x=p.x:=by
 unfold ins1 insT at h
 simp only [List.mem_append,List.mem_cons,List.not_mem_nil,or_false] at h
 rcases h with (h|rfl)|h
 ·exact .inr ⟨p,List.mem_of_mem_take h,rfl⟩
 ·exact .inl rfl
 ·exact .inr ⟨p,List.mem_of_mem_drop h,rfl⟩
theorem insAll_inr:∀ (ws:List Int) {r:List Tp},(∀ p∈r,InR p.x)→(∀ x∈ws,InR x)→∀ p∈insAll r ws,InR p.x
 | [],_,h,_=>h
 | x::ws,r,h,hw=>insAll_inr ws (r:=ins1 r x) (fun p hp=>by
    rcases ins1_from hp with e|⟨q,hq,e⟩
    ·rw [e];exact hw x (by simp)
    ·rw [←e];exact h q hq) (fun y hy=>hw y (by simp [hy]))
theorem sortL_memG (l:List Int) (x:Int):x∈sortL l↔x∈l:=by
 have h1:=GkD.upC_sort l
 have key:∀ (a:List Int),x∈a↔upC a (x-1)<upC a x:=fun a=>by
  induction a with
  | nil=>simp [upC]
  | cons y a ih =>
    have e:∀ z,upC (y::a) z=(if y≤z then 1 else 0)+upC a z:=fun z=>by
     unfold upC
     rw [List.countP_cons]
     simp only [decide_eq_true_eq]
     omega
    have hmono:upC a (x-1)≤upC a x:=by
     unfold upC
     apply List.countP_mono_left
     intro z _ hz
     simp only [decide_eq_true_eq] at hz ⊢
     omega
    rw [e,e,List.mem_cons,ih]
    constructor
    ·rintro (rfl|h)
     ·rw [if_neg (by omega),if_pos (by omega)];omega
     ·by_cases c:y≤x-1
      ·rw [if_pos c,if_pos (by omega)];omega
      ·rw [if_neg c];omega
    ·intro h
     by_cases c:y=x
     ·exact .inl c.symm
     ·right
      by_cases c2:y≤x-1
      ·rw [if_pos c2,if_pos (by omega)] at h;omega
      ·rw [if_neg c2,if_neg (by omega)] at h;omega
 rw [key,key,h1,h1]
namespace GkD.inr
variable {D O:GkD}
theorem flush (h:D.inr):D.flush.inr:=by
 unfold GkD.flush
 split
 ·exact h
 ·refine ⟨fun p hp => ?_,by simp⟩
  obtain ⟨q,hq,e⟩:=sqT_from hp
  rw [←e]
  exact insAll_inr _ h.row (fun x hx=>h.waits x ((sortL_memG _ x).1 hx)) q hq
theorem put1 (h:D.inr) {x:Int} (hx:InR x):(D.put1 x).inr:=by
 have hw:(D.wait x).inr:=⟨h.row,fun y hy=>by
  rcases List.mem_append.1 hy with hy|hy
  ·exact h.waits y hy
  ·rw [List.mem_singleton.1 hy];exact hx⟩
 unfold GkD.put1
 split
 ·exact hw.flush
 ·exact hw
theorem putN (h:D.inr) {x:Int} (hx:InR x) (k:Nat):(D.putN x k).inr:=by
 induction k with
 | zero=>exact h
 | succ k ih=>exact put1 ih hx
theorem new (num den:Nat):(GkD.new num den).inr:=⟨by simp [GkD.new],by simp [GkD.new]⟩
end GkD.inr
theorem limG_le {num den n:Nat} (hg:goodK num den=true) (hn:1≤n):limG num den n≤n:=by
 have h:=of_decide_eq_true hg
 have h1:2*num≤den:=by omega
 have h2:2*num*n / den≤n:=by
  apply Nat.div_le_of_le_mul
  exact Nat.mul_le_mul_right n h1
 unfold limG
 omega
theorem GkD.ok.fit {D:GkD} (h:D.ok) (hr:D.inr) (hg:goodK D.num D.den=true) (hn:D.total≤9223372036854775807):∀ p∈D.row,p.fit∧p.st+p.sl≤D.total:=fun p hp=>by
 have h0:1≤D.vals.length:=Nat.le_trans (by cases hd:D.row with|nil=>rw [hd] at hp;simp at hp|cons a l=>simp) h.len
 have h1:=h.tight p hp
 have h2:=limG_le hg h0
 have h3:=h.fine.pos p hp
 have h4:D.total=D.vals.length+D.waits.length:=rfl
 exact ⟨⟨hr.row p hp,h3,by omega,by omega⟩,by omega⟩
theorem natB_len3 {n:Nat} (h:n≤2000000):(natB n).length≤3:=natB_len 2 n (by omega)
theorem putGk_len {D:GkD} (h:D.ok) (hr:D.inr) (hg:goodK D.num D.den=true) (hn:D.total≤16000):(putGk D).length≤260000:=by
 have hgd:=of_decide_eq_true hg
 have hf:=h.fit hr hg (by omega)
 have hl:=h.len
 have hw:=h.few
 have ht:D.total=D.vals.length+D.waits.length:=rfl
 have e1:=natB_len10 (n:=D.num) (by omega)
 have e2:=natB_len10 (n:=D.den) (by omega)
 have e3:=natB_len10 (n:=D.row.length) (by omega)
 have e4:=natB_len10 (n:=D.waits.length) (by omega)
 have e5:=intsB_len D.waits hr.waits
 have e6:∀ (l:List Tp),(∀ p∈l,p.fit∧p.st+p.sl≤D.total)→(l.flatMap tupB).length≤16*l.length:=fun l hl=>by
  induction l with
  | nil=>simp
  | cons p l ih =>
    have h1:=ih (fun q hq=>hl q (by simp [hq]))
    obtain ⟨h2,h3⟩:=hl p (by simp)
    have g1:=natB_len10 (n:=zig p.x) (by have:=h2.x.zig;omega)
    have g2:=natB_len3 (n:=p.st) (by omega)
    have g3:=natB_len3 (n:=p.sl) (by omega)
    simp only [List.flatMap_cons,List.length_append,List.length_cons,tupB] at h1 ⊢
    omega
 have e7:=e6 D.row hf
 unfold putGk
 simp only [List.length_append]
 omega
structure GkR where
 num:Nat
 den:Nat
 row:Option (List Tp)
 waits:List Int
def GkD.told (D:GkD):GkR:=⟨D.num,D.den,some D.row,D.waits⟩
end Go.Proofs.YthoolcpcmhhkpaaGreatDoor
namespace Go.Proofs.YthoolcpcmhhkpaaGreatDoor
open Go.RowKit
end Go.Proofs.YthoolcpcmhhkpaaGreatDoor
namespace Go.Proofs.YthoolcpcmhhkpaaGreatDoor
namespace GkD
def ends (D:GkD):List Int:=if D.row=[] then D.waits else D.waits++[(D.row.getD 0 default).x,(D.row.getD (D.row.length-1) default).x]
end GkD
end Go.Proofs.YthoolcpcmhhkpaaGreatDoor
namespace Go.Proofs.YthoolcpcmhhkpaaGreatDoor
open Go.RowKit
set_option maxRecDepth 100000 in
theorem gk_part (w:World) (p:Nat) (rv wv:Value) (D:GkD) (h:Gk w p rv wv D) :
 Calls Tryz.prog 380 #[.pointer (some ⟨p,0,none⟩)] w fun e w'=>e=.returned (.agg #[.int .u64 (D.num:Nat),.int .u64 (D.den:Nat)])∧Chg [] w w':=by
 obtain ⟨c0,c1,-,-,-⟩:=(h.chg ((Chg.refl [] w).alloc (.cells #[.int .u64 0,.int .u64 0] 25)) (by simp)).cells
 have hb:=Blk.alloc_new w #[.int .u64 0,.int .u64 0] 25
 have z0:=hb.cell 0
 have z1:=hb.cell 1
 have f0:=hb.free 0
 have f1:=hb.free 1
 go_enter Tryz.func380,Tryz.ntmps380
 go_wp2
 have hb2:=Blk.alloc_new w #[.int .u64 (D.num:Nat),.int .u64 (D.den:Nat)] 25
 have y0:=hb2.cell 0
 have y1:=hb2.cell 1
 refine bodyPost_ret (v:=.agg #[.int .u64 (D.num:Nat),.int .u64 (D.den:Nat)]) (by simp [results,Tryz.results380,go_sem,y0,y1]) rfl ⟨rfl,?_⟩
 with_reducible (repeat (first|exact Chg.refl _ _|apply Chg.alloc))
end Go.Proofs.YthoolcpcmhhkpaaGreatDoor
