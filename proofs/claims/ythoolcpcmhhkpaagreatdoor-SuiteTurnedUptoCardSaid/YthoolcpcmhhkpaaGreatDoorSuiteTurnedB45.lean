/-
  Parts of a proof, pressed. Conditions: the form's own reach.
-/
import Derived.Test.YthoolcpcmhhkpaaGreatDoorSuiteTurnedB6
import Derived.Test.YthoolcpcmhhkpaaGreatDoorSuiteTurnedB43
import Derived.Test.YthoolcpcmhhkpaaGreatDoorSuiteTurnedB44
import Derived.Test.YthoolcpcmhhkpaaGreatDoorSuiteTurnedB17
import Derived.Test.YthoolcpcmhhkpaaGreatDoorSuiteTurnedB7
import Derived.Test.YthoolcpcmhhkpaaGreatDoorSuiteTurnedB22
import Derived.Test.YthoolcpcmhhkpaaGreatDoorSuiteTurnedB28
import Derived.Test.YthoolcpcmhhkpaaGreatDoorSuiteTurnedB42
import Derived.Test.YthoolcpcmhhkpaaGreatDoorSuiteTurnedB4
import Derived.Test.YthoolcpcmhhkpaaGreatDoorSuiteTurnedB5
import Derived.Test.YthoolcpcmhhkpaaGreatDoorSuiteTurnedB3
import Derived.Test.YthoolcpcmhhkpaaGreatDoorSuiteTurnedB20
import Derived.Lib.SmallJoins
namespace Go.Proofs.YthoolcpcmhhkpaaGreatDoor
open Go.RowKit
def GkD.putE (n:Nat):Nat:=if n=0 then 1 else if 1024<n then 3 else 0
def GkD.putV (D:GkD) (x:Int) (n:Nat):GkD:=if GkD.putE n=0 then D.putN x n else D
def GkRk (num den:Nat) (w:World) (p:Nat) (G:List Nat) (D:GkD):Prop:=∃ rv wv,Gk w p rv wv D∧D.ok∧D.inr∧goodK num den=true∧(D.num=num∧D.den=den)∧G=fpK p rv wv
theorem GkRk.und (num den:Nat):Und (GkRk num den) where
 lt:=fun ⟨rv,wv,h1,_,_,_,_,h6⟩ b hb=>by subst h6;exact Gk.lt h1 b hb
 chg:=fun ⟨rv,wv,h1,h2,h3,h4,h5,h6⟩ k hF=>by subst h6;exact ⟨rv,wv,Gk.chg h1 k hF,h2,h3,h4,h5,rfl⟩
set_option maxRecDepth 100000 in
theorem gk_put_longN (w:World) (p:Nat) (x:Int) (n:Nat) (hn:1024<n):Calls Tryz.prog 110 #[.pointer (some ⟨p,0,none⟩),.int .i64 x,.int .u64 (n:Nat)] w fun e w'=>e=.returned (.int .i64 3)∧w=w':=by
 have d0:((n:Int)==0)=false:=by rw [beq_eq_false_iff_ne];omega
 have d0':(n==0)=false:=by rw [beq_eq_false_iff_ne];omega
 have d1:decide ((1024:Int)<(n:Int))=true:=decide_eq_true (by omega)
 have d1':decide (1024<n)=true:=decide_eq_true hn
 clear hn
 go_enter Tryz.func110,Tryz.ntmps110
 go_wp2
 go_ret
 exact ⟨rfl,rfl⟩
theorem gkR_put (num den:Nat) (w:World) (p:Nat) (G:List Nat) (D:GkD) (h:GkRk num den w p G D) (hs:D.total≤2000000000) (x:Int) (hx:InR x) (n:Nat) :
 Calls Tryz.prog 110 #[.pointer (some ⟨p,0,none⟩),.int .i64 x,.int .u64 (n:Nat)] w fun e w'=>e=.returned (.int .i64 (GkD.putE n:Nat))∧∃ G',GkRk num den w' p G' (D.putV x n)∧Mv G w G' w':=by
 obtain ⟨rv,wv,h1,h2,h3,h4,h5,rfl⟩:=h
 unfold GkD.putV
 by_cases h0:n=0
 ·subst h0
  refine (gk_put_zero w p x).mono ?_
  rintro e w' ⟨rfl,rfl⟩
  exact ⟨rfl,_,⟨rv,wv,h1,h2,h3,h4,h5,rfl⟩,Mv.of_chg (Chg.refl _ _)⟩
 ·by_cases hf:1024<n
  ·have hE:GkD.putE n=3:=by unfold GkD.putE;rw [if_neg h0,if_pos hf]
   rw [hE,if_neg (by decide)]
   refine (gk_put_longN w p x n hf).mono ?_
   rintro e w' ⟨rfl,rfl⟩
   exact ⟨rfl,_,⟨rv,wv,h1,h2,h3,h4,h5,rfl⟩,Mv.of_chg (Chg.refl _ _)⟩
  ·have hE:GkD.putE n=0:=by unfold GkD.putE;rw [if_neg h0,if_neg hf]
   rw [hE,if_pos rfl]
   refine (gk_put w p rv wv D h1 h2 (by rw [h5.1,h5.2];exact h4) x n (by omega) (by omega) (by omega)).mono ?_
   rintro e w' ⟨rfl,rv',wv',ht,hm⟩
   obtain ⟨e1,e2,-⟩:=D.putN_same x n
   exact ⟨rfl,_,⟨rv',wv',ht,GkD.putN_ok h2 x n,h3.putN hx n,h4,⟨by rw [e1];exact h5.1,by rw [e2];exact h5.2⟩,rfl⟩,hm⟩
theorem freshR_green (w:World) (c:Cf) (hk:c.kind=4) :
 Calls Tryz.prog 66 #[c.val] w fun e w'=>∃ v k,e=.returned (.tuple #[.iface 223 (.agg #[.pointer v]),.int .i64 k])∧FQ (GkRk c.num c.den) (GkD.new c.num c.den) (goodK c.num c.den) w.heap.size v k w'∧Chg [] w w':=
 freshk_green w c hk _ (fun u hu=>by
  cases hg:goodK c.num c.den with
  | false =>
    refine (gk_new_bad u c.num c.den hg).mono ?_
    rintro e w' ⟨rfl,hc⟩
    exact ⟨_,_,rfl,.inl ⟨rfl,by decide⟩,hc⟩
  | true =>
    refine (gk_new u c.num c.den hg).mono ?_
    rintro e w' ⟨p,rfl,ht,hc,hp⟩
    refine ⟨_,_,rfl,.inr ⟨rfl,rfl,p,_,rfl,⟨_,_,ht,GkD.new_ok _ _,GkD.inr.new _ _,hg,⟨rfl,rfl⟩,rfl⟩,fun b hb => ?_⟩,hc⟩
    simp only [fpK,blkOf_none,List.mem_cons,List.append_nil,List.not_mem_nil,or_false] at hb
    have:=hu.size
    omega)
def kbGreen (c:Cf) (hk:c.kind=4):Kb c where
 S:=GkD
 P:=Up 223 c (GkRk c.num c.den)
 sz:=GkD.total
 init:=GkD.new c.num c.den
 ok:=c.same { Cf.none 4 with num:=c.num,den:=c.den } && goodK c.num c.den
 put:=GkD.putV
 putE:=fun _ _ n=>(GkD.putE n:Nat)
 enc:=putGk
 tot:=GkD.total
 kk:=4
 kind:=by rw [hk];rfl
 lt:=fun h=>Up.lt (GkRk.und _ _) h
 chg:=fun h k hF=>Up.chg (GkRk.und _ _) h k hF
 sz0:=rfl
 szp:=fun D x n=>by
  show (D.putV x n).total≤_∧(D.putV x n).total≤_
  unfold GkD.putV
  split
  ·rename_i he
   have h2:=(D.putN_same x n).2.2
   unfold GkD.putE at he
   rw [h2]
   refine ⟨Nat.le_refl _,?_⟩
   by_cases h0:n=0
   ·omega
   ·rw [if_neg h0] at he
    by_cases h1:1024<n
    ·rw [if_pos h1] at he;exact absurd he (by decide)
    ·omega
  ·omega
 new:=fun w _=>new_up (GkRk.und _ _) w c _ (fun u=>bare_green u c hk) (fun u hu=>(freshR_green u c hk).mono (by
  rintro e w' ⟨v,k,rfl,hq,hc⟩
  exact ⟨v,k,rfl,hq.mono hu.size,hc⟩))
 putC:=fun {w s F st} h hs x n hx hn=>by
  obtain ⟨p,G,hsk,hr,rfl,hns⟩:=h
  refine kk_put_green w s p c hsk x n _ ((gkR_put _ _ w p G st hr hs x hx n).mono ?_)
  rintro e w' ⟨rfl,G',hr',hm⟩
  obtain ⟨hU,hM⟩:=Up.mv hsk hr hns hr' hm
  exact ⟨_,rfl,rfl,_,hU,hM⟩
 encC:=fun {w s F st} h hs=>by
  obtain ⟨p,G,hsk,⟨rv,wv,h1,h2,h3,h4,h5,rfl⟩,rfl,hns⟩:=h
  exact sk_enc_green w s p c hsk 4 (by rw [hk];rfl) (putGk st) (fun u q F hu hq hF=>gk_write u p rv wv st (h1.chg hu (by simp)) h2 h3 (by rw [h5.1,h5.2];exact h4) hs q F [] (by simp) hq)
 fit:=fun {w s F st} h hs=>by
  obtain ⟨p,G,hsk,⟨rv,wv,h1,h2,h3,h4,h5,rfl⟩,rfl,hns⟩:=h
  have:=putGk_len h2 h3 (by rw [h5.1,h5.2];exact h4) hs
  omega
 totC:=fun {w s F st} h=>by
  obtain ⟨p,G,hsk,⟨rv,wv,h1,h2,h3,h4,h5,rfl⟩,rfl,hns⟩:=h
  exact kk_total_green w s p c hsk _ (fun u hu=>(gk_total u p rv wv st (h1.chg hu (by simp))).mono (by rintro e w' ⟨rfl,rfl⟩;exact ⟨rfl,Chg.refl _ _⟩))
 tot0:=rfl
 reset:=fun {w s F st} h hok _=>by
  have ho:goodK c.num c.den=true:=by
   cases h:goodK c.num c.den with
   | true=>rfl
   | false=>rw [h] at hok;simp at hok
  refine reset_up (GkRk.und _ _) w c s F st h (fun u hu=>(freshR_green u c hk).mono ?_)
  rintro e w' ⟨v,k,rfl,hq,hc⟩
  rw [ho] at hq
  exact ⟨v,k,rfl,hq.mono hu.size,hc⟩
def refBit (b:Nat):Nat→Nat→Nat
 | 0,c=>c
 | i+1,c=>if b / 2^i % 2≠refBit b i c % 2 then (refBit b i c / 2) ^^^ 3988292384 else refBit b i c / 2
theorem refBit_eq (b c i:Nat):crcTN i (c ^^^ b)=refBit b i c ^^^ b / 2^i:=by
 induction i with
 | zero=>simp [crcTN,refBit]
 | succ i ih =>
   rw [crcTN,ih,crcT,refBit]
   have hm:=@Nat.xor_mod_two_eq_one (refBit b i c) (b / 2^i)
   have hd:(refBit b i c ^^^ b / 2^i) / 2=refBit b i c / 2 ^^^ b / 2^i / 2:=Nat.xor_div_two
   rw [hd,Nat.pow_succ,←Nat.div_div_eq_div_mul]
   generalize refBit b i c=r at *
   generalize b / 2^i=y at *
   by_cases h:(r ^^^ y) % 2=1
   ·rw [if_pos h,if_pos (by rw [hm] at h;omega),Nat.xor_assoc,Nat.xor_assoc,Nat.xor_comm (y / 2)]
   ·rw [if_neg h,if_neg (by rw [hm] at h;omega)]
theorem refBit_8 (b:UInt8) (c:Nat):refBit b.toNat 8 c=crcStep c b:=by
 have h:=refBit_eq b.toNat c 8
 have hb:=b.toNat_lt
 rw [show b.toNat / 2^8=0 from Nat.div_eq_of_lt hb,Nat.xor_zero] at h
 rw [crcStep,h]
theorem refBit_lt (b c i:Nat) (h:c<4294967296):refBit b i c<4294967296:=by
 induction i with
 | zero=>exact h
 | succ i ih =>
   rw [refBit]
   split
   ·exact Nat.xor_lt_two_pow (n:=32) (by omega) (by omega)
   ·omega
theorem bit_bne (u i r:Nat) (hu:u<256):((((u:Int) % 4294967296) / 2^i).tmod 2 != (r:Int) % 2)=decide (u / 2^i % 2≠r % 2):=by
 have h1:(u:Int) % 4294967296=(u:Int):=by omega
 have h2:(u:Int) / 2^i=((u / 2^i:Nat):Int):=by simp
 rw [h1,h2]
 generalize u / 2^i=y
 rw [Int.tmod_eq_emod_of_nonneg (by omega),Bool.eq_iff_iff]
 simp only [bne_iff_ne,decide_eq_true_eq]
 omega
set_option maxRecDepth 100000 in
set_option maxHeartbeats 1000000 in
theorem ref_sum (w:World) (s:List UInt8) (hs:s.length≤70368744177664) :
 Calls Tryz.prog 65 #[.string ⟨s.toArray⟩] w fun e w'=>e=.returned (.int .u32 (crcSum s:Nat))∧w=w':=by
 go_enter Tryz.func65,Tryz.ntmps65
 go_wp2
 go_loopw [3,4] (fun c i wx=>∃ k,k≤s.length∧i=.int .i64 (k:Nat)∧c=.int .u32 (crcOf 4294967295 (s.take k):Nat)∧w=wx) (fun _ i _=>s.length-(intOf i).toNat)
 case atStart=>exact ⟨0,by omega,rfl,rfl,rfl⟩
 case round =>
  obtain ⟨k,hk,rfl,rfl,rfl⟩:=hrel
  have hcl:=crcOf_lt (c:=4294967295) (by omega) (s.take k)
  by_cases hlt:k<s.length
  ·have HS:=Lib.hid (crcOf_take_succ 4294967295 s k hlt)
   have H8:=Lib.hid (refBit_8 s[k] (crcOf 4294967295 (s.take k)))
   generalize crcOf 4294967295 (s.take k)=c at *
   have HB:=Lib.hid (s[k].toNat_lt)
   go_wp2
   go_loopw [3,5] (fun c' j wx=>∃ i,i≤8∧j=.int .i64 (i:Nat)∧c'=.int .u32 (refBit s[k].toNat i c:Nat)∧w=wx) (fun _ j _=>8-(intOf j).toNat)
   case atStart=>exact ⟨0,by omega,rfl,rfl,rfl⟩
   case round =>
    obtain ⟨i,hi,rfl,rfl,rfl⟩:=hrel
    by_cases h8:i<8
    ·have hrl:=refBit_lt s[k].toNat c i hcl
     have hstep:refBit s[k].toNat (i+1) c=if s[k].toNat / 2^i % 2≠refBit s[k].toNat i c % 2 then (refBit s[k].toNat i c / 2) ^^^ 3988292384 else refBit s[k].toNat i c / 2:=rfl
     obtain ⟨nx,hnx⟩:∃ nx,nx=refBit s[k].toNat (i+1) c:=⟨_,rfl⟩
     rw [←hnx] at hstep
     have HN:=Lib.hid hnx
     clear hnx
     generalize refBit s[k].toNat i c=r at *
     have hbb:=bit_bne s[k].toNat i r HB.out
     by_cases hq:s[k].toNat / 2^i % 2≠r % 2
     ·rw [if_pos hq] at hstep
      rw [decide_eq_true hq] at hbb
      have hx:bits .xor .u32 ((r:Int) / 2) 3988292384=(nx:Int):=by
       have:=u32_xor_nat (r / 2) 3988292384 (by omega) (by omega)
       rw [hstep]
       simpa using this
      clear hq hstep
      go_wp2
      exact ⟨⟨i+1,by omega,by go_num,by rw [HN.out],trivial⟩,by simp [intOf];omega⟩
     ·rw [if_neg hq] at hstep
      rw [decide_eq_false hq] at hbb
      have hx:(r:Int) / 2=(nx:Int):=by rw [hstep];simp
      clear hq hstep
      go_wp2
      exact ⟨⟨i+1,by omega,by go_num,by rw [HN.out],trivial⟩,by simp [intOf];omega⟩
    ·obtain rfl:i=8:=by omega
     go_wp2
     exact ⟨⟨k+1,by omega,by go_num,by rw [HS.out,←H8.out],trivial⟩,by simp [intOf];omega⟩
  ·obtain rfl:k=s.length:=by omega
   rw [List.take_length] at hcl ⊢
   have hn:(4294967295:Int)-(crcOf 4294967295 s:Nat)=((crcSum s:Nat):Int):=by rw [crcSum];omega
   generalize crcOf 4294967295 s=c at *
   go_wp2
   go_ret
   exact ⟨rfl,rfl⟩
theorem one_byte_at (wx:World) (n:Nat) (k:UInt8) (h:wx.cell? ⟨n,0,none⟩=some (.int .u8 (k.toNat:Nat))) :
 (convert 37 9 (.slice (some ⟨n,0,none⟩) 1 1)).run Tryz.prog wx=.ok (.string ⟨[k].toArray⟩) wx:=by
 refine run_string_rd (P:=Tryz.prog) (dst:=9) (n:=1) under_bytes under_u8 under_string ⟨rfl,_,_,rfl,.inr ⟨_,_,rfl,fun j hj => ?_⟩⟩
 obtain rfl:j=0:=by omega
 rw [Nat.zero_add,h]
 rfl
theorem ref_nat_e' (w:World) (x:Int) (n:Nat) (hn:n<18446744073709551616) (hx:x=(n:Int)) :
 Calls Tryz.prog 64 #[.int .u64 x] w fun e w'=>e=.returned (.string ⟨(natB n).toArray⟩)∧Chg [] w w':=by
 subst hx
 exact ref_nat w n hn
set_option maxRecDepth 100000 in
set_option maxHeartbeats 200000 in
theorem ref_close (w:World) (k:UInt8) (t:List UInt8) (ht:t.length≤1000000) :
 Calls Tryz.prog 16 #[.int .u8 (k.toNat:Nat),.string ⟨t.toArray⟩] w fun e w'=>e=.returned (.string ⟨(closeB k t).toArray⟩)∧Chg [] w w':=by
 have HT:=Lib.hid (show t.length<18446744073709551616 by omega)
 have HW:=Lib.hid (show IntKind.u64.wrap (t.length:Int)=(t.length:Int) from IntWalk.u64_in _ (by omega))
 have HN:=Lib.hid (natB_len10 (n:=t.length) (by omega))
 go_enter Tryz.func16,Tryz.ntmps16
 have hgl:=HN.out
 have hj:ByteArray.mk #[79,71,1]++ByteArray.mk #[k]=ByteArray.mk [79,71,1,k].toArray:=rfl
 have f1:¬9223372036854775807<4+(natB t.length).length:=by omega
 have f2:¬9223372036854775807 < [79,71,1,k].length+(natB t.length).length:=by simp;omega
 have f3:¬9223372036854775807<4+(natB t.length).length+t.length:=by omega
 have f4:¬9223372036854775807 < [79,71,1,k].length+(natB t.length).length+t.length:=by simp;omega
 have hcv:=fun wx:World=>run_one_byte wx _ k rfl
 have hcvD:∀ wx:World,(convert 37 9 (.slice (some ⟨wx.heap.size,0,none⟩) 1 1)).run Tryz.prog (wx.alloc (.cells #[.int .u8 (k.toNat:Nat)] 5)).drew=.ok (.string ⟨[k].toArray⟩) (wx.alloc (.cells #[.int .u8 (k.toNat:Nat)] 5)).drew:=fun wx =>
  one_byte_at _ _ k (Blk.drew (Blk.alloc_new wx #[.int .u8 (k.toNat:Nat)] 5) |>.cell 0)
 go_wp2_with fail
 go_cut [5] (fun x wx=>x=.string ⟨(headF k t).toArray⟩∧Chg [] w wx)
 case first =>
  go_region_with (first|(go_at_call 64;refine (ref_nat_e' _ _ t.length HT.out HW.out).mono ?_;rintro e w' ⟨rfl,hc1⟩;(first|(have hcC:=one_byte_at w' w.heap.size k (hc1.cell (show _=some _ from (Blk.drew (Blk.alloc_new w #[.int .u8 (k.toNat:Nat)] 5)).cell 0) (by simp)))|skip)))
  all_goals
   go_wp2_with fail
   go_meet
   exact ⟨by simp [headF,markB,ByteArray.mk_append_mk],by with_reducible (repeat (first|exact Chg.refl _ _|assumption|apply Chg.drew|apply Chg.alloc|refine Chg.trans ?_ (by assumption)))⟩
 case rest =>
  obtain ⟨rfl,hc1⟩:=hcut
  have hlH:(headF k t).length≤2000000:=by rw [headF_len];omega
  have HCL:=Lib.hid (show closeB k t=headF k t++fourB (crcSum (headF k t)) from rfl)
  clear f1 f2 f3 f4 hcv hcvD hgl hj
  generalize headF k t=H at *
  go_wp2_with fail
  refine (ref_sum wc H (by omega)).mono ?_
  rintro e w2 ⟨rfl,rfl⟩
  have hlt:=crcSum_lt H
  have h0:=u8_of1 (crcSum H)
  have h1:IntKind.u8.wrap ((crcSum H:Int) / 256)=_:=u8_of (crcSum H) 256
  have h2:IntKind.u8.wrap ((crcSum H:Int) / 65536)=_:=u8_of (crcSum H) 65536
  have h3:IntKind.u8.wrap ((crcSum H:Int) / 16777216)=_:=u8_of (crcSum H) 16777216
  rw [fourB] at HCL
  generalize crcSum H=c at *
  generalize UInt8.ofNat (c % 256)=b0 at *
  generalize UInt8.ofNat (c / 256 % 256)=b1 at *
  generalize UInt8.ofNat (c / 65536 % 256)=b2 at *
  generalize UInt8.ofNat (c / 16777216 % 256)=b3 at *
  have k0:(c:Int) % 256=(b0.toNat:Int):=by simpa [IntKind.wrap,IntKind.bits,IntKind.signed] using h0
  have k1:(c:Int) / 256 % 256=(b1.toNat:Int):=by simpa [IntKind.wrap,IntKind.bits,IntKind.signed] using h1
  have k2:(c:Int) / 65536 % 256=(b2.toNat:Int):=by simpa [IntKind.wrap,IntKind.bits,IntKind.signed] using h2
  have hr:=Rd.lit wc #[.int .u8 b0.toNat,.int .u8 b1.toNat,.int .u8 b2.toNat,.int .u8 b3.toNat] 5 1 4 4 (by simp)
  have hcv:=run_string_rd (P:=Tryz.prog) (dst:=9) under_bytes under_u8 under_string (l:=[b0,b1,b2,b3]) (by simpa [u8s] using hr)
  go_wp2
  go_ret
  exact ⟨by rw [HCL.out];simp [ByteArray.mk_append_mk],hc1.alloc _⟩
def alC:Cf:={ Cf.none 6 with most:=2 }
theorem al_put:LmD.putV ⟨2,[]⟩ 1 1=⟨2,[⟨1,1,1⟩]⟩:=by
 unfold LmD.putV
 rw [if_pos (by rfl)]
 unfold LmD.put
 have e:layL [] ⟨1,1,1⟩=[⟨1,1,1⟩]:=rfl
 simp only [e]
 rw [pressL_few (by simp)]
theorem al_enc:putLm 2 [⟨1,1,1⟩]=[2,1,2,2,1]:=by
 have z:zig 1=2:=by decide
 simp [putLm,lumpB,z,natB_lt]
set_option maxRecDepth 100000 in
set_option maxHeartbeats 2000000 in
theorem alive_K (w:World) (ht:Tens4 w) (K:Kb alC) (hok:K.ok=true) (hp:K.putE K.init 1 1=0) (hto:K.tot (K.put K.init 1 1)=1) (hen:K.enc (K.put K.init 1 1)=[2,1,2,2,1]) (hkk:K.kk=6) :
 Calls Tryz.prog 9 #[] w fun e w'=>e=.returned (.bool true)∧Chg [] w w':=by
 have HN:=Lib.hid (K.new w ht)
 rw [hok] at HN
 simp only [alC,Cf.val,Cf.cells,Cf.none] at HN
 have HPU:=Lib.hid (fun u s F (h:K.P u s F K.init)=>K.putC h (by rw [K.sz0];omega) 1 1 ⟨by omega,by omega⟩ (by omega))
 rw [hp] at HPU
 have hsz:K.sz (K.put K.init 1 1)≤40000:=by have:=(K.szp K.init 1 1).1;rw [K.sz0] at this;omega
 have HEN:=Lib.hid (fun u s F (h:K.P u s F (K.put K.init 1 1))=>K.encC h hsz)
 rw [hen,hkk] at HEN
 have e1:encS 6 [2,1,2,2,1]=closeB 6 [2,1,2,2,1]:=by unfold encS;rw [if_pos (by simp)]
 have e2:encE [2,1,2,2,1]=0:=by unfold encE;rw [if_pos (by simp)]
 rw [e1,e2] at HEN
 have HRC:=Lib.hid (fun u=>ref_close u 6 [2,1,2,2,1] (by simp))
 have HTO:=Lib.hid (fun u s F (h:K.P u s F (K.put K.init 1 1))=>K.totC h)
 rw [hto] at HTO
 generalize closeB 6 [2,1,2,2,1]=C at *
 generalize K.put K.init 1 1=st at *
 clear hok hp hto hen hkk hsz e1 e2 ht
 go_enter Tryz.func9,Tryz.ntmps9
 go_wp2_with fail
 refine HN.out.mono ?_
 rintro e w1 (⟨h,-⟩|⟨-,s,F,rfl,hP,hc1,hF⟩)
 ·exact absurd h (by decide)
 have HP:=Lib.hid hP
 have HF:=Lib.hid (And.intro hF hc1)
 clear hP hc1 hF HN
 go_wp2_with fail
 refine (HPU.out _ _ _ HP.out).mono ?_
 rintro e w2 ⟨rfl,F2,hP2,hm2⟩
 have HP2:=Lib.hid hP2
 have HC2:=Lib.hid (HF.out.2.trans' hm2.chg (fun b hb=>.inr (HF.out.1 b hb)))
 clear hP2 hm2 HPU
 go_wp2_with fail
 refine (HEN.out _ _ _ HP2.out).mono ?_
 rintro e w3 ⟨rfl,hc3⟩
 have HC3:=Lib.hid (HC2.out.trans hc3)
 have HP3:=Lib.hid (K.chg HP2.out hc3 (by simp))
 clear hc3 HEN
 go_wp2_with fail
 refine (HTO.out _ _ _ HP3.out).mono ?_
 rintro e w4 ⟨rfl,hc4⟩
 have HC4:=Lib.hid (HC3.out.trans hc4)
 clear hc4 HTO
 go_wp2_with fail
 refine (show Calls Tryz.prog 16 #[.int .u8 6,.string ⟨#[2,1,2,2,1]⟩] w4 _ from HRC.out w4).mono ?_
 rintro e w5 ⟨rfl,hc5⟩
 have HC5:=Lib.hid (HC4.out.trans hc5)
 clear hc5 HRC
 go_wp2
 go_ret
 exact ⟨by simp,HC5.out⟩
theorem law23_alive (w:World) (ht:Tens4 w):Calls Tryz.prog 9 #[] w fun e w'=>e=.returned (.bool true)∧Chg [] w w':=by
 refine alive_K w ht (kbLump alC rfl) ?_ ?_ ?_ ?_ rfl
 ·rfl
 ·rfl
 ·show totL (LmD.putV ⟨2,[]⟩ 1 1).l=1
  rw [al_put]
  rfl
 ·show putLm (LmD.putV ⟨2,[]⟩ 1 1).most (LmD.putV ⟨2,[]⟩ 1 1).l=_
  rw [al_put]
  exact al_enc
theorem kinds (c:Cf) (hw:c.word<18446744073709551616):Nonempty (Kb c)∨NoKind c.kind:=by
 by_cases h1:c.kind=1
 ·exact .inl ⟨kbLog c h1⟩
 by_cases h2:c.kind=2
 ·exact .inl ⟨kbHdr c h2⟩
 by_cases h3:c.kind=3
 ·exact .inl ⟨kbDig c h3⟩
 by_cases h4:c.kind=4
 ·exact .inl ⟨kbGreen c h4⟩
 by_cases h5:c.kind=5
 ·exact .inl ⟨kbReq c h5 hw⟩
 by_cases h6:c.kind=6
 ·exact .inl ⟨kbLump c h6⟩
 exact .inr ⟨h1,h2,h3,h4,h5,h6⟩
set_option maxRecDepth 100000 in
set_option maxHeartbeats 2000000 in
theorem law23_build_none (w:World) (c:Cf) (hk:NoKind c.kind) (v:Value) :
 Calls Tryz.prog 10 #[c.val,v] w fun e w'=>e=.returned (.tuple #[.pointer none,.bool false])∧Chg [] w w':=by
 have HN:=Lib.hid (fun u=>suite_newU u c _ (fun u=>bare_other u c hk) (fun u=>fresh_other u c hk))
 simp only [Cf.val,Cf.cells] at HN ⊢
 have HC0:=Lib.hid ((Chg.refl [] w).alloc (.cells #[.int .i64 c.kind,.int .u64 c.num,.int .u64 c.den,.int .i64 c.side,.int .i64 c.most,.int .i64 c.digits,.int .u64 c.limit,.int .i64 c.depth,.int .i64 c.factor,.int .i64 c.width,.int .u64 c.word] 28))
 clear hk
 go_enter Tryz.func10,Tryz.ntmps10
 go_wp2_with fail
 generalize w.alloc (.cells #[.int .i64 c.kind,.int .u64 c.num,.int .u64 c.den,.int .i64 c.side,.int .i64 c.most,.int .i64 c.digits,.int .u64 c.limit,.int .i64 c.depth,.int .i64 c.factor,.int .i64 c.width,.int .u64 c.word] 28)=w0 at *
 refine (HN.out _).mono ?_
 rintro e w1 ⟨rfl,hc⟩
 have HC:=Lib.hid (HC0.out.trans hc)
 clear hc HN
 go_wp2
 go_ret2
 exact ⟨rfl,HC.out⟩
end Go.Proofs.YthoolcpcmhhkpaaGreatDoor
namespace Go.Proofs.YthoolcpcmhhkpaaGreatDoor
open Go.RowKit
theorem cut_eq (c n:Nat) (hc:c<18446744073709551616) (hn:0<n) (hn2:n<9223372036854775808):IntKind.i64.wrap (Int.tmod (c:Int) (n:Int))=((c % n:Nat):Int):=by
 rw [Int.tmod_eq_emod_of_nonneg (by omega),←Int.natCast_emod]
 exact IntWalk.i64_in _ (by have:=Nat.mod_lt c hn;omega)
theorem cut_u (x:Int) (n:Nat) (hn:0<n) (hn2:n<9223372036854775808):IntKind.i64.wrap (Int.tmod (IntKind.u64.wrap x) (n:Int))=(((x % 18446744073709551616).toNat % n:Nat):Int):=by
 have h:IntKind.u64.wrap x=(((x % 18446744073709551616).toNat:Nat):Int):=by
  simp [IntKind.wrap,IntKind.bits,IntKind.signed]
  omega
 rw [h]
 exact cut_eq _ _ (by omega) hn hn2
theorem openF_cut (k:UInt8) (t:List UInt8) (c:Nat) (h:c<(closeB k t).length):openF ((closeB k t).take c)=none:=by
 cases h2:openF ((closeB k t).take c) with
 | none=>rfl
 | some p =>
   obtain ⟨k',t'⟩:=p
   obtain ⟨h3,_⟩:=openF_sound h2
   have h4:closeB k t++[]=closeB k' t'++(closeB k t).drop c:=by rw [←h3,List.take_append_drop,List.append_nil]
   obtain ⟨_,_,h5⟩:=closeB_free h4
   have:=congrArg List.length h5
   simp at this
   omega
theorem openF_more (k:UInt8) (t m:List UInt8) (h:m≠[]):openF (closeB k t++m)=none:=by
 cases h2:openF (closeB k t++m) with
 | none=>rfl
 | some p =>
   obtain ⟨k',t'⟩:=p
   obtain ⟨h3,_⟩:=openF_sound h2
   obtain ⟨_,_,h5⟩:=closeB_free (x':=[]) (h3.trans (List.append_nil _).symm)
   exact absurd h5 h
attribute [local go_sem] ByteArray.extract_mk
end Go.Proofs.YthoolcpcmhhkpaaGreatDoor
namespace Go.Proofs.YthoolcpcmhhkpaaGreatDoor
open Go.RowKit
def turnTo (C:List UInt8) (c turn i:Nat):List UInt8:=(List.range i).foldl (fun l j=>l.set (c+j) (l.getD (c+j) 0 ^^^ UInt8.ofNat (turn / 2^(8*j) % 256))) C
theorem turnTo_succ (C:List UInt8) (c turn i:Nat):turnTo C c turn (i+1)=(turnTo C c turn i).set (c+i) ((turnTo C c turn i).getD (c+i) 0 ^^^ UInt8.ofNat (turn / 2^(8*i) % 256)):=by
 simp [turnTo,List.range_succ]
theorem turnTo_len (C:List UInt8) (c turn i:Nat):(turnTo C c turn i).length=C.length:=by
 induction i with
 | zero=>rfl
 | succ i ih=>rw [turnTo_succ,List.length_set,ih]
theorem turnTo_four (p r:List UInt8) (a b c d:UInt8) (turn:Nat):turnTo (p++[a,b,c,d]++r) p.length turn 4 =
 p++[a ^^^ UInt8.ofNat (turn / 2^0 % 256),b ^^^ UInt8.ofNat (turn / 2^8 % 256),c ^^^ UInt8.ofNat (turn / 2^16 % 256),d ^^^ UInt8.ofNat (turn / 2^24 % 256)]++r:=by
 simp [turnTo,List.range_succ,List.getD]
theorem four_of (C:List UInt8) (c:Nat) (h:c+4≤C.length):∃ p a b x y r,C=p++[a,b,x,y]++r∧p.length=c:=by
 have e:=(List.take_append_drop c C).symm
 have hl:4≤(C.drop c).length:=by rw [List.length_drop];omega
 match hd:C.drop c,hl with
 | a::b::x::y::r,_ =>
   refine ⟨C.take c,a,b,x,y,r,?_,by rw [List.length_take];omega⟩
   rw [hd] at e
   exact e.trans (by simp)
theorem xor_same {a b:UInt8} (h:a=a ^^^ b):b=0:=by
 have h2:a.toNat=(a ^^^ b).toNat:=congrArg UInt8.toNat h
 rw [UInt8.toNat_xor] at h2
 have h3:a.toNat ^^^ 0=a.toNat ^^^ b.toNat:=by rw [Nat.xor_zero];exact h2
 exact UInt8.toNat_inj.1 (xor_cancel_left h3).symm
theorem openF_turned (k:UInt8) (t:List UInt8) (c turn:Nat) (hc:c+4≤(closeB k t).length) (ht:turn<4294967296) (h0:turn≠0):openF (turnTo (closeB k t) c turn 4)=none:=by
 cases h2:openF (turnTo (closeB k t) c turn 4) with
 | none=>rfl
 | some q =>
   obtain ⟨k',t'⟩:=q
   obtain ⟨h3,_⟩:=openF_sound h2
   have e1:crcOf 4294967295 (closeB k t)=crcTN 32 4294967295:=crc_residue _
   have e2:crcOf 4294967295 (turnTo (closeB k t) c turn 4)=crcTN 32 4294967295:=by rw [h3];exact crc_residue _
   obtain ⟨p,a,b,x,y,r,hC,rfl⟩:=four_of _ c hc
   rw [hC] at e1 e2
   rw [turnTo_four] at e2
   obtain ⟨q1,q2,q3,q4⟩:=crc_burst 4294967295 (by omega) p r _ _ _ _ _ _ _ _ (e1.trans e2.symm)
   have z1:=congrArg UInt8.toNat (xor_same q1)
   have z2:=congrArg UInt8.toNat (xor_same q2)
   have z3:=congrArg UInt8.toNat (xor_same q3)
   have z4:=congrArg UInt8.toNat (xor_same q4)
   rw [toNat_ofNat (by omega)] at z1 z2 z3 z4
   simp at z1 z2 z3 z4
   omega
def Bys (w:World) (g:Nat) (l:List UInt8) (z:Nat):Prop:=∃ cs,w.heap[g]? = some (.cells cs 5 (z,z+1))∧l.length≤z∧∀ j (h:j<l.length),cs[j]? = some (.int .u8 (l[j].toNat:Nat))
theorem Bys.cell {w:World} {g z:Nat} {l:List UInt8} (h:Bys w g l z) (j:Nat) (hj:j<l.length):w.cell? ⟨g,j,none⟩=some (.int .u8 (l[j].toNat:Nat)):=by
 obtain ⟨cs,h1,_,h3⟩:=h
 rw [cell_of_row w g j cs _ _ h1,h3 j hj]
theorem Bys.free {w:World} {g z:Nat} {l:List UInt8} (h:Bys w g l z) (j:Nat) (hj:j<l.length):w.frozen? ⟨g,j,none⟩=false:=by
 obtain ⟨cs,h1,h2,_⟩:=h
 simp [World.frozen?,h1]
 omega
theorem Bys.chg {w w1:World} {g z:Nat} {l:List UInt8} {F:List Nat} (h:Bys w g l z) (k:Chg F w w1) (hn:g∉F):Bys w1 g l z:=by
 obtain ⟨cs,h1,h2,h3⟩:=h
 exact ⟨cs,k.heap h1 hn,h2,h3⟩
theorem Bys.set {w:World} {g z:Nat} {l:List UInt8} (h:Bys w g l z) (j:Nat) (b:UInt8) (hj:j<l.length):Bys (w.setCell ⟨g,j,none⟩ (.int .u8 (b.toNat:Nat))) g (l.set j b) z:=by
 obtain ⟨cs,h1,h2,h3⟩:=h
 refine ⟨cs.setIfInBounds j (.int .u8 (b.toNat:Nat)),?_,by rw [List.length_set];exact h2,?_⟩
 ·have hlt:=lt_of_block h1
  simp only [World.setCell,Array.getElem?_modify,if_true,h1,Option.map_some]
  rfl
 ·intro i hi
  rw [List.length_set] at hi
  have hs:j<cs.size:=(Array.getElem?_eq_some_iff.1 (h3 j hj)).1
  by_cases hij:j=i
  ·subst hij
   simp [hs]
  ·simp [hij,h3 i hi]
theorem Bys.rd {w:World} {g z:Nat} {l:List UInt8} (h:Bys w g l z) (cap n:Nat) (hn:n=l.length):Rd w 1 (.slice (some ⟨g,0,none⟩) n cap) n (u8s l):=by
 subst hn
 refine ⟨by simp,_,_,rfl,.inr ⟨_,_,rfl,fun j hj => ?_⟩⟩
 rw [Nat.zero_add,h.cell j (by omega)]
 have hjl:j<l.length:=by omega
 simp [u8s,hjl]
theorem bytes_of (w:World) (C:List UInt8):∃ cap w3 z,(convert 9 37 (.string ⟨C.toArray⟩)).run Tryz.prog w=.ok (.slice (some ⟨w.heap.size,0,none⟩) C.length cap) w3∧Bys w3 w.heap.size C z∧Chg [] w w3:=by
 have h:=run_bytes_of_string (P:=Tryz.prog) w 9 37 5 ⟨C.toArray⟩ under_string under_bytes under_u8
 have hsz:(ByteArray.mk C.toArray).size=C.length:=by simp [ByteArray.size]
 rw [hsz] at h
 refine ⟨_,_,_,h,⟨_,heap_alloc_new w.drew _,by simp [bytesRow,hsz],fun j hj => ?_⟩,(Chg.drew (Chg.refl [] w)).alloc _⟩
 rw [bytesRow,Array.getElem?_append_left (by simpa using hj)]
 simp [hj]
set_option maxRecDepth 100000 in
set_option maxHeartbeats 4000000 in
theorem decode_none (w:World) (b:List UInt8) (hb:b.length≤1000000) (ho:openF b=none) :
 Calls Tryz.prog 13 #[.string ⟨b.toArray⟩] w fun e w'=>e=.returned (.tuple #[.pointer none,.int .i64 4])∧Chg [] w w':=by
 have HO:=Lib.hid (show ∀ u,Calls Tryz.prog 32 #[.string ⟨b.toArray⟩] u fun e w'=>e=.returned (.tuple #[.int .u8 0,.string ⟨#[]⟩,.int .i64 4])∧Chg [] u w' from fun u=>by have:=frame_open u b hb;rw [ho] at this;exact this)
 clear ho hb
 go_enter Tryz.func13,Tryz.ntmps13
 go_wp2_with fail
 refine (HO.out w).mono ?_
 rintro e w1 ⟨rfl,hc⟩
 have HC:=Lib.hid hc
 clear hc HO
 go_wp2
 go_ret2
 exact ⟨rfl,HC.out⟩
end Go.Proofs.YthoolcpcmhhkpaaGreatDoor
namespace Go.Proofs.YthoolcpcmhhkpaaGreatDoor
open Go.ChangeShapes Go.WideShapes Go.ChangeAt Go.RowKit
structure Cf.okR (c:Cf):Prop where
 kind:-9223372036854775808≤c.kind∧c.kind<9223372036854775808
 num:c.num<18446744073709551616
 den:c.den<18446744073709551616
 side:-9223372036854775808≤c.side∧c.side<9223372036854775808
 most:-9223372036854775808≤c.most∧c.most<9223372036854775808
 digits:-9223372036854775808≤c.digits∧c.digits<9223372036854775808
 limit:c.limit<18446744073709551616
 depth:-9223372036854775808≤c.depth∧c.depth<9223372036854775808
 factor:-9223372036854775808≤c.factor∧c.factor<9223372036854775808
 width:-9223372036854775808≤c.width∧c.width<9223372036854775808
 word:c.word<18446744073709551616
theorem cells_scfg:Tryz.prog.cellsOf 28=11:=by kernel_rfl
theorem cells_ratio0:Tryz.prog.cellsOf 25=2:=by kernel_rfl
theorem cells_kind0:Tryz.prog.cellsOf 22=1:=by kernel_rfl
theorem cells_side0:Tryz.prog.cellsOf 26=1:=by kernel_rfl
theorem cells_int0:Tryz.prog.cellsOf 3=1:=by kernel_rfl
theorem cells_u64_0:Tryz.prog.cellsOf 23=1:=by kernel_rfl
theorem list11 {α:Type} {l:List α} (h:l.length=11):∃ a b c d e f g i j k m,l=[a,b,c,d,e,f,g,i,j,k,m]:=by
 match l,h with
 | [a,b,c,d,e,f,g,i,j,k,m],_=>exact ⟨a,b,c,d,e,f,g,i,j,k,m,rfl⟩
section
variable {H:Type} {enc:TypeId × Value→H} {W:World}
set_option maxRecDepth 100000 in
theorem scfg_openL {cs:List Value} (hl:cs.length=11) {fuel:Nat} {y:DataW H × List MemPlace} (hf:DataW.trod enc Tryz.prog W 0 (fun _=>true) true fuel 28 cs=some y):∃ c:Cf,cs=c.cells.toList∧c.okR:=by
 obtain ⟨c0,c1,c2,c3,c4,c5,c6,c7,c8,c9,c10,rfl⟩:=list11 hl
 obtain ⟨xs,m,_,_,_,hlen,hel⟩:=DataW.trod_struct Tryz.underlying28 hf
 have h0:=hel 0 _ rfl
 have h1:=hel 1 _ rfl
 have h2:=hel 2 _ rfl
 have h3:=hel 3 _ rfl
 have h4:=hel 4 _ rfl
 have h5:=hel 5 _ rfl
 have h6:=hel 6 _ rfl
 have h7:=hel 7 _ rfl
 have h8:=hel 8 _ rfl
 have h9:=hel 9 _ rfl
 clear hel
 have hx:∀ k,k<10→∃ z,xs[k]? = some z:=fun k hk=>⟨xs[k]'(by rw [hlen];exact hk),List.getElem?_eq_getElem _⟩
 obtain ⟨y0,e0⟩:=hx 0 (by omega)
 obtain ⟨y1,e1⟩:=hx 1 (by omega)
 obtain ⟨y2,e2⟩:=hx 2 (by omega)
 obtain ⟨y3,e3⟩:=hx 3 (by omega)
 obtain ⟨y4,e4⟩:=hx 4 (by omega)
 obtain ⟨y5,e5⟩:=hx 5 (by omega)
 obtain ⟨y6,e6⟩:=hx 6 (by omega)
 obtain ⟨y7,e7⟩:=hx 7 (by omega)
 obtain ⟨y8,e8⟩:=hx 8 (by omega)
 obtain ⟨y9,e9⟩:=hx 9 (by omega)
 rw [e0] at h0
 rw [e1] at h1
 rw [e2] at h2
 rw [e3] at h3
 rw [e4] at h4
 rw [e5] at h5
 rw [e6] at h6
 rw [e7] at h7
 rw [e8] at h8
 rw [e9] at h9
 simp only [List.getElem_toArray,List.getElem_cons_zero,List.getElem_cons_succ] at h0 h1 h2 h3 h4 h5 h6 h7 h8 h9
 simp only [cells_kind0,cells_ratio0,cells_side0,cells_int0,cells_u64_0,List.drop_zero,List.drop_succ_cons,List.take_succ_cons,List.take_zero] at h0 h1 h2 h3 h4 h5 h6 h7 h8 h9
 obtain ⟨n0,f0,_,w0⟩:=DataW.trod_int Tryz.underlying22 h0
 obtain ⟨z0,z1,m',_,_,k0,k1⟩:=trod_struct2 Tryz.underlying25 h1
 simp only [cells_u64_0,List.drop_zero,List.drop_succ_cons,List.take_succ_cons,List.take_zero] at k0 k1
 obtain ⟨n1,f1,_,w1⟩:=DataW.trod_int Tryz.underlying23 k0
 obtain ⟨n2,f2,_,w2⟩:=DataW.trod_int Tryz.underlying23 k1
 obtain ⟨n3,f3,_,w3⟩:=DataW.trod_int Tryz.underlying26 h2
 obtain ⟨n4,f4,_,w4⟩:=DataW.trod_int Tryz.underlying3 h3
 obtain ⟨n5,f5,_,w5⟩:=DataW.trod_int Tryz.underlying3 h4
 obtain ⟨n6,f6,_,w6⟩:=DataW.trod_int Tryz.underlying23 h5
 obtain ⟨n7,f7,_,w7⟩:=DataW.trod_int Tryz.underlying3 h6
 obtain ⟨n8,f8,_,w8⟩:=DataW.trod_int Tryz.underlying3 h7
 obtain ⟨n9,f9,_,w9⟩:=DataW.trod_int Tryz.underlying3 h8
 obtain ⟨n10,f10,_,w10⟩:=DataW.trod_int Tryz.underlying23 h9
 simp only [List.cons.injEq,and_true] at f0 f1 f2 f3 f4 f5 f6 f7 f8 f9 f10
 have r0:=i64_range w0
 have r1:=u64_range w1
 have r2:=u64_range w2
 have r3:=i64_range w3
 have r4:=i64_range w4
 have r5:=i64_range w5
 have r6:=u64_range w6
 have r7:=i64_range w7
 have r8:=i64_range w8
 have r9:=i64_range w9
 have r10:=u64_range w10
 obtain ⟨n1,rfl⟩:=Int.eq_ofNat_of_zero_le r1.1
 obtain ⟨n2,rfl⟩:=Int.eq_ofNat_of_zero_le r2.1
 obtain ⟨n6,rfl⟩:=Int.eq_ofNat_of_zero_le r6.1
 obtain ⟨n10,rfl⟩:=Int.eq_ofNat_of_zero_le r10.1
 refine ⟨⟨n0,n1,n2,n3,n4,n5,n6,n7,n8,n9,n10⟩,?_,⟨r0,by simp only;omega,by simp only;omega,r3,r4,r5,by simp only;omega,r7,r8,r9,by simp only;omega⟩⟩
 rw [f0,f1,f2,f3,f4,f5,f6,f7,f8,f9,f10]
 rfl
set_option maxRecDepth 100000 in
theorem scfg_open {v:Value} {d:DataW H} {ps:List MemPlace} {r:Reach} {b0:Nat} (hval:Value.okWide Tryz.prog W r b0 28 v)
 (hd:DataW.Trod enc Tryz.prog W 0 (fun _=>true) true 28 v d ps):∃ c:Cf,v=c.val∧c.okR:=by
 obtain ⟨cs,rfl,hsz⟩:=okWide_struct Tryz.underlying28 hval
 obtain ⟨fuel,hf⟩:=hd
 obtain ⟨c,h1,h2⟩:=scfg_openL (cs:=cs.toList) (by rw [Array.length_toList,hsz];exact cells_scfg) (by simpa [Value.cells] using hf)
 refine ⟨c,?_,h2⟩
 rw [Cf.val,Array.ext' h1]
end
end Go.Proofs.YthoolcpcmhhkpaaGreatDoor
