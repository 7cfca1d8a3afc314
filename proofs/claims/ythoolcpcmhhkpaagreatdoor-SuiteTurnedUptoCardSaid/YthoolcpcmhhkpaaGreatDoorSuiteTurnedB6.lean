/-
  Parts of a proof, pressed. Conditions: the form's own reach.
-/
import Derived.Test.YthoolcpcmhhkpaaGreatDoorSuiteTurnedB5
import Derived.Test.YthoolcpcmhhkpaaGreatDoorSuiteTurnedB2
import Derived.Test.YthoolcpcmhhkpaaGreatDoorSuiteTurnedB1
import Derived.Test.YthoolcpcmhhkpaaGreatDoorSuiteTurnedB4
import Derived.OwnWalk
import Derived.Test.YthoolcpcmhhkpaaGreatDoorSuiteTurnedB3
import Derived.Test.YthoolcpcmhhkpaaGreatDoorProg
import Derived.Shelf.Abstract
namespace Go.Proofs.YthoolcpcmhhkpaaGreatDoor
open Go.RowKit
theorem eNat_some (most:Nat) (l:List UInt8):eNat most (some l)=match leb 0 l with
 | some (v,r)=>if v≤most then (v,some r) else (0,none)
 | none=>(0,none):=rfl
theorem new_quill (w:World):Qul (w.alloc (.cells #[.slice none 0 0] 120)) w.heap.size [w.heap.size] []:=⟨none,0,rfl,Blk.alloc_new _ _ _,Own.nil _ _ _⟩
instance:Inhabited Pr:=⟨⟨0,0⟩⟩
def gapN (p q:Int):Nat:=((p-q-1) % 18446744073709551616).toNat
theorem gapN_lt (p q:Int):gapN p q<18446744073709551616:=by unfold gapN;omega
def pairB (l:List Pr) (k:Nat):List UInt8:=(if k=0 then natB (zig (l.getD k default).i) else natB (gapN (l.getD k default).i (l.getD (k-1) default).i))++natB (l.getD k default).c
def bodyTo (l:List Pr) (k:Nat):List UInt8:=((List.range k).map (pairB l)).flatten
def putB (l:List Pr):List UInt8:=natB l.length++bodyTo l l.length
theorem bodyTo_succ (l:List Pr) (k:Nat):bodyTo l (k+1)=bodyTo l k++pairB l k:=by
 simp [bodyTo,List.range_succ]
theorem pairB_len (l:List Pr) (hok:∀ p∈l,p.ok) (k:Nat) (h:k<l.length):(pairB l k).length≤20:=by
 have hg:l.getD k default=l[k]:=by simp [List.getD,h]
 have hp:=hok l[k] (List.getElem_mem _)
 unfold pairB
 rw [hg,List.length_append]
 have h1:=natB_len10 (n:=l[k].c) (by have:=hp.2.2;omega)
 split
 ·have:=natB_len10 (zig_lt hp.1 hp.2.1);omega
 ·have:=natB_len10 (n:=gapN l[k].i (l.getD (k-1) default).i) (by have:=gapN_lt l[k].i (l.getD (k-1) default).i;omega)
  omega
theorem bodyTo_len (l:List Pr) (hok:∀ p∈l,p.ok) (k:Nat) (h:k≤l.length):(bodyTo l k).length≤20*k:=by
 induction k with
 | zero=>simp [bodyTo]
 | succ k ih =>
   have:=ih (by omega)
   have:=pairB_len l hok k (by omega)
   rw [bodyTo_succ,List.length_append]
   omega
theorem pair_eq {α β:Type} {x:α × β} {b:β} (h:x.2=b):x=(x.1,b):=by subst h;rfl
theorem eNat_sound {most v:Nat} {l r:List UInt8} (h:eNat most (some l)=(v,some r)):l=natB v++r∧v≤most∧v<2^64:=by
 rw [eNat_some] at h
 split at h
 ·next v' r' hl =>
  split at h
  ·next hv =>
   simp only [Prod.mk.injEq,Option.some.injEq] at h
   obtain ⟨rfl,rfl⟩:=h
   obtain ⟨h1,h2,_⟩:=leb_sound l 0 v' r' (by omega) hl
   exact ⟨h1,hv,by simpa using h2⟩
  ·simp at h
 ·simp at h
end Go.Proofs.YthoolcpcmhhkpaaGreatDoor
namespace Go.Proofs.YthoolcpcmhhkpaaGreatDoor
theorem xor_up (a m:Nat) (h:a<256):a ^^^ 256*m=a+256*m:=by
 have h1:=@Nat.xor_mod_two_pow a (256*m) 8
 have h2:=@Nat.xor_div_two_pow a (256*m) 8
 simp only [show (2:Nat)^8=256 from rfl] at h1 h2
 rw [Nat.mul_mod_right,Nat.xor_zero,Nat.mod_eq_of_lt h] at h1
 rw [Nat.mul_div_cancel_left _ (by omega:0<256),Nat.div_eq_of_lt h,Nat.zero_xor] at h2
 omega
theorem word4_eq (a b c d:UInt8):word4 a b c d=a.toNat+256*b.toNat+65536*c.toNat+16777216*d.toNat:=by
 have ha:=a.toNat_lt
 have hb:=b.toNat_lt
 have hc:=c.toNat_lt
 have sh:∀ x y:Nat,256*x ^^^ 256*y=256*(x ^^^ y):=fun x y=>by
  have h1:=@Nat.xor_mod_two_pow (256*x) (256*y) 8
  have h2:=@Nat.xor_div_two_pow (256*x) (256*y) 8
  simp only [show (2:Nat)^8=256 from rfl] at h1 h2
  rw [Nat.mul_mod_right,Nat.mul_mod_right,Nat.xor_self] at h1
  rw [Nat.mul_div_cancel_left _ (by omega:0<256),Nat.mul_div_cancel_left _ (by omega:0<256)] at h2
  omega
 have e:word4 a b c d=a.toNat ^^^ 256*(b.toNat ^^^ 256*(c.toNat ^^^ 256*d.toNat)):=by
  unfold word4
  rw [show 65536*c.toNat=256*(256*c.toNat) from by omega,show 16777216*d.toNat=256*(256*(256*d.toNat)) from by omega,sh,sh,sh]
 rw [e,xor_up _ _ hc,xor_up _ _ hb,xor_up _ _ ha]
 omega
theorem word4_four {x:Nat} (h:x<4294967296):word4 (UInt8.ofNat (x % 256)) (UInt8.ofNat (x / 256 % 256)) (UInt8.ofNat (x / 65536 % 256)) (UInt8.ofNat (x / 16777216 % 256))=x:=by
 rw [word4_eq,toNat_ofNat (by omega),toNat_ofNat (by omega),toNat_ofNat (by omega),toNat_ofNat (by omega)]
 omega
theorem word4_inj {a b c d a' b' c' d':UInt8} (h:word4 a b c d=word4 a' b' c' d'):a=a'∧b=b'∧c=c'∧d=d':=by
 rw [word4_eq,word4_eq] at h
 have:=a.toNat_lt;have:=b.toNat_lt;have:=c.toNat_lt;have:=d.toNat_lt
 have:=a'.toNat_lt;have:=b'.toNat_lt;have:=c'.toNat_lt;have:=d'.toNat_lt
 exact ⟨UInt8.toNat_inj.1 (by omega),UInt8.toNat_inj.1 (by omega),UInt8.toNat_inj.1 (by omega),UInt8.toNat_inj.1 (by omega)⟩
theorem crc_residue (x:List UInt8):crcOf 4294967295 (x++fourB (crcSum x))=crcTN 32 4294967295:=by
 rw [crcOf_append,fourB,crcOf_four,word4_four (crcSum_lt x),crcSum,xor_ones32 _ (crcOf_lt (by omega) x)]
theorem crc_burst (s:Nat) (hs:s<4294967296) (p r:List UInt8) (a b c d a' b' c' d':UInt8) (h:crcOf s (p++[a,b,c,d]++r)=crcOf s (p++[a',b',c',d']++r)):a=a'∧b=b'∧c=c'∧d=d':=by
 rw [crcOf_append,crcOf_append,crcOf_append,crcOf_append] at h
 have h1:=crcOf_lt hs p
 have lt4:∀ l,crcOf (crcOf s p) l<4294967296:=fun l=>crcOf_lt h1 l
 have h2:=crcOf_inj (lt4 _) (lt4 _) r h
 rw [crcOf_four,crcOf_four] at h2
 have wl:∀ a b c d:UInt8,word4 a b c d<4294967296:=fun a b c d=>by
  rw [word4_eq]
  have:=a.toNat_lt;have:=b.toNat_lt;have:=c.toNat_lt;have:=d.toNat_lt
  omega
 exact word4_inj (xor_cancel_left (crcTN_inj (Nat.xor_lt_two_pow (n:=32) h1 (wl ..)) (Nat.xor_lt_two_pow (n:=32) h1 (wl ..)) h2))
def markB:List UInt8:=[79,71,1]
def headF (k:UInt8) (t:List UInt8):List UInt8:=markB++[k]++natB t.length++t
def closeB (k:UInt8) (t:List UInt8):List UInt8:=headF k t++fourB (crcSum (headF k t))
def openF (s:List UInt8):Option (UInt8 × List UInt8):=
 let a:=eRaw 3 (some s)
 if a.1≠markB then none
 else
  let b:=eRaw 1 a.2
  let n:=eNat 262144 b.2
  let t:=eRaw n.1 n.2
  let u:=eRaw 4 t.2
  if u.2=some []∧fourB (crcSum (s.take (s.length-4)))=u.1 then some (b.1.headD 0,t.1) else none
theorem eRaw_sound {n:Int} {st:Option (List UInt8)} {x r:List UInt8} (h:eRaw n st=(x,some r)):st=some (x++r)∧0≤n∧x.length=n.toNat:=by
 cases st with
 | none=>simp [eRaw] at h
 | some l =>
   simp only [eRaw] at h
   split at h
   ·next hn =>
    simp only [Prod.mk.injEq,Option.some.injEq] at h
    obtain ⟨rfl,rfl⟩:=h
    exact ⟨by rw [List.take_append_drop],hn.1,by rw [List.length_take];omega⟩
   ·simp at h
theorem headF_len (k:UInt8) (t:List UInt8):(headF k t).length=4+(natB t.length).length+t.length:=by
 simp [headF,markB]
 omega
theorem closeB_len (k:UInt8) (t:List UInt8):(closeB k t).length=8+(natB t.length).length+t.length:=by
 rw [closeB,List.length_append,headF_len]
 simp [fourB]
 omega
theorem openF_sound {s:List UInt8} {k:UInt8} {t:List UInt8} (h:openF s=some (k,t)):s=closeB k t∧t.length≤262144:=by
 unfold openF at h
 simp only at h
 split at h
 ·simp at h
 ·next h1 =>
  split at h
  ·next h2 =>
   obtain ⟨h2,h3⟩:=h2
   simp only [Option.some.injEq,Prod.mk.injEq] at h
   obtain ⟨hk,ht⟩:=h
   obtain ⟨q5,_,l5⟩:=eRaw_sound (pair_eq h2)
   obtain ⟨q4,_,l4⟩:=eRaw_sound (pair_eq q5)
   cases hb:(eRaw 1 (eRaw 3 (some s)).2).2 with
   | none=>rw [hb] at q4;simp [eNat] at q4
   | some s2 =>
     have q3:=pair_eq q4
     rw [hb] at q3 q4 l4 ht h3 l5
     obtain ⟨q3,n3,_⟩:=eNat_sound q3
     obtain ⟨q2,_,l2⟩:=eRaw_sound (pair_eq hb)
     obtain ⟨q1,_,l1⟩:=eRaw_sound (pair_eq q2)
     rw [Decidable.not_not.1 h1] at q1
     rw [←ht]
     generalize (eNat 262144 (some s2)).1=n at *
     generalize (eRaw 1 (eRaw 3 (some s)).2).1=kk at *
     generalize (eRaw (↑n) (eNat 262144 (some s2)).2).1=tt at *
     generalize (eRaw 4 (eRaw (↑n) (eNat 262144 (some s2)).2).2).1=uu at *
     match kk,l2 with
     | [c],_ =>
       simp only [List.headD_cons] at hk
       subst hk
       have ln:tt.length=n:=by omega
       have es:s=headF c tt++uu:=by
        simp only [Option.some.injEq] at q1
        rw [q1,q3,headF,ln]
        simp
       have el:s.length-4=(headF c tt).length:=by
        rw [es,List.length_append]
        omega
       rw [el,es,List.take_left] at h3
       exact ⟨by rw [es,closeB,h3],by omega⟩
  ·simp at h
theorem closeB_free {k k':UInt8} {t t' x x':List UInt8} (h:closeB k t++x=closeB k' t'++x'):k=k'∧t=t'∧x=x':=by
 have e:∀ k t x,closeB k t++x=markB++([k]++(natB t.length++(t++(fourB (crcSum (headF k t))++x)))):=fun k t x=>by simp [closeB,headF]
 rw [e,e] at h
 have h1:=List.append_cancel_left h
 obtain ⟨hk,h2⟩:=List.append_inj h1 rfl
 have hs:=shaped_unique _ _ _ _ (natB_shaped t.length) (natB_shaped t'.length) h2
 have hl:t.length=t'.length:=by rw [←valB_natB t.length,hs,valB_natB]
 rw [hs] at h2
 obtain ⟨ht,h4⟩:=List.append_inj (List.append_cancel_left h2) hl
 obtain ⟨_,h5⟩:=List.append_inj h4 rfl
 exact ⟨by simpa using hk,ht,h5⟩
end Go.Proofs.YthoolcpcmhhkpaaGreatDoor
namespace Go.Proofs.YthoolcpcmhhkpaaGreatDoor
open Go.RowKit
set_option maxRecDepth 100000 in
set_option maxHeartbeats 1000000 in
theorem frame_close (w:World) (k:UInt8) (t:List UInt8) (ht:t.length≤262144) :
 Calls Tryz.prog 67 #[.int .u8 (k.toNat:Nat),.string ⟨t.toArray⟩] w fun e w'=>e=.returned (.tuple #[.string ⟨(closeB k t).toArray⟩,.int .i64 0])∧Chg [] w w':=by
 have hd:decide ((262144:Int)<(t.length:Int))=false:=decide_eq_false (by omega)
 have HL:=Lib.hid (natB_len10 (n:=t.length) (by omega))
 have HQ:=Lib.hid (new_quill w)
 go_enter Tryz.func67,Tryz.ntmps67
 go_wp2_with fail
 refine (quill_raw _ w.heap.size [w.heap.size] [] [79,71,1] HQ.out (by simp)).mono ?_
 rintro e w1 ⟨rfl,F1,hq1,hm1⟩
 have hc1:=hm1.chg_own ((Chg.refl [] w).alloc _) (by simp)
 have hF1:=hm1.own ((Chg.refl [] w).alloc _) (by simp)
 have hcv:=run_one_byte w1 _ k rfl
 clear hm1
 go_wp2_with fail
 refine (quill_raw _ w.heap.size F1 _ [k] (hq1.alloc _) (by simp)).mono ?_
 rintro e w2 ⟨rfl,F2,hq2,hm2⟩
 have hc2:=hm2.chg_own (hc1.alloc _) hF1
 have hF2:=hm2.own (hc1.alloc _) hF1
 clear hm2 hcv hq1
 go_wp2_with fail
 refine (quill_nat1 w2 w.heap.size F2 _ t.length (by omega) hq2 _ (by simp) (by simp)).mono ?_
 rintro e w3 ⟨rfl,F3,hq3,hm3⟩
 have hc3:=hm3.chg_own hc2 hF2
 have hF3:=hm3.own hc2 hF2
 clear hm3 hq2
 have hl3:(([]:List UInt8)++[79,71,1]++[k]++natB t.length).length+t.length≤300000:=by have:=HL.out;simp;omega
 go_wp2_with fail
 refine (quill_raw _ w.heap.size F3 _ t hq3 (by omega)).mono ?_
 rintro e w4 ⟨rfl,F4,hq4,hm4⟩
 have hc4:=hm4.chg_own hc3 hF3
 have hF4:=hm4.own hc3 hF3
 have hl4:(headF k t).length≤300000:=by simpa [headF,markB,Nat.add_assoc,Nat.add_comm,Nat.add_left_comm] using hl3
 have hq4:Qul w4 w.heap.size F4 (headF k t):=by simpa [headF,markB] using hq4
 clear hm4 hq3
 have HCL:=Lib.hid (show closeB k t=headF k t++fourB (crcSum (headF k t)) from rfl)
 generalize headF k t=H at *
 go_wp2_with fail
 refine (quill_text w4 w.heap.size F4 _ hq4).mono ?_
 rintro e w5 ⟨rfl,rfl⟩
 go_wp2_with fail
 refine (frame_sum w4 H (by omega)).mono ?_
 rintro e w5 ⟨rfl,rfl⟩
 go_wp2_with fail
 refine (frame_four w4 (crcSum H)).mono ?_
 rintro e w5 ⟨rfl,hc5⟩
 have hl5:(fourB (crcSum H)).length=4:=rfl
 go_wp2_with fail
 refine (quill_raw w5 w.heap.size F4 _ _ (hq4.chg hc5 (by simp)) (by omega)).mono ?_
 rintro e w6 ⟨rfl,F6,hq6,hm6⟩
 have hc6:=hm6.chg_own (hc4.trans hc5) hF4
 rw [←HCL.out] at hq6
 go_wp2_with fail
 refine (quill_text w6 w.heap.size F6 _ hq6).mono ?_
 rintro e w7 ⟨rfl,rfl⟩
 go_wp2
 go_ret2
 exact ⟨rfl,hc6⟩
theorem frame_close_long (w:World) (k:UInt8) (t:List UInt8) (ht:262144<t.length) :
 Calls Tryz.prog 67 #[.int .u8 (k.toNat:Nat),.string ⟨t.toArray⟩] w fun e w'=>e=.returned (.tuple #[.string ⟨#[]⟩,.int .i64 3])∧w=w':=by
 have hd:decide ((262144:Int)<(t.length:Int))=true:=decide_eq_true (by omega)
 go_enter Tryz.func67,Tryz.ntmps67
 go_wp2
 go_ret2
 exact ⟨rfl,rfl⟩
def openV:Option (UInt8 × List UInt8)→Value
 | none=>.tuple #[.int .u8 0,.string ⟨#[]⟩,.int .i64 4]
 | some (k,t)=>.tuple #[.int .u8 (k.toNat:Nat),.string ⟨t.toArray⟩,.int .i64 0]
theorem openF_eq {s kk t u:List UInt8} {n:Nat} {st1 st2 st3 st4 st5:Option (List UInt8)} (hA:eRaw 3 (some s)=(markB,st1)) (hB:eRaw 1 st1=(kk,st2)) (hN:eNat 262144 st2=(n,st3)) (hT:eRaw n st3=(t,st4)) (hU:eRaw 4 st4=(u,st5)) :
 openF s=if st5=some []∧fourB (crcSum (s.take (s.length-4)))=u then some (kk.headD 0,t) else none:=by
 simp [openF,hA,hB,hN,hT,hU]
theorem openF_mark {s x:List UInt8} {st1:Option (List UInt8)} (hA:eRaw 3 (some s)=(x,st1)) (h:x≠markB):openF s=none:=by
 simp [openF,hA,h]
theorem open_parts {s x kk t u:List UInt8} {n:Nat} {st1 st2 st3 st4:Option (List UInt8)} (hA:eRaw 3 (some s)=(x,st1)) (hB:eRaw 1 st1=(kk,st2)) (hN:eNat 262144 st2=(n,st3)) (hT:eRaw n st3=(t,st4)) (hU:eRaw 4 st4=(u,some [])) :
 4≤s.length∧∃ c,kk=[c]:=by
 obtain ⟨q5,_,l5⟩:=eRaw_sound hU
 subst q5
 obtain ⟨q4,_,l4⟩:=eRaw_sound hT
 subst q4
 cases st2 with
 | none=>simp [eNat] at hN
 | some s2 =>
   obtain ⟨q2,_,l2⟩:=eRaw_sound hB
   subst q2
   obtain ⟨q1,_,l1⟩:=eRaw_sound hA
   obtain ⟨e3,_,_⟩:=eNat_sound hN
   simp only [Option.some.injEq] at q1
   subst e3 q1
   constructor
   ·simp only [List.length_append];omega
   ·match kk,l2 with
    | [c],_=>exact ⟨c,rfl⟩
theorem eRaw_short {n:Int} {st st':Option (List UInt8)} {x:List UInt8} (h:eRaw n st=(x,st')) (hl:∀ l,st=some l→l.length≤70368744177664):∀ l,st'=some l→l.length≤70368744177664:=by
 intro l hl'
 subst hl'
 obtain ⟨h1,_,_⟩:=eRaw_sound h
 have:=hl _ h1
 rw [List.length_append] at this
 omega
theorem eNat_short {most v:Nat} {st st':Option (List UInt8)} (h:eNat most st=(v,st')) (hl:∀ l,st=some l→l.length≤70368744177664):∀ l,st'=some l→l.length≤70368744177664:=by
 intro l hl'
 subst hl'
 cases st with
 | none=>simp [eNat] at h
 | some s =>
   obtain ⟨h1,_,_⟩:=eNat_sound h
   have:=hl _ rfl
   rw [h1,List.length_append] at this
   omega
attribute [local go_sem] ByteArray.extract_mk
set_option maxRecDepth 100000 in
set_option maxHeartbeats 1000000 in
theorem frame_open (w:World) (s:List UInt8) (hs:s.length≤1000000) :
 Calls Tryz.prog 32 #[.string ⟨s.toArray⟩] w fun e w'=>e=.returned (openV (openF s))∧Chg [] w w':=by
 go_enter Tryz.func32,Tryz.ntmps32
 go_wp2_with fail
 refine (eye_on w s).mono ?_
 rintro e w1 ⟨rfl,he1,hc1⟩
 go_wp2_with fail
 refine (eye_raw w1 w.heap.size _ 3 he1 (by intro l h;cases h;omega)).mono ?_
 rintro e w2 ⟨rfl,he2,hc2⟩
 have hc2:=hc1.trans' hc2 (by simp)
 generalize hA:eRaw 3 (some s)=A at *
 obtain ⟨x,st1⟩:=A
 simp only at he2 ⊢
 have HA:=Lib.hid hA
 clear hA he1
 have HS1:=Lib.hid (eRaw_short HA.out (by intro l h;cases h;omega))
 by_cases hx:x=markB
 ·have hxe:(x==[79,71,1])=true:=by simp [hx,markB]
  go_wp2_with fail
  refine (eye_raw w2 w.heap.size _ 1 he2 HS1.out).mono ?_
  rintro e w3 ⟨rfl,he3,hc3⟩
  have hc3:=hc2.trans' hc3 (by simp)
  generalize hB:eRaw 1 st1=B at *
  obtain ⟨kk,st2⟩:=B
  simp only at he3 ⊢
  have HB:=Lib.hid hB
  have HS2:=Lib.hid (eRaw_short hB HS1.out)
  clear hB he2
  go_wp2_with fail
  refine (eye_small w3 w.heap.size st2 262144 (by omega) he3 HS2.out).mono ?_
  rintro e w4 ⟨rfl,he4,hc4⟩
  have hc4:=hc3.trans' hc4 (by simp)
  rw [show Int.toNat 262144=262144 from rfl] at he4 ⊢
  generalize hN:eNat 262144 st2=N at *
  obtain ⟨n,st3⟩:=N
  simp only at he4 ⊢
  have HN:=Lib.hid hN
  have HS3:=Lib.hid (eNat_short hN HS2.out)
  clear hN he3
  go_wp2_with fail
  refine (eye_raw w4 w.heap.size _ (n:Nat) he4 HS3.out).mono ?_
  rintro e w5 ⟨rfl,he5,hc5⟩
  have hc5:=hc4.trans' hc5 (by simp)
  generalize hT:eRaw (n:Nat) st3=T at *
  obtain ⟨t,st4⟩:=T
  simp only at he5 ⊢
  have HT:=Lib.hid hT
  have HS4:=Lib.hid (eRaw_short hT HS3.out)
  clear hT he4
  go_wp2_with fail
  refine (eye_raw w5 w.heap.size _ 4 he5 HS4.out).mono ?_
  rintro e w6 ⟨rfl,he6,hc6⟩
  have hc6:=hc5.trans' hc6 (by simp)
  generalize hU:eRaw 4 st4=U at *
  obtain ⟨u,st5⟩:=U
  simp only at he6 ⊢
  have HU:=Lib.hid hU
  clear hU he5
  go_wp2_with fail
  refine (eye_over w6 w.heap.size _ he6).mono ?_
  rintro e w7 ⟨rfl,rfl⟩
  have HX:=HA.out
  rw [hx] at HX
  have HO:=Lib.hid (openF_eq HX HB.out HN.out HT.out HU.out)
  clear HX hx
  by_cases h5:st5=some []
  ·subst h5
   obtain ⟨hs4,c,hc⟩:=open_parts HA.out HB.out HN.out HT.out HU.out
   subst hc
   have hsub:(s.length:Int)-4=((s.length-4:Nat):Int):=by omega
   have hsl:(s.take (s.length-4)).length≤70368744177664:=by rw [List.length_take];omega
   rw [show ((some []:Option (List UInt8))==some [])=true from rfl]
   go_wp2_with fail
   refine (frame_sum w6 (s.take (s.length-4)) hsl).mono ?_
   rintro e w7 ⟨rfl,rfl⟩
   have HSL:=Lib.hid (show openF s=if fourB (crcSum (s.take (s.length-4)))=u then some (c,t) else none from by rw [HO.out];simp)
   generalize crcSum (s.take (s.length-4))=cs at *
   go_wp2_with fail
   refine (frame_four w6 cs).mono ?_
   rintro e w7 ⟨rfl,hc7⟩
   have hc7:=hc6.trans hc7
   generalize fourB cs=f4 at *
   by_cases hf:f4=u
   ·have hfb:(f4==u)=true:=by simp [hf]
    have HO2:=Lib.hid (show openF s=some (c,t) from by rw [HSL.out,if_pos hf])
    clear hf
    go_wp2
    go_ret3
    exact ⟨by rw [HO2.out];rfl,hc7⟩
   ·have hfb:(f4==u)=false:=by simpa using hf
    have HO2:=Lib.hid (show openF s=none from by rw [HSL.out,if_neg hf])
    clear hf
    go_wp2
    go_ret3
    exact ⟨by rw [HO2.out];rfl,hc7⟩
  ·have h5b:(st5==some [])=false:=by simpa using h5
   have HO2:=Lib.hid (show openF s=none from by rw [HO.out,if_neg (fun h=>h5 h.1)])
   rw [h5b]
   clear h5 h5b
   go_wp2
   go_ret3
   exact ⟨by rw [HO2.out];rfl,hc6⟩
 ·have hxe:(x==[79,71,1])=false:=by simpa [markB] using hx
  have HO:=Lib.hid (openF_mark HA.out hx)
  clear hx
  go_wp2
  go_ret3
  exact ⟨by rw [HO.out];rfl,hc2⟩
end Go.Proofs.YthoolcpcmhhkpaaGreatDoor
namespace Go.Proofs.YthoolcpcmhhkpaaGreatDoor
open Go.RowKit
end Go.Proofs.YthoolcpcmhhkpaaGreatDoor
namespace Go.Proofs.YthoolcpcmhhkpaaGreatDoor
open Go.RowKit
end Go.Proofs.YthoolcpcmhhkpaaGreatDoor
namespace Go.Proofs.YthoolcpcmhhkpaaGreatDoor
open Go.RowKit
end Go.Proofs.YthoolcpcmhhkpaaGreatDoor
namespace Go.Proofs.YthoolcpcmhhkpaaGreatDoor
open Go.RowKit
end Go.Proofs.YthoolcpcmhhkpaaGreatDoor
namespace Go.Proofs.YthoolcpcmhhkpaaGreatDoor
open Go.RowKit
section
variable {P:Program} {ops:Array Oper} {Q:Exit→Act→World→Prop} {md:Region.Mode} {S:World→Prop} {st:Nat}
end
section
variable {P:Program} {l:List Oper} {Q:Exit→Act→World→Prop} {md:Region.Mode} {S:World→Prop} {st:Nat}
end
end Go.Proofs.YthoolcpcmhhkpaaGreatDoor
namespace Go.Proofs.YthoolcpcmhhkpaaGreatDoor
open Go.RowKit
end Go.Proofs.YthoolcpcmhhkpaaGreatDoor
namespace Go.Proofs.YthoolcpcmhhkpaaGreatDoor
open Go.RowKit
section
variable {P:Program} {ops:Array Oper} {Q:Exit→Act→World→Prop} {md:Region.Mode} {S:World→Prop}
def wpN (P:Program) (md:Region.Mode) (ops:Array Oper) (Q:Exit→Act→World→Prop) (S:World→Prop):Nat→Array Bool→Act→World→Prop
 | 0,seen,a,w=>Region.ready md ops seen=[]∧Q .normal a w
 | m+1,seen,a,w=>(Region.ready md ops seen=[]→Q .normal a w) ∧
   ∀ j∈Region.ready md ops seen,wpOp P ops Q j (fun b u=>S u∧wpN P md ops Q S m (seen.setIfInBounds j true) b u) a w
theorem wpN_any:∀ (m:Nat) (seen:Array Bool) (a:Act) (w:World),wpN P md ops Q S m seen a w→wpAny P md ops Q m seen a w
 | 0,_,_,_,h=>h
 | m+1,_,_,_,h=>⟨h.1,fun j hj=>wpOp_mono (fun b u k=>wpN_any m _ b u k.2) (h.2 j hj)⟩
theorem wpN_first {i:Nat} {oi:Oper} {v:Value} (hi:ops[i]? = some oi) (hno:Region.noSelect ops=true)
 (hQ:∀ c a w,Q (.panic c) (a.put oi.dst v) w→Q (.panic c) a w) :
 ∀ (m:Nat) (seen:Array Bool) (a:Act) (w:World),
   (∀ j oj,ops[j]? = some oj→j≠i→seen.getD j true=false→(∀ e∈oj.after,Region.binds md e=true→e.on≠i)→oi.apart ops oj=true) →
   i∈Region.ready md ops seen→YieldsIf P ops S oi v a→S w →
   wpN P md ops Q S m (seen.setIfInBounds i true) (a.put oi.dst v) w→wpN P md ops Q S (m+1) seen a w
 | m,seen,a,w=>fun hap hr hy hS H=>by
   have hun:=(mem_ready.1 hr).1
   refine ⟨fun h=>(by rw [h] at hr;cases hr),fun j hj => ?_⟩
   rcases Decidable.em (j=i) with rfl|hji
   ·exact hy.wpOp hi hS ⟨hS,H⟩
   ·obtain ⟨hjun,oj,hoj,hall⟩:=mem_ready.1 hj
    have hwait:∀ e∈oj.after,Region.binds md e=true→e.on≠i:=fun e he hb heq=>by
     have h1:=hall e he hb
     rw [heq] at h1
     by_cases hlt:i<seen.size
     ·simp [hlt] at hun h1
      rw [hun] at h1
      cases h1
     ·simp [Array.getElem?_eq_none (Nat.le_of_not_lt hlt)] at h1
    match m,H with
    | 0,H =>
      have h1:=ready_mono hj hji
      rw [H.1] at h1
      cases h1
    | m+1,H =>
      have h2:=wpOp_putIf hoj (hap j oj hoj hji hjun hwait) (fun cs b=>Region.noSelect_spec hno i oi cs b hi) (fun cs b=>Region.noSelect_spec hno j oj cs b hoj) hQ hy (H.2 j (ready_mono hj hji))
      refine wpOp_mono (fun b u h3=>⟨h3.2.1,wpN_first hi hno hQ m (seen.setIfInBounds j true) b u (fun k ok hk hki hkun hkno => ?_) (ready_mono hr (Ne.symm hji)) h3.1 h3.2.1 ?_⟩) h2
      ·refine hap k ok hk hki ?_ hkno
       by_cases hjk:j=k
       ·subst hjk;exact hjun
       ·rw [getD_set_ne true hjk] at hkun;exact hkun
      ·rw [Array.setIfInBounds_comm _ _ hji]
       exact h3.2.2
end
section
variable {P:Program} {l:List Oper} {Q:Exit→Act→World→Prop} {md:Region.Mode} {S:World→Prop}
theorem startN {id:Nat} {a:Act} {w:World} (hm:P.follows .mixedOrders=true) (hS:S w.drew)
 (h:S w.drew→wpN P .any l.toArray Q S l.toArray.size (Array.replicate l.toArray.size false) a w.drew):(Code.region id l.toArray true).wp P Q a w:=
 wp_region_any hm (wpN_any _ _ _ _ (h hS))
theorem takeN {i:Nat} {oi:Oper} {v:Value} {m:Nat} {seen:Array Bool} {a:Act} {w:World} (hi:l[i]? = some oi)
 (hno:Region.noSelect l.toArray=true) (hf:Region.free md l.toArray seen i=true) (hr:(Region.ready md l.toArray seen).contains i=true)
 (hQ:∀ c a w,Q (.panic c) (a.put oi.dst v) w→Q (.panic c) a w) (hy:YieldsIf P l.toArray S oi v a) (hS:S w)
 (h:wpN P md l.toArray Q S m (seen.setIfInBounds i true) (a.put oi.dst v) w):wpN P md l.toArray Q S (m+1) seen a w:=by
 have hi':l.toArray[i]? = some oi:=by simpa using hi
 exact wpN_first hi' hno hQ m seen a w (Region.free_spec hi' hf) (by simpa using hr) hy hS h
def WaysN (P:Program) (md:Region.Mode) (l:List Oper) (Q:Exit→Act→World→Prop) (S:World→Prop) (m:Nat) (seen:Array Bool) (a:Act) (w:World) (rs:List Nat):Prop:=
 ∀ i∈rs,wpOp P l.toArray Q i (fun b u=>S u∧wpN P md l.toArray Q S m (seen.setIfInBounds i true) b u) a w
theorem nilN {m:Nat} {seen:Array Bool} {a:Act} {w:World}:WaysN P md l Q S m seen a w []:=fun _ h=>by cases h
theorem consN {m:Nat} {seen:Array Bool} {a:Act} {w:World} {i:Nat} {o:Oper} {rs:List Nat} (ho:l[i]? = some o)
 (h:∀ K':Act→World→Prop,Shut (∀ b u,S u→(S u→wpN P md l.toArray Q S m (seen.setIfInBounds i true) b u)→K' b u)→if Region.wanted o (yielded l.toArray a.tmps)=true then Oper.wp P o a w K' Q else K' (a.put o.dst undef) w)
 (hs:WaysN P md l Q S m seen a w rs):WaysN P md l Q S m seen a w (i::rs):=fun j hj=>by
 rcases List.mem_cons.1 hj with rfl|hj
 ·exact wpOp_step (by simpa using ho) (fun K' hK=>h K' (fun b u hS hW=>hK b u ⟨hS,hW hS⟩))
 ·exact hs j hj
theorem readyN {rs:List Nat} {m:Nat} {seen:Array Bool} {a:Act} {w:World} (hr:Region.ready md l.toArray seen=rs) (hne:rs≠[])
 (h:WaysN P md l Q S m seen a w rs):wpN P md l.toArray Q S (m+1) seen a w:=⟨fun h0=>absurd (hr ▸ h0) hne,hr ▸ h⟩
theorem doneN {seen:Array Bool} {a:Act} {w:World} (hr:Region.ready md l.toArray seen=[]) (h:Q .normal a w):∀ m,wpN P md l.toArray Q S m seen a w
 | 0=>⟨hr,h⟩
 | _+1=>⟨fun _=>h,by rw [hr];simp⟩
end
end Go.Proofs.YthoolcpcmhhkpaaGreatDoor
namespace Go.Proofs.YthoolcpcmhhkpaaGreatDoor
open Go.RowKit
def encS (k:UInt8) (X:List UInt8):List UInt8:=if X.length≤262144 then closeB k X else []
def encE (X:List UInt8):Int:=if X.length≤262144 then 0 else 3
theorem frame_closeV (w:World) (k:UInt8) (t:List UInt8) (S:List UInt8) (E:Int) (hS:S=encS k t) (hE:E=encE t) :
 Calls Tryz.prog 67 #[.int .u8 (k.toNat:Nat),.string ⟨t.toArray⟩] w fun e w'=>e=.returned (.tuple #[.string ⟨S.toArray⟩,.int .i64 E])∧Chg [] w w':=by
 subst hS hE
 by_cases h:t.length≤262144
 ·rw [encS,if_pos h,encE,if_pos h]
  exact frame_close w k t h
 ·rw [encS,if_neg h,encE,if_neg h]
  refine (frame_close_long w k t (by omega)).mono ?_
  rintro e w' ⟨rfl,rfl⟩
  exact ⟨rfl,Chg.refl _ _⟩
theorem Qul.new (w:World):Qul (w.alloc (.cells #[.slice none 0 0] 120)) w.heap.size [w.heap.size] []:=
 ⟨none,0,rfl,Blk.alloc_new _ _ _,Own.nil _ _ _⟩
theorem enters_etext:∀ (args:Array Value) (w:World),(callFunc 68 args).run Tryz.prog w=.ok (.enter 68 args) w:=enters_of Tryz.func68 (by kernel_rfl) rfl
theorem enters_eclose:∀ (args:Array Value) (w:World),(callFunc 67 args).run Tryz.prog w=.ok (.enter 67 args) w:=enters_of Tryz.func67 (by kernel_rfl) rfl
theorem u8_kind {k:Int} {kk:UInt8} (h:k=(kk.toNat:Nat)):IntKind.u8.wrap k=(kk.toNat:Int):=by
 have:=kk.toNat_lt
 have e:∀ n:Int,IntKind.u8.wrap n=n % 256:=fun n=>by simp [IntKind.wrap,IntKind.bits,IntKind.signed]
 rw [h,e]
 omega
structure Vl where
 x:Int
 n:Nat
def Vl.cells (p:Vl):List Value:=[.int .i64 p.x,.int .u64 p.n]
def Vl.ok (p:Vl):Prop:=-9223372036854775808≤p.x∧p.x<9223372036854775808∧p.n<18446744073709551616
def vlCells (l:List Vl):List Value:=(l.map Vl.cells).flatten
theorem vlCells_get (l:List Vl) (k j:Nat) (hk:k<l.length) (hj:j<2):(vlCells l)[k*2+j]? = (l[k].cells)[j]?:=by
 induction l generalizing k with
 | nil=>simp at hk
 | cons a r ih =>
   cases k with
   | zero =>
     simp only [vlCells,List.map_cons,List.flatten_cons,Nat.zero_mul,Nat.zero_add,List.getElem_cons_zero]
     rw [List.getElem?_append_left (by simpa [Vl.cells] using hj)]
   | succ k =>
     have:=ih k (by simpa using hk)
     simp only [vlCells,List.map_cons,List.flatten_cons,List.getElem_cons_succ] at *
     rw [List.getElem?_append_right (by simp [Vl.cells];omega),←this]
     congr 1
     simp [Vl.cells]
     omega
theorem vl_at {w:World} {b o k:Nat} {l:List Vl} (hc:∀ j,j<l.length*2→w.cell? ⟨b,o+j,none⟩=(vlCells l)[j]?) (h:k<l.length) :
 w.cell? ⟨b,o+k*2,none⟩=some (.int .i64 l[k].x)∧w.cell? ⟨b,o+k*2+1,none⟩=some (.int .u64 l[k].n):=by
 have g:∀ j,j<2→w.cell? ⟨b,o+k*2+j,none⟩=(l[k].cells)[j]?:=fun j hj=>by
  rw [←vlCells_get l k j h hj,←hc (k*2+j) (by omega),Nat.add_assoc]
 exact ⟨g 0 (by omega),g 1 (by omega)⟩
def sumS:List Vl→Nat
 | []=>0
 | v::l=>v.n+sumS l
def upS (x:Int):List Vl→Nat
 | []=>0
 | v::l=>(if v.x≤x then v.n else 0)+upS x l
theorem sumS_app (a b:List Vl):sumS (a++b)=sumS a+sumS b:=by
 induction a with
 | nil=>simp [sumS]
 | cons v a ih=>simp only [List.cons_append,sumS,ih];omega
theorem upS_app (x:Int) (a b:List Vl):upS x (a++b)=upS x a+upS x b:=by
 induction a with
 | nil=>simp [upS]
 | cons v a ih=>simp only [List.cons_append,upS,ih];omega
def loV:List Vl→Int
 | []=>0
 | v::l=>l.foldl (fun m u=>min m u.x) v.x
def hiV:List Vl→Int
 | []=>0
 | v::l=>l.foldl (fun m u=>max m u.x) v.x
theorem fold_min (l:List Vl) (a b:Int):l.foldl (fun m u=>min m u.x) (min a b)=min a (l.foldl (fun m u=>min m u.x) b):=by
 induction l generalizing b with
 | nil=>rfl
 | cons v l ih=>simp only [List.foldl_cons];rw [←ih];congr 1;omega
theorem fold_max (l:List Vl) (a b:Int):l.foldl (fun m u=>max m u.x) (max a b)=max a (l.foldl (fun m u=>max m u.x) b):=by
 induction l generalizing b with
 | nil=>rfl
 | cons v l ih=>simp only [List.foldl_cons];rw [←ih];congr 1;omega
theorem loV_app (a b:List Vl):loV (a++b)=if a=[] then loV b else if b=[] then loV a else min (loV a) (loV b):=by
 rcases a with _|⟨v,a⟩
 ·simp
 rcases b with _|⟨u,b⟩
 ·simp
 simp only [List.cons_append,loV,List.foldl_append,List.foldl_cons,reduceCtorEq,if_false]
 rw [fold_min]
theorem hiV_app (a b:List Vl):hiV (a++b)=if a=[] then hiV b else if b=[] then hiV a else max (hiV a) (hiV b):=by
 rcases a with _|⟨v,a⟩
 ·simp
 rcases b with _|⟨u,b⟩
 ·simp
 simp only [List.cons_append,hiV,List.foldl_append,List.foldl_cons,reduceCtorEq,if_false]
 rw [fold_max]
end Go.Proofs.YthoolcpcmhhkpaaGreatDoor
namespace Go.Proofs.YthoolcpcmhhkpaaGreatDoor
def InR (x:Int):Prop:=-9223372036854775808≤x∧x<9223372036854775808
theorem InR.zig {x:Int} (h:InR x):zig x<18446744073709551616:=by
 have:=zig_lt h.1 h.2
 omega
def intsB (l:List Int):List UInt8:=l.flatMap fun x=>natB (zig x)
theorem intsB_len (l:List Int) (h:∀ x∈l,InR x):(intsB l).length≤10*l.length:=by
 induction l with
 | nil=>simp [intsB]
 | cons x l ih =>
   have h1:=ih (fun y hy=>h y (by simp [hy]))
   have h2:=natB_len10 (n:=zig x) (by have:=(h x (by simp)).zig;omega)
   simp only [intsB,List.flatMap_cons,List.length_append,List.length_cons] at h1 ⊢
   omega
end Go.Proofs.YthoolcpcmhhkpaaGreatDoor
namespace Go.Proofs.YthoolcpcmhhkpaaGreatDoor
open Go.RowKit
def PutK (P:World→Nat→List Nat→Prop) (err:Int) (s:Nat) (F:List Nat) (w:World) (e:Ending) (w':World):Prop:=
 e=.returned (.int .i64 err)∧∃ F',P w' s F'∧Mv F w F' w'
structure Kb (c:Cf) where
 S:Type
 P:World→Nat→List Nat→S→Prop
 sz:S→Nat
 init:S
 ok:Bool
 put:S→Int→Nat→S
 putE:S→Int→Nat→Int
 enc:S→List UInt8
 tot:S→Nat
 kk:UInt8
 kind:c.kind=(kk.toNat:Nat)
 lt:∀ {w s F st},P w s F st→∀ b∈F,b<w.heap.size
 chg:∀ {w w1 s F st G},P w s F st→Chg G w w1→(∀ b∈F,b∉G)→P w1 s F st
 sz0:sz init=0
 szp:∀ st x n,sz (put st x n)≤sz st+n∧sz (put st x n)≤sz st+1024
 new:∀ w,Tens4 w→Calls Tryz.prog 27 #[c.val] w fun e w'=>NewK (fun w s F=>P w s F init) ok w e w'
 putC:∀ {w s F st},P w s F st→sz st≤2000000000→∀ (x:Int) (n:Nat),InR x→n<18446744073709551616 →
  Calls Tryz.prog 21 #[.pointer (some ⟨s,0,none⟩),.int .i64 x,.int .u64 (n:Nat)] w fun e w'=>PutK (fun w s F=>P w s F (put st x n)) (putE st x n) s F w e w'
 encC:∀ {w s F st},P w s F st→sz st≤40000 →
  Calls Tryz.prog 23 #[.pointer (some ⟨s,0,none⟩)] w fun e w'=>e=.returned (.tuple #[.string ⟨(encS kk (enc st)).toArray⟩,.int .i64 (encE (enc st))])∧Chg [] w w'
 fit:∀ {w s F st},P w s F st→sz st≤16000→(enc st).length≤262144
 totC:∀ {w s F st},P w s F st→Calls Tryz.prog 20 #[.pointer (some ⟨s,0,none⟩)] w fun e w'=>e=.returned (.int .u64 (tot st:Nat))∧Chg [] w w'
 tot0:tot init=0
 reset:∀ {w s F st},P w s F st→ok=true→Tens4 w→Calls Tryz.prog 22 #[.pointer (some ⟨s,0,none⟩)] w fun e w'=>e=.returned (.tuple #[])∧∃ F',P w' s F' init∧Mv F w F' w'
end Go.Proofs.YthoolcpcmhhkpaaGreatDoor
