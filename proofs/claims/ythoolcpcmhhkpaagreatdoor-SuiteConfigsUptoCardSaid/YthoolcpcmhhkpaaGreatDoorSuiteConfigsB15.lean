/-
  Parts of a proof, pressed. Conditions: the form's own reach.
-/
import Derived.Test.YthoolcpcmhhkpaaGreatDoorSuiteConfigsB5
import Derived.Test.YthoolcpcmhhkpaaGreatDoorSuiteConfigsB11
import Derived.Test.YthoolcpcmhhkpaaGreatDoorProg
import Derived.Test.YthoolcpcmhhkpaaGreatDoorSuiteConfigsB1
import Derived.Test.YthoolcpcmhhkpaaGreatDoorSuiteConfigsB14
import Derived.Test.YthoolcpcmhhkpaaGreatDoorSuiteConfigsB12
import Derived.Laws.Externs
import Derived.Test.YthoolcpcmhhkpaaGreatDoorSuiteConfigsB10
import Derived.Lib.Slices
import Derived.Test.YthoolcpcmhhkpaaGreatDoorSuiteConfigsB3
namespace Go.Proofs.YthoolcpcmhhkpaaGreatDoor
structure Lp.fit (p:Lp):Prop where
 lo:InR p.lo
 hi:InR p.hi
 n1:1≤p.n
 n2:p.n≤9223372036854775807
def lumpB (p:Lp):List UInt8:=natB (zig p.lo)++(natB (zig p.hi)++natB p.n)
def putLm (most:Nat) (l:List Lp):List UInt8:=natB most++(natB l.length++l.flatMap lumpB)
theorem lumpB_len {p:Lp} (h:p.fit):(lumpB p).length≤30:=by
 have h1:=natB_len10 (n:=zig p.lo) (by have:=h.lo.zig;omega)
 have h2:=natB_len10 (n:=zig p.hi) (by have:=h.hi.zig;omega)
 have h3:=natB_len10 (n:=p.n) (by have:=h.n2;omega)
 unfold lumpB
 simp only [List.length_append]
 omega
theorem lumpsB_len (l:List Lp) (h:∀ p∈l,p.fit):(l.flatMap lumpB).length≤30*l.length:=by
 induction l with
 | nil=>simp
 | cons p l ih =>
   have h1:=ih (fun q hq=>h q (by simp [hq]))
   have h2:=lumpB_len (h p (by simp))
   simp only [List.flatMap_cons,List.length_append,List.length_cons] at h1 ⊢
   omega
theorem putLm_len {most:Nat} {l:List Lp} (hm:most≤64) (hl:l.length≤64) (h:∀ p∈l,p.fit):(putLm most l).length≤2000:=by
 have h1:=natB_len10 (n:=most) (by omega)
 have h2:=natB_len10 (n:=l.length) (by omega)
 have h3:=lumpsB_len l h
 unfold putLm
 simp only [List.length_append]
 omega
structure okLm (most:Int) (l:List Lp):Prop where
 m1:2≤most
 m2:most≤64
 few:(l.length:Int)≤most
 tot:totL l≤9223372036854775807
 each:∀ p∈l,1≤p.n∧p.lo≤p.hi
 rises:risesL l
def fitsL (l:List Lp):Prop:=∀ p∈l,InR p.lo∧InR p.hi
theorem fitsL.lay {l:List Lp} (h:fitsL l) {p:Lp} (h1:InR p.lo) (h2:InR p.hi):fitsL (layL l p):=by
 intro q hq
 rcases lay_mem hq with h3|⟨e1,e2,-⟩
 ·exact h q h3
 ·rw [e1,e2];exact ⟨h1,h2⟩
theorem InR.max {a b:Int} (h1:InR a) (h2:InR b):InR (max a b):=by
 unfold InR at *
 omega
theorem fitsL.melt {l:List Lp} (h:fitsL l) {k:Nat} (hk:k+1<l.length):fitsL (meltL l k):=by
 obtain ⟨a,b,e,ea,eb⟩:=melt_parts hk
 have ha:=h a (by rw [e];simp)
 have hb:=h b (by rw [e];simp)
 unfold meltL
 rw [ea,eb]
 refine fitsL.lay (fun q hq=>h q ?_) ha.1 (InR.max ha.2 hb.2)
 rw [e]
 rcases List.mem_append.1 hq with h1|h1<;>simp [h1]
theorem fitsL.all:∀ (o:List Lp) {l:List Lp},fitsL l→fitsL o→fitsL (layAll l o)
 | [],_,h,_=>h
 | p::o,l,h,k=>fitsL.all o (h.lay (k p (by simp)).1 (k p (by simp)).2) (fun q hq=>k q (by simp [hq]))
structure LmD where
 most:Nat
 l:List Lp
structure LmD.ok (D:LmD):Prop where
 m1:2≤D.most
 m2:D.most≤64
 few:D.l.length≤D.most
 tot:totL D.l≤9223372036854775807
 each:∀ p∈D.l,1≤p.n∧p.lo≤p.hi
 rises:risesL D.l
 fits:fitsL D.l
def LmD.put (D:LmD) (x:Int) (n:Nat):LmD:=⟨D.most,pressL D.most (layL D.l ⟨n,x,x⟩)⟩
theorem LmD.ok.fit {D:LmD} (h:D.ok):∀ p∈D.l,p.fit:=fun p hp=>⟨(h.fits p hp).1,(h.fits p hp).2,(h.each p hp).1,Nat.le_trans (mem_totL hp) h.tot⟩
theorem LmD.new_ok {most:Nat} (h1:2≤most) (h2:most≤64):LmD.ok ⟨most,[]⟩:=⟨h1,h2,Nat.zero_le _,by simp [totL],by simp,List.Pairwise.nil,by intro p hp;simp at hp⟩
theorem LmD.pressed {most T:Nat} {l:List Lp} (h1:2≤most) (h2:most≤64) (hr:risesL l) (he:∀ p∈l,1≤p.n∧p.lo≤p.hi) (hf:fitsL l) (hT:totL l=T) (ht:T≤9223372036854775807):LmD.ok ⟨most,pressL most l⟩∧totL (pressL most l)=T:=by
 obtain ⟨a,⟨b,c,d⟩,f⟩:=press_ind (most:=most) (by omega) (fun l=>(∀ p∈l,1≤p.n∧p.lo≤p.hi)∧fitsL l∧totL l=T) (fun l k _ h hk=>⟨melt_pos h.1 hk,h.2.1.melt hk,by rw [melt_tot hk];exact h.2.2⟩) _ l (Nat.le_refl _) hr ⟨he,hf,hT⟩
 exact ⟨⟨h1,h2,f,by rw [d];exact ht,b,a,c⟩,d⟩
theorem LmD.pressedT {most:Nat} {l:List Lp} (h1:2≤most) (hr:risesL l):totL (pressL most l)=totL l:=
 (press_ind (most:=most) (by omega) (fun r=>totL r=totL l) (fun r k _ h hk=>by rw [melt_tot hk];exact h) _ l (Nat.le_refl _) hr rfl).2.1
theorem LmD.put_ok {D:LmD} (h:D.ok) {x:Int} (hx:InR x) {n:Nat} (hn:1≤n) (ht:totL D.l+n≤9223372036854775807):(D.put x n).ok∧totL (D.put x n).l=totL D.l+n:=
 LmD.pressed h.m1 h.m2 (lay_rises h.rises _) (lay_pos h.each hn (Int.le_refl _)) (h.fits.lay hx hx) (totL_lay _ _) ht
end Go.Proofs.YthoolcpcmhhkpaaGreatDoor
namespace Go.Proofs.YthoolcpcmhhkpaaGreatDoor
open Go.RowKit
def sumTo (l:List Nat) (k:Nat):Nat:=(l.take k).sum
theorem sumTo_succ (l:List Nat) (k:Nat) (h:k<l.length):sumTo l (k+1)=sumTo l k+l[k]:=by
 rw [sumTo,List.take_add_one,List.getElem?_eq_getElem h,List.sum_append]
 simp only [Option.toList_some,List.sum_cons,List.sum_nil,Nat.add_zero,sumTo]
theorem sumTo_le (l:List Nat) (k:Nat):sumTo l k≤l.sum:=by
 have:=List.sum_append (l₁:=l.take k) (l₂:=l.drop k)
 rw [List.take_append_drop] at this
 unfold sumTo
 omega
def plusV (l:List Nat):Value:=if l.sum≤9223372036854775807 then .tuple #[.int .u64 (l.sum:Nat),.bool true] else .tuple #[.int .u64 0,.bool false]
theorem plusV_big {l:List Nat} (k:Nat) (h:9223372036854775807<sumTo l k):plusV l=.tuple #[.int .u64 0,.bool false]:=by
 have:=sumTo_le l k
 exact if_neg (by omega)
theorem plusV_all {l:List Nat} (h:sumTo l l.length≤9223372036854775807):plusV l=.tuple #[.int .u64 (sumTo l l.length:Nat),.bool true]:=by
 rw [sumTo,List.take_length] at *
 exact if_pos h
set_option maxRecDepth 100000 in
set_option maxHeartbeats 1000000 in
theorem wide_plus (w:World) (ao:Option Addr) (cap:Nat) (l:List Nat) (hok:∀ u∈l,u<18446744073709551616) (hr:Rd w 1 (.slice ao l.length cap) l.length (u64s l)) (hl:l.length≤140737488351232) :
 Calls Tryz.prog 93 #[.slice ao l.length cap] w fun e w'=>e=.returned (plusV l)∧w=w':=by
 go_enter Tryz.func93,Tryz.ntmps93
 go_wp2
 go_loopw [4,9] (fun n i wx=>∃ k:Nat,k≤l.length∧i=.int .i64 (k:Nat)∧n=.int .u64 (sumTo l k:Nat)∧sumTo l k≤9223372036854775807∧w=wx) (fun _ i _=>l.length-(intOf i).toNat)
 case atStart=>exact ⟨0,Nat.zero_le _,rfl,rfl,by simp [sumTo],rfl⟩
 case round =>
  obtain ⟨k,hk,rfl,rfl,hs,hw⟩:=hrel
  subst hw
  by_cases hlt:k<l.length
  ·obtain ⟨b,o,rfl,hc⟩:=hr.addr (by omega)
   have c0:w.cell? ⟨b,o+k,none⟩=some (.int .u64 (l[k]:Nat)):=by rw [hc k (by omega)];simp [u64s,hlt]
   have hok1:=hok l[k] (List.getElem_mem _)
   have hsucc:=sumTo_succ l k hlt
   by_cases hbig:9223372036854775807<sumTo l k+l[k]
   ·have HB:=Lib.hid (plusV_big (l:=l) (k+1) (by rw [hsucc];exact hbig))
    generalize l[k]=p at *
    generalize sumTo l k=s at *
    clear hsucc hc hok
    go_wp2
    go_ret2
    rw [HB.out]
    exact ⟨rfl,rfl⟩
   ·have HS:=Lib.hid hsucc
    have hs2:sumTo l (k+1)≤9223372036854775807:=by omega
    have HS2:=Lib.hid hs2
    generalize l[k]=p at *
    generalize sumTo l k=s at *
    clear hsucc hc hok hs2
    go_wp2
    exact ⟨⟨k+1,by omega,by go_num,by rw [HS.out];go_num,HS2.out,trivial⟩,by simp [intOf];omega⟩
  ·obtain rfl:k=l.length:=by omega
   have HG:=Lib.hid (plusV_all hs)
   clear hs
   generalize sumTo l l.length=s at *
   go_wp2
   go_ret2
   rw [HG.out]
   exact ⟨rfl,rfl⟩
theorem wide_plus2 (w:World) (a c:Nat) (ha:a<18446744073709551616) (hc:c<18446744073709551616) (b0:Nat) (hb0:b0=w.heap.size) :
 Calls Tryz.prog 93 #[.slice (some ⟨b0,0,none⟩) 2 2] (w.alloc (.cells #[.int .u64 (a:Nat),.int .u64 (c:Nat)] 23)) fun e w'=>e=.returned (plusV [a,c])∧w.alloc (.cells #[.int .u64 (a:Nat),.int .u64 (c:Nat)] 23)=w':=by
 subst hb0
 refine wide_plus _ _ 2 [a,c] (by simp [ha,hc]) ?_ (by simp)
 exact Rd.lit w #[.int .u64 (a:Nat),.int .u64 (c:Nat)] 23 1 2 2 (by simp)
end Go.Proofs.YthoolcpcmhhkpaaGreatDoor
namespace Go.Proofs.YthoolcpcmhhkpaaGreatDoor
open Go.RowKit
def LmS (w:World) (p:Nat) (rv:Value) (D:LmD):Prop:=Lms w p rv (D.most:Int) D.l (totL D.l)
namespace LmS
variable {w w1:World} {p:Nat} {rv:Value} {D:LmD}
theorem lt (h:LmS w p rv D):∀ b∈fpL p rv,b<w.heap.size:=Lms.lt h
theorem chg {F:List Nat} (h:LmS w p rv D) (k:Chg F w w1) (hF:∀ b∈fpL p rv,b∉F):LmS w1 p rv D:=Lms.chg h k hF
end LmS
theorem lump_put_zero (w:World) (p:Nat) (x:Int):Calls Tryz.prog 127 #[.pointer (some ⟨p,0,none⟩),.int .i64 x,.int .u64 (0:Nat)] w fun e w'=>e=.returned (.int .i64 1)∧Chg [] w w':=by
 go_enter Tryz.func127,Tryz.ntmps127
 go_wp2
 go_ret
 exact ⟨rfl,Chg.refl _ _⟩
set_option maxRecDepth 100000 in
set_option maxHeartbeats 2000000 in
theorem lump_put_full (w:World) (p:Nat) (rv:Value) (D:LmD) (h:LmS w p rv D) (ht:totL D.l≤9223372036854775807) (x:Int) (n:Nat) (h1:1≤n) (hn:n<18446744073709551616) (hfull:9223372036854775807<totL D.l+n) :
 Calls Tryz.prog 127 #[.pointer (some ⟨p,0,none⟩),.int .i64 x,.int .u64 (n:Nat)] w fun e w'=>e=.returned (.int .i64 6)∧Chg [] w w':=by
 obtain ⟨-,-,c2⟩:=Lms.cells h
 obtain ⟨T,hT⟩:∃ T,T=totL D.l:=⟨_,rfl⟩
 rw [←hT] at c2 ht hfull
 have d0:((n:Int)==0)=false:=by rw [beq_eq_false_iff_ne];omega
 have HPL:=Lib.hid (fun u b0 hb0=>wide_plus2 u T n (by omega) hn b0 hb0)
 have e:plusV [T,n]=.tuple #[.int .u64 0,.bool false]:=by
  unfold plusV
  rw [if_neg (by simp;omega)]
 rw [e] at HPL
 clear e hT h ht hfull hn h1
 go_enter Tryz.func127,Tryz.ntmps127
 go_wp2_with fail
 refine (HPL.out _ _ rfl).mono ?_
 rintro e w1 ⟨rfl,rfl⟩
 clear HPL
 go_wp2
 go_ret
 exact ⟨rfl,(Chg.refl [] w).alloc _⟩
set_option maxRecDepth 100000 in
set_option maxHeartbeats 2000000 in
theorem lump_put (w:World) (p:Nat) (rv:Value) (D:LmD) (h:LmS w p rv D) (hok:D.ok) (x:Int) (n:Nat) (h1:1≤n) (ht:totL D.l+n≤9223372036854775807) :
 Calls Tryz.prog 127 #[.pointer (some ⟨p,0,none⟩),.int .i64 x,.int .u64 (n:Nat)] w fun e w'=>e=.returned (.int .i64 0)∧∃ rv',LmS w' p rv' (D.put x n)∧Mv (fpL p rv) w (fpL p rv') w':=by
 obtain ⟨-,-,c2⟩:=Lms.cells h
 obtain ⟨ao,cap,hrv⟩:=h.own.shape
 subst hrv
 obtain ⟨T,hT⟩:∃ T,T=totL D.l:=⟨_,rfl⟩
 have HT:=Lib.hid hT
 have HH:=Lib.hid h
 have HOK:=Lib.hid hok
 have HTL:=Lib.hid ht
 have HH1:=Lib.hid h1
 rw [←hT] at c2 ht
 have d0:((n:Int)==0)=false:=by rw [beq_eq_false_iff_ne];omega
 have HPL:=Lib.hid (fun u b0 hb0=>wide_plus2 u T n (by omega) (by omega) b0 hb0)
 obtain ⟨S,hS⟩:∃ S,S=T+n:=⟨_,rfl⟩
 have e:plusV [T,n]=.tuple #[.int .u64 (S:Nat),.bool true]:=by
  have e0:[T,n].sum=S:=by simp [hS]
  unfold plusV
  rw [e0,if_pos (by omega)]
 rw [e] at HPL
 clear e hT h hok ht hS h1
 go_enter Tryz.func127,Tryz.ntmps127
 go_wp2_with fail
 refine (HPL.out _ _ rfl).mono ?_
 rintro e w1 ⟨rfl,rfl⟩
 have HC:=Lib.hid ((Chg.refl [] w).alloc (.cells #[.int .u64 (T:Nat),.int .u64 (n:Nat)] 23))
 clear HPL c2
 generalize w.alloc (.cells #[.int .u64 (T:Nat),.int .u64 (n:Nat)] 23)=w1 at *
 have hL:=HH.out.chg HC.out (by simp)
 have HLY:=Lib.hid (lump_lay w1 p ao cap D.l.length (D.most:Int) D.l rfl (totL D.l) hL HOK.out.rises (by have h1:=HOK.out.few;have h2:=HOK.out.m2;omega) ⟨n,x,x⟩ (Nat.le_refl _) (by have h1:=HTL.out;show totL D.l+n<_;omega))
 clear hL
 go_wp2_with fail
 refine HLY.out.mono ?_
 rintro e w2 ⟨rfl,a2,c2,hL2,hm2⟩
 have hlen:=lay_len HOK.out.rises ⟨n,x,x⟩
 have htot:totL D.l+(⟨n,x,x⟩:Lp).n=totL (layL D.l ⟨n,x,x⟩):=(totL_lay _ _).symm
 rw [htot] at hL2
 have hPR:=lump_press w2 p a2 c2 _ (D.most:Int) (layL D.l ⟨n,x,x⟩) rfl hL2 (lay_rises HOK.out.rises _) (by have h1:=HOK.out.few;have h2:=HOK.out.m2;omega) D.most rfl (by have:=HOK.out.m1;omega) (by rw [totL_lay];have h1:=HTL.out;show totL D.l+n<_;omega)
 have HPR:=Lib.hid hPR
 have HM2:=Lib.hid hm2
 clear hL2 hm2 hPR HLY hlen htot
 go_wp2_with fail
 refine HPR.out.mono ?_
 rintro e w3 ⟨rfl,a3,c3,hL3,hm3⟩
 have HL3:=Lib.hid hL3
 have HM3:=Lib.hid hm3
 clear hL3 hm3 HPR
 go_wp2
 go_ret
 refine ⟨rfl,.slice a3 (pressL D.most (layL D.l ⟨n,x,x⟩)).length c3,?_,((Mv.of_chg (HC.out.mono (by simp))).trans HM2.out).trans HM3.out⟩
 have h1:=HL3.out
 have h2:totL (layL D.l ⟨n,x,x⟩)=totL (pressL D.most (layL D.l ⟨n,x,x⟩)):=(LmD.pressedT (HOK.out.m1) (lay_rises HOK.out.rises _)).symm
 rw [h2] at h1
 exact h1
end Go.Proofs.YthoolcpcmhhkpaaGreatDoor
namespace Go.Proofs.YthoolcpcmhhkpaaGreatDoor
open Go.RowKit
end Go.Proofs.YthoolcpcmhhkpaaGreatDoor
namespace Go.Proofs.YthoolcpcmhhkpaaGreatDoor
open Go.RowKit
structure St4 (w0 wx:World) (S:Nat) (a0 a1 d0 d1 r0 r1 q0 q1:Nat):Prop where
 own:w0.heap.size≤S
 a:Blk wx S #[.int .u64 a0,.int .u64 a1] 302
 d:Blk wx (S+1) #[.int .u64 d0,.int .u64 d1] 302
 r:Blk wx (S+1+1) #[.int .u64 r0,.int .u64 r1] 302
 q:Blk wx (S+1+1+1) #[.int .u64 q0,.int .u64 q1] 302
 chg:Chg [] w0 wx
namespace St4
variable {w0 wx w1:World} {S a0 a1 d0 d1 r0 r1 q0 q1:Nat}
theorem call (h:St4 w0 wx S a0 a1 d0 d1 r0 r1 q0 q1) (k:Chg [] wx w1):St4 w0 w1 S a0 a1 d0 d1 r0 r1 q0 q1:=
 ⟨h.own,h.a.chg k (by simp),h.d.chg k (by simp),h.r.chg k (by simp),h.q.chg k (by simp),h.chg.trans k⟩
theorem drew (h:St4 w0 wx S a0 a1 d0 d1 r0 r1 q0 q1):St4 w0 wx.drew S a0 a1 d0 d1 r0 r1 q0 q1:=⟨h.own,h.a,h.d,h.r,h.q,h.chg.drew⟩
theorem cells (h:St4 w0 wx S a0 a1 d0 d1 r0 r1 q0 q1):(wx.cell? ⟨S,0,none⟩=some (.int .u64 a0)∧wx.cell? ⟨S,1,none⟩=some (.int .u64 a1)) ∧
 (wx.cell? ⟨S+1,0,none⟩=some (.int .u64 d0)∧wx.cell? ⟨S+1,1,none⟩=some (.int .u64 d1)) ∧
 (wx.cell? ⟨S+1+1,0,none⟩=some (.int .u64 r0)∧wx.cell? ⟨S+1+1,1,none⟩=some (.int .u64 r1)) ∧
 (wx.cell? ⟨S+1+1+1,0,none⟩=some (.int .u64 q0)∧wx.cell? ⟨S+1+1+1,1,none⟩=some (.int .u64 q1)) ∧
 (wx.frozen? ⟨S+1+1,0,none⟩=false∧wx.frozen? ⟨S+1+1,1,none⟩=false)∧(wx.frozen? ⟨S+1+1+1,0,none⟩=false∧wx.frozen? ⟨S+1+1+1,1,none⟩=false):=
 ⟨⟨h.a.cell 0,h.a.cell 1⟩,⟨h.d.cell 0,h.d.cell 1⟩,⟨h.r.cell 0,h.r.cell 1⟩,⟨h.q.cell 0,h.q.cell 1⟩,⟨h.r.free 0,h.r.free 1⟩,⟨h.q.free 0,h.q.free 1⟩⟩
end St4
end Go.Proofs.YthoolcpcmhhkpaaGreatDoor
namespace Go.Proofs.YthoolcpcmhhkpaaGreatDoor
open Go.RowKit
set_option maxRecDepth 100000 in
set_option maxHeartbeats 1000000 in
theorem clone_lumps (w:World) (ao:Option Addr) (cap n:Nat) (l:List Lp) (hrd:Rd w 3 (.slice ao n cap) n (lpCells l)) (hl:n≤1000000) :
 Calls Tryz.prog 190 #[.slice ao n cap] w fun e w'=>∃ a3 c3,e=.returned (.slice a3 n c3)∧Own w' 213 3 (.slice a3 n c3) n (lpCells l)∧Chg [] w w'∧∀ b∈abl a3,w.heap.size≤b:=by
 have hu:∀ (w:World) (a:Option Addr) (n c n' c':Nat),(binOp .eql 210 (.slice a n c) (.slice none n' c')).run Tryz.prog w=.ok (.bool a.isNone) w:=fun w a n c n' c'=>Lib.run_eql_slice_nil w _ _ a n c n' c' under_lumps
 cases ao with
 | none =>
   obtain ⟨hx,ao,cp,h0,h1⟩:=hrd
   simp only [Value.slice.injEq] at h0
   obtain ⟨rfl,-,-⟩:=h0
   obtain rfl:n=0:=by
    rcases h1 with h1|⟨_,_,h1,_⟩
    ·exact h1
    ·simp at h1
   have hxl:l=[]:=List.eq_nil_of_length_eq_zero (by rw [lpCells_len] at hx;omega)
   subst hxl
   go_enter Tryz.func190,Tryz.ntmps190
   go_wp2
   go_ret
   exact ⟨none,0,rfl,Own.nil _ _ _,Chg.refl _ _,by simp⟩
 | some a =>
   go_enter Tryz.func190,Tryz.ntmps190
   go_wp2_with (at_builtin;go_must (refine wpList_append_src _ rfl (.tmp 5) (.tmp 6) 210 210 rfl 213 _ 3 24 under_lumps info_lump rfl (by decide) (.slice (some ⟨w.heap.size,0,none⟩) 0 0) 0 (lpCells []) rfl (Own.lit w 213 3 0 #[] rfl (by unfold maxLen;omega)) (.slice (some a) n cap) n (lpCells l) rfl (Src.of_rd under_lumps (hrd.alloc _)) (lpCells_oneCell _) (by unfold maxLen;omega) (by omega) ?_;intro a5 c5 w2 ho2 hg2 hf2))
   go_ret
   rw [Nat.zero_add] at ho2
   refine ⟨a5,c5,by simp,by simpa [lpCells] using ho2,((Chg.refl [] w).alloc _).trans' hg2 (by simp),fun b hb => ?_⟩
   rcases hf2 b hb with h|h
   ·simp at h;omega
   ·simp at h;omega
def NewLm (w w':World) (most:Int) (e:Ending):Prop:=
 (¬(2≤most∧most≤64)∧e=.returned (.tuple #[.pointer none,.int .i64 1])∧Chg [] w w') ∨
 ((2≤most∧most≤64)∧∃ p,e=.returned (.tuple #[.pointer (some ⟨p,0,none⟩),.int .i64 0])∧Lms w' p (.slice none 0 0) most [] 0∧Chg [] w w'∧w.heap.size≤p)
set_option maxRecDepth 100000 in
set_option maxHeartbeats 1000000 in
theorem lump_new (w:World) (most:Int):Calls Tryz.prog 126 #[.int .i64 most] w fun e w'=>NewLm w w' most e:=by
 by_cases h:2≤most∧most≤64
 ·have d1:decide (most<2)=false:=decide_eq_false (by omega)
  have d2:decide ((64:Int)<most)=false:=decide_eq_false (by omega)
  have H:=Lib.hid h
  clear h
  go_enter Tryz.func126,Tryz.ntmps126
  go_wp2
  go_ret2
  exact .inr ⟨H.out,_,rfl,⟨Blk.alloc_new _ _ _,Own.nil _ _ _⟩,(Chg.refl [] w).alloc _,Nat.le_refl _⟩
 ·have H:=Lib.hid h
  by_cases h1:most<2
  ·have d1:decide (most<2)=true:=decide_eq_true h1
   clear h h1
   go_enter Tryz.func126,Tryz.ntmps126
   go_wp2
   go_ret2
   exact .inl ⟨H.out,rfl,Chg.refl _ _⟩
  ·have d1:decide (most<2)=false:=decide_eq_false h1
   have d2:decide ((64:Int)<most)=true:=decide_eq_true (by omega)
   clear h h1
   go_enter Tryz.func126,Tryz.ntmps126
   go_wp2
   go_ret2
   exact .inl ⟨H.out,rfl,Chg.refl _ _⟩
theorem lump_total (w:World) (p:Nat) (rv:Value) (most:Int) (l:List Lp) (T:Nat) (h:Lms w p rv most l T):Calls Tryz.prog 130 #[.pointer (some ⟨p,0,none⟩)] w fun e w'=>e=.returned (.int .u64 (T:Nat))∧Chg [] w w':=by
 obtain ⟨-,-,c2⟩:=h.cells
 go_enter Tryz.func130,Tryz.ntmps130
 go_wp2
 go_ret
 exact ⟨rfl,Chg.refl _ _⟩
theorem lump_most (w:World) (p:Nat) (rv:Value) (most:Int) (l:List Lp) (T:Nat) (h:Lms w p rv most l T):Calls Tryz.prog 398 #[.pointer (some ⟨p,0,none⟩)] w fun e w'=>e=.returned (.int .i64 most)∧Chg [] w w':=by
 obtain ⟨c0,-,-⟩:=h.cells
 go_enter Tryz.func398,Tryz.ntmps398
 go_wp2
 go_ret
 exact ⟨rfl,Chg.refl _ _⟩
theorem lump_lumps (w:World) (p:Nat) (ao:Option Addr) (n cap:Nat) (most:Int) (l:List Lp) (T:Nat) (hn:n=l.length) (h:Lms w p (.slice ao n cap) most l T) (hl:n≤1000000):Calls Tryz.prog 128 #[.pointer (some ⟨p,0,none⟩)] w fun e w'=>∃ a3 c3,e=.returned (.slice a3 n c3)∧Own w' 213 3 (.slice a3 n c3) n (lpCells l)∧Chg [] w w'∧∀ b∈abl a3,w.heap.size≤b:=by
 obtain ⟨-,c1,-⟩:=h.cells
 have HR:=Lib.hid (clone_lumps w ao cap n l (h.own.rd.of_len hn) hl)
 clear h hn
 go_enter Tryz.func128,Tryz.ntmps128
 go_wp2_with fail
 refine HR.out.mono ?_
 rintro e w' ⟨a3,c3,rfl,h1,h2,h3⟩
 go_wp2
 go_ret
 exact ⟨a3,c3,rfl,h1,h2,h3⟩
set_option maxRecDepth 100000 in
theorem step_bU3 {ops:Array Oper} {w:World} {o:Oper} {a:Act} {K:Act→World→Prop} {Q:Exit→Act→World→Prop} {E:Prop} (hg:o.guard=none) (t0 t1 t2:Tmp)
 (ho:o.op=.buildSlice 99 3 #[(0,.tmp t0),(1,.tmp t1),(2,.tmp t2)]) (x0 x1 x2:Nat) (h0:a.eval (.tmp t0)=.int .u64 (x0:Nat)) (h1:a.eval (.tmp t1)=.int .u64 (x1:Nat)) (h2:a.eval (.tmp t2)=.int .u64 (x2:Nat))
 (h:∀ g w',Rd w' 1 (.slice (some ⟨g,0,none⟩) 3 3) 3 (u64s [x0,x1,x2])→Chg [] w w'→w.heap.size≤g→K (a.put o.dst (.slice (some ⟨g,0,none⟩) 3 3)) w') :
 if Region.wanted o (yielded ops a.tmps)=true then Oper.wp Tryz.prog o a w K Q else E:=by
 obtain ⟨dst,op,ty,pos,af,gd⟩:=o
 simp only at hg ho h
 subst hg ho
 have H:=h w.heap.size (w.alloc (.cells #[.int .u64 (x0:Nat),.int .u64 (x1:Nat),.int .u64 (x2:Nat)] 23)) (Rd.lit w #[.int .u64 (x0:Nat),.int .u64 (x1:Nat),.int .u64 (x2:Nat)] 23 1 3 3 rfl) ((Chg.refl [] w).alloc _) (Nat.le_refl _)
 clear h
 have h0':a.tmps[t0]?.getD undef=.int .u64 (x0:Nat):=by simpa [Act.eval] using h0
 have h1':a.tmps[t1]?.getD undef=.int .u64 (x1:Nat):=by simpa [Act.eval] using h1
 have h2':a.tmps[t2]?.getD undef=.int .u64 (x2:Nat):=by simpa [Act.eval] using h2
 clear h0 h1 h2
 go_simp
 exact H
set_option maxRecDepth 100000 in
theorem step_bU2 {ops:Array Oper} {w:World} {o:Oper} {a:Act} {K:Act→World→Prop} {Q:Exit→Act→World→Prop} {E:Prop} (hg:o.guard=none) (t0 t1:Tmp)
 (ho:o.op=.buildSlice 99 2 #[(0,.tmp t0),(1,.tmp t1)]) (x0 x1:Nat) (h0:a.eval (.tmp t0)=.int .u64 (x0:Nat)) (h1:a.eval (.tmp t1)=.int .u64 (x1:Nat))
 (h:∀ g w',Rd w' 1 (.slice (some ⟨g,0,none⟩) 2 2) 2 (u64s [x0,x1])→Chg [] w w'→w.heap.size≤g→K (a.put o.dst (.slice (some ⟨g,0,none⟩) 2 2)) w') :
 if Region.wanted o (yielded ops a.tmps)=true then Oper.wp Tryz.prog o a w K Q else E:=by
 obtain ⟨dst,op,ty,pos,af,gd⟩:=o
 simp only at hg ho h
 subst hg ho
 have H:=h w.heap.size (w.alloc (.cells #[.int .u64 (x0:Nat),.int .u64 (x1:Nat)] 23)) (Rd.lit w #[.int .u64 (x0:Nat),.int .u64 (x1:Nat)] 23 1 2 2 rfl) ((Chg.refl [] w).alloc _) (Nat.le_refl _)
 clear h
 have h0':a.tmps[t0]?.getD undef=.int .u64 (x0:Nat):=by simpa [Act.eval] using h0
 have h1':a.tmps[t1]?.getD undef=.int .u64 (x1:Nat):=by simpa [Act.eval] using h1
 clear h0 h1
 go_simp
 exact H
set_option maxRecDepth 100000 in
theorem step_bU1 {ops:Array Oper} {w:World} {o:Oper} {a:Act} {K:Act→World→Prop} {Q:Exit→Act→World→Prop} {E:Prop} (hg:o.guard=none) (t0:Tmp)
 (ho:o.op=.buildSlice 99 1 #[(0,.tmp t0)]) (x0:Nat) (h0:a.eval (.tmp t0)=.int .u64 (x0:Nat))
 (h:∀ g w',Rd w' 1 (.slice (some ⟨g,0,none⟩) 1 1) 1 (u64s [x0])→Chg [] w w'→w.heap.size≤g→K (a.put o.dst (.slice (some ⟨g,0,none⟩) 1 1)) w') :
 if Region.wanted o (yielded ops a.tmps)=true then Oper.wp Tryz.prog o a w K Q else E:=by
 obtain ⟨dst,op,ty,pos,af,gd⟩:=o
 simp only at hg ho h
 subst hg ho
 have H:=h w.heap.size (w.alloc (.cells #[.int .u64 (x0:Nat)] 23)) (Rd.lit w #[.int .u64 (x0:Nat)] 23 1 1 1 rfl) ((Chg.refl [] w).alloc _) (Nat.le_refl _)
 clear h
 have h0':a.tmps[t0]?.getD undef=.int .u64 (x0:Nat):=by simpa [Act.eval] using h0
 clear h0
 go_simp
 exact H
theorem rises_snoc {l:List Lp} {k:Nat} (hk:k<l.length) (h:risesL (l.take k)) (h1:0<k→ltL (l.getD (k-1) default) l[k]=true):risesL (l.take (k+1)):=by
 rw [List.take_succ_eq_append_getElem hk]
 unfold risesL at *
 rw [List.pairwise_append]
 refine ⟨h,by simp,fun a ha b hb => ?_⟩
 rw [List.mem_singleton.1 hb]
 obtain ⟨j,hj,rfl⟩:=List.getElem_of_mem ha
 have hjk:j<k:=by rw [List.length_take] at hj;omega
 have h2:=h1 (by omega)
 have e:l.getD (k-1) default=(l.take k)[k-1]'(by rw [List.length_take];omega):=by simp [List.getD,show k-1<l.length by omega]
 by_cases hj2:j=k-1
 ·subst hj2;rw [←e];exact h2
 ·rw [e] at h2
  exact ltL_trans (List.pairwise_iff_getElem.1 h j (k-1) hj (by rw [List.length_take];omega) (by omega)) h2
theorem rises_last {l:List Lp} {k:Nat} (hk:k<l.length) (h:risesL l) (h0:0<k):ltL (l.getD (k-1) default) l[k]=true:=by
 have e:l.getD (k-1) default=l[k-1]:=by simp [List.getD,show k-1<l.length by omega]
 rw [e]
 exact risesL_at h (by omega) hk
structure PreLm (l:List Lp) (k:Nat):Prop where
 tot:totL (l.take k)≤9223372036854775807
 each:∀ p∈l.take k,1≤p.n∧p.lo≤p.hi
 rises:risesL (l.take k)
theorem PreLm.step {l:List Lp} {k:Nat} (hk:k<l.length) (h:PreLm l k) (h1:totL (l.take k)+l[k].n≤9223372036854775807) (h2:1≤l[k].n) (h3:l[k].lo≤l[k].hi) (h4:0<k→ltL (l.getD (k-1) default) l[k]=true):PreLm l (k+1):=by
 refine ⟨?_,fun p hp => ?_,rises_snoc hk h.rises h4⟩
 ·rw [List.take_succ_eq_append_getElem hk,totL_app,totL_cons,totL_nil];omega
 ·rw [List.take_succ_eq_append_getElem hk] at hp
  rcases List.mem_append.1 hp with hp|hp
  ·exact h.each p hp
  ·rw [List.mem_singleton.1 hp];exact ⟨h2,h3⟩
theorem okLm.at_ {most:Int} {l:List Lp} (h:okLm most l) {k:Nat} (hk:k<l.length):totL (l.take k)+l[k].n≤9223372036854775807∧1≤l[k].n∧l[k].lo≤l[k].hi∧(0<k→ltL (l.getD (k-1) default) l[k]=true):=by
 have h1:=totL_take_le l (k+1)
 rw [List.take_succ_eq_append_getElem hk,totL_app,totL_cons,totL_nil] at h1
 have h2:=h.tot
 have h3:=h.each _ (List.getElem_mem hk)
 exact ⟨by omega,h3.1,h3.2,fun h0=>rises_last hk h.rises h0⟩
theorem flatMap_takeL {α:Type} (f:α→List UInt8) (l:List α) (k:Nat) (h:k<l.length):(l.take (k+1)).flatMap f=(l.take k).flatMap f++f l[k]:=by
 rw [List.take_succ_eq_append_getElem h,List.flatMap_append];simp
theorem lumpsB_take (l:List Lp) (h:∀ p∈l,p.fit) (k:Nat):((l.take k).flatMap lumpB).length≤30*l.length:=by
 have h1:=lumpsB_len (l.take k) (fun p hp=>h p (List.mem_of_mem_take hp))
 have h2:(l.take k).length≤l.length:=by rw [List.length_take];omega
 omega
set_option maxRecDepth 100000 in
set_option maxHeartbeats 4000000 in
theorem lump_write (w:World) (p:Nat) (rv:Value) (D:LmD) (h:LmS w p rv D) (hok:D.ok) (q:Nat) (F:List Nat) (l:List UInt8) (hl:l.length≤1000) (hql:Qul w q F l) :
 Calls Tryz.prog 396 #[.agg #[.pointer (some ⟨p,0,none⟩)],.pointer (some ⟨q,0,none⟩)] w fun e w'=>e=.returned (.tuple #[])∧∃ F',Qul w' q F' (l++putLm D.most D.l)∧Mv F w F' w':=by
 obtain ⟨ao,cap,hrv⟩:=h.own.shape
 subst hrv
 obtain ⟨n,hn⟩:∃ n,n=D.l.length:=⟨_,rfl⟩
 have HN:=Lib.hid hn
 have hn64:n≤64:=by have h1:=hok.few;have h2:=hok.m2;omega
 have HH:=Lib.hid h
 have HOK:=Lib.hid hok
 have HQ:=Lib.hid hql
 have HFL:=Lib.hid (show ∀ b∈F,b<w.heap.size from hql.lt)
 obtain ⟨b0,hb0⟩:∃ z,z=w.heap.size:=⟨_,rfl⟩
 have HB:=Lib.hid (show Blk (w.alloc (.cells #[.pointer (some ⟨p,0,none⟩)] 227)) b0 #[.pointer (some ⟨p,0,none⟩)] 227 from by rw [hb0];exact Blk.alloc_new _ _ _)
 have HC0:=Lib.hid ((Chg.refl [] w).alloc (.cells #[.pointer (some ⟨p,0,none⟩)] 227))
 clear h hok hql hn
 go_enter Tryz.func396,Tryz.ntmps396
 go_wp2_with fail
 rw [←hb0]
 clear hb0
 generalize w.alloc (.cells #[.pointer (some ⟨p,0,none⟩)] 227)=w0 at *
 have hc0:=HB.out.cell 0
 simp only [List.getElem?_toArray,List.getElem?_cons_zero] at hc0
 go_wp2_with fail
 refine (lump_lumps w0 p ao n cap (D.most:Int) D.l (totL D.l) HN.out (by have h:=HH.out.chg HC0.out (by simp);rw [←HN.out] at h;exact h) (by omega)).mono ?_
 rintro e w1 ⟨a1,c1,rfl,ho1,hc1,hf1⟩
 have HC1:=Lib.hid (HC0.out.trans hc1)
 have HB1:=Lib.hid (HB.out.chg hc1 (by simp))
 have HRD:=Lib.hid ho1.rd
 have HF1:=Lib.hid (show ∀ b∈abl a1,w.heap.size≤b from fun b hb=>Nat.le_trans HC0.out.size (hf1 b hb))
 clear hc0 hc1 ho1 hf1 HB HC0
 have hc0:=HB1.out.cell 0
 simp only [List.getElem?_toArray,List.getElem?_cons_zero] at hc0
 go_wp2_with fail
 refine (lump_most w1 p (.slice ao D.l.length cap) (D.most:Int) D.l (totL D.l) (HH.out.chg HC1.out (by simp))).mono ?_
 rintro e w2 ⟨rfl,hc2⟩
 have HC2:=Lib.hid (HC1.out.trans hc2)
 have HRD2:=Lib.hid (HRD.out.chg hc2 (by simp))
 have hwm:IntKind.u64.wrap (D.most:Int)=(D.most:Int):=IntWalk.u64_in _ (by have:=HOK.out.m2;omega)
 have hwn:IntKind.u64.wrap (n:Int)=(n:Int):=IntWalk.u64_in _ (by omega)
 have hq2:Qul (w2.alloc (.cells #[.int .u64 (D.most:Nat),.int .u64 (n:Nat)] 23)) q F l:=(HQ.out.chg HC2.out (by simp)).chg ((Chg.refl [] w2).alloc _) (by simp)
 have hbn:w2.heap.size∉F:=fun hb=>by have h1:=HFL.out _ hb;have h2:=HC2.out.size;omega
 have HQN:=Lib.hid (quill_nat (w2.alloc (.cells #[.int .u64 (D.most:Nat),.int .u64 (n:Nat)] 23)) q F l (some ⟨w2.heap.size,0,none⟩) 2 [D.most,n] (by intro u hu;simp at hu;have:=HOK.out.m2;rcases hu with rfl|rfl<;>omega) hq2 (Rd.lit w2 #[.int .u64 (D.most:Nat),.int .u64 (n:Nat)] 23 1 2 2 rfl) (by intro b hb;simp at hb;rw [hb];exact hbn) (by simp;omega))
 clear hc0 hc2 HB1 HC1 HRD hq2 hbn
 go_wp2_with fail
 refine HQN.out.mono ?_
 rintro e w3 ⟨rfl,F3,hq3,hm3⟩
 have HM3:=Lib.hid ((Mv.alloc F w2 (.cells #[.int .u64 (D.most:Nat),.int .u64 (n:Nat)] 23)).trans hm3)
 have HQ3:=Lib.hid (show Qul w3 q F3 (l++(natB D.most++natB n)) from by simpa using hq3)
 have HLN:=Lib.hid (show (natB D.most).length≤10∧(natB n).length≤10 from ⟨natB_len10 (by have:=HOK.out.m2;omega),natB_len10 (by omega)⟩)
 clear hq3 hm3 HQN hwm hwn
 go_wp2_with fail
 go_loopw [22] (fun i wx=>∃ (k:Nat) (F':List Nat),k≤n∧i=.int .i64 (k:Nat)∧Hid (Qul wx q F' (l++(natB D.most++natB n)++(D.l.take k).flatMap lumpB)∧Mv F w2 F' wx)) (fun i _=>n-(intOf i).toNat)
 case atStart=>exact ⟨0,F3,Nat.zero_le _,rfl,Lib.hid ⟨by simpa using HQ3.out,HM3.out⟩⟩
 case round =>
  obtain ⟨k,F4,hk,rfl,HX⟩:=hrel
  by_cases hlt:k<n
  ·have hkl:k<D.l.length:=by have:=HN.out;omega
   have hrd:=HRD2.out.chg HX.out.2.chg (fun b hb e=>by have h1:=HFL.out b e;have h2:=HF1.out b (by simpa using hb);omega)
   obtain ⟨g,o,rfl,hc⟩:=hrd.addr (by omega)
   obtain ⟨d0,d1,d2⟩:=lp_at (l:=D.l) (fun j hj=>hc j (by rw [HN.out];exact hj)) hkl
   have hfit:=HOK.out.fit _ (List.getElem_mem hkl)
   have HFT:=Lib.hid (flatMap_takeL lumpB D.l k hkl)
   have hlb:=lumpsB_take D.l HOK.out.fit k
   have hlb2:=lumpB_len hfit
   obtain ⟨Z,hZ⟩:∃ Z,Z=l++(natB D.most++natB n)++(D.l.take k).flatMap lumpB:=⟨_,rfl⟩
   have hZl:Z.length≤4000:=by
    rw [hZ]
    have h1:=HLN.out
    have h2:=HN.out
    simp only [List.length_append]
    omega
   have HZ:=Lib.hid hZ
   have HFI:=Lib.hid hfit
   generalize D.l[k]=y at *
   obtain ⟨b6,hb6⟩:∃ z,z=wr.heap.size:=⟨_,rfl⟩
   have HB6:=Lib.hid (show Blk (wr.alloc (.cells #[.int .u64 (y.n:Nat),.int .i64 y.lo,.int .i64 y.hi] 213)) b6 #[.int .u64 (y.n:Nat),.int .i64 y.lo,.int .i64 y.hi] 213 from by rw [hb6];exact Blk.alloc_new _ _ _)
   have HC6:=Lib.hid ((Chg.refl [] wr).alloc (.cells #[.int .u64 (y.n:Nat),.int .i64 y.lo,.int .i64 y.hi] 213))
   have hq4:=HX.out.1.chg HC6.out (by simp)
   rw [←hZ] at hq4
   have HQ4:=Lib.hid hq4
   have HM4:=Lib.hid (HX.out.2.trans (Mv.of_chg (HC6.out.nil (F:=F4))))
   have H64:=Lib.hid (show b6∉F4 from fun hb=>by have:=HX.out.1.lt _ hb;omega)
   have H61:=Lib.hid (show (wr.alloc (.cells #[.int .u64 (y.n:Nat),.int .i64 y.lo,.int .i64 y.hi] 213)).heap.size=b6+1 from by rw [World.size_alloc,hb6])
   clear hc hrd hfit hlb hlb2 hZ hq4 HX
   go_wp2_with fail
   rw [←hb6]
   clear d0 d1 d2 hb6 HC6
   generalize wr.alloc (.cells #[.int .u64 (y.n:Nat),.int .i64 y.lo,.int .i64 y.hi] 213)=w6 at *
   have z0:=HB6.out.cell 0
   have z1:=HB6.out.cell 1
   have z2:=HB6.out.cell 2
   simp only [List.getElem?_toArray,List.getElem?_cons_zero,List.getElem?_cons_succ] at z0 z1 z2
   have HQI:=Lib.hid (quill_int (w6.alloc (.cells #[.int .i64 y.lo,.int .i64 y.hi] 2)) q F4 Z (some ⟨w6.heap.size,0,none⟩) 2 [y.lo,y.hi] (by intro u hu;simp at hu;rcases hu with rfl|rfl;(exact HFI.out.lo);(exact HFI.out.hi)) (HQ4.out.chg ((Chg.refl [] w6).alloc _) (by simp)) (Rd.lit w6 #[.int .i64 y.lo,.int .i64 y.hi] 2 1 2 2 rfl) (by intro b hb;simp at hb;intro h;have:=HQ4.out.lt _ h;omega) (by simp;omega))
   rw [H61.out] at HQI
   go_wp2_with fail
   refine HQI.out.mono ?_
   rintro e w7 ⟨rfl,F7,hq7,hm7⟩
   have HM7:=Lib.hid ((Mv.alloc F4 w6 (.cells #[.int .i64 y.lo,.int .i64 y.hi] 2)).trans hm7)
   have HB7:=Lib.hid (HB6.out.chg HM7.out.chg H64.out)
   have HQ7:=Lib.hid (show Qul w7 q F7 (Z++(natB (zig y.lo)++natB (zig y.hi))) from by simpa using hq7)
   have HL7:=Lib.hid (show (Z++(natB (zig y.lo)++natB (zig y.hi))).length≤4020 from by
    have h1:=natB_len10 (n:=zig y.lo) (by have:=HFI.out.lo.zig;omega)
    have h2:=natB_len10 (n:=zig y.hi) (by have:=HFI.out.hi.zig;omega)
    simp only [List.length_append]
    omega)
   clear hq7 hm7 HQI z0 z1 z2 HB6
   have z0:=HB7.out.cell 0
   simp only [List.getElem?_toArray,List.getElem?_cons_zero] at z0
   have HQN:=Lib.hid (quill_nat1 w7 q F7 _ y.n (by have:=HFI.out.n2;omega) HQ7.out w7.heap.size rfl (by have:=HL7.out;omega))
   go_wp2_with fail
   refine HQN.out.mono ?_
   rintro e w8 ⟨rfl,F8,hq8,hm8⟩
   have HM8:=Lib.hid ((HM4.out.trans HM7.out).trans hm8)
   have HQ8:=Lib.hid (show Qul w8 q F8 (l++(natB D.most++natB n)++(D.l.take (k+1)).flatMap lumpB) from by
    rw [HFT.out,←List.append_assoc,←HZ.out]
    simpa [lumpB] using hq8)
   clear hq8 hm8 HQN z0
   go_wp2_with fail
   exact ⟨⟨k+1,F8,by omega,by go_num,Lib.hid ⟨HQ8.out,HM8.out⟩⟩,by simp [intOf];omega⟩
  ·obtain rfl:k=n:=by omega
   have hfull:D.l.take k=D.l:=List.take_of_length_le (by have:=HN.out;omega)
   have hx:=HX.out
   rw [hfull] at hx
   have HE:=Lib.hid hx
   clear hx hfull HX
   go_wp2_with fail
   go_end0
   refine ⟨rfl,F4,?_,(Mv.of_chg (HC2.out.nil (F:=F))).trans HE.out.2⟩
   have h1:=HE.out.1
   rw [putLm,←HN.out]
   simpa using h1
end Go.Proofs.YthoolcpcmhhkpaaGreatDoor
