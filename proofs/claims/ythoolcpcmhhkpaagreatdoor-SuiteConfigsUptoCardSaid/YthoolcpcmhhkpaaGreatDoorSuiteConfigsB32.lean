/-
  Parts of a proof, pressed. Conditions: the form's own reach.
-/
import Derived.Test.YthoolcpcmhhkpaaGreatDoorSuiteConfigsB28
import Derived.Test.YthoolcpcmhhkpaaGreatDoorSuiteConfigsB2
import Derived.Test.YthoolcpcmhhkpaaGreatDoorSuiteConfigsB31
import Derived.Test.YthoolcpcmhhkpaaGreatDoorSuiteConfigsB29
namespace Go.Proofs.YthoolcpcmhhkpaaGreatDoor
open Go.RowKit
def capT (hi:Bool):Nat:=if hi then 329 else 331
def capPT (hi:Bool):Nat:=if hi then 293 else 296
structure CapS (w:World) (p s:Nat) (rv:Value) (D:CapD):Prop where
 blk:Blk w p #[.int .i64 (D.m:Int),.pointer (some ⟨s,0,none⟩),.int .u64 (D.lost:Nat)] (capT D.hi)
 st:StM w s (D.m:Int) rv D.r
 ne:p∉fpT s rv
def fpC (p s:Nat) (rv:Value):List Nat:=p::fpT s rv
namespace CapS
variable {w w1:World} {p s:Nat} {rv:Value} {D:CapD}
theorem lt (h:CapS w p s rv D):∀ b∈fpC p s rv,b<w.heap.size:=fun b hb=>by
 rcases List.mem_cons.1 hb with rfl|hb
 ·exact h.blk.lt
 ·exact h.st.lt b hb
theorem chg {F:List Nat} (h:CapS w p s rv D) (k:Chg F w w1) (hF:∀ b∈fpC p s rv,b∉F):CapS w1 p s rv D:=
 ⟨h.blk.chg k (hF p (by simp [fpC])),h.st.chg k (fun b hb=>hF b (by simp [fpC,hb])),h.ne⟩
theorem cells (h:CapS w p s rv D):w.cell? ⟨p,0,none⟩=some (.int .i64 (D.m:Int))∧w.cell? ⟨p,1,none⟩=some (.pointer (some ⟨s,0,none⟩))∧w.cell? ⟨p,2,none⟩=some (.int .u64 (D.lost:Nat)):=⟨h.blk.cell 0,h.blk.cell 1,h.blk.cell 2⟩
end CapS
def NewCap (w w':World) (hi:Bool) (most:Int) (e:Ending):Prop:=
 (¬(1≤most∧most≤4096)∧e=.returned (.tuple #[.pointer none,.int .i64 1])∧Chg [] w w') ∨
 ((1≤most∧most≤4096)∧∃ p s,e=.returned (.tuple #[.pointer (some ⟨p,0,none⟩),.int .i64 0])∧CapS w' p s (.slice none 0 0) ⟨hi,most.toNat,[],0⟩∧Chg [] w w'∧∀ b∈fpC p s (.slice none 0 0),w.heap.size≤b)
set_option maxRecDepth 100000 in
set_option maxHeartbeats 1000000 in
theorem low_new (w:World) (most:Int):Calls Tryz.prog 202 #[.int .i64 most] w fun e w'=>NewCap w w' false most e:=by
 have HN:=Lib.hid (stm_new w most)
 go_enter Tryz.func202,Tryz.ntmps202
 go_wp2_with fail
 refine HN.out.mono ?_
 rintro e w1 (⟨hno,rfl,hc⟩|⟨hm,s,rfl,hs,hc,hf⟩)
 ·have H:=Lib.hid (And.intro hno hc)
  clear hno hc HN
  go_wp2
  go_ret2
  exact .inl ⟨H.out.1,rfl,H.out.2⟩
 ·have H:=Lib.hid (And.intro hm hc)
  have HS:=Lib.hid hs
  have HF:=Lib.hid hf
  clear hm hc hs hf HN
  go_wp2
  go_ret2
  have hk:Chg [] w1 (w1.alloc (.cells #[.int .i64 most,.pointer (some ⟨s,0,none⟩),.int .u64 0] 331)):=(Chg.refl [] w1).alloc _
  refine .inr ⟨H.out.1,w1.heap.size,s,rfl,⟨?_,?_,?_⟩,H.out.2.trans hk,fun b hb => ?_⟩
  ·have e:((most.toNat:Nat):Int)=most:=by have:=H.out.1;omega
   simp only [e]
   exact Blk.alloc_new w1 _ _
  ·have e:((most.toNat:Nat):Int)=most:=by have:=H.out.1;omega
   simp only [e]
   exact HS.out.chg hk (by simp)
  ·intro hb
   exact absurd (HS.out.lt _ hb) (by omega)
  ·simp only [fpC,fpT,blkOf_none,List.mem_cons,List.not_mem_nil,or_false] at hb
   rcases hb with rfl|rfl
   ·exact H.out.2.size
   ·exact HF.out
set_option maxRecDepth 100000 in
set_option maxHeartbeats 1000000 in
theorem high_new (w:World) (most:Int):Calls Tryz.prog 201 #[.int .i64 most] w fun e w'=>NewCap w w' true most e:=by
 have HN:=Lib.hid (stm_new w most)
 go_enter Tryz.func201,Tryz.ntmps201
 go_wp2_with fail
 refine HN.out.mono ?_
 rintro e w1 (⟨hno,rfl,hc⟩|⟨hm,s,rfl,hs,hc,hf⟩)
 ·have H:=Lib.hid (And.intro hno hc)
  clear hno hc HN
  go_wp2
  go_ret2
  exact .inl ⟨H.out.1,rfl,H.out.2⟩
 ·have H:=Lib.hid (And.intro hm hc)
  have HS:=Lib.hid hs
  have HF:=Lib.hid hf
  clear hm hc hs hf HN
  go_wp2
  go_ret2
  have hk:Chg [] w1 (w1.alloc (.cells #[.int .i64 most,.pointer (some ⟨s,0,none⟩),.int .u64 0] 329)):=(Chg.refl [] w1).alloc _
  refine .inr ⟨H.out.1,w1.heap.size,s,rfl,⟨?_,?_,?_⟩,H.out.2.trans hk,fun b hb => ?_⟩
  ·have e:((most.toNat:Nat):Int)=most:=by have:=H.out.1;omega
   simp only [e]
   exact Blk.alloc_new w1 _ _
  ·have e:((most.toNat:Nat):Int)=most:=by have:=H.out.1;omega
   simp only [e]
   exact HS.out.chg hk (by simp)
  ·intro hb
   exact absurd (HS.out.lt _ hb) (by omega)
  ·simp only [fpC,fpT,blkOf_none,List.mem_cons,List.not_mem_nil,or_false] at hb
   rcases hb with rfl|rfl
   ·exact H.out.2.size
   ·exact HF.out
def FreshCap (w w':World) (hi:Bool) (most:Int) (e:Ending):Prop:=
 (¬(1≤most∧most≤4096)∧e=.returned (.tuple #[.iface (capPT hi) (.pointer none),.int .i64 1])∧Chg [] w w') ∨
 ((1≤most∧most≤4096)∧∃ p s,e=.returned (.tuple #[.iface (capPT hi) (.pointer (some ⟨p,0,none⟩)),.int .i64 0])∧CapS w' p s (.slice none 0 0) ⟨hi,most.toNat,[],0⟩∧Chg [] w w'∧∀ b∈fpC p s (.slice none 0 0),w.heap.size≤b)
set_option maxRecDepth 100000 in
set_option maxHeartbeats 1000000 in
theorem bins_fresh (w:World) (side:Int) (hi:Bool) (hhi:hi=decide (side=1)) (most:Int):Calls Tryz.prog 154 #[.int .i64 side,.int .i64 most] w fun e w'=>FreshCap w w' hi most e:=by
 cases hi with
 | true =>
   have e1:(side==1)=true:=by have:=hhi;simp at this;simp [this]
   have HN:=Lib.hid (high_new w most)
   clear hhi
   go_enter Tryz.func154,Tryz.ntmps154
   go_wp2_with fail
   refine HN.out.mono ?_
   rintro e w1 (⟨hno,rfl,hc⟩|⟨hm,p,s,rfl,hs,hc,hf⟩)
   ·have H:=Lib.hid (And.intro hno hc)
    clear hno hc HN
    go_wp2
    go_ret2
    exact .inl ⟨H.out.1,rfl,H.out.2⟩
   ·have H:=Lib.hid (And.intro hm (And.intro hs (And.intro hc hf)))
    clear hm hc hs hf HN
    go_wp2
    go_ret2
    exact .inr ⟨H.out.1,p,s,rfl,H.out.2.1,H.out.2.2.1,H.out.2.2.2⟩
 | false =>
   have e1:(side==1)=false:=by have:=hhi;simp at this;simp [this]
   have HN:=Lib.hid (low_new w most)
   clear hhi
   go_enter Tryz.func154,Tryz.ntmps154
   go_wp2_with fail
   refine HN.out.mono ?_
   rintro e w1 (⟨hno,rfl,hc⟩|⟨hm,p,s,rfl,hs,hc,hf⟩)
   ·have H:=Lib.hid (And.intro hno hc)
    clear hno hc HN
    go_wp2
    go_ret2
    exact .inl ⟨H.out.1,rfl,H.out.2⟩
   ·have H:=Lib.hid (And.intro hm (And.intro hs (And.intro hc hf)))
    clear hm hc hs hf HN
    go_wp2
    go_ret2
    exact .inr ⟨H.out.1,p,s,rfl,H.out.2.1,H.out.2.2.1,H.out.2.2.2⟩
structure BinA where
 b:Nat
 t:Nat
 la:Option Addr
 lc:Nat
 ra:Option Addr
 rc:Nat
 p1:Nat
 s1:Nat
 r1:Value
 p2:Nat
 s2:Nat
 r2:Value
def sideI (hi:Bool):Int:=if hi then 1 else 0
def fpBin (A:BinA):List Nat:=A.b::(fpTab A.t A.la A.ra++(fpC A.p1 A.s1 A.r1++fpC A.p2 A.s2 A.r2))
structure BinS (w:World) (A:BinA) (D:BinD):Prop where
 blk:Blk w A.b #[.iface 133 (.pointer (some ⟨A.t,0,none⟩)),.int .i64 (sideI D.hi),.int .i64 (D.m:Int),.iface (capPT D.hi) (.pointer (some ⟨A.p1,0,none⟩)),.iface (capPT D.hi) (.pointer (some ⟨A.p2,0,none⟩)),.int .u64 (D.zero:Nat)] 146
 tab:Tab w A.t D.num D.den D.n A.la A.lc A.ra A.rc
 rows:∀ b∈abl A.la,b∉abl A.ra
 minus:CapS w A.p1 A.s1 A.r1 D.minus
 plus:CapS w A.p2 A.s2 A.r2 D.plus
 bt:A.b∉fpTab A.t A.la A.ra
 b1:A.b∉fpC A.p1 A.s1 A.r1
 b2:A.b∉fpC A.p2 A.s2 A.r2
 t1:∀ x∈fpTab A.t A.la A.ra,x∉fpC A.p1 A.s1 A.r1∧x∉fpC A.p2 A.s2 A.r2
 s12:∀ x∈fpC A.p1 A.s1 A.r1,x∉fpC A.p2 A.s2 A.r2
namespace BinS
variable {w w1:World} {A:BinA} {D:BinD}
theorem lt (h:BinS w A D):∀ b∈fpBin A,b<w.heap.size:=fun b hb=>by
 rcases List.mem_cons.1 hb with rfl|hb
 ·exact h.blk.lt
 ·rcases List.mem_append.1 hb with hb|hb
  ·exact h.tab.lt b hb
  ·rcases List.mem_append.1 hb with hb|hb
   ·exact h.minus.lt b hb
   ·exact h.plus.lt b hb
theorem chg {F:List Nat} (h:BinS w A D) (k:Chg F w w1) (hF:∀ b∈fpBin A,b∉F):BinS w1 A D:=
 ⟨h.blk.chg k (hF A.b (by simp [fpBin])),h.tab.chg k (fun b hb=>hF b (by simp [fpBin,hb])),h.rows,h.minus.chg k (fun b hb=>hF b (by simp [fpBin,hb])),h.plus.chg k (fun b hb=>hF b (by simp [fpBin,hb])),h.bt,h.b1,h.b2,h.t1,h.s12⟩
end BinS
def NewBin (w w':World) (num den n t:Nat) (la:Option Addr) (lc:Nat) (ra:Option Addr) (rc:Nat) (side most:Int) (e:Ending):Prop:=
 (¬((side=0∨side=1)∧1≤most∧most≤4096)∧e=.returned (.tuple #[.pointer none,.int .i64 1])∧Chg [] w w') ∨
 (((side=0∨side=1)∧1≤most∧most≤4096)∧∃ A:BinA,A.t=t∧A.la=la∧A.lc=lc∧A.ra=ra∧A.rc=rc∧e=.returned (.tuple #[.pointer (some ⟨A.b,0,none⟩),.int .i64 0]) ∧
   BinS w' A ⟨num,den,n,decide (side=1),most.toNat,⟨decide (side=1),most.toNat,[],0⟩,⟨decide (side=1),most.toNat,[],0⟩,0⟩∧Chg [] w w'∧w.heap.size≤A.b∧(∀ b∈fpC A.p1 A.s1 A.r1,w.heap.size≤b)∧∀ b∈fpC A.p2 A.s2 A.r2,w.heap.size≤b)
set_option maxRecDepth 100000 in
set_option maxHeartbeats 2000000 in
theorem bins_new (w:World) (num den n t:Nat) (la:Option Addr) (lc:Nat) (ra:Option Addr) (rc:Nat) (hT:Tab w t num den n la lc ra rc) (hrows:∀ b∈abl la,b∉abl ra) (side most:Int) :
 Calls Tryz.prog 82 #[.iface 133 (.pointer (some ⟨t,0,none⟩)),.int .i64 side,.int .i64 most] w fun e w'=>NewBin w w' num den n t la lc ra rc side most e:=by
 have HT:=Lib.hid hT
 have HR:=Lib.hid hrows
 obtain ⟨hi,hhi⟩:∃ b,b=decide (side=1):=⟨_,rfl⟩
 unfold NewBin
 simp only [←hhi]
 by_cases hs:side=0∨side=1
 case neg =>
  have e0:(side != 0)=true:=by rw [bne_iff_ne];exact fun h=>hs (.inl h)
  have e1:(side != 1)=true:=by rw [bne_iff_ne];exact fun h=>hs (.inr h)
  have H:=Lib.hid hs
  clear hs hT hrows hhi
  go_enter Tryz.func82,Tryz.ntmps82
  go_wp2
  go_ret2
  exact .inl ⟨fun h=>H.out h.1,rfl,Chg.refl _ _⟩
 case pos =>
 have HS:=Lib.hid hs
 have HF:=Lib.hid (fun u=>bins_fresh u side hi hhi most)
 have HSI:=Lib.hid (show side=sideI hi from by
  rw [hhi]
  unfold sideI
  rcases hs with h|h<;>simp [h])
 have e01:(side != 0)=false∨((side != 0)=true∧(side != 1)=false):=by
  rcases hs with h|h
  ·exact .inl (by rw [h];rfl)
  ·exact .inr ⟨by rw [h];rfl,by rw [h];rfl⟩
 clear hT hrows hhi hs
 rcases e01 with e0|⟨e0,e1⟩
 ·
  go_enter Tryz.func82,Tryz.ntmps82
  go_wp2_with fail
  refine (HF.out w).mono ?_
  rintro e w1 (⟨hno,rfl,hc⟩|⟨hm,p1,s1,rfl,h1,hc,hf1⟩)
  ·have H:=Lib.hid (And.intro hno hc)
   clear hno hc HF
   go_wp2
   go_ret2
   exact .inl ⟨fun h=>H.out.1 h.2,rfl,H.out.2⟩
  ·have HM:=Lib.hid hm
   have H1:=Lib.hid h1
   have HC1:=Lib.hid hc
   have HF1:=Lib.hid hf1
   clear hm h1 hc hf1
   go_wp2_with fail
   refine (HF.out w1).mono ?_
   rintro e w2 (⟨hno,-⟩|⟨-,p2,s2,rfl,h2,hc2,hf2⟩)
   ·exact absurd HM.out hno
   have HC2:=Lib.hid (HC1.out.trans hc2)
   have H2:=Lib.hid h2
   have HF2:=Lib.hid hf2
   have H12:=Lib.hid (H1.out.chg hc2 (by simp))
   have HT2:=Lib.hid (HT.out.chg (HC1.out.trans hc2) (by simp))
   clear h2 hc2 hf2 HF
   obtain ⟨b,hb⟩:∃ z,z=w2.heap.size:=⟨_,rfl⟩
   have hk:=(Chg.refl [] w2).alloc (.cells #[.iface 133 (.pointer (some ⟨t,0,none⟩)),.int .i64 side,.int .i64 most,.iface (capPT hi) (.pointer (some ⟨p1,0,none⟩)),.iface (capPT hi) (.pointer (some ⟨p2,0,none⟩)),.int .u64 0] 146)
   have HB:=Lib.hid (Blk.alloc_new w2 #[.iface 133 (.pointer (some ⟨t,0,none⟩)),.int .i64 side,.int .i64 most,.iface (capPT hi) (.pointer (some ⟨p1,0,none⟩)),.iface (capPT hi) (.pointer (some ⟨p2,0,none⟩)),.int .u64 0] 146)
   have HK:=Lib.hid hk
   clear hk hb
   go_wp2
   go_ret2
   have hsz1:w.heap.size≤w1.heap.size:=HC1.out.size
   have em:((most.toNat:Nat):Int)=most:=by have:=HM.out;omega
   refine .inr ⟨⟨HS.out,HM.out⟩,⟨w2.heap.size,t,la,lc,ra,rc,p1,s1,.slice none 0 0,p2,s2,.slice none 0 0⟩,rfl,rfl,rfl,rfl,rfl,rfl,⟨?_,HT2.out.chg HK.out (by simp),HR.out,H12.out.chg HK.out (by simp),H2.out.chg HK.out (by simp),?_,?_,?_,?_,?_⟩,HC2.out.trans HK.out,HC2.out.size,HF1.out,fun x hx=>Nat.le_trans hsz1 (HF2.out x hx)⟩
   ·simp only [←HSI.out,em]
    exact HB.out
   ·intro hb;exact absurd (HT2.out.lt _ hb) (Nat.lt_irrefl _)
   ·intro hb;exact absurd (H12.out.lt _ hb) (Nat.lt_irrefl _)
   ·intro hb;exact absurd (H2.out.lt _ hb) (Nat.lt_irrefl _)
   ·intro x hx
    have h1:=HT.out.lt x hx
    exact ⟨fun h=>by have:=HF1.out x h;omega,fun h=>by have:=HF2.out x h;omega⟩
   ·intro x hx h
    have h1:=H1.out.lt x hx
    have h2:=HF2.out x h
    omega
 ·
  go_enter Tryz.func82,Tryz.ntmps82
  go_wp2_with fail
  refine (HF.out w).mono ?_
  rintro e w1 (⟨hno,rfl,hc⟩|⟨hm,p1,s1,rfl,h1,hc,hf1⟩)
  ·have H:=Lib.hid (And.intro hno hc)
   clear hno hc HF
   go_wp2
   go_ret2
   exact .inl ⟨fun h=>H.out.1 h.2,rfl,H.out.2⟩
  ·have HM:=Lib.hid hm
   have H1:=Lib.hid h1
   have HC1:=Lib.hid hc
   have HF1:=Lib.hid hf1
   clear hm h1 hc hf1
   go_wp2_with fail
   refine (HF.out w1).mono ?_
   rintro e w2 (⟨hno,-⟩|⟨-,p2,s2,rfl,h2,hc2,hf2⟩)
   ·exact absurd HM.out hno
   have HC2:=Lib.hid (HC1.out.trans hc2)
   have H2:=Lib.hid h2
   have HF2:=Lib.hid hf2
   have H12:=Lib.hid (H1.out.chg hc2 (by simp))
   have HT2:=Lib.hid (HT.out.chg (HC1.out.trans hc2) (by simp))
   clear h2 hc2 hf2 HF
   obtain ⟨b,hb⟩:∃ z,z=w2.heap.size:=⟨_,rfl⟩
   have hk:=(Chg.refl [] w2).alloc (.cells #[.iface 133 (.pointer (some ⟨t,0,none⟩)),.int .i64 side,.int .i64 most,.iface (capPT hi) (.pointer (some ⟨p1,0,none⟩)),.iface (capPT hi) (.pointer (some ⟨p2,0,none⟩)),.int .u64 0] 146)
   have HB:=Lib.hid (Blk.alloc_new w2 #[.iface 133 (.pointer (some ⟨t,0,none⟩)),.int .i64 side,.int .i64 most,.iface (capPT hi) (.pointer (some ⟨p1,0,none⟩)),.iface (capPT hi) (.pointer (some ⟨p2,0,none⟩)),.int .u64 0] 146)
   have HK:=Lib.hid hk
   clear hk hb
   go_wp2
   go_ret2
   have hsz1:w.heap.size≤w1.heap.size:=HC1.out.size
   have em:((most.toNat:Nat):Int)=most:=by have:=HM.out;omega
   refine .inr ⟨⟨HS.out,HM.out⟩,⟨w2.heap.size,t,la,lc,ra,rc,p1,s1,.slice none 0 0,p2,s2,.slice none 0 0⟩,rfl,rfl,rfl,rfl,rfl,rfl,⟨?_,HT2.out.chg HK.out (by simp),HR.out,H12.out.chg HK.out (by simp),H2.out.chg HK.out (by simp),?_,?_,?_,?_,?_⟩,HC2.out.trans HK.out,HC2.out.size,HF1.out,fun x hx=>Nat.le_trans hsz1 (HF2.out x hx)⟩
   ·simp only [←HSI.out,em]
    exact HB.out
   ·intro hb;exact absurd (HT2.out.lt _ hb) (Nat.lt_irrefl _)
   ·intro hb;exact absurd (H12.out.lt _ hb) (Nat.lt_irrefl _)
   ·intro hb;exact absurd (H2.out.lt _ hb) (Nat.lt_irrefl _)
   ·intro x hx
    have h1:=HT.out.lt x hx
    exact ⟨fun h=>by have:=HF1.out x h;omega,fun h=>by have:=HF2.out x h;omega⟩
   ·intro x hx h
    have h1:=H1.out.lt x hx
    have h2:=HF2.out x h
    omega
end Go.Proofs.YthoolcpcmhhkpaaGreatDoor
namespace Go.Proofs.YthoolcpcmhhkpaaGreatDoor
open Go.RowKit
namespace CapS
variable {w w1:World} {p s:Nat} {rv rv':Value} {D:CapD} {r':List Pr}
theorem st' (h:CapS w p s rv D) (k:StM w1 s (D.m:Int) rv' r') (m:Mv (fpT s rv) w (fpT s rv') w1):CapS w1 p s rv' { D with r:=r' }∧Mv (fpC p s rv) w (fpC p s rv') w1:=by
 have hn:p∉fpT s rv':=fun hb=>by
  rcases m.fr p hb with h1|h1
  ·exact h.ne h1
  ·have:=h.blk.lt;omega
 refine ⟨⟨h.blk.chg m.chg h.ne,k,hn⟩,m.chg.mono (fun b hb=>.inl (by simp [fpC,hb])),fun b hb => ?_⟩
 rcases List.mem_cons.1 hb with rfl|hb
 ·exact .inl (by simp [fpC])
 ·rcases m.fr b hb with h1|h1
  ·exact .inl (by simp [fpC,h1])
  ·exact .inr h1
theorem lost' (h:CapS w p s rv D) (n:Nat):CapS (w.setCell ⟨p,2,none⟩ (.int .u64 (n:Nat))) p s rv { D with lost:=n }∧Mv (fpC p s rv) w (fpC p s rv) (w.setCell ⟨p,2,none⟩ (.int .u64 (n:Nat))):=
 ⟨⟨h.blk.setCell 2 _,h.st.chg ((Chg.refl [p] w).setCell (by simp) _) (fun b hb e=>h.ne (by simp at e;rw [←e];exact hb)),h.ne⟩,Mv.of_chg ((Chg.refl _ w).setCell (.inl (by simp [fpC])) _)⟩
end CapS
theorem farI_low (m:Nat) (e i:Int):farI false m e i=(decide (i<e)&&decide ((m:Int)≤e-i)):=by
 unfold farI
 by_cases h1:i<e<;>by_cases h2:(m:Int)≤e-i<;>simp [h1,h2]
theorem farI_high (m:Nat) (e i:Int):farI true m e i=(decide (e<i)&&decide ((m:Int)≤i-e)):=by
 unfold farI
 by_cases h1:e<i<;>by_cases h2:(m:Int)≤i-e<;>simp [h1,h2]
theorem wrap_sub_u64 {a b:Int} (ha:-4000000≤a∧a≤4000000) (hb:-4000000≤b∧b≤4000000) (h:b≤a):IntKind.u64.wrap (IntKind.u64.wrap a-IntKind.u64.wrap b)=a-b:=by
 simp only [IntKind.wrap_u64]
 omega
set_option maxRecDepth 100000 in
theorem low_totalQ (w:World) (p s:Nat) (rv:Value) (D:CapD) (h:CapS w p s rv D) (T:Nat) (hT:T=D.total) (hTm:T≤9223372036854775807):Calls Tryz.prog 270 #[.pointer (some ⟨p,0,none⟩)] w fun e w'=>e=.returned (.int .u64 (T:Nat))∧∃ k,w'=w.drewN k:=by
 obtain ⟨c0,c1,c2⟩:=h.cells
 have e0:totP D.r+D.lost=T:=by rw [hT];rfl
 obtain ⟨A,hA⟩:∃ A,A=totP D.r:=⟨_,rfl⟩
 obtain ⟨B,hB⟩:∃ B,B=D.lost:=⟨_,rfl⟩
 rw [←hB] at c2
 have HS:=Lib.hid (fun u (hu:Chg [] w u)=>show Calls Tryz.prog 100 #[.pointer (some ⟨s,0,none⟩)] u fun e w'=>e=.returned (.int .u64 (A:Nat))∧u=w' from by rw [hA];exact stm_total u s (D.m:Int) rv D.r (h.st.chg hu (by simp)))
 rw [←hA,←hB] at e0
 have hw1:IntKind.u64.wrap ((A:Int)+(B:Int))=(T:Int):=by rw [IntKind.wrap_u64];omega
 clear h hT hA hB e0 hTm
 go_enter Tryz.func270,Tryz.ntmps270
 go_wp2_with fail
 go_quiet ((go_at_call 100;exact Calls.quiet_of_same ((HS.out _ (by with_reducible (repeat (first|exact Chg.refl _ _|apply Chg.drew|apply Chg.drewN)))).mono (by rintro e w' ⟨h1,h2⟩;exact ⟨h1,h2.symm⟩))))
 go_wp2
 go_ret
 exact ⟨rfl,_,rfl⟩
theorem low_total (w:World) (p s:Nat) (rv:Value) (D:CapD) (h:CapS w p s rv D) (T:Nat) (hT:T=D.total) (hTm:T≤9223372036854775807):Calls Tryz.prog 270 #[.pointer (some ⟨p,0,none⟩)] w fun e w'=>e=.returned (.int .u64 (T:Nat))∧Chg [] w w':=
 (low_totalQ w p s rv D h T hT hTm).mono (by rintro e w' ⟨rfl,k,rfl⟩;exact ⟨rfl,(Chg.refl [] w).drewN k⟩)
set_option maxRecDepth 100000 in
theorem low_lost (w:World) (p s:Nat) (rv:Value) (D:CapD) (h:CapS w p s rv D):Calls Tryz.prog 405 #[.pointer (some ⟨p,0,none⟩)] w fun e w'=>e=.returned (.int .u64 (D.lost:Nat))∧w=w':=by
 obtain ⟨c0,c1,c2⟩:=h.cells
 clear h
 go_enter Tryz.func405,Tryz.ntmps405
 go_wp2
 go_ret
 exact ⟨rfl,rfl⟩
set_option maxRecDepth 100000 in
theorem low_pairs (w:World) (p s:Nat) (rv:Value) (D:CapD) (h:CapS w p s rv D) (n:Nat) (hn:n=D.r.length) (hl:n≤5000):Calls Tryz.prog 406 #[.pointer (some ⟨p,0,none⟩)] w fun e w'=>∃ a3 c3,e=.returned (.slice a3 n c3)∧Own w' 183 2 (.slice a3 n c3) n (prCells D.r)∧Chg [] w w'∧∀ b∈abl a3,w.heap.size≤b:=by
 obtain ⟨c0,c1,c2⟩:=h.cells
 have HS:=Lib.hid (stm_pairs w s (D.m:Int) rv D.r h.st n hn hl)
 clear h hn hl
 go_enter Tryz.func406,Tryz.ntmps406
 go_wp2_with fail
 refine HS.out.mono ?_
 rintro e w1 ⟨a3,c3,rfl,h1,h2,h3⟩
 go_wp2_with fail
 go_ret
 exact ⟨a3,c3,rfl,h1,h2,h3⟩
set_option maxRecDepth 100000 in
theorem low_end (w:World) (p s:Nat) (rv:Value) (D:CapD) (h:CapS w p s rv D) (hl:D.r.length≤5000) (h0:D.r≠[]) (E:Int) (hE:E=endC false D.r):Calls Tryz.prog 312 #[.pointer (some ⟨p,0,none⟩)] w fun e w'=>e=.returned (.tuple #[.int .i64 E,.bool true])∧Chg [] w w':=by
 obtain ⟨c0,c1,c2⟩:=h.cells
 have HS:=Lib.hid (stm_ends w s (D.m:Int) rv D.r h.st hl h0 _ _ rfl rfl)
 have HE:=Lib.hid (show E=(D.r.getD (D.r.length-1) default).i from hE)
 clear h hl h0 hE
 go_enter Tryz.func312,Tryz.ntmps312
 go_wp2_with fail
 refine HS.out.mono ?_
 rintro e w1 ⟨rfl,hc⟩
 have HC:=Lib.hid hc
 clear hc HS
 go_wp2
 go_ret2
 rw [HE.out]
 exact ⟨rfl,HC.out⟩
set_option maxRecDepth 100000 in
theorem low_end0 (w:World) (p s:Nat) (rv:Value) (D:CapD) (h:CapS w p s rv D) (h0:D.r=[]):Calls Tryz.prog 312 #[.pointer (some ⟨p,0,none⟩)] w fun e w'=>e=.returned (.tuple #[.int .i64 0,.bool false])∧Chg [] w w':=by
 obtain ⟨c0,c1,c2⟩:=h.cells
 have HS:=Lib.hid (stm_ends0 w s (D.m:Int) rv (by have:=h.st;rw [h0] at this;exact this))
 clear h h0
 go_enter Tryz.func312,Tryz.ntmps312
 go_wp2_with fail
 refine HS.out.mono ?_
 rintro e w1 ⟨rfl,hc⟩
 have HC:=Lib.hid hc
 clear hc HS
 go_wp2
 go_ret2
 exact ⟨rfl,HC.out⟩
set_option maxRecDepth 100000 in
set_option maxHeartbeats 1000000 in
theorem low_out (w:World) (p s:Nat) (rv:Value) (D:CapD) (h:CapS w p s rv D) (hm:D.m≤4096) (i e:Int) (hi:-4000000≤i∧i≤4000000) (he:-4000000≤e∧e≤4000000) (B:Bool) (hB:B=farI false D.m e i):Calls Tryz.prog 313 #[.pointer (some ⟨p,0,none⟩),.int .i64 i,.int .i64 e] w fun e w'=>e=.returned (.bool B)∧w=w':=by
 obtain ⟨c0,c1,c2⟩:=h.cells
 rw [farI_low] at hB
 generalize D.m=m at *
 by_cases h1:i<e
 ·have d1:decide (i<e)=true:=decide_eq_true h1
  have hw:=wrap_sub_u64 he hi (by omega)
  have hwm:IntKind.u64.wrap (m:Int)=(m:Int):=by rw [IntKind.wrap_u64];omega
  obtain ⟨d,hd⟩:∃ d:Nat,e-i=(d:Int):=⟨(e-i).toNat,by omega⟩
  rw [hd] at hw hB
  rw [d1,Bool.true_and] at hB
  have d2:decide (m≤d)=B:=by rw [hB];simp
  have d3:decide ((m:Int)≤(d:Int))=B:=hB.symm
  clear h hB hd h1 hm
  go_enter Tryz.func313,Tryz.ntmps313
  go_wp2
  go_ret
  first|exact ⟨rfl,rfl⟩|exact ⟨by rw [d3],rfl⟩|exact ⟨by rw [d2],rfl⟩
 ·have d1:decide (i<e)=false:=decide_eq_false h1
  rw [d1,Bool.false_and] at hB
  subst hB
  clear h h1 hm
  go_enter Tryz.func313,Tryz.ntmps313
  go_wp2
  go_ret
  exact ⟨rfl,rfl⟩
set_option maxRecDepth 100000 in
theorem high_totalQ (w:World) (p s:Nat) (rv:Value) (D:CapD) (h:CapS w p s rv D) (T:Nat) (hT:T=D.total) (hTm:T≤9223372036854775807):Calls Tryz.prog 268 #[.pointer (some ⟨p,0,none⟩)] w fun e w'=>e=.returned (.int .u64 (T:Nat))∧∃ k,w'=w.drewN k:=by
 obtain ⟨c0,c1,c2⟩:=h.cells
 have e0:totP D.r+D.lost=T:=by rw [hT];rfl
 obtain ⟨A,hA⟩:∃ A,A=totP D.r:=⟨_,rfl⟩
 obtain ⟨B,hB⟩:∃ B,B=D.lost:=⟨_,rfl⟩
 rw [←hB] at c2
 have HS:=Lib.hid (fun u (hu:Chg [] w u)=>show Calls Tryz.prog 100 #[.pointer (some ⟨s,0,none⟩)] u fun e w'=>e=.returned (.int .u64 (A:Nat))∧u=w' from by rw [hA];exact stm_total u s (D.m:Int) rv D.r (h.st.chg hu (by simp)))
 rw [←hA,←hB] at e0
 have hw1:IntKind.u64.wrap ((A:Int)+(B:Int))=(T:Int):=by rw [IntKind.wrap_u64];omega
 clear h hT hA hB e0 hTm
 go_enter Tryz.func268,Tryz.ntmps268
 go_wp2_with fail
 go_quiet ((go_at_call 100;exact Calls.quiet_of_same ((HS.out _ (by with_reducible (repeat (first|exact Chg.refl _ _|apply Chg.drew|apply Chg.drewN)))).mono (by rintro e w' ⟨h1,h2⟩;exact ⟨h1,h2.symm⟩))))
 go_wp2
 go_ret
 exact ⟨rfl,_,rfl⟩
theorem high_total (w:World) (p s:Nat) (rv:Value) (D:CapD) (h:CapS w p s rv D) (T:Nat) (hT:T=D.total) (hTm:T≤9223372036854775807):Calls Tryz.prog 268 #[.pointer (some ⟨p,0,none⟩)] w fun e w'=>e=.returned (.int .u64 (T:Nat))∧Chg [] w w':=
 (high_totalQ w p s rv D h T hT hTm).mono (by rintro e w' ⟨rfl,k,rfl⟩;exact ⟨rfl,(Chg.refl [] w).drewN k⟩)
set_option maxRecDepth 100000 in
theorem high_lost (w:World) (p s:Nat) (rv:Value) (D:CapD) (h:CapS w p s rv D):Calls Tryz.prog 401 #[.pointer (some ⟨p,0,none⟩)] w fun e w'=>e=.returned (.int .u64 (D.lost:Nat))∧w=w':=by
 obtain ⟨c0,c1,c2⟩:=h.cells
 clear h
 go_enter Tryz.func401,Tryz.ntmps401
 go_wp2
 go_ret
 exact ⟨rfl,rfl⟩
set_option maxRecDepth 100000 in
theorem high_pairs (w:World) (p s:Nat) (rv:Value) (D:CapD) (h:CapS w p s rv D) (n:Nat) (hn:n=D.r.length) (hl:n≤5000):Calls Tryz.prog 402 #[.pointer (some ⟨p,0,none⟩)] w fun e w'=>∃ a3 c3,e=.returned (.slice a3 n c3)∧Own w' 183 2 (.slice a3 n c3) n (prCells D.r)∧Chg [] w w'∧∀ b∈abl a3,w.heap.size≤b:=by
 obtain ⟨c0,c1,c2⟩:=h.cells
 have HS:=Lib.hid (stm_pairs w s (D.m:Int) rv D.r h.st n hn hl)
 clear h hn hl
 go_enter Tryz.func402,Tryz.ntmps402
 go_wp2_with fail
 refine HS.out.mono ?_
 rintro e w1 ⟨a3,c3,rfl,h1,h2,h3⟩
 go_wp2_with fail
 go_ret
 exact ⟨a3,c3,rfl,h1,h2,h3⟩
set_option maxRecDepth 100000 in
theorem high_end (w:World) (p s:Nat) (rv:Value) (D:CapD) (h:CapS w p s rv D) (hl:D.r.length≤5000) (h0:D.r≠[]) (E:Int) (hE:E=endC true D.r):Calls Tryz.prog 309 #[.pointer (some ⟨p,0,none⟩)] w fun e w'=>e=.returned (.tuple #[.int .i64 E,.bool true])∧Chg [] w w':=by
 obtain ⟨c0,c1,c2⟩:=h.cells
 have HS:=Lib.hid (stm_ends w s (D.m:Int) rv D.r h.st hl h0 _ _ rfl rfl)
 have HE:=Lib.hid (show E=(D.r.getD 0 default).i from hE)
 clear h hl h0 hE
 go_enter Tryz.func309,Tryz.ntmps309
 go_wp2_with fail
 refine HS.out.mono ?_
 rintro e w1 ⟨rfl,hc⟩
 have HC:=Lib.hid hc
 clear hc HS
 go_wp2
 go_ret2
 rw [HE.out]
 exact ⟨rfl,HC.out⟩
set_option maxRecDepth 100000 in
theorem high_end0 (w:World) (p s:Nat) (rv:Value) (D:CapD) (h:CapS w p s rv D) (h0:D.r=[]):Calls Tryz.prog 309 #[.pointer (some ⟨p,0,none⟩)] w fun e w'=>e=.returned (.tuple #[.int .i64 0,.bool false])∧Chg [] w w':=by
 obtain ⟨c0,c1,c2⟩:=h.cells
 have HS:=Lib.hid (stm_ends0 w s (D.m:Int) rv (by have:=h.st;rw [h0] at this;exact this))
 clear h h0
 go_enter Tryz.func309,Tryz.ntmps309
 go_wp2_with fail
 refine HS.out.mono ?_
 rintro e w1 ⟨rfl,hc⟩
 have HC:=Lib.hid hc
 clear hc HS
 go_wp2
 go_ret2
 exact ⟨rfl,HC.out⟩
set_option maxRecDepth 100000 in
set_option maxHeartbeats 1000000 in
theorem high_out (w:World) (p s:Nat) (rv:Value) (D:CapD) (h:CapS w p s rv D) (hm:D.m≤4096) (i e:Int) (hi:-4000000≤i∧i≤4000000) (he:-4000000≤e∧e≤4000000) (B:Bool) (hB:B=farI true D.m e i):Calls Tryz.prog 310 #[.pointer (some ⟨p,0,none⟩),.int .i64 i,.int .i64 e] w fun e w'=>e=.returned (.bool B)∧w=w':=by
 obtain ⟨c0,c1,c2⟩:=h.cells
 rw [farI_high] at hB
 generalize D.m=m at *
 by_cases h1:e<i
 ·have d1:decide (e<i)=true:=decide_eq_true h1
  have hw:=wrap_sub_u64 hi he (by omega)
  have hwm:IntKind.u64.wrap (m:Int)=(m:Int):=by rw [IntKind.wrap_u64];omega
  obtain ⟨d,hd⟩:∃ d:Nat,i-e=(d:Int):=⟨(i-e).toNat,by omega⟩
  rw [hd] at hw hB
  rw [d1,Bool.true_and] at hB
  have d2:decide (m≤d)=B:=by rw [hB];simp
  have d3:decide ((m:Int)≤(d:Int))=B:=hB.symm
  clear h hB hd h1 hm
  go_enter Tryz.func310,Tryz.ntmps310
  go_wp2
  go_ret
  first|exact ⟨rfl,rfl⟩|exact ⟨by rw [d3],rfl⟩|exact ⟨by rw [d2],rfl⟩
 ·have d1:decide (e<i)=false:=decide_eq_false h1
  rw [d1,Bool.false_and] at hB
  subst hB
  clear h h1 hm
  go_enter Tryz.func310,Tryz.ntmps310
  go_wp2
  go_ret
  exact ⟨rfl,rfl⟩
end Go.Proofs.YthoolcpcmhhkpaaGreatDoor
namespace Go.Proofs.YthoolcpcmhhkpaaGreatDoor
def CapD.cut (D:CapD) (k:Nat) (c:Nat):CapD:={ D with r:=D.r.take k++D.r.drop (k+1),lost:=D.lost+c }
structure Shed (D D':CapD) (e:Int):Prop where
 hi:D'.hi=D.hi
 m:D'.m=D.m
 ok:D'.ok
 keep:keepC D' e=keepC D e
 lost:D'.lost+goneC D' e=D.lost+goneC D e
theorem Shed.refl {D:CapD} (h:D.ok) (e:Int):Shed D D e:=⟨rfl,rfl,h,rfl,rfl⟩
theorem cut_mem {r:List Pr} {k:Nat} {q:Pr} (h:q∈r.take k++r.drop (k+1)):q∈r:=by
 rcases List.mem_append.1 h with h|h
 ·exact List.mem_of_mem_take h
 ·exact List.mem_of_mem_drop h
theorem cut_tot {r:List Pr} {k:Nat} (hk:k<r.length):totP r=totP (r.take k++r.drop (k+1))+r[k].c:=by
 have e:r=r.take k++(r[k]::r.drop (k+1)):=by
  rw [←List.drop_eq_getElem_cons hk,List.take_append_drop]
 conv=>lhs;rw [e]
 rw [totP_app,totP_app,totP_cons]
 omega
theorem cut_rises {r:List Pr} (h:rises r) (k:Nat):rises (r.take k++r.drop (k+1)):=by
 refine rises_app (rises_left (b:=r.drop k) (by rw [List.take_append_drop];exact h)) (rises_right (a:=r.take (k+1)) (by rw [List.take_append_drop];exact h)) (fun p hp q hq => ?_)
 obtain ⟨a,ha,rfl⟩:=List.getElem_of_mem hp
 obtain ⟨b,hb,rfl⟩:=List.getElem_of_mem hq
 rw [List.length_take] at ha
 rw [List.length_drop] at hb
 rw [List.getElem_take,List.getElem_drop]
 exact h a (k+1+b) (by omega) (by omega)
theorem CapD.cut_ok {D:CapD} (h:D.ok) {k:Nat} (hk:k<D.r.length):(D.cut k D.r[k].c).ok:=by
 have ht:=cut_tot hk
 have h2:=h.tot
 exact ⟨h.m1,h.m2,cut_rises h.rises k,fun p hp=>h.pos p (cut_mem hp),fun p hp q hq=>h.win p (cut_mem hp) q (cut_mem hq),fun p hp=>h.ix p (cut_mem hp),by simp only [CapD.cut];omega⟩
theorem filter_cut {r:List Pr} {k:Nat} (hk:k<r.length) (f:Pr→Bool) (hf:f r[k]=false):(r.take k++r.drop (k+1)).filter f=r.filter f:=by
 have e:r=r.take k++(r[k]::r.drop (k+1)):=by
  rw [←List.drop_eq_getElem_cons hk,List.take_append_drop]
 conv=>rhs;rw [e]
 rw [List.filter_append,List.filter_append,List.filter_cons,hf]
 simp
theorem filter_cutT {r:List Pr} {k:Nat} (hk:k<r.length) (f:Pr→Bool) (hf:f r[k]=true):totP (r.filter f)=totP ((r.take k++r.drop (k+1)).filter f)+r[k].c:=by
 have e:r=r.take k++(r[k]::r.drop (k+1)):=by
  rw [←List.drop_eq_getElem_cons hk,List.take_append_drop]
 conv=>lhs;rw [e]
 rw [List.filter_append,List.filter_append,List.filter_cons,hf,totP_app,totP_app]
 simp only [if_true,totP_cons]
 omega
theorem Shed.step {D D':CapD} {e:Int} (h:Shed D D' e) {k:Nat} (hk:k<D'.r.length) (hf:farI D.hi D.m e (D'.r[k]).i=true):Shed D (D'.cut k D'.r[k].c) e:=by
 have hf2:farC D'.hi D'.m e D'.r[k]=true:=by unfold farC;rw [h.hi,h.m];exact hf
 refine ⟨h.hi,h.m,CapD.cut_ok h.ok hk,?_,?_⟩
 ·rw [←h.keep]
  exact filter_cut hk (fun p=>!farC D'.hi D'.m e p) (by simp only [hf2];rfl)
 ·rw [←h.lost]
  have:=filter_cutT hk (fun p=>farC D'.hi D'.m e p) hf2
  show D'.lost+D'.r[k].c+totP ((D'.r.take k++D'.r.drop (k+1)).filter fun p=>farC D'.hi D'.m e p)=D'.lost+totP (D'.r.filter fun p=>farC D'.hi D'.m e p)
  omega
theorem Shed.stop {D D':CapD} {e:Int} (h:Shed D D' e) (hf:∀ p∈D'.r,farI D.hi D.m e p.i=false):D'={ D with r:=keepC D e,lost:=D.lost+goneC D e }:=by
 have h1:keepC D' e=D'.r:=by
  unfold keepC
  rw [List.filter_eq_self]
  intro p hp
  have:=hf p hp
  unfold farC
  rw [h.hi,h.m,this]
  rfl
 have h2:goneC D' e=0:=by
  unfold goneC
  have:(D'.r.filter fun p=>farC D'.hi D'.m e p)=[]:=by
   rw [List.filter_eq_nil_iff]
   intro p hp
   have:=hf p hp
   unfold farC
   rw [h.hi,h.m,this]
   simp
  rw [this]
  rfl
 have h3:=h.keep
 have h4:=h.lost
 rw [h1] at h3
 rw [h2] at h4
 obtain ⟨a,b,c,d⟩:=D'
 have e1:=h.hi
 have e2:=h.m
 simp only at e1 e2 h3 h4 ⊢
 subst e1 e2 h3
 rw [←h4]
 rfl
theorem far_low_mono {m:Nat} {e i j:Int} (h:farI false m e i=false) (hij:i≤j):farI false m e j=false:=by
 unfold farI at *
 simp only [Bool.false_eq_true,if_false,decide_eq_false_iff_not] at *
 omega
theorem far_high_mono {m:Nat} {e i j:Int} (h:farI true m e i=false) (hij:j≤i):farI true m e j=false:=by
 unfold farI at *
 simp only [if_true,decide_eq_false_iff_not] at *
 omega
end Go.Proofs.YthoolcpcmhhkpaaGreatDoor
