/-
  Parts of a proof, pressed. Conditions: the form's own reach.
-/
import Derived.Test.YthoolcpcmhhkpaaGreatDoorSuiteConfigsB28
import Derived.Test.YthoolcpcmhhkpaaGreatDoorSuiteConfigsB3
import Derived.Test.YthoolcpcmhhkpaaGreatDoorSuiteConfigsB8
namespace Go.Proofs.YthoolcpcmhhkpaaGreatDoor
open Go.RowKit
structure HdS (w:World) (h p s0 s1:Nat) (r0 r1:Value) (D:HdD):Prop where
 blk:Blk w h #[.int .i64 (D.digits:Int),.int .u64 (D.limit:Nat),.pointer (some ⟨p,0,none⟩),.pointer (some ⟨s0,0,none⟩),.pointer (some ⟨s1,0,none⟩),.int .u64 (D.zero:Nat),.int .i64 D.least,.int .i64 D.most] 165
 span:SpanS w p D.digits
 st0:StM w s0 4096 r0 D.minus
 st1:StM w s1 4096 r1 D.plus
 hp:h≠p
 h0:h∉fpT s0 r0∧p∉fpT s0 r0
 h1:h∉fpT s1 r1∧p∉fpT s1 r1
 s01:∀ b∈fpT s0 r0,b∉fpT s1 r1
def fpHd (h p s0 s1:Nat) (r0 r1:Value):List Nat:=h::p::(fpT s0 r0++fpT s1 r1)
namespace HdS
variable {w w1:World} {h p s0 s1:Nat} {r0 r1:Value} {D:HdD}
theorem lt (x:HdS w h p s0 s1 r0 r1 D):∀ b∈fpHd h p s0 s1 r0 r1,b<w.heap.size:=fun b hb=>by
 simp only [fpHd,List.mem_cons,List.mem_append] at hb
 rcases hb with rfl|rfl|hb|hb
 ·exact x.blk.lt
 ·exact Blk.lt x.span
 ·exact x.st0.lt b hb
 ·exact x.st1.lt b hb
theorem chg {F:List Nat} (x:HdS w h p s0 s1 r0 r1 D) (k:Chg F w w1) (hF:∀ b∈fpHd h p s0 s1 r0 r1,b∉F):HdS w1 h p s0 s1 r0 r1 D:=
 ⟨x.blk.chg k (hF h (by simp [fpHd])),Blk.chg x.span k (hF p (by simp [fpHd])),x.st0.chg k (fun b hb=>hF b (by simp [fpHd,hb])),x.st1.chg k (fun b hb=>hF b (by simp [fpHd,hb])),x.hp,x.h0,x.h1,x.s01⟩
end HdS
def HdD.new (digits limit:Nat):HdD:=⟨digits,limit,0,[],[],0,0⟩
def NewHd (w w':World) (d:Int) (lim:Nat) (e:Ending):Prop:=
 (¬((1≤d∧d≤4)∧lim≤9223372036854775808)∧e=.returned (.tuple #[.pointer none,.int .i64 1])∧Chg [] w w') ∨
 (((1≤d∧d≤4)∧lim≤9223372036854775808)∧∃ h p s0 s1,e=.returned (.tuple #[.pointer (some ⟨h,0,none⟩),.int .i64 0])∧HdS w' h p s0 s1 (.slice none 0 0) (.slice none 0 0) (HdD.new d.toNat lim)∧Chg [] w w'∧∀ b∈fpHd h p s0 s1 (.slice none 0 0) (.slice none 0 0),w.heap.size≤b)
theorem stm_new4 (w:World):Calls Tryz.prog 92 #[.int .i64 4096] w fun e w'=>∃ s,e=.returned (.tuple #[.pointer (some ⟨s,0,none⟩),.int .i64 0])∧StM w' s 4096 (.slice none 0 0) []∧Chg [] w w'∧w.heap.size≤s:=
 (stm_new w 4096).mono (by
   rintro e w' (⟨h,-⟩|⟨-,s,rfl,h1,h2,h3⟩)
   ·exact absurd (by omega) h
   ·exact ⟨s,rfl,h1,h2,h3⟩)
set_option maxRecDepth 100000 in
set_option maxHeartbeats 4000000 in
theorem hdr_new (w:World) (ht:Tens4 w) (d:Int) (lim:Nat):Calls Tryz.prog 47 #[.agg #[.int .i64 d,.int .u64 (lim:Nat)]] w fun e w'=>NewHd w w' d lim e:=by
 have hc0:=(Chg.refl [] w).alloc (.cells #[.int .i64 d,.int .u64 (lim:Nat)] 105)
 have b0:=Blk.alloc_new w #[.int .i64 d,.int .u64 (lim:Nat)] 105
 have HN:=Lib.hid (spans_new _ (ht.chg hc0) d)
 have HC0:=Lib.hid hc0
 have HB0:=Lib.hid b0
 clear hc0 ht b0
 go_enter Tryz.func47,Tryz.ntmps47
 go_wp2_with fail
 refine HN.out.mono ?_
 rintro e w1 (⟨hno,rfl,hc1⟩|⟨hd,p,rfl,hsp,hc1,hp1⟩)
 ·have H:=Lib.hid (And.intro hno (HC0.out.trans hc1))
  clear hno hc1 HN HB0 HC0
  go_wp2
  go_ret2
  exact .inl ⟨fun h=>H.out.1 h.1,rfl,H.out.2⟩
 have HB1:=Lib.hid (HB0.out.chg hc1 (by simp))
 have c0:=HB1.out.cell 0
 have c1:=HB1.out.cell 1
 simp only [List.getElem?_toArray,List.getElem?_cons_zero,List.getElem?_cons_succ] at c0 c1
 have HC1:=Lib.hid (HC0.out.trans hc1)
 have HSP2:=Lib.hid hsp
 have HD:=Lib.hid hd
 have HPW:=Lib.hid (show w.heap.size≤p from by simp only [World.size_alloc] at hp1;omega)
 clear hc1 hsp hp1 HN HB0 HC0 hd
 by_cases hl:9223372036854775808<lim
 ·have dl:decide (9223372036854775808<lim)=true:=decide_eq_true hl
  have dl':decide (9223372036854775808<(lim:Int))=true:=decide_eq_true (by omega)
  have HX:=Lib.hid (show ¬lim≤9223372036854775808 from by omega)
  clear hl
  go_wp2
  go_ret2
  exact .inl ⟨fun h=>HX.out h.2,rfl,HC1.out⟩
 have dl:decide (9223372036854775808<lim)=false:=decide_eq_false hl
 have dl':decide (9223372036854775808<(lim:Int))=false:=decide_eq_false (by omega)
 have HX:=Lib.hid (show lim≤9223372036854775808 from by omega)
 clear hl
 have HLE:=Lib.hid (show w.heap.size≤w1.heap.size∧p<w1.heap.size from ⟨HC1.out.size,Blk.lt HSP2.out⟩)
 go_wp2_with fail
 clear c0 c1 HB1 dl dl'
 obtain ⟨h,hh⟩:∃ z,z=w1.heap.size:=⟨_,rfl⟩
 have HH:=Lib.hid hh
 have hb0:Blk (w1.alloc (.cells #[.int .i64 d,.int .u64 (lim:Nat),.pointer (some ⟨p,0,none⟩),.pointer none,.pointer none,.int .u64 0,.int .i64 0,.int .i64 0] 165)) h #[.int .i64 d,.int .u64 (lim:Nat),.pointer (some ⟨p,0,none⟩),.pointer none,.pointer none,.int .u64 0,.int .i64 0,.int .i64 0] 165:=by rw [hh];exact Blk.alloc_new _ _ _
 rw [←hh]
 have HB00:=Lib.hid hb0
 clear hb0 hh
 go_loopw [25] (fun i wx=>Chg [] w wx∧SpanS wx p d.toNat∧((i=.int .i64 0∧Blk wx h #[.int .i64 d,.int .u64 (lim:Nat),.pointer (some ⟨p,0,none⟩),.pointer none,.pointer none,.int .u64 0,.int .i64 0,.int .i64 0] 165) ∨
  (i=.int .i64 1∧∃ s0,Blk wx h #[.int .i64 d,.int .u64 (lim:Nat),.pointer (some ⟨p,0,none⟩),.pointer (some ⟨s0,0,none⟩),.pointer none,.int .u64 0,.int .i64 0,.int .i64 0] 165∧StM wx s0 4096 (.slice none 0 0) []∧h<s0) ∨
  (i=.int .i64 2∧∃ s0 s1,Blk wx h #[.int .i64 d,.int .u64 (lim:Nat),.pointer (some ⟨p,0,none⟩),.pointer (some ⟨s0,0,none⟩),.pointer (some ⟨s1,0,none⟩),.int .u64 0,.int .i64 0,.int .i64 0] 165∧StM wx s0 4096 (.slice none 0 0) []∧StM wx s1 4096 (.slice none 0 0) []∧s0≠s1∧h<s0∧h<s1))) (fun i _=>2-(intOf i).toNat)
 case atStart=>exact ⟨HC1.out.alloc _,Blk.chg HSP2.out ((Chg.refl [] _).alloc _) (by simp),.inl ⟨rfl,HB00.out⟩⟩
 case round =>
  obtain ⟨hc,hsp,⟨rfl,hb⟩|⟨rfl,s0,hb,hs0,hl0⟩|⟨rfl,s0,s1,hb,hs0,hs1,hne,hl0,hl1⟩⟩:=hrel
  ·have HC:=Lib.hid hc
   have HSP:=Lib.hid hsp
   have HB:=Lib.hid hb
   clear hc hsp hb
   go_wp2_with fail
   go_region_with (go_at_call 92;refine (stm_new4 _).mono ?_;rintro e w2 ⟨s,rfl,hs,hc2,hl⟩;have f3:=(HB.out.drew.chg hc2 (by simp)).free 3;have c3:w2.cell? ⟨h,3,none⟩=some (.pointer none):=(HB.out.drew.chg hc2 (by simp)).cell 3)
   all_goals
    have HHH:=HB.out.drew.chg hc2 (by simp)
    have hlt:h<s:=by have:=HB.out.lt;simp only [World.size_drew] at hl;omega
    have hk:Chg [h] w2 (w2.setCell ⟨h,3,none⟩ (.pointer (some ⟨s,0,none⟩))):=(Chg.refl _ _).setCell (a:=⟨h,3,none⟩) (.inl (by simp)) _
    go_wp2
    refine ⟨⟨((HC.out.drew).trans hc2).trans' hk (fun b hb=>.inr (by simp at hb;rw [hb,HH.out];exact HLE.out.1)),Blk.chg (Blk.chg HSP.out ((Chg.refl [] wr).drew.trans hc2) (by simp)) hk (by simp;have:=HLE.out.2;have:=HH.out;omega),.inr (.inl ⟨rfl,s,HHH.setCell 3 _,hs.chg hk (by simp [fpT];omega),hlt⟩)⟩,by simp [intOf]⟩
  ·have HC:=Lib.hid hc
   have HSP:=Lib.hid hsp
   have HB:=Lib.hid hb
   have HS0:=Lib.hid hs0
   clear hc hsp hb hs0
   go_wp2_with fail
   go_region_with (go_at_call 92;refine (stm_new4 _).mono ?_;rintro e w2 ⟨s,rfl,hs,hc2,hl⟩;have f3:=(HB.out.drew.chg hc2 (by simp)).free 4;have c3:w2.cell? ⟨h,4,none⟩=some (.pointer none):=(HB.out.drew.chg hc2 (by simp)).cell 4)
   all_goals
    have HHH:=HB.out.drew.chg hc2 (by simp)
    have hlt:h<s∧s0<s:=by have:=HB.out.lt;have:=HS0.out.blk.lt;simp only [World.size_drew] at hl;omega
    have hk:Chg [h] w2 (w2.setCell ⟨h,4,none⟩ (.pointer (some ⟨s,0,none⟩))):=(Chg.refl _ _).setCell (a:=⟨h,4,none⟩) (.inl (by simp)) _
    go_wp2
    refine ⟨⟨((HC.out.drew).trans hc2).trans' hk (fun b hb=>.inr (by simp at hb;rw [hb,HH.out];exact HLE.out.1)),Blk.chg (Blk.chg HSP.out ((Chg.refl [] wr).drew.trans hc2) (by simp)) hk (by simp;have:=HLE.out.2;have:=HH.out;omega),.inr (.inr ⟨rfl,s0,s,HHH.setCell 4 _,(HS0.out.chg ((Chg.refl [] wr).drew.trans hc2) (by simp)).chg hk (by simp [fpT];omega),hs.chg hk (by simp [fpT];omega),by omega,hl0,hlt.1⟩)⟩,by simp [intOf]⟩
  ·go_wp2_with fail
   go_ret2
   have e0:=HH.out
   have e1:=HLE.out
   have ed:((d.toNat:Nat):Int)=d:=by have:=HD.out;omega
   refine .inr ⟨⟨HD.out,HX.out⟩,h,p,s0,s1,rfl,⟨by simp only [HdD.new,ed];exact hb,hsp,hs0,hs1,by omega,by simp [fpT];omega,by simp [fpT];omega,by simp [fpT];omega⟩,hc,fun b hb => ?_⟩
   simp only [fpHd,fpT,blkOf_none,List.mem_cons,List.mem_append,List.not_mem_nil,or_false] at hb
   have:=HPW.out
   omega
end Go.Proofs.YthoolcpcmhhkpaaGreatDoor
namespace Go.Proofs.YthoolcpcmhhkpaaGreatDoor
def mrgT:List Tp→List Tp→List Tp
 | [],b=>b
 | p::a,[]=>p::a
 | p::a,q::b =>
   if p.x≤q.x then ⟨p.x,p.st,p.sl+(q.st+q.sl-1)⟩::mrgT a (q::b)
   else ⟨q.x,q.st,q.sl+(p.st+p.sl-1)⟩::mrgT (p::a) b
termination_by a b=>a.length+b.length
def mrgS:Nat→Nat→List Sp→List Sp→List Sp
 | _,_,[],[]=>[]
 | _,nb,s::a,[]=>⟨s.x,s.lo+nb,s.hi+nb⟩::mrgS s.lo nb a []
 | na,_,[],t::b=>⟨t.x,t.lo+na,t.hi+na⟩::mrgS na t.lo [] b
 | na,nb,s::a,t::b =>
   if s.x≤t.x then ⟨s.x,s.lo+nb,s.hi+t.hi-1⟩::mrgS s.lo nb a (t::b)
   else ⟨t.x,t.lo+na,t.hi+s.hi-1⟩::mrgS na t.lo (s::a) b
termination_by _ _ a b=>a.length+b.length
theorem mrg_same:∀ (a b:List Tp) (na nb:Nat),(∀ p∈a,1≤p.st)→(∀ p∈b,1≤p.st)→spF (na+nb) (mrgT a b)=mrgS na nb (spF na a) (spF nb b)
 | [],[],na,nb,_,_=>by simp [mrgT,mrgS,spF]
 | [],q::b,na,nb,ha,hb=>by
   have ih:=mrg_same [] b na (nb+q.st) ha (fun p hp=>hb p (by simp [hp]))
   have e:mrgT [] b=b:=by unfold mrgT;rfl
   rw [e] at ih
   have e2:mrgT [] (q::b)=q::b:=by unfold mrgT;rfl
   rw [e2]
   simp only [spF] at ih ⊢
   rw [mrgS,←ih]
   simp only [List.cons.injEq,Sp.mk.injEq,true_and]
   refine ⟨⟨by omega,by omega⟩,by rw [show na+nb+q.st=na+(nb+q.st) from by omega]⟩
 | p::a,[],na,nb,ha,hb=>by
   have ih:=mrg_same a [] (na+p.st) nb (fun q hq=>ha q (by simp [hq])) hb
   have e:mrgT a []=a:=by cases a<;>(unfold mrgT;rfl)
   rw [e] at ih
   have e2:mrgT (p::a) []=p::a:=by unfold mrgT;rfl
   rw [e2]
   simp only [spF] at ih ⊢
   rw [mrgS,←ih]
   simp only [List.cons.injEq,Sp.mk.injEq,true_and]
   refine ⟨⟨by omega,by omega⟩,by rw [show na+nb+p.st=na+p.st+nb from by omega]⟩
 | p::a,q::b,na,nb,ha,hb=>by
   have hp:=ha p (by simp)
   have hq:=hb q (by simp)
   by_cases hle:p.x≤q.x
   ·have ih:=mrg_same a (q::b) (na+p.st) nb (fun q hq=>ha q (by simp [hq])) hb
    have e:mrgT (p::a) (q::b)=⟨p.x,p.st,p.sl+(q.st+q.sl-1)⟩::mrgT a (q::b):=by rw [mrgT,if_pos hle]
    rw [e]
    simp only [spF] at ih ⊢
    rw [mrgS,if_pos hle,←ih]
    simp only [List.cons.injEq,Sp.mk.injEq,true_and]
    refine ⟨⟨by omega,by omega⟩,by rw [show na+nb+p.st=na+p.st+nb from by omega]⟩
   ·have ih:=mrg_same (p::a) b na (nb+q.st) ha (fun p hp=>hb p (by simp [hp]))
    have e:mrgT (p::a) (q::b)=⟨q.x,q.st,q.sl+(p.st+p.sl-1)⟩::mrgT (p::a) b:=by rw [mrgT,if_neg hle]
    rw [e]
    simp only [spF] at ih ⊢
    rw [mrgS,if_neg hle,←ih]
    simp only [List.cons.injEq,Sp.mk.injEq,true_and]
    refine ⟨⟨by omega,by omega⟩,by rw [show na+nb+q.st=na+(nb+q.st) from by omega]⟩
termination_by a b=>a.length+b.length
end Go.Proofs.YthoolcpcmhhkpaaGreatDoor
namespace Go.Proofs.YthoolcpcmhhkpaaGreatDoor
def upC (A:List Int) (x:Int):Nat:=A.countP fun y=>decide (y≤x)
def unC (A:List Int) (x:Int):Nat:=A.countP fun y=>decide (y<x)
theorem upC_mono (A:List Int) {x y:Int} (h:x≤y):upC A x≤upC A y:=List.countP_mono_left (fun z _ hz=>by simp at hz ⊢;omega)
theorem unC_mono (A:List Int) {x y:Int} (h:x≤y):unC A x≤unC A y:=List.countP_mono_left (fun z _ hz=>by simp at hz ⊢;omega)
theorem unC_up (A:List Int) {x y:Int} (h:x<y):upC A x≤unC A y:=List.countP_mono_left (fun z _ hz=>by simp at hz ⊢;omega)
theorem unC_le (A:List Int) (x:Int):unC A x≤A.length:=List.countP_le_length
theorem upC_snoc (A:List Int) (v x:Int):upC (A++[v]) x=upC A x+if v≤x then 1 else 0:=by
 simp [upC,List.countP_append,List.countP_cons]
theorem unC_snoc (A:List Int) (v x:Int):unC (A++[v]) x=unC A x+if v<x then 1 else 0:=by
 simp [unC,List.countP_append,List.countP_cons]
theorem upC_app (A B:List Int) (x:Int):upC (A++B) x=upC A x+upC B x:=List.countP_append
theorem unC_app (A B:List Int) (x:Int):unC (A++B) x=unC A x+unC B x:=List.countP_append
def PlS (A:List Int) (s:Sp):Prop:=s.lo≤upC A s.x∧unC A s.x+1≤s.hi∧s.lo≤s.hi∧unC A s.x<upC A s.x
structure Placed (l:List Sp) (A:List Int):Prop where
 all:∀ s∈l,PlS A s
 least:∀ s,l.head? = some s→unC A s.x=0
 most:∀ s,l.getLast? = some s→upC A s.x=A.length
 none:l=[]→A=[]
theorem Placed.nil:Placed [] []:=⟨by simp,by simp,by simp,fun _=>rfl⟩
theorem Placed.sub {l m:List Sp} {A:List Int} (h:Placed l A) (hs:∀ s∈m,s∈l) (hf:m.head? = l.head?) (hl:m.getLast? = l.getLast?):Placed m A:=
 ⟨fun s hs'=>h.all s (hs s hs'),fun s h1=>h.least s (by rw [←hf];exact h1),fun s h1=>h.most s (by rw [←hl];exact h1),fun h1=>h.none (by
  subst h1
  cases l with
  | nil=>rfl
  | cons a l=>simp at hf)⟩
theorem sqStepS_ends (m i:Nat) (l:List Sp) (h0:0<i) (h:i+1<l.length):(∀ s∈sqStepS m i l,s∈l)∧(sqStepS m i l).head? = l.head?∧(sqStepS m i l).getLast? = l.getLast?:=by
 unfold sqStepS
 split
 ·have hsp:=List.take_append_drop (i+1) l
  have hd:l.drop (i+1)≠[]:=by
   intro he
   have:=congrArg List.length he
   rw [List.length_drop,List.length_nil] at this
   omega
  refine ⟨fun s hs => ?_,?_,?_⟩
  ·rcases List.mem_append.1 hs with hs|hs
   ·exact List.mem_of_mem_take hs
   ·exact List.mem_of_mem_drop hs
  ·cases l with
   | nil=>simp at h
   | cons a l =>
     cases i with
     | zero=>omega
     | succ i=>rfl
  ·rw [List.getLast?_append]
   conv=>rhs;rw [←hsp]
   rw [List.getLast?_append]
   cases hc:(l.drop (i+1)).getLast? with
   | none=>rw [List.getLast?_eq_none_iff] at hc;exact absurd hc hd
   | some s=>rfl
 ·exact ⟨fun s hs=>hs,rfl,rfl⟩
theorem sqStepS_len (m i:Nat) (l:List Sp) (h:i+1<l.length):(sqStepS m i l).length=l.length∨(sqStepS m i l).length+1=l.length:=by
 unfold sqStepS
 split
 ·right
  simp
  omega
 ·exact .inl rfl
theorem Placed.squeeze {l:List Sp} {A:List Int} (h:Placed l A) (m:Nat):Placed (sqS m l) A:=by
 have gen:∀ (i:Nat) (l:List Sp),Placed l A→(0<i→i+1<l.length)→Placed (sqToS m i l) A:=by
  intro i
  induction i with
  | zero=>intro l h _;exact h
  | succ i ih =>
    intro l h hi
    have h1:=hi (by omega)
    obtain ⟨e1,e2,e3⟩:=sqStepS_ends m (i+1) l (by omega) h1
    refine ih _ (h.sub e1 e2 e3) (fun h2 => ?_)
    rcases sqStepS_len m (i+1) l h1 with h3|h3<;>omega
 exact gen _ l h (fun _=>by omega)
theorem unC_le_up (A:List Int) (x:Int):unC A x≤upC A x:=List.countP_mono_left (fun z _ hz=>by simp at hz ⊢;omega)
theorem upC_le (A:List Int) (x:Int):upC A x≤A.length:=List.countP_le_length
theorem Placed.insert {l:List Sp} {A:List Int} (h:Placed l A) (x:Int) (k:Nat) (hk:k≤l.length) (hlo:∀ s∈l.take k,s.x≤x) (hhi:∀ s∈l.drop k,x<s.x) (hn:totS l=A.length)
 (hr:0<k→k<l.length→(l.getD (k-1) default).lo<(l.getD k default).lo):Placed (insS l x k) (A++[x]):=by
 have hsp:=List.take_append_drop k l
 have hmin:k=0→unC A x=0:=fun h0=>by
  subst h0
  cases l with
  | nil=>rw [h.none rfl];rfl
  | cons a l =>
    have h1:=h.least a rfl
    have h2:=hhi a (by simp)
    have:=unC_mono A (show x≤a.x by omega)
    omega
 have hmax:k=l.length→upC A x=A.length:=fun hl=>by
  cases hc:l.getLast? with
  | none =>
    rw [List.getLast?_eq_none_iff] at hc
    rw [h.none hc]
    rfl
  | some s =>
    have h1:=h.most s hc
    have h2:=hlo s (by rw [hl,List.take_length];exact List.mem_of_getLast? hc)
    have:=upC_mono A h2
    have:=upC_le A x
    omega
 have hmem1:∀ s∈l.take k,s∈l:=fun s hs=>List.mem_of_mem_take hs
 have hmem2:∀ s∈l.drop k,s∈l:=fun s hs=>List.mem_of_mem_drop hs
 have lows:∀ s∈l.take k,upC A s.x≤upC (A++[x]) s.x∧unC (A++[x]) s.x=unC A s.x:=fun s hs=>by
  have:=hlo s hs
  rw [upC_snoc,unC_snoc]
  exact ⟨by omega,by rw [if_neg (by omega)];rfl⟩
 have highs:∀ s∈l.drop k,upC (A++[x]) s.x=upC A s.x+1∧unC (A++[x]) s.x=unC A s.x+1:=fun s hs=>by
  have:=hhi s hs
  rw [upC_snoc,unC_snoc,if_pos (by omega),if_pos (by omega)]
  exact ⟨rfl,rfl⟩
 have own:upC (A++[x]) x=upC A x+1∧unC (A++[x]) x=unC A x:=by
  rw [upC_snoc,unC_snoc,if_pos (by omega),if_neg (by omega)]
  exact ⟨rfl,rfl⟩
 refine ⟨fun s hs => ?_,fun s hs => ?_,fun s hs => ?_,fun he => ?_⟩
 ·rw [insS] at hs
  simp only [List.mem_append,List.mem_singleton] at hs
  rcases hs with (hs|hs)|hs
  ·obtain ⟨a1,a2,a3,a4⟩:=h.all s (hmem1 s hs)
   obtain ⟨b1,b2⟩:=lows s hs
   exact ⟨by omega,by omega,a3,by omega⟩
  ·subst hs
   have hu:=unC_le_up A x
   simp only [PlS]
   rw [own.1,own.2,hn]
   by_cases hend:k=l.length
   ·rw [if_pos hend,if_pos hend,hmax hend]
    have:=unC_le A x
    exact ⟨Nat.le_refl _,by omega,Nat.le_refl _,by omega⟩
   ·rw [if_neg hend,if_neg hend]
    by_cases h0:0<k
    ·rw [if_pos h0,if_pos h0]
     have hkl:k<l.length:=by omega
     have m1:l.getD (k-1) default∈l.take k:=by
      rw [List.mem_iff_getElem]
      refine ⟨k-1,by rw [List.length_take];omega,?_⟩
      rw [List.getElem_take]
      simp [List.getD,show k-1<l.length by omega]
     have m2:l.getD k default∈l.drop k:=by
      rw [List.mem_iff_getElem]
      refine ⟨0,by rw [List.length_drop];omega,?_⟩
      rw [List.getElem_drop]
      simp [List.getD,hkl]
     obtain ⟨a1,_,_,_⟩:=h.all _ (hmem1 _ m1)
     obtain ⟨_,c2,c3,_⟩:=h.all _ (hmem2 _ m2)
     have d1:=upC_mono A (hlo _ m1)
     have d2:=unC_mono A (show x≤(l.getD k default).x by have:=hhi _ m2;omega)
     have d3:=hr h0 hkl
     exact ⟨by omega,by omega,by omega,by omega⟩
    ·rw [if_neg h0,if_neg h0,hmin (by omega)]
     exact ⟨by omega,by omega,by omega,by omega⟩
  ·simp only [moveUp,List.mem_map] at hs
   obtain ⟨s0,hs0,rfl⟩:=hs
   obtain ⟨a1,a2,a3,a4⟩:=h.all s0 (hmem2 s0 hs0)
   obtain ⟨b1,b2⟩:=highs s0 hs0
   simp only [PlS]
   exact ⟨by omega,by omega,by omega,by omega⟩
 ·by_cases h0:k=0
  ·subst h0
   rw [insS] at hs
   simp only [List.take_zero,List.nil_append,List.singleton_append,List.head?_cons,Option.some.injEq] at hs
   subst hs
   simp only
   rw [own.2]
   exact hmin rfl
  ·cases hc:l.take k with
   | nil =>
     have:=congrArg List.length hc
     rw [List.length_take,List.length_nil] at this
     have hl0:l.length=0:=by omega
     omega
   | cons a r =>
     rw [insS,hc] at hs
     simp only [List.cons_append,List.head?_cons,Option.some.injEq] at hs
     subst hs
     rw [(lows a (by rw [hc];simp)).2]
     refine h.least a ?_
     rw [←hsp,hc]
     rfl
 ·rw [List.length_append,List.length_singleton]
  rw [insS,List.getLast?_append] at hs
  cases hc:(moveUp (l.drop k)).getLast? with
  | none =>
    rw [List.getLast?_eq_none_iff,moveUp,List.map_eq_nil_iff] at hc
    have hend:k=l.length:=by
     have:=congrArg List.length hc
     rw [List.length_drop,List.length_nil] at this
     omega
    rw [hc] at hs
    simp only [moveUp,List.map_nil,List.getLast?_nil,Option.none_or,List.getLast?_append,List.getLast?_singleton,Option.some_or,Option.some.injEq] at hs
    subst hs
    simp only
    rw [own.1,hmax hend]
  | some t =>
    rw [hc,Option.some_or,Option.some.injEq] at hs
    subst hs
    rw [moveUp,List.getLast?_map] at hc
    cases hd:(l.drop k).getLast? with
    | none=>rw [hd] at hc;simp at hc
    | some t0 =>
      rw [hd] at hc
      simp only [Option.map_some,Option.some.injEq] at hc
      subst hc
      have hm:t0∈l.drop k:=List.mem_of_getLast? hd
      simp only
      rw [(highs t0 hm).1]
      have:=h.most t0 (by rw [←hsp,List.getLast?_append,hd];rfl)
      omega
 ·rw [insS] at he
  simp at he
end Go.Proofs.YthoolcpcmhhkpaaGreatDoor
namespace Go.Proofs.YthoolcpcmhhkpaaGreatDoor
structure Rest (a:List Sp) (A:List Int) (n:Nat):Prop where
 all:∀ s∈a,PlS A s
 low:∀ s∈a,n<s.lo
 rise:a.Pairwise fun s t=>s.lo<t.lo
 up:a.Pairwise fun s t=>s.x≤t.x
 last:∀ s,a.getLast? = some s→upC A s.x=A.length∧s.lo=A.length
 none:a=[]→n=A.length
theorem Rest.tail {s:Sp} {a:List Sp} {A:List Int} {n:Nat} (h:Rest (s::a) A n):Rest a A s.lo:=
 ⟨fun t ht=>h.all t (by simp [ht]),fun t ht=>(List.pairwise_cons.1 h.rise).1 t ht,(List.pairwise_cons.1 h.rise).2,(List.pairwise_cons.1 h.up).2,
  fun t ht=>h.last t (by
   cases a with
   | nil=>simp at ht
   | cons b a=>simpa using ht),
  fun he=>(h.last s (by subst he;rfl)).2⟩
theorem mrg_all:∀ (a b:List Sp) (A B:List Int) (na nb:Nat),Rest a A na→Rest b B nb→(∀ s∈a,nb≤unC B s.x)→(∀ t∈b,na≤upC A t.x)→∀ s∈mrgS na nb a b,PlS (A++B) s
 | [],[],A,B,na,nb,_,_,_,_=>by intro s hs;simp [mrgS] at hs
 | s::a,[],A,B,na,nb,ha,hb,h1,h2=>by
   have ih:=mrg_all a [] A B s.lo nb ha.tail hb (fun r hr=>h1 r (by simp [hr])) (by simp)
   intro r hr
   rw [mrgS] at hr
   rcases List.mem_cons.1 hr with rfl|hr
   ·obtain ⟨a1,a2,a3,a4⟩:=ha.all s (by simp)
    have b1:=h1 s (by simp)
    have b2:=hb.none rfl
    have b3:=unC_le B s.x
    have b4:=unC_le_up B s.x
    simp only [PlS]
    rw [upC_app,unC_app]
    exact ⟨by omega,by omega,by omega,by omega⟩
   ·exact ih r hr
 | [],t::b,A,B,na,nb,ha,hb,h1,h2=>by
   have ih:=mrg_all [] b A B na t.lo ha hb.tail (by simp) (fun r hr=>h2 r (by simp [hr]))
   intro r hr
   rw [mrgS] at hr
   rcases List.mem_cons.1 hr with rfl|hr
   ·obtain ⟨a1,a2,a3,a4⟩:=hb.all t (by simp)
    have b1:=h2 t (by simp)
    have b2:=ha.none rfl
    have b3:=unC_le A t.x
    have b4:=unC_le_up A t.x
    simp only [PlS]
    rw [upC_app,unC_app]
    exact ⟨by omega,by omega,by omega,by omega⟩
   ·exact ih r hr
 | s::a,t::b,A,B,na,nb,ha,hb,h1,h2=>by
   obtain ⟨a1,a2,a3,a4⟩:=ha.all s (by simp)
   obtain ⟨c1,c2,c3,c4⟩:=hb.all t (by simp)
   have d1:=ha.low s (by simp)
   have d2:=hb.low t (by simp)
   have d3:=h1 s (by simp)
   have d4:=h2 t (by simp)
   by_cases hle:s.x≤t.x
   ·have ih:=mrg_all a (t::b) A B s.lo nb ha.tail hb (fun r hr=>h1 r (by simp [hr])) (fun r hr=>by
     have h3:s.x≤r.x:=by
      rcases List.mem_cons.1 hr with rfl|hr
      ·exact hle
      ·have:=(List.pairwise_cons.1 hb.up).1 r hr;omega
     exact Nat.le_trans a1 (upC_mono A h3))
    intro r hr
    rw [mrgS,if_pos hle] at hr
    rcases List.mem_cons.1 hr with rfl|hr
    ·have b3:=unC_mono B hle
     have b4:=unC_le_up B s.x
     simp only [PlS]
     rw [upC_app,unC_app]
     exact ⟨by omega,by omega,by omega,by omega⟩
    ·exact ih r hr
   ·have ih:=mrg_all (s::a) b A B na t.lo ha hb.tail (fun r hr=>by
     have h3:t.x<r.x:=by
      rcases List.mem_cons.1 hr with rfl|hr
      ·omega
      ·have:=(List.pairwise_cons.1 ha.up).1 r hr;omega
     exact Nat.le_trans c1 (unC_up B h3)) (fun r hr=>h2 r (by simp [hr]))
    intro r hr
    rw [mrgS,if_neg hle] at hr
    rcases List.mem_cons.1 hr with rfl|hr
    ·have b3:=unC_mono A (show t.x≤s.x by omega)
     have b4:=unC_le_up A t.x
     simp only [PlS]
     rw [upC_app,unC_app]
     exact ⟨by omega,by omega,by omega,by omega⟩
    ·exact ih r hr
termination_by a b=>a.length+b.length
theorem mrgS_nil:∀ (a b:List Sp) (na nb:Nat),mrgS na nb a b=[]→a=[]∧b=[]
 | [],[],_,_,_=>⟨rfl,rfl⟩
 | s::a,[],na,nb,h=>by rw [mrgS] at h;simp at h
 | [],t::b,na,nb,h=>by rw [mrgS] at h;simp at h
 | s::a,t::b,na,nb,h=>by
   rw [mrgS] at h
   split at h<;>simp at h
theorem last_cons {x y:Sp} {l:List Sp} (h:(x::l).getLast? = some y):(l=[]∧x=y)∨l.getLast? = some y:=by
 cases l with
 | nil=>left;simpa using h
 | cons a l=>right;simpa using h
theorem mrg_last:∀ (a b:List Sp) (A B:List Int) (na nb:Nat),Rest a A na→Rest b B nb→(b=[]→∀ s∈a,upC B s.x=B.length)→(a=[]→∀ t∈b,upC A t.x=A.length) →
 ∀ r,(mrgS na nb a b).getLast? = some r→upC (A++B) r.x=(A++B).length
 | [],[],A,B,na,nb,_,_,_,_=>by intro r hr;simp [mrgS] at hr
 | s::a,[],A,B,na,nb,ha,hb,h3,h4=>by
   have ih:=mrg_last a [] A B s.lo nb ha.tail hb (fun _ r hr=>h3 rfl r (by simp [hr])) (fun _=>by simp)
   intro r hr
   rw [mrgS] at hr
   rcases last_cons hr with ⟨h5,rfl⟩|h5
   ·obtain ⟨rfl,_⟩:=mrgS_nil _ _ _ _ h5
    have b1:=(ha.last s rfl).1
    have b2:=h3 rfl s (by simp)
    simp only
    rw [upC_app,List.length_append,b1,b2]
   ·exact ih r h5
 | [],t::b,A,B,na,nb,ha,hb,h3,h4=>by
   have ih:=mrg_last [] b A B na t.lo ha hb.tail (fun _=>by simp) (fun _ r hr=>h4 rfl r (by simp [hr]))
   intro r hr
   rw [mrgS] at hr
   rcases last_cons hr with ⟨h5,rfl⟩|h5
   ·obtain ⟨_,rfl⟩:=mrgS_nil _ _ _ _ h5
    have b1:=(hb.last t rfl).1
    have b2:=h4 rfl t (by simp)
    simp only
    rw [upC_app,List.length_append,b1,b2]
   ·exact ih r h5
 | s::a,t::b,A,B,na,nb,ha,hb,h3,h4=>by
   by_cases hle:s.x≤t.x
   ·have ih:=mrg_last a (t::b) A B s.lo nb ha.tail hb (fun he=>absurd he (by simp)) (fun he r hr=>by
     subst he
     have b1:=(ha.last s rfl).1
     have h5:s.x≤r.x:=by
      rcases List.mem_cons.1 hr with rfl|hr
      ·exact hle
      ·have:=(List.pairwise_cons.1 hb.up).1 r hr;omega
     have b2:=upC_mono A h5
     have b3:=upC_le A r.x
     omega)
    intro r hr
    rw [mrgS,if_pos hle] at hr
    rcases last_cons hr with ⟨h5,_⟩|h5
    ·have:=(mrgS_nil _ _ _ _ h5).2
     simp at this
    ·exact ih r h5
   ·have ih:=mrg_last (s::a) b A B na t.lo ha hb.tail (fun he r hr=>by
     subst he
     have b1:=(hb.last t rfl).1
     have h5:t.x≤r.x:=by
      rcases List.mem_cons.1 hr with rfl|hr
      ·omega
      ·have:=(List.pairwise_cons.1 ha.up).1 r hr;omega
     have b2:=upC_mono B h5
     have b3:=upC_le B r.x
     omega) (fun he=>absurd he (by simp))
    intro r hr
    rw [mrgS,if_neg hle] at hr
    rcases last_cons hr with ⟨h5,_⟩|h5
    ·have:=(mrgS_nil _ _ _ _ h5).1
     simp at this
    ·exact ih r h5
termination_by a b=>a.length+b.length
theorem Placed.rest {l:List Sp} {A:List Int} (h:Placed l A) (hlow:∀ s∈l,0<s.lo) (hrise:l.Pairwise fun s t=>s.lo<t.lo) (hup:l.Pairwise fun s t=>s.x≤t.x) (hn:totS l=A.length):Rest l A 0:=
 ⟨h.all,hlow,hrise,hup,fun s hs=>⟨h.most s hs,by rw [totS,hs] at hn;exact hn⟩,fun he=>by rw [h.none he];rfl⟩
theorem Placed.merge {a b:List Sp} {A B:List Int} (ha:Placed a A) (hb:Placed b B) (ra:Rest a A 0) (rb:Rest b B 0):Placed (mrgS 0 0 a b) (A++B):=by
 refine ⟨mrg_all a b A B 0 0 ra rb (fun _ _=>Nat.zero_le _) (fun _ _=>Nat.zero_le _),?_,mrg_last a b A B 0 0 ra rb (fun he s _=>by rw [hb.none he];rfl) (fun he s _=>by rw [ha.none he];rfl),fun he => ?_⟩
 ·intro r hr
  cases a with
  | nil =>
    have hA:=ha.none rfl
    cases b with
    | nil=>simp [mrgS] at hr
    | cons t b =>
      rw [mrgS] at hr
      simp only [List.head?_cons,Option.some.injEq] at hr
      subst hr
      simp only
      rw [hA,unC_app,hb.least t rfl]
      rfl
  | cons s a =>
    cases b with
    | nil =>
      rw [mrgS] at hr
      simp only [List.head?_cons,Option.some.injEq] at hr
      subst hr
      simp only
      rw [hb.none rfl,unC_app,ha.least s rfl]
      rfl
    | cons t b =>
      have l1:=ha.least s rfl
      have l2:=hb.least t rfl
      rw [mrgS] at hr
      split at hr
      ·next hle =>
       simp only [List.head?_cons,Option.some.injEq] at hr
       subst hr
       have:=unC_mono B hle
       simp only
       rw [unC_app]
       omega
      ·next hle =>
       simp only [List.head?_cons,Option.some.injEq] at hr
       subst hr
       have:=unC_mono A (show t.x≤s.x by omega)
       simp only
       rw [unC_app]
       omega
 ·obtain ⟨h1,h2⟩:=mrgS_nil _ _ _ _ he
  rw [ha.none h1,hb.none h2]
  rfl
end Go.Proofs.YthoolcpcmhhkpaaGreatDoor
namespace Go.Proofs.YthoolcpcmhhkpaaGreatDoor
structure Stp where
 x:Int
 lim:Nat
 sq:Bool
def upT (l:List Tp) (x:Int):Nat:=l.countP fun p=>decide (p.x≤x)
theorem upT_parts (x:Int):∀ (l:List Tp),(l.Pairwise fun p q=>p.x≤q.x)→(∀ p∈l.take (upT l x),p.x≤x)∧(∀ p∈l.drop (upT l x),x<p.x):=by
 intro l
 induction l with
 | nil=>intro _;simp
 | cons p l ih =>
   intro h
   obtain ⟨h1,h2⟩:=List.pairwise_cons.1 h
   by_cases hp:p.x≤x
   ·have e:upT (p::l) x=upT l x+1:=by simp [upT,hp]
    obtain ⟨a,b⟩:=ih h2
    rw [e,List.take_succ_cons,List.drop_succ_cons]
    exact ⟨fun q hq=>by rcases List.mem_cons.1 hq with rfl|hq;exact hp;exact a q hq,b⟩
   ·have e:upT (p::l) x=0:=by
     refine List.countP_eq_zero.2 (fun q hq => ?_)
     rcases List.mem_cons.1 hq with rfl|hq
     ·simpa using hp
     ·have:=h1 q hq;simp;omega
    rw [e]
    refine ⟨by simp,fun q hq => ?_⟩
    rw [List.drop_zero] at hq
    rcases List.mem_cons.1 hq with rfl|hq
    ·omega
    ·have:=h1 q hq;omega
theorem spF_x_mem {n:Nat} {r:List Tp} {s:Sp} (h:s∈spF n r):∃ p∈r,s.x=p.x:=by
 induction r generalizing n with
 | nil=>simp [spF] at h
 | cons p r ih =>
   rw [spF] at h
   rcases List.mem_cons.1 h with rfl|h
   ·exact ⟨p,by simp,rfl⟩
   ·obtain ⟨q,hq,hx⟩:=ih h
    exact ⟨q,by simp [hq],hx⟩
theorem spF_take (n k:Nat) (r:List Tp):(spF n r).take k=spF n (r.take k):=by
 induction k generalizing n r with
 | zero=>simp [spF]
 | succ k ih =>
   cases r with
   | nil=>simp [spF]
   | cons p r=>simp only [spF,List.take_succ_cons,ih]
theorem spF_drop_mem {n k:Nat} {r:List Tp} {s:Sp} (h:s∈(spF n r).drop k):∃ p∈r.drop k,s.x=p.x:=by
 induction k generalizing n r with
 | zero=>rw [List.drop_zero] at h ⊢;exact spF_x_mem h
 | succ k ih =>
   cases r with
   | nil=>simp [spF] at h
   | cons p r =>
     rw [spF,List.drop_succ_cons] at h
     rw [List.drop_succ_cons]
     exact ih h
theorem spF_rise (n:Nat) (r:List Tp) (h:∀ p∈r,1≤p.st):(∀ s∈spF n r,n<s.lo)∧(spF n r).Pairwise fun s t=>s.lo<t.lo:=by
 induction r generalizing n with
 | nil=>simp [spF]
 | cons p r ih =>
   have hp:=h p (by simp)
   obtain ⟨a,b⟩:=ih (n+p.st) (fun q hq=>h q (by simp [hq]))
   rw [spF]
   refine ⟨fun s hs => ?_,List.pairwise_cons.2 ⟨fun t ht=>a t ht,b⟩⟩
   rcases List.mem_cons.1 hs with rfl|hs
   ·simp only;omega
   ·have:=a s hs;omega
def playS (st:List Tp × List Int) (s:Stp):List Tp × List Int:=
 if s.sq then (sqT s.lim st.1,st.2) else (insT st.1 s.x (upT st.1 s.x),st.2++[s.x])
structure FineP (st:List Tp × List Int) (k:Nat):Prop where
 fine:FineT st.1 st.2.length
 placed:Placed (spF 0 st.1) st.2
 len:st.1.length≤k
 all:st.2.length≤k
theorem insT_len' (l:List Tp) (x:Int) (k:Nat) (hk:k≤l.length):(insT l x k).length=l.length+1:=by
 simp [insT];omega
theorem sqTo_len (m i:Nat):∀ row:List Tp,(0<i→i+1<row.length)→(sqTo m i row).length≤row.length:=by
 induction i with
 | zero=>intro row _;exact Nat.le_refl _
 | succ i ih =>
   intro row h
   have h1:=h (by omega)
   rw [sqTo]
   rcases sqStep_len m (i+1) row h1 with h2|h2
   ·have:=ih (sqStep m (i+1) row) (by omega);omega
   ·have:=ih (sqStep m (i+1) row) (by omega);omega
theorem sqT_len (m:Nat) (row:List Tp):(sqT m row).length≤row.length:=sqTo_len m _ row (fun _=>by omega)
theorem FineP.step {st:List Tp × List Int} {k:Nat} (h:FineP st k) (s:Stp):FineP (playS st s) (k+1):=by
 obtain ⟨hf,hp,hl,ha⟩:=h
 rw [playS]
 split
 ·exact ⟨hf.squeeze _,by rw [squeeze_same];exact hp.squeeze _,by have:=sqT_len s.lim st.1;simp only;omega,by simp only;omega⟩
 ·have hle:upT st.1 s.x≤st.1.length:=List.countP_le_length
  obtain ⟨a,b⟩:=upT_parts s.x st.1 hf.up
  have h1:=hf.insert s.x (upT st.1 s.x) hle a b
  refine ⟨by simpa using h1,?_,by simp only;rw [insT_len' _ _ _ hle];omega,by simp;omega⟩
  simp only
  rw [insert_same _ _ _ hle hf.pos]
  refine hp.insert s.x _ (by rw [spF_len];exact hle) (fun t ht => ?_) (fun t ht => ?_) (by rw [totS_spF0,hf.total]) (fun h0 h1 => ?_)
  ·rw [spF_take] at ht
   obtain ⟨p,hp,hx⟩:=spF_x_mem ht
   rw [hx];exact a p hp
  ·obtain ⟨p,hp,hx⟩:=spF_drop_mem ht
   rw [hx];exact b p hp
  ·have hr:=(spF_rise 0 st.1 hf.pos).2
   have e1:(spF 0 st.1).getD (upT st.1 s.x-1) default=(spF 0 st.1)[upT st.1 s.x-1]'(by omega):=by
    have:upT st.1 s.x-1<(spF 0 st.1).length:=by omega
    simp [List.getD,this]
   have e2:(spF 0 st.1).getD (upT st.1 s.x) default=(spF 0 st.1)[upT st.1 s.x]:=by simp [List.getD,h1]
   rw [e1,e2]
   exact List.pairwise_iff_getElem.1 hr _ _ _ _ (by omega)
end Go.Proofs.YthoolcpcmhhkpaaGreatDoor
namespace Go.Proofs.YthoolcpcmhhkpaaGreatDoor
theorem mrgT_left (p:Tp) (a:List Tp):mrgT (p::a) []=p::a:=by unfold mrgT;rfl
theorem mrgT_nil (b:List Tp):mrgT [] b=b:=by unfold mrgT;rfl
theorem mrgT_le {p q:Tp} (a b:List Tp) (h:p.x≤q.x):mrgT (p::a) (q::b)=⟨p.x,p.st,p.sl+(q.st+q.sl-1)⟩::mrgT a (q::b):=by rw [mrgT,if_pos h]
theorem mrgT_gt {p q:Tp} (a b:List Tp) (h:¬p.x≤q.x):mrgT (p::a) (q::b)=⟨q.x,q.st,q.sl+(p.st+p.sl-1)⟩::mrgT (p::a) b:=by rw [mrgT,if_neg h]
theorem mrgT_mem:∀ (a b:List Tp) (r:Tp),r∈mrgT a b→∃ p,(p∈a∨p∈b)∧r.x=p.x∧r.st=p.st
 | [],b,r,h=>by rw [mrgT_nil] at h;exact ⟨r,.inr h,rfl,rfl⟩
 | p::a,[],r,h=>by rw [mrgT_left] at h;exact ⟨r,.inl h,rfl,rfl⟩
 | p::a,q::b,r,h=>by
   by_cases hle:p.x≤q.x
   ·rw [mrgT_le a b hle] at h
    rcases List.mem_cons.1 h with rfl|h
    ·exact ⟨p,.inl (by simp),rfl,rfl⟩
    ·obtain ⟨t,ht,h1,h2⟩:=mrgT_mem a (q::b) r h
     exact ⟨t,ht.imp (fun h=>by simp [h]) id,h1,h2⟩
   ·rw [mrgT_gt a b hle] at h
    rcases List.mem_cons.1 h with rfl|h
    ·exact ⟨q,.inr (by simp),rfl,rfl⟩
    ·obtain ⟨t,ht,h1,h2⟩:=mrgT_mem (p::a) b r h
     exact ⟨t,ht.imp id (fun h=>by simp [h]),h1,h2⟩
termination_by a b=>a.length+b.length
theorem mrgT_tot:∀ (a b:List Tp),tot (mrgT a b)=tot a+tot b
 | [],b=>by rw [mrgT_nil];simp [tot]
 | p::a,[]=>by rw [mrgT_left];simp [tot]
 | p::a,q::b=>by
   by_cases hle:p.x≤q.x
   ·rw [mrgT_le a b hle,tot_cons,mrgT_tot a (q::b),tot_cons,tot_cons];simp only;omega
   ·rw [mrgT_gt a b hle,tot_cons,mrgT_tot (p::a) b,tot_cons,tot_cons];simp only;omega
termination_by a b=>a.length+b.length
theorem mrgT_up:∀ (a b:List Tp),(a.Pairwise fun p q=>p.x≤q.x)→(b.Pairwise fun p q=>p.x≤q.x)→(mrgT a b).Pairwise fun p q=>p.x≤q.x
 | [],b,_,hb=>by rw [mrgT_nil];exact hb
 | p::a,[],ha,_=>by rw [mrgT_left];exact ha
 | p::a,q::b,ha,hb=>by
   obtain ⟨ha1,ha2⟩:=List.pairwise_cons.1 ha
   obtain ⟨hb1,hb2⟩:=List.pairwise_cons.1 hb
   by_cases hle:p.x≤q.x
   ·rw [mrgT_le a b hle]
    refine List.pairwise_cons.2 ⟨fun r hr => ?_,mrgT_up a (q::b) ha2 hb⟩
    obtain ⟨t,ht,h1,_⟩:=mrgT_mem _ _ r hr
    simp only
    rcases ht with ht|ht
    ·have:=ha1 t ht;omega
    ·rcases List.mem_cons.1 ht with rfl|ht
     ·omega
     ·have:=hb1 t ht;omega
   ·rw [mrgT_gt a b hle]
    refine List.pairwise_cons.2 ⟨fun r hr => ?_,mrgT_up (p::a) b ha hb2⟩
    obtain ⟨t,ht,h1,_⟩:=mrgT_mem _ _ r hr
    simp only
    rcases ht with ht|ht
    ·rcases List.mem_cons.1 ht with rfl|ht
     ·omega
     ·have:=ha1 t ht;omega
    ·have:=hb1 t ht;omega
termination_by a b=>a.length+b.length
theorem mrgS_high (NA NB:Nat):∀ (a b:List Sp) (na nb:Nat),(∀ s∈a,s.hi≤NA∧s.lo≤s.hi)→(∀ s∈b,s.hi≤NB∧s.lo≤s.hi)→na≤NA→nb≤NB→∀ r∈mrgS na nb a b,r.hi≤NA+NB
 | [],[],_,_,_,_,_,_,r,h=>by simp [mrgS] at h
 | s::a,[],na,nb,ha,hb,h1,h2,r,h=>by
   have hs:=ha s (by simp)
   rw [mrgS] at h
   rcases List.mem_cons.1 h with rfl|h
   ·simp only;omega
   ·exact mrgS_high NA NB a [] s.lo nb (fun t ht=>ha t (by simp [ht])) hb (by omega) h2 r h
 | [],t::b,na,nb,ha,hb,h1,h2,r,h=>by
   have ht:=hb t (by simp)
   rw [mrgS] at h
   rcases List.mem_cons.1 h with rfl|h
   ·simp only;omega
   ·exact mrgS_high NA NB [] b na t.lo ha (fun s hs=>hb s (by simp [hs])) h1 (by omega) r h
 | s::a,t::b,na,nb,ha,hb,h1,h2,r,h=>by
   have hs:=ha s (by simp)
   have ht:=hb t (by simp)
   rw [mrgS] at h
   split at h
   ·rcases List.mem_cons.1 h with rfl|h
    ·simp only;omega
    ·exact mrgS_high NA NB a (t::b) s.lo nb (fun t ht=>ha t (by simp [ht])) hb (by omega) h2 r h
   ·rcases List.mem_cons.1 h with rfl|h
    ·simp only;omega
    ·exact mrgS_high NA NB (s::a) b na t.lo ha (fun s hs=>hb s (by simp [hs])) h1 (by omega) r h
termination_by a b=>a.length+b.length
theorem spF_lohi (n:Nat) (r:List Tp):∀ s∈spF n r,n≤s.lo∧s.lo≤s.hi:=by
 induction r generalizing n with
 | nil=>intro s hs;simp [spF] at hs
 | cons p r ih =>
   intro s hs
   rw [spF] at hs
   rcases List.mem_cons.1 hs with rfl|hs
   ·simp only;omega
   ·have:=ih (n+p.st) s hs
    omega
theorem spF_merge {a b:List Tp} {na nb:Nat} (ha:FineT a na) (hb:FineT b nb):spF 0 (mrgT a b)=mrgS 0 0 (spF 0 a) (spF 0 b):=mrg_same a b 0 0 ha.pos hb.pos
theorem FineT.merge {a b:List Tp} {na nb:Nat} (ha:FineT a na) (hb:FineT b nb):FineT (mrgT a b) (na+nb):=by
 refine ⟨?_,?_,?_,?_,mrgT_up a b ha.up hb.up⟩
 ·rw [mrgT_tot,ha.total,hb.total]
 ·intro r hr
  obtain ⟨p,hp,_,h2⟩:=mrgT_mem a b r hr
  rw [h2]
  rcases hp with hp|hp
  ·exact ha.pos p hp
  ·exact hb.pos p hp
 ·intro r hr
  cases a with
  | nil=>rw [mrgT_nil] at hr;exact hb.first r hr
  | cons p a =>
    have h1:=ha.first p rfl
    cases b with
    | nil=>rw [mrgT_left] at hr;exact ha.first r hr
    | cons q b =>
      have h2:=hb.first q rfl
      by_cases hle:p.x≤q.x
      ·rw [mrgT_le a b hle] at hr
       simp only [List.head?_cons,Option.some.injEq] at hr
       subst hr
       simp only
       omega
      ·rw [mrgT_gt a b hle] at hr
       simp only [List.head?_cons,Option.some.injEq] at hr
       subst hr
       simp only
       omega
 ·rw [spF_merge ha hb]
  exact mrgS_high na nb _ _ 0 0 (fun s hs=>⟨ha.high s hs,(spF_lohi 0 a s hs).2⟩) (fun s hs=>⟨hb.high s hs,(spF_lohi 0 b s hs).2⟩) (Nat.zero_le _) (Nat.zero_le _)
theorem spF_xup (n:Nat) {r:List Tp} (h:r.Pairwise fun p q=>p.x≤q.x):(spF n r).Pairwise fun p q=>p.x≤q.x:=by
 induction r generalizing n with
 | nil=>exact List.Pairwise.nil
 | cons p r ih =>
   obtain ⟨h1,h2⟩:=List.pairwise_cons.1 h
   rw [spF]
   refine List.pairwise_cons.2 ⟨fun s hs => ?_,ih _ h2⟩
   obtain ⟨q,hq,hx⟩:=spF_x_mem hs
   rw [hx]
   exact h1 q hq
theorem Placed.restF {r:List Tp} {A:List Int} (h:Placed (spF 0 r) A) (hf:FineT r A.length):Rest (spF 0 r) A 0:=by
 have hr:=spF_rise 0 r hf.pos
 exact h.rest (fun s hs=>by have:=hr.1 s hs;omega) hr.2 (spF_xup 0 hf.up) (by rw [totS_spF0,hf.total])
theorem merged {a b:List Tp} {A B:List Int} (ha:FineT a A.length) (hb:FineT b B.length) (pa:Placed (spF 0 a) A) (pb:Placed (spF 0 b) B) :
 FineT (mrgT a b) (A++B).length∧Placed (spF 0 (mrgT a b)) (A++B):=by
 rw [List.length_append]
 refine ⟨ha.merge hb,?_⟩
 rw [spF_merge ha hb]
 exact pa.merge pb (pa.restF ha) (pb.restF hb)
end Go.Proofs.YthoolcpcmhhkpaaGreatDoor
namespace Go.Proofs.YthoolcpcmhhkpaaGreatDoor
end Go.Proofs.YthoolcpcmhhkpaaGreatDoor
