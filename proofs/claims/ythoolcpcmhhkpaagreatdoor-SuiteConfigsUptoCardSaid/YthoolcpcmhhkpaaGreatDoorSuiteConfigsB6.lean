/-
  Parts of a proof, pressed. Conditions: the form's own reach.
-/
import Derived.Test.YthoolcpcmhhkpaaGreatDoorSuiteConfigsB5
import Derived.Test.YthoolcpcmhhkpaaGreatDoorSuiteConfigsB4
import Derived.Test.YthoolcpcmhhkpaaGreatDoorProg
import Derived.Test.YthoolcpcmhhkpaaGreatDoorSuiteConfigsB1
import Derived.Shelf.Abstract
namespace Go.Proofs.YthoolcpcmhhkpaaGreatDoor
open Go.RowKit
def greatV (l:List Vl):Bool:=(l.any fun v=>decide (150<v.n)) || decide (60<l.length)
theorem greatV_not {l:List Vl} (h:greatV l=false):l.length≤60∧∀ v∈l,v.n≤150:=by
 unfold greatV at h
 rw [Bool.or_eq_false_iff,List.any_eq_false] at h
 have h2:=of_decide_eq_false h.2
 refine ⟨by omega,fun v hv => ?_⟩
 have:=h.1 v hv
 simp only [decide_eq_true_eq] at this
 omega
set_option maxRecDepth 100000 in
set_option maxHeartbeats 2000000 in
theorem law23_great (w:World) (ao:Option Addr) (cap n:Nat) (l:List Vl) (hn:n=l.length) (hr:Rd w 2 (.slice ao n cap) n (vlCells l)) (hl:n≤140737488351232) (B:Bool) (hB:B=greatV l) :
 Calls Tryz.prog 11 #[.slice ao n cap] w fun e w'=>e=.returned (.bool B)∧Chg [] w w':=by
 have HR:=Lib.hid hr
 have HN:=Lib.hid hn
 have HB:=Lib.hid hB
 clear hr hn hB
 go_enter Tryz.func11,Tryz.ntmps11
 go_wp2_with fail
 go_loopw [7] (fun i wx=>∃ k:Nat,k≤n∧i=.int .i64 (k:Nat)∧Hid (∀ v∈l.take k,v.n≤150)∧Chg [] w wx) (fun i _=>n-(intOf i).toNat)
 case atStart=>exact ⟨0,Nat.zero_le _,rfl,Lib.hid (by simp),Chg.refl _ _⟩
 case round =>
  obtain ⟨k,hk,rfl,HM,hc⟩:=hrel
  have HC:=Lib.hid hc
  clear hc
  by_cases hlt:k<n
  ·have hkl:k<l.length:=by have:=HN.out;omega
   obtain ⟨b,o,rfl,hcl⟩:=(HR.out.chg HC.out (by simp)).addr (by omega)
   obtain ⟨c0,c1⟩:=vl_at (l:=l) (fun j hj=>hcl j (by rw [HN.out];exact hj)) hkl
   have HTK:=Lib.hid (show l.take (k+1)=l.take k++[l[k]] from by rw [List.take_succ_eq_append_getElem hkl])
   have HIN:=Lib.hid (List.getElem_mem hkl)
   generalize l[k]=v at *
   have HVB:=Blk.alloc_new wr #[.int .i64 v.x,.int .u64 v.n] 56
   have v1:=HVB.cell 1
   simp only [List.getElem?_toArray,List.getElem?_cons_zero,List.getElem?_cons_succ] at v1
   have HCA:=Lib.hid (HC.out.alloc (.cells #[.int .i64 v.x,.int .u64 v.n] 56))
   clear hcl HVB
   by_cases hg:150<v.n
   ·have d1:decide ((150:Int)<(v.n:Int))=true:=decide_eq_true (by omega)
    have d1':decide (150<v.n)=true:=decide_eq_true hg
    have HBT:=Lib.hid (show B=true from by
     rw [HB.out]
     unfold greatV
     rw [Bool.or_eq_true,List.any_eq_true]
     exact .inl ⟨v,HIN.out,d1'⟩)
    clear hg
    go_wp2
    go_ret
    rw [HBT.out]
    exact ⟨rfl,HCA.out⟩
   ·have d1:decide ((150:Int)<(v.n:Int))=false:=decide_eq_false (by omega)
    have d1':decide (150<v.n)=false:=decide_eq_false hg
    have HG:=Lib.hid hg
    clear hg
    go_wp2
    refine ⟨⟨k+1,hlt,by go_num,Lib.hid (fun u hu => ?_),HCA.out⟩,by simp [intOf];omega⟩
    rw [HTK.out] at hu
    rcases List.mem_append.1 hu with hu|hu
    ·exact HM.out u hu
    ·rw [List.mem_singleton.1 hu]
     have:=HG.out
     omega
  ·obtain rfl:k=n:=by omega
   have hany:(l.any fun v=>decide (150<v.n))=false:=by
    rw [List.any_eq_false]
    intro v hv
    have h2:l.take k=l:=List.take_of_length_le (by have:=HN.out;omega)
    have:=HM.out v (by rw [h2];exact hv)
    simp only [decide_eq_true_eq]
    omega
   have hb:=HB.out
   unfold greatV at hb
   rw [hany,Bool.false_or,←HN.out] at hb
   have e1:decide ((60:Int)<(k:Int))=B:=by
    rw [hb]
    by_cases h:60<k
    ·rw [decide_eq_true h,decide_eq_true (by omega)]
    ·rw [decide_eq_false h,decide_eq_false (by omega)]
   have e1':decide (60<k)=B:=hb.symm
   clear hb hany
   go_wp2
   go_ret
   exact ⟨rfl,HC.out⟩
def Kb.all {c:Cf} (K:Kb c) (l:List Vl):K.S:=l.foldl (fun st v=>K.put st v.x v.n) K.init
theorem Kb.all_snoc {c:Cf} (K:Kb c) (l:List Vl) (v:Vl):K.all (l++[v])=K.put (K.all l) v.x v.n:=by simp [Kb.all]
theorem Kb.fold_sz {c:Cf} (K:Kb c):∀ (l:List Vl) (st:K.S),K.sz (l.foldl (fun st v=>K.put st v.x v.n) st)≤K.sz st+1024*l.length∧K.sz (l.foldl (fun st v=>K.put st v.x v.n) st)≤K.sz st+sumS l
 | [],st=>⟨by simp,by simp [sumS]⟩
 | v::l,st=>by
   have h1:=K.szp st v.x v.n
   obtain ⟨h2,h3⟩:=K.fold_sz l (K.put st v.x v.n)
   simp only [List.foldl_cons,List.length_cons,sumS]
   exact ⟨by omega,by omega⟩
theorem Kb.all_sz {c:Cf} (K:Kb c) (l:List Vl):K.sz (K.all l)≤1024*l.length:=by
 have:=(K.fold_sz l K.init).1
 rw [K.sz0] at this
 unfold Kb.all
 omega
theorem Kb.all_sum {c:Cf} (K:Kb c) (l:List Vl):K.sz (K.all l)≤sumS l:=by
 have:=(K.fold_sz l K.init).2
 rw [K.sz0] at this
 unfold Kb.all
 omega
theorem sumS_le {l:List Vl} {m:Nat} (h:∀ v∈l,v.n≤m):sumS l≤m*l.length:=by
 induction l with
 | nil=>simp [sumS]
 | cons v l ih =>
   have h1:=ih (fun u hu=>h u (by simp [hu]))
   have h2:=h v (by simp)
   simp only [sumS,List.length_cons,Nat.mul_succ]
   omega
def BuildK {c:Cf} (K:Kb c) (l:List Vl) (w:World) (e:Ending) (w':World):Prop:=
 (K.ok=false∧e=.returned (.tuple #[.pointer none,.bool false])∧Chg [] w w') ∨
 (K.ok=true∧∃ s F,e=.returned (.tuple #[.pointer (some ⟨s,0,none⟩),.bool true])∧K.P w' s F (K.all l)∧Chg [] w w'∧∀ b∈F,w.heap.size≤b)
set_option maxRecDepth 100000 in
set_option maxHeartbeats 4000000 in
theorem law23_build (w:World) (ht:Tens4 w) (c:Cf) (K:Kb c) (ao:Option Addr) (cap n:Nat) (l:List Vl) (hn:n=l.length) (hl:n≤1048576) (hr:Rd w 2 (.slice ao n cap) n (vlCells l)) (hok:∀ v∈l,v.ok) :
 Calls Tryz.prog 10 #[c.val,.slice ao n cap] w fun e w'=>BuildK K l w e w':=by
 have HN:=Lib.hid (fun u (hu:Chg [] w u)=>K.new u (ht.chg hu))
 simp only [Cf.val,Cf.cells] at HN ⊢
 have HR:=Lib.hid hr
 have HOK:=Lib.hid hok
 have HNL:=Lib.hid hn
 have HC0:=Lib.hid ((Chg.refl [] w).alloc (.cells #[.int .i64 c.kind,.int .u64 c.num,.int .u64 c.den,.int .i64 c.side,.int .i64 c.most,.int .i64 c.digits,.int .u64 c.limit,.int .i64 c.depth,.int .i64 c.factor,.int .i64 c.width,.int .u64 c.word] 28))
 clear hr hok hn ht
 go_enter Tryz.func10,Tryz.ntmps10
 go_wp2_with fail
 generalize w.alloc (.cells #[.int .i64 c.kind,.int .u64 c.num,.int .u64 c.den,.int .i64 c.side,.int .i64 c.most,.int .i64 c.digits,.int .u64 c.limit,.int .i64 c.depth,.int .i64 c.factor,.int .i64 c.width,.int .u64 c.word] 28)=w0 at *
 refine (HN.out _ HC0.out).mono ?_
 rintro e w1 (⟨hko,k,hk,rfl,hc⟩|⟨hko,s,F,rfl,hP,hc,hF⟩)
 ·have hkb:(k != 0)=true:=by rw [bne_iff_ne];exact hk
  have HC:=Lib.hid (And.intro hko (HC0.out.trans hc))
  clear hc hk hko HN HR HOK
  go_wp2
  go_ret2
  exact .inl ⟨HC.out.1,rfl,HC.out.2⟩
 ·have HC1:=Lib.hid (HC0.out.trans hc)
  have HP:=Lib.hid hP
  have HKO:=Lib.hid hko
  have HF:=Lib.hid (show (∀ b∈F,w.heap.size≤b) from fun b hb=>Nat.le_trans HC0.out.size (hF b hb))
  clear hP hF hc hko HN HC0
  go_wp2_with fail
  go_loopw [19] (fun i wx=>∃ (k:Nat) (F':List Nat),k≤n∧i=.int .i64 (k:Nat)∧Hid (K.P wx s F' (K.all (l.take k))∧Chg [] w wx∧(∀ b∈F',w.heap.size≤b))) (fun i _=>n-(intOf i).toNat)
  case atStart=>exact ⟨0,F,Nat.zero_le _,rfl,Lib.hid ⟨HP.out,HC1.out,HF.out⟩⟩
  case round =>
   obtain ⟨k,F',hk,rfl,HX⟩:=hrel
   clear HP HF
   by_cases hlt:k<n
   ·have hkl:k<l.length:=by have:=HNL.out;omega
    obtain ⟨b,o,rfl,hcl⟩:=(HR.out.chg HX.out.2.1 (by simp)).addr (by omega)
    obtain ⟨c0,c1⟩:=vl_at (l:=l) (fun j hj=>hcl j (by rw [HNL.out];exact hj)) hkl
    have HV:=Lib.hid (HOK.out l[k] (List.getElem_mem hkl))
    have HTK:=Lib.hid (show K.all (l.take (k+1))=K.put (K.all (l.take k)) l[k].x l[k].n from by rw [List.take_succ_eq_append_getElem hkl,K.all_snoc])
    have HSZ:=Lib.hid (show K.sz (K.all (l.take k))≤2000000000 from by
     have h1:=K.all_sz (l.take k)
     have h2:(l.take k).length≤k:=by rw [List.length_take];omega
     omega)
    generalize l[k]=v at *
    have HWA:=Lib.hid (show Chg [] wr (wr.alloc (.cells #[.int .i64 v.x,.int .u64 v.n] 56)) from (Chg.refl _ _).alloc _)
    have HPU:=Lib.hid (K.putC (K.chg HX.out.1 HWA.out (by simp)) HSZ.out v.x v.n ⟨HV.out.1,HV.out.2.1⟩ HV.out.2.2)
    clear hcl
    go_wp2_with fail
    refine HPU.out.mono ?_
    rintro e w2 ⟨rfl,F2,hP2,hm⟩
    have hm1:Mv F' wr F2 w2:=(Mv.of_chg (HWA.out.mono (by simp))).trans hm
    have HX2:=Lib.hid (show K.P w2 s F2 (K.all (l.take (k+1)))∧Chg [] w w2∧(∀ b∈F2,w.heap.size≤b) from ⟨by rw [HTK.out];exact hP2,HX.out.2.1.trans' hm1.chg (fun b hb=>.inr (HX.out.2.2 b hb)),fun b hb=>by
     rcases hm1.fr b hb with h1|h1
     ·exact HX.out.2.2 b h1
     ·exact Nat.le_trans HX.out.2.1.size h1⟩)
    clear hP2 hm hm1 HPU c0 c1
    go_wp2
    exact ⟨⟨k+1,F2,hlt,by go_num,HX2⟩,by simp [intOf];omega⟩
   ·obtain rfl:k=n:=by omega
    have hfull:l.take k=l:=List.take_of_length_le (by have:=HNL.out;omega)
    have hx:=HX.out
    rw [hfull] at hx
    have HE:=Lib.hid hx
    clear hx hfull HX
    go_wp2
    go_ret2
    exact .inr ⟨HKO.out,s,F',rfl,HE.out.1,HE.out.2.1,HE.out.2.2⟩
set_option maxRecDepth 100000 in
set_option maxHeartbeats 2000000 in
theorem law23_bytes (w:World) (c:Cf) (K:Kb c) (s:Nat) (F:List Nat) (st:K.S) (h:K.P w s F st) (hz:K.sz st≤40000) :
 Calls Tryz.prog 12 #[.pointer (some ⟨s,0,none⟩)] w fun e w'=>e=.returned (.string ⟨(encS K.kk (K.enc st)).toArray⟩)∧Chg [] w w':=by
 have HE:=Lib.hid (K.encC h hz)
 obtain ⟨S,hS⟩:∃ S,S=encS K.kk (K.enc st):=⟨_,rfl⟩
 obtain ⟨E,hE⟩:∃ S,S=encE (K.enc st):=⟨_,rfl⟩
 rw [←hS,←hE] at HE
 rw [←hS]
 clear h hz hS hE
 go_enter Tryz.func12,Tryz.ntmps12
 go_wp2_with fail
 refine HE.out.mono ?_
 rintro e w1 ⟨rfl,hc⟩
 have HC:=Lib.hid hc
 clear hc HE
 go_wp2
 go_ret
 exact ⟨rfl,HC.out⟩
set_option maxRecDepth 100000 in
set_option maxHeartbeats 4000000 in
theorem kk_put_lumps (w:World) (s p:Nat) (c:Cf) (h:Sk w s c 227 p) (x:Int) (n:Nat) (R:Ending→World→Prop)
 (HP0:Calls Tryz.prog 127 #[.pointer (some ⟨p,0,none⟩),.int .i64 x,.int .u64 n] w fun e w'=>∃ k,e=.returned (.int .i64 k)∧R e w') :
 Calls Tryz.prog 21 #[.pointer (some ⟨s,0,none⟩),.int .i64 x,.int .u64 n] w R:=by
 have c11:=h.core
 have HP:=Lib.hid HP0
 clear h HP0
 go_enter Tryz.func21,Tryz.ntmps21
 go_wp2_with fail
 refine HP.out.mono ?_
 rintro e w1 ⟨k,rfl,hR⟩
 have HR:=Lib.hid hR
 clear hR HP
 go_wp2_with fail
 exact HR.out
set_option maxRecDepth 100000 in
set_option maxHeartbeats 4000000 in
theorem kc_total_lumps (w:World) (p:Nat) (n:Nat)
 (HP0:∀ u,Chg [] w u→Calls Tryz.prog 130 #[.pointer (some ⟨p,0,none⟩)] u fun e w'=>e=.returned (.int .u64 (n:Nat))∧Chg [] u w') :
 Calls Tryz.prog 395 #[.agg #[.pointer (some ⟨p,0,none⟩)]] w fun e w'=>e=.returned (.int .u64 (n:Nat))∧Chg [] w w':=by
 have HP:=Lib.hid HP0
 have HC:=Lib.hid ((Chg.refl [] w).alloc (.cells #[.pointer (some ⟨p,0,none⟩)] 227))
 clear HP0
 go_enter Tryz.func395,Tryz.ntmps395
 go_wp2_with fail
 refine (HP.out _ HC.out).mono ?_
 rintro e w1 ⟨rfl,hc⟩
 have HC1:=Lib.hid (HC.out.trans hc)
 clear hc HP
 go_wp2
 go_ret
 exact ⟨rfl,HC1.out⟩
set_option maxRecDepth 100000 in
set_option maxHeartbeats 4000000 in
theorem kk_total_lumps (w:World) (s p:Nat) (c:Cf) (h:Sk w s c 227 p) (n:Nat)
 (HP0:∀ u,Chg [] w u→Calls Tryz.prog 130 #[.pointer (some ⟨p,0,none⟩)] u fun e w'=>e=.returned (.int .u64 (n:Nat))∧Chg [] u w') :
 Calls Tryz.prog 20 #[.pointer (some ⟨s,0,none⟩)] w fun e w'=>e=.returned (.int .u64 (n:Nat))∧Chg [] w w':=by
 have c11:=h.core
 have HT:=Lib.hid (kc_total_lumps w p n HP0)
 clear h HP0
 go_enter Tryz.func20,Tryz.ntmps20
 go_wp2_with fail
 refine HT.out.mono ?_
 rintro e w1 ⟨rfl,hc⟩
 have HC:=Lib.hid hc
 clear hc HT
 go_wp2
 go_ret
 exact ⟨rfl,HC.out⟩
end Go.Proofs.YthoolcpcmhhkpaaGreatDoor
namespace Go.Proofs.YthoolcpcmhhkpaaGreatDoor
structure Lp where
 n:Nat
 lo:Int
 hi:Int
deriving Inhabited
def ltL (a b:Lp):Bool:=decide (a.lo<b.lo∨a.lo=b.lo∧a.hi<b.hi)
def sameL (a b:Lp):Bool:=decide (a.lo=b.lo∧a.hi=b.hi)
theorem ltL_tri (a b:Lp):(ltL a b=true∧sameL a b=false∧ltL b a=false)∨(ltL a b=false∧sameL a b=true∧ltL b a=false)∨(ltL a b=false∧sameL a b=false∧ltL b a=true):=by
 unfold ltL sameL
 simp only [decide_eq_true_eq,decide_eq_false_iff_not]
 omega
theorem ltL_trans {a b c:Lp} (h:ltL a b=true) (k:ltL b c=true):ltL a c=true:=by
 unfold ltL at *
 rw [decide_eq_true_eq] at *
 omega
def risesL (l:List Lp):Prop:=l.Pairwise fun a b=>ltL a b=true
def totL (l:List Lp):Nat:=(l.map Lp.n).sum
theorem totL_nil:totL []=0:=rfl
theorem totL_cons (p:Lp) (l:List Lp):totL (p::l)=p.n+totL l:=by simp [totL]
theorem totL_app (a b:List Lp):totL (a++b)=totL a+totL b:=by simp [totL]
theorem mem_totL {l:List Lp} {p:Lp} (h:p∈l):p.n≤totL l:=by
 induction l with
 | nil=>simp at h
 | cons q l ih =>
   rw [totL_cons]
   rcases List.mem_cons.1 h with rfl|h
   ·omega
   ·have:=ih h;omega
def sumL (g:Lp→Bool) (l:List Lp):Nat:=(l.map fun p=>if g p then p.n else 0).sum
theorem sumL_nil (g:Lp→Bool):sumL g []=0:=rfl
theorem sumL_cons (g:Lp→Bool) (p:Lp) (l:List Lp):sumL g (p::l)=(if g p then p.n else 0)+sumL g l:=by simp [sumL]
theorem sumL_app (g:Lp→Bool) (a b:List Lp):sumL g (a++b)=sumL g a+sumL g b:=by simp [sumL]
theorem sumL_all (l:List Lp):sumL (fun _=>true) l=totL l:=by simp [sumL,totL]
def cntL (l:List Lp) (p:Lp):Nat:=sumL (fun q=>sameL q p) l
def layL (l:List Lp) (p:Lp):List Lp:=l.filter (fun q=>ltL q p)++[⟨cntL l p+p.n,p.lo,p.hi⟩]++l.filter (fun q=>ltL p q)
theorem sumL_lay (g:Lp→Bool) (hg:∀ a b,sameL a b=true→g a=g b) (l:List Lp) (p:Lp):sumL g (layL l p)=sumL g l+if g p then p.n else 0:=by
 have h1:sumL g l=sumL g (l.filter fun q=>ltL q p)+(if g p then cntL l p else 0)+sumL g (l.filter fun q=>ltL p q):=by
  induction l with
  | nil=>simp [sumL,cntL]
  | cons q l ih =>
    have ec:cntL (q::l) p=(if sameL q p then q.n else 0)+cntL l p:=sumL_cons _ _ _
    rw [sumL_cons,ih,List.filter_cons,List.filter_cons,ec]
    rcases ltL_tri q p with ⟨a1,a2,a3⟩|⟨a1,a2,a3⟩|⟨a1,a2,a3⟩
    ·simp only [a1,a2,a3,if_true,Bool.false_eq_true,if_false,sumL_cons,Nat.zero_add];omega
    ·simp only [a1,a2,a3,if_true,Bool.false_eq_true,if_false,hg q p a2]
     cases g p<;>simp<;>omega
    ·simp only [a1,a2,a3,if_true,Bool.false_eq_true,if_false,sumL_cons,Nat.zero_add];omega
 have h2:g ⟨cntL l p+p.n,p.lo,p.hi⟩=g p:=hg _ _ (by unfold sameL;simp)
 rw [layL,sumL_app,sumL_app,sumL_cons,sumL_nil,h2,h1]
 cases g p<;>simp<;>omega
theorem totL_lay (l:List Lp) (p:Lp):totL (layL l p)=totL l+p.n:=by
 rw [←sumL_all,sumL_lay _ (fun _ _ _=>rfl),sumL_all]
 simp
theorem lay_mem {l:List Lp} {p q:Lp} (h:q∈layL l p):q∈l∨(q.lo=p.lo∧q.hi=p.hi∧q.n=cntL l p+p.n):=by
 rw [layL] at h
 rcases List.mem_append.1 h with h|h
 ·rcases List.mem_append.1 h with h|h
  ·exact .inl (List.mem_filter.1 h).1
  ·simp at h;subst h;exact .inr ⟨rfl,rfl,rfl⟩
 ·exact .inl (List.mem_filter.1 h).1
theorem lay_has (l:List Lp) (p:Lp):(∃ q∈layL l p,q.lo=p.lo∧q.hi=p.hi)∧∀ q∈l,∃ r∈layL l p,r.lo=q.lo∧r.hi=q.hi:=by
 have hm:(⟨cntL l p+p.n,p.lo,p.hi⟩:Lp)∈layL l p:=by rw [layL];simp
 refine ⟨⟨_,hm,rfl,rfl⟩,fun q hq => ?_⟩
 rcases ltL_tri q p with ⟨a1,-,-⟩|⟨-,a2,-⟩|⟨-,-,a3⟩
 ·exact ⟨q,by rw [layL];simp [hq,a1],rfl,rfl⟩
 ·unfold sameL at a2
  rw [decide_eq_true_eq] at a2
  exact ⟨_,hm,a2.1.symm,a2.2.symm⟩
 ·exact ⟨q,by rw [layL];simp [hq,a3],rfl,rfl⟩
theorem lay_rises {l:List Lp} (h:risesL l) (p:Lp):risesL (layL l p):=by
 unfold risesL layL
 rw [List.pairwise_append,List.pairwise_append]
 refine ⟨⟨h.filter _,by simp,fun a ha b hb => ?_⟩,h.filter _,fun a ha b hb => ?_⟩
 ·simp at hb;subst hb
  have:=(List.mem_filter.1 ha).2
  unfold ltL at this ⊢
  exact this
 ·have hb2:=(List.mem_filter.1 hb).2
  rcases List.mem_append.1 ha with ha|ha
  ·exact ltL_trans (List.mem_filter.1 ha).2 hb2
  ·simp at ha;subst ha
   unfold ltL at hb2 ⊢
   exact hb2
def posL (l:List Lp) (p:Lp):Nat:=l.countP fun q=>ltL q p
def hasL (l:List Lp) (p:Lp):Bool:=l.any fun q=>sameL q p
theorem rises_cut {l:List Lp} (h:risesL l) (p:Lp):l=l.filter (fun q=>ltL q p)++l.filter (fun q=>!ltL q p):=by
 induction l with
 | nil=>rfl
 | cons q l ih =>
   have h2:=(List.pairwise_cons.1 h)
   cases hq:ltL q p with
   | true =>
     rw [List.filter_cons,if_pos hq,List.filter_cons,if_neg (by simp [hq]),List.cons_append,←ih h2.2]
   | false =>
     have hall:∀ r∈l,ltL r p=false:=fun r hr=>by
      cases hx:ltL r p with
      | false=>rfl
      | true=>rw [ltL_trans (h2.1 r hr) hx] at hq;exact absurd hq (by decide)
     rw [List.filter_cons,if_neg (by simp [hq]),List.filter_cons,if_pos (by simp [hq])]
     have e1:l.filter (fun q=>ltL q p)=[]:=List.filter_eq_nil_iff.2 (fun r hr=>by rw [hall r hr];decide)
     have e2:l.filter (fun q=>!ltL q p)=l:=List.filter_eq_self.2 (fun r hr=>by rw [hall r hr];rfl)
     rw [e1,e2]
     rfl
theorem posL_le (l:List Lp) (p:Lp):posL l p≤l.length:=List.countP_le_length
theorem take_pos {l:List Lp} (h:risesL l) (p:Lp):l.take (posL l p)=l.filter fun q=>ltL q p:=by
 have e:=rises_cut h p
 have hl:(l.filter fun q=>ltL q p).length=posL l p:=(List.countP_eq_length_filter).symm
 obtain ⟨k,hk⟩:∃ k,k=posL l p:=⟨_,rfl⟩
 rw [←hk] at hl ⊢
 conv=>lhs;rw [e]
 rw [List.take_append_of_le_length (by omega),←hl,List.take_length]
theorem drop_pos {l:List Lp} (h:risesL l) (p:Lp):l.drop (posL l p)=l.filter fun q=>!ltL q p:=by
 have e:=rises_cut h p
 have hl:(l.filter fun q=>ltL q p).length=posL l p:=(List.countP_eq_length_filter).symm
 obtain ⟨k,hk⟩:∃ k,k=posL l p:=⟨_,rfl⟩
 rw [←hk] at hl ⊢
 conv=>lhs;rw [e]
 rw [←hl,List.drop_left]
theorem cntL_zero {l:List Lp} {p:Lp} (h:∀ q∈l,sameL q p=false):cntL l p=0:=by
 induction l with
 | nil=>rfl
 | cons q l ih =>
   have:cntL (q::l) p=(if sameL q p then q.n else 0)+cntL l p:=sumL_cons _ _ _
   rw [this,h q (by simp),ih (fun r hr=>h r (by simp [hr]))]
   rfl
theorem lay_new {l:List Lp} (h:risesL l) {p:Lp} (hn:hasL l p=false):layL l p=l.take (posL l p)++[p]++l.drop (posL l p):=by
 have hs:∀ q∈l,sameL q p=false:=fun q hq=>by
  cases hx:sameL q p with
  | false=>rfl
  | true=>rw [hasL,List.any_eq_false] at hn;exact absurd hx (hn q hq)
 rw [take_pos h,drop_pos h,layL,cntL_zero hs,Nat.zero_add]
 congr 1
 refine List.filter_congr (fun q hq => ?_)
 have:=hs q hq
 rcases ltL_tri q p with ⟨a1,a2,a3⟩|⟨a1,a2,a3⟩|⟨a1,a2,a3⟩
 ·rw [a1,a3];rfl
 ·rw [a2] at this;exact absurd this (by decide)
 ·rw [a1,a3];rfl
theorem lay_old {l:List Lp} (h:risesL l) {p:Lp} (hn:hasL l p=true):∃ hk:posL l p<l.length,sameL l[posL l p] p=true∧layL l p=l.set (posL l p) ⟨l[posL l p].n+p.n,l[posL l p].lo,l[posL l p].hi⟩:=by
 rw [hasL,List.any_eq_true] at hn
 obtain ⟨q,hq,hs⟩:=hn
 have hnl:ltL q p=false:=by
  rcases ltL_tri q p with ⟨a1,a2,a3⟩|⟨a1,a2,a3⟩|⟨a1,a2,a3⟩
  ·rw [a2] at hs;exact absurd hs (by decide)
  ·exact a1
  ·rw [a2] at hs;exact absurd hs (by decide)
 have hqd:q∈l.drop (posL l p):=by rw [drop_pos h];exact List.mem_filter.2 ⟨hq,by rw [hnl];rfl⟩
 have hk:posL l p<l.length:=by
  rcases Nat.lt_or_ge (posL l p) l.length with h|h
  ·exact h
  ·rw [List.drop_eq_nil_of_le h] at hqd;simp at hqd
 -- the first of the rest is q
 have hd:l.drop (posL l p)=l[posL l p]::l.drop (posL l p+1):=List.drop_eq_getElem_cons hk
 have hrd:risesL (l[posL l p]::l.drop (posL l p+1)):=by rw [←hd];exact h.drop
 have hf0:ltL l[posL l p] p=false:=by
  have:l[posL l p]∈l.drop (posL l p):=by rw [hd];exact List.mem_cons_self
  rw [drop_pos h] at this
  have h2:=(List.mem_filter.1 this).2
  simpa using h2
 have hone:l[posL l p]=q:=by
  rw [hd] at hqd
  rcases List.mem_cons.1 hqd with h1|h1
  ·exact h1.symm
  ·exfalso
   have h2:=(List.pairwise_cons.1 hrd).1 q h1
   unfold ltL at h2 hf0
   unfold sameL at hs
   rw [decide_eq_true_eq] at h2 hs
   rw [decide_eq_false_iff_not] at hf0
   omega
 have hrest:∀ r∈l.drop (posL l p+1),ltL p r=true∧sameL r p=false:=fun r hr=>by
  have h2:=(List.pairwise_cons.1 hrd).1 r hr
  rw [hone] at h2
  unfold ltL at h2 ⊢
  unfold sameL at hs ⊢
  rw [decide_eq_true_eq] at h2 hs ⊢
  rw [decide_eq_false_iff_not]
  omega
 have hlow:∀ r∈l.take (posL l p),ltL p r=false∧sameL r p=false:=fun r hr=>by
  rw [take_pos h] at hr
  have h2:=(List.mem_filter.1 hr).2
  rcases ltL_tri r p with ⟨a1,a2,a3⟩|⟨a1,a2,a3⟩|⟨a1,a2,a3⟩
  ·exact ⟨a3,a2⟩
  ·rw [a1] at h2;exact absurd h2 (by decide)
  ·rw [a1] at h2;exact absurd h2 (by decide)
 have e:l=l.take (posL l p)++l[posL l p]::l.drop (posL l p+1):=by rw [←hd,List.take_append_drop]
 have hpq:ltL p q=false:=by
  rcases ltL_tri q p with ⟨a1,a2,a3⟩|⟨a1,a2,a3⟩|⟨a1,a2,a3⟩
  ·exact a3
  ·exact a3
  ·rw [a2] at hs;exact absurd hs (by decide)
 have hc:cntL l p=l[posL l p].n:=by
  have h0:cntL l p=cntL (l.take (posL l p)) p+cntL (l[posL l p]::l.drop (posL l p+1)) p:=by
   conv=>lhs;rw [e]
   exact sumL_app _ _ _
  have h1:cntL (l[posL l p]::l.drop (posL l p+1)) p=(if sameL l[posL l p] p then l[posL l p].n else 0)+cntL (l.drop (posL l p+1)) p:=sumL_cons _ _ _
  rw [h0,h1,cntL_zero (fun r hr=>(hlow r hr).2),cntL_zero (fun r hr=>(hrest r hr).2),hone,hs]
  simp
 have hf:l.filter (fun r=>ltL p r)=l.drop (posL l p+1):=by
  conv=>lhs;rw [e]
  rw [List.filter_append,List.filter_cons,hone,hpq,if_neg (by decide)]
  rw [List.filter_eq_nil_iff.2 (fun r hr=>by rw [(hlow r hr).1];decide),List.filter_eq_self.2 (fun r hr=>(hrest r hr).1),List.nil_append]
 refine ⟨hk,by rw [hone];exact hs,?_⟩
 rw [layL,hf,hc,←take_pos h,List.set_eq_take_append_cons_drop,if_pos hk,hone]
 unfold sameL at hs
 rw [decide_eq_true_eq] at hs
 rw [hs.1,hs.2]
 simp
theorem lay_len {l:List Lp} (h:risesL l) (p:Lp):(layL l p).length≤l.length+1:=by
 cases hn:hasL l p with
 | false=>rw [lay_new h hn];have:=posL_le l p;simp;omega
 | true=>obtain ⟨hk,-,e⟩:=lay_old h hn;rw [e];simp
def meltL (l:List Lp) (k:Nat):List Lp:=
 layL (l.take k++l.drop (k+2)) ⟨(l.getD k default).n+(l.getD (k+1) default).n,(l.getD k default).lo,max (l.getD k default).hi (l.getD (k+1) default).hi⟩
theorem melt_parts {l:List Lp} {k:Nat} (h:k+1<l.length):∃ a b,l=l.take k++a::b::l.drop (k+2)∧l.getD k default=a∧l.getD (k+1) default=b:=by
 refine ⟨l[k],l[k+1],?_,by simp [List.getD,show k<l.length by omega],by simp [List.getD,h]⟩
 rw [←List.drop_eq_getElem_cons h,←List.drop_eq_getElem_cons (show k<l.length by omega),List.take_append_drop]
theorem melt_rises {l:List Lp} (h:risesL l) (k:Nat):risesL (meltL l k):=by
 refine lay_rises ?_ _
 have h1:(l.take k++l.drop (k+2)).Sublist l:=by
  have:l=l.take k++l.drop k:=(List.take_append_drop k l).symm
  conv=>rhs;rw [this]
  refine List.Sublist.append (List.Sublist.refl _) ?_
  rw [←List.drop_drop]
  exact List.drop_sublist _ _
 exact h.sublist h1
theorem melt_tot {l:List Lp} {k:Nat} (h:k+1<l.length):totL (meltL l k)=totL l:=by
 obtain ⟨a,b,e,ea,eb⟩:=melt_parts h
 rw [meltL,totL_lay,ea,eb]
 conv=>rhs;rw [e]
 rw [totL_app,totL_app,totL_cons,totL_cons]
 simp only
 omega
theorem melt_len {l:List Lp} (hr:risesL l) {k:Nat} (h:k+1<l.length):(meltL l k).length+1≤l.length:=by
 have h1:(l.take k++l.drop (k+2)).length=l.length-2:=by simp;omega
 have hs:risesL (l.take k++l.drop (k+2)):=by
  have h1:(l.take k++l.drop (k+2)).Sublist l:=by
   have:l=l.take k++l.drop k:=(List.take_append_drop k l).symm
   conv=>rhs;rw [this]
   refine List.Sublist.append (List.Sublist.refl _) ?_
   rw [←List.drop_drop]
   exact List.drop_sublist _ _
  exact hr.sublist h1
 have h2:=lay_len hs ⟨(l.getD k default).n+(l.getD (k+1) default).n,(l.getD k default).lo,max (l.getD k default).hi (l.getD (k+1) default).hi⟩
 unfold meltL
 omega
def rankLoL (l:List Lp) (x:Int):Nat:=sumL (fun p=>decide (p.hi≤x)) l
def rankHiL (l:List Lp) (x:Int):Nat:=sumL (fun p=>decide (p.lo≤x)) l
theorem same_lo (x:Int) (a b:Lp) (h:sameL a b=true):decide (a.lo≤x)=decide (b.lo≤x):=by
 unfold sameL at h;rw [decide_eq_true_eq] at h;rw [h.1]
theorem same_hi (x:Int) (a b:Lp) (h:sameL a b=true):decide (a.hi≤x)=decide (b.hi≤x):=by
 unfold sameL at h;rw [decide_eq_true_eq] at h;rw [h.2]
theorem melt_ranks {l:List Lp} (hr:risesL l) {k:Nat} (h:k+1<l.length) (x:Int):rankLoL (meltL l k) x≤rankLoL l x∧rankHiL l x≤rankHiL (meltL l k) x:=by
 obtain ⟨a,b,e,ea,eb⟩:=melt_parts h
 have hab:ltL a b=true:=by
  have h1:=hr
  unfold risesL at h1
  rw [e,List.pairwise_append] at h1
  exact (List.pairwise_cons.1 h1.2.1).1 b (by simp)
 unfold ltL at hab
 rw [decide_eq_true_eq] at hab
 unfold rankLoL rankHiL meltL
 rw [sumL_lay _ (same_hi x),sumL_lay _ (same_lo x),ea,eb]
 have e1:sumL (fun p=>decide (p.hi≤x)) l=sumL (fun p=>decide (p.hi≤x)) (l.take k++l.drop (k+2))+(if decide (a.hi≤x) then a.n else 0)+(if decide (b.hi≤x) then b.n else 0):=by
  conv=>lhs;rw [e]
  rw [sumL_app,sumL_app,sumL_cons,sumL_cons];omega
 have e2:sumL (fun p=>decide (p.lo≤x)) l=sumL (fun p=>decide (p.lo≤x)) (l.take k++l.drop (k+2))+(if decide (a.lo≤x) then a.n else 0)+(if decide (b.lo≤x) then b.n else 0):=by
  conv=>lhs;rw [e]
  rw [sumL_app,sumL_app,sumL_cons,sumL_cons];omega
 rw [e1,e2]
 simp only [decide_eq_true_eq]
 constructor
 ·by_cases g1:a.hi≤x
  ·by_cases g2:b.hi≤x
   ·rw [if_pos g1,if_pos g2,if_pos (show max a.hi b.hi≤x by omega)];omega
   ·rw [if_pos g1,if_neg g2,if_neg (show ¬max a.hi b.hi≤x by omega)];omega
  ·by_cases g2:b.hi≤x
   ·rw [if_neg g1,if_pos g2,if_neg (show ¬max a.hi b.hi≤x by omega)];omega
   ·rw [if_neg g1,if_neg g2,if_neg (show ¬max a.hi b.hi≤x by omega)];omega
 ·by_cases g1:a.lo≤x
  ·by_cases g2:b.lo≤x
   ·simp only [if_pos g1,if_pos g2];omega
   ·simp only [if_pos g1,if_neg g2];omega
  ·simp only [if_neg g1,if_neg (show ¬b.lo≤x by omega)];omega
structure EndsL (l:List Lp) (lo hi:Int):Prop where
 low:∀ p∈l,lo≤p.lo
 high:∀ p∈l,p.hi≤hi
 atLow:∃ p∈l,p.lo=lo
 atHigh:∃ p∈l,p.hi=hi
theorem lay_ends {l:List Lp} {lo hi:Int} (h:EndsL l lo hi) (p:Lp):EndsL (layL l p) (min lo p.lo) (max hi p.hi):=by
 obtain ⟨h1,h2⟩:=lay_has l p
 obtain ⟨q,hq,ql,qh⟩:=h1
 refine ⟨fun r hr => ?_,fun r hr => ?_,?_,?_⟩
 ·rcases lay_mem hr with h3|h3
  ·have:=h.low r h3;omega
  ·omega
 ·rcases lay_mem hr with h3|h3
  ·have:=h.high r h3;omega
  ·omega
 ·obtain ⟨r,hr,e⟩:=h.atLow
  obtain ⟨s,hs,e1,e2⟩:=h2 r hr
  by_cases hx:lo≤p.lo
  ·exact ⟨s,hs,by omega⟩
  ·exact ⟨q,hq,by omega⟩
 ·obtain ⟨r,hr,e⟩:=h.atHigh
  obtain ⟨s,hs,e1,e2⟩:=h2 r hr
  by_cases hx:p.hi≤hi
  ·exact ⟨s,hs,by omega⟩
  ·exact ⟨q,hq,by omega⟩
theorem lay_ends0 (p:Lp):EndsL (layL [] p) p.lo p.hi:=by
 have e:layL [] p=[⟨0+p.n,p.lo,p.hi⟩]:=rfl
 rw [e]
 exact ⟨by simp,by simp,⟨_,by simp,rfl⟩,⟨_,by simp,rfl⟩⟩
theorem melt_ends {l:List Lp} (hr:risesL l) {k:Nat} (h:k+1<l.length) {lo hi:Int} (he:EndsL l lo hi):EndsL (meltL l k) lo hi:=by
 obtain ⟨a,b,e,ea,eb⟩:=melt_parts h
 have hab:ltL a b=true:=by
  have h1:=hr
  unfold risesL at h1
  rw [e,List.pairwise_append] at h1
  exact (List.pairwise_cons.1 h1.2.1).1 b (by simp)
 unfold ltL at hab
 rw [decide_eq_true_eq] at hab
 have ha:a∈l:=by rw [e];simp
 have hb:b∈l:=by rw [e];simp
 have hin:∀ q∈l.take k++l.drop (k+2),q∈l:=fun q hq=>by
  rw [e]
  rcases List.mem_append.1 hq with h|h<;>simp [h]
 have hsp:∀ q∈l,q=a∨q=b∨q∈l.take k++l.drop (k+2):=fun q hq=>by
  rw [e] at hq
  rcases List.mem_append.1 hq with h|h
  ·exact .inr (.inr (List.mem_append_left _ h))
  ·rcases List.mem_cons.1 h with h|h
   ·exact .inl h
   ·rcases List.mem_cons.1 h with h|h
    ·exact .inr (.inl h)
    ·exact .inr (.inr (List.mem_append_right _ h))
 obtain ⟨h1,h2⟩:=lay_has (l.take k++l.drop (k+2)) ⟨a.n+b.n,a.lo,max a.hi b.hi⟩
 obtain ⟨q,hq,ql,qh⟩:=h1
 simp only at ql qh
 unfold meltL
 rw [ea,eb]
 refine ⟨fun r hr => ?_,fun r hr => ?_,?_,?_⟩
 ·rcases lay_mem hr with h3|⟨h3,-,-⟩
  ·exact he.low r (hin r h3)
  ·have:=he.low a ha;simp only at h3;omega
 ·rcases lay_mem hr with h3|⟨-,h3,-⟩
  ·exact he.high r (hin r h3)
  ·have h4:=he.high a ha;have h5:=he.high b hb;simp only at h3;omega
 ·obtain ⟨r,hr1,er⟩:=he.atLow
  rcases hsp r hr1 with h3|h3|h3
  ·exact ⟨q,hq,by rw [ql,←er,h3]⟩
  ·have:=he.low a ha
   exact ⟨q,hq,by rw [ql];rw [h3] at er;omega⟩
  ·obtain ⟨s,hs,e1,-⟩:=h2 r h3
   exact ⟨s,hs,by omega⟩
 ·obtain ⟨r,hr1,er⟩:=he.atHigh
  rcases hsp r hr1 with h3|h3|h3
  ·have:=he.high b hb
   exact ⟨q,hq,by rw [qh];rw [h3] at er;omega⟩
  ·have:=he.high a ha
   exact ⟨q,hq,by rw [qh];rw [h3] at er;omega⟩
  ·obtain ⟨s,hs,-,e2⟩:=h2 r h3
   exact ⟨s,hs,by omega⟩
end Go.Proofs.YthoolcpcmhhkpaaGreatDoor
namespace Go.Proofs.YthoolcpcmhhkpaaGreatDoor
open Go.RowKit
def Lp.cells (p:Lp):List Value:=[.int .u64 p.n,.int .i64 p.lo,.int .i64 p.hi]
def Lp.ok (p:Lp):Prop:=p.n<18446744073709551616∧-9223372036854775808≤p.lo∧p.lo<9223372036854775808∧-9223372036854775808≤p.hi∧p.hi<9223372036854775808
def lpCells (l:List Lp):List Value:=(l.map Lp.cells).flatten
theorem lpCells_len (l:List Lp):(lpCells l).length=l.length*3:=by
 induction l with
 | nil=>rfl
 | cons a r ih=>simp only [lpCells,List.map_cons,List.flatten_cons,List.length_append,List.length_cons] at *;rw [ih];simp [Lp.cells];omega
theorem lpCells_append (a b:List Lp):lpCells (a++b)=lpCells a++lpCells b:=by simp [lpCells]
theorem lpCells_get (l:List Lp) (k j:Nat) (hk:k<l.length) (hj:j<3):(lpCells l)[k*3+j]? = (l[k].cells)[j]?:=by
 induction l generalizing k with
 | nil=>simp at hk
 | cons a r ih =>
   cases k with
   | zero =>
     simp only [lpCells,List.map_cons,List.flatten_cons,Nat.zero_mul,Nat.zero_add,List.getElem_cons_zero]
     rw [List.getElem?_append_left (by simpa [Lp.cells] using hj)]
   | succ k =>
     have:=ih k (by simpa using hk)
     simp only [lpCells,List.map_cons,List.flatten_cons,List.getElem_cons_succ] at *
     rw [List.getElem?_append_right (by simp [Lp.cells];omega),←this]
     congr 1
     simp [Lp.cells]
     omega
theorem lp_at {w:World} {b o k:Nat} {l:List Lp} (hc:∀ j,j<l.length*3→w.cell? ⟨b,o+j,none⟩=(lpCells l)[j]?) (h:k<l.length) :
 w.cell? ⟨b,o+k*3,none⟩=some (.int .u64 l[k].n)∧w.cell? ⟨b,o+k*3+1,none⟩=some (.int .i64 l[k].lo)∧w.cell? ⟨b,o+k*3+2,none⟩=some (.int .i64 l[k].hi):=by
 have g:∀ j,j<3→w.cell? ⟨b,o+k*3+j,none⟩=(l[k].cells)[j]?:=fun j hj=>by
  rw [←lpCells_get l k j h hj,←hc (k*3+j) (by omega),Nat.add_assoc]
 exact ⟨g 0 (by omega),g 1 (by omega),g 2 (by omega)⟩
theorem lpCells_oneCell (l:List Lp):∀ y∈lpCells l,y.oneCell'=true:=by
 intro y hy
 simp only [lpCells,List.mem_flatten,List.mem_map] at hy
 obtain ⟨x,⟨i,_,rfl⟩,hy⟩:=hy
 simp only [Lp.cells,List.mem_cons,List.not_mem_nil,or_false] at hy
 rcases hy with rfl|rfl|rfl<;>rfl
theorem under_lumps:Tryz.prog.underlying 210=some (.slice 213):=by kernel_rfl
theorem info_lump:(Tryz.prog.info? 213).map (fun i=>(i.zero,i.size,i.bytes))=some (some (.agg #[.int .u64 0,.int .i64 0,.int .i64 0]),3,24):=by kernel_rfl
theorem step_callsV {P:Program} {ops:Array Oper} {w:World} {o:Oper} {a:Act} {K:Act→World→Prop} {Q:Exit→Act→World→Prop} {E:Prop} (hw:Region.wanted o (yielded ops a.tmps)=true) (f:Nat) (op:Operand) (args:Array Operand) (ts:Array TypeId)
 (ho:o.op=.call { callee:=.value op,args:=args,argTypes:=ts }) (hop:a.eval op=.func (.func f) #[] #[])
 (he:∀ args w,(callFunc f args).run P w=.ok (.enter f args) w) (R:Ending→World→Prop) (vs:Array Value) (hv:args.map a.eval=vs) (hc:Calls P f vs w R)
 (h:∀ e w',R e w'→∃ v,e=.returned v∧K (a.put o.dst v) w') :
 if Region.wanted o (yielded ops a.tmps)=true then Oper.wp P o a w K Q else E:=by
 rw [if_pos hw]
 have hrun:(execOp a.eval o).run P w=.ok (.enter f vs) w:=by
  unfold execOp
  rw [ho]
  simp only [resolve,hop,Deferred.ofValue]
  simp [invoke,go_sem,he,hv]
 rw [Oper.wp,hrun,Oper.upon_enter]
 refine hc.mono fun e w' hr => ?_
 obtain ⟨v,rfl,hk⟩:=h e w' hr
 exact hk
end Go.Proofs.YthoolcpcmhhkpaaGreatDoor
