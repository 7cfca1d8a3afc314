/-
  Parts of a proof, pressed. Conditions: the form's own reach.
-/
import Derived.Test.YthoolcpcmhhkpaaGreatDoorRows
import Derived.Test.YthoolcpcmhhkpaaGreatDoorSuiteConfigsB1
import Derived.Test.YthoolcpcmhhkpaaGreatDoorProg
namespace Go.Proofs.YthoolcpcmhhkpaaGreatDoor.suiteConfigs
open Go.ChangeShapes Go.WideShapes Go.ChangeAt Go.RowKit
theorem pcp:Tryz.pinned.checked.prog=Tryz.prog:=by kernel_rfl
set_option maxRecDepth 100000 in
set_option maxHeartbeats 40000000 in
theorem closedP:joinedFacts Tryz.prog 7 Tryz.f7 (Rows.OpenSpec.upto Rows.suiteConfigsSpec).bare Rows.suiteConfigsUptoRow=true:=by
 unfold joinedFacts
 simp only [Bool.and_eq_true]
 refine ⟨⟨⟨⟨⟨⟨⟨⟨⟨⟨⟨⟨⟨⟨⟨⟨⟨⟨⟨⟨⟨⟨⟨⟨⟨⟨⟨⟨⟨⟨⟨?_,?_⟩,?_⟩,?_⟩,?_⟩,?_⟩,?_⟩,?_⟩,?_⟩,?_⟩,?_⟩,?_⟩,?_⟩,?_⟩,?_⟩,?_⟩,?_⟩,?_⟩,?_⟩,?_⟩,?_⟩,?_⟩,?_⟩,?_⟩,?_⟩,?_⟩,?_⟩,?_⟩,?_⟩,?_⟩,?_⟩,?_⟩
 all_goals (as_aux_lemma=>kernel_rfl)
theorem closedC:joinedFacts Tryz.pinned.checked.prog 7 Tryz.f7 (Rows.OpenSpec.upto Rows.suiteConfigsSpec).bare Rows.suiteConfigsUptoRow=true:=by
 rw [pcp]
 exact closedP
theorem instC:Tryz.f7.isInstance Tryz.pinned.checked.prog Rows.suiteConfigsUptoRow.origin Rows.suiteConfigsUptoRow.targs:=of_decide_eq_true (by as_aux_lemma=>kernel_rfl)
theorem wrapC:Tryz.f7.isWrapper Tryz.pinned.checked.prog Rows.suiteConfigsUptoRow.wrapper Rows.suiteConfigsUptoRow.mainSum:=by
 unfold Func.isWrapper;first|(rw [if_pos (by decide +kernel)];kernel_rfl)|(rw [if_neg (by decide +kernel)];exact ⟨rfl,rfl⟩)
theorem nameC:Tryz.pinned.checked.prog.funcNamed Rows.suiteConfigsUptoRow.func=some 7:=by kernel_rfl
end Go.Proofs.YthoolcpcmhhkpaaGreatDoor.suiteConfigs
namespace Go.Proofs.YthoolcpcmhhkpaaGreatDoor
open Go.ChangeShapes Go.WideShapes Go.ChangeAt Go.RowKit
theorem bulk_one {H:Type} (d:DataW H):1≤Rows.uptoBulk d:=by
 cases d with
 | lit l=>cases l<;>simp [Rows.uptoBulk]
 | nil=>simp [Rows.uptoBulk]
 | ptr d=>simp [Rows.uptoBulk]
 | slice elems spare=>simp [Rows.uptoBulk]
 | agg parts=>simp [Rows.uptoBulk]
 | iface t d=>simp [Rows.uptoBulk]
 | map entries=>simp [Rows.uptoBulk]
 | held h=>simp [Rows.uptoBulk]
theorem bulk_len {H:Type} (l:List (DataW H)):l.length≤Rows.uptoBulkAll l:=by
 induction l with
 | nil=>simp [Rows.uptoBulkAll]
 | cons x l ih=>have:=bulk_one x;simp only [Rows.uptoBulkAll,List.length_cons];omega
set_option maxRecDepth 100000 in
theorem bulk_slice {H:Type} {enc:TypeId × Value→H} {W:World} {t e:TypeId} {ao:Option Addr} {n cp:Nat} {d:DataW H} {ps:List MemPlace} (ht:Tryz.prog.underlying t=some (.slice e)) (hd:DataW.Trod enc Tryz.prog W 0 (fun _=>true) true t (.slice ao n cp) d ps):n≤Rows.uptoBulk d:=by
 obtain ⟨fuel,hf⟩:=hd
 rcases Go.Deep.open_slice ht hf with ⟨hcs,hx⟩|⟨a,len,cap,m,k,D,Pl,hcs,_,hlc,hcm,hm,hx,hel⟩
 ·simp [Value.cells] at hcs
  obtain ⟨-,rfl,-⟩:=hcs
  exact Nat.zero_le _
 ·simp [Value.cells] at hcs
  obtain ⟨rfl,rfl,rfl⟩:=hcs
  simp only [Prod.mk.injEq] at hx
  obtain ⟨rfl,rfl⟩:=hx
  simp only [Rows.uptoBulk]
  refine Nat.le_trans ?_ (Nat.le_trans (Nat.le_add_right _ _) (Nat.le_add_right _ _))
  refine Nat.le_trans ?_ (bulk_len _)
  simp
theorem bulk_mem {H:Type} {d:DataW H} {l:List (DataW H)} (h:d∈l):Rows.uptoBulk d≤Rows.uptoBulkAll l:=by
 induction l with
 | nil=>cases h
 | cons x r ih =>
   simp only [Rows.uptoBulkAll]
   cases List.mem_cons.1 h with
   | inl e=>subst e;omega
   | inr e=>have:=ih e;omega
set_option maxRecDepth 100000 in
theorem bulk_bound {H:Type} {l:List (DataW H)} {n:Nat} {d:DataW H} (hk:Rows.uptoSmall H l=true) (h:d∈l) (hn:n≤Rows.uptoBulk d):n≤1048576:=by
 have h1:=bulk_mem h
 have h2:Rows.uptoBulkAll l≤1048576:=of_decide_eq_true hk
 omega
end Go.Proofs.YthoolcpcmhhkpaaGreatDoor
namespace Go.Proofs.YthoolcpcmhhkpaaGreatDoor
open Go.RowKit
structure Pr where
 i:Int
 c:Nat
def Pr.cells (p:Pr):List Value:=[.int .i64 p.i,.int .u64 p.c]
def Pr.ok (p:Pr):Prop:=-9223372036854775808≤p.i∧p.i<9223372036854775808∧p.c<18446744073709551616
instance:Inhabited Pr:=⟨⟨0,0⟩⟩
def prCells (l:List Pr):List Value:=(l.map Pr.cells).flatten
theorem prCells_len (l:List Pr):(prCells l).length=l.length*2:=by
 induction l with
 | nil=>rfl
 | cons a r ih=>simp only [prCells,List.map_cons,List.flatten_cons,List.length_append,List.length_cons] at *;rw [ih];simp [Pr.cells];omega
theorem prCells_append (a b:List Pr):prCells (a++b)=prCells a++prCells b:=by simp [prCells]
theorem prCells_get (l:List Pr) (k j:Nat) (hk:k<l.length) (hj:j<2):(prCells l)[k*2+j]? = (l[k].cells)[j]?:=by
 induction l generalizing k with
 | nil=>simp at hk
 | cons a r ih =>
   cases k with
   | zero =>
     simp only [prCells,List.map_cons,List.flatten_cons,Nat.zero_mul,Nat.zero_add,List.getElem_cons_zero]
     rw [List.getElem?_append_left (by simpa [Pr.cells] using hj)]
   | succ k =>
     have:=ih k (by simpa using hk)
     simp only [prCells,List.map_cons,List.flatten_cons,List.getElem_cons_succ] at *
     rw [List.getElem?_append_right (by simp [Pr.cells];omega),←this]
     congr 1
     simp [Pr.cells]
     omega
theorem pr_at {w:World} {b o k:Nat} {l:List Pr} (hc:∀ j,j<l.length*2→w.cell? ⟨b,o+j,none⟩=(prCells l)[j]?) (h:k<l.length) :
 w.cell? ⟨b,o+k*2,none⟩=some (.int .i64 l[k].i)∧w.cell? ⟨b,o+k*2+1,none⟩=some (.int .u64 l[k].c):=by
 have g:∀ j,j<2→w.cell? ⟨b,o+k*2+j,none⟩=(l[k].cells)[j]?:=fun j hj=>by
  rw [←prCells_get l k j h hj,←hc (k*2+j) (by omega),Nat.add_assoc]
 exact ⟨g 0 (by omega),g 1 (by omega)⟩
theorem prCells_oneCell (l:List Pr):∀ y∈prCells l,y.oneCell'=true:=by
 intro y hy
 simp only [prCells,List.mem_flatten,List.mem_map] at hy
 obtain ⟨x,⟨i,_,rfl⟩,hy⟩:=hy
 simp only [Pr.cells,List.mem_cons,List.not_mem_nil,or_false] at hy
 rcases hy with rfl|rfl<;>rfl
theorem under_pairs:Tryz.prog.underlying 92=some (.slice 183):=by kernel_rfl
theorem info_pair:(Tryz.prog.info? 183).map (fun i=>(i.zero,i.size,i.bytes))=some (some (.agg #[.int .i64 0,.int .u64 0]),2,16):=by kernel_rfl
def totP (l:List Pr):Nat:=(l.map Pr.c).sum
theorem totP_cons (p:Pr) (l:List Pr):totP (p::l)=p.c+totP l:=by simp [totP]
theorem totP_app (a b:List Pr):totP (a++b)=totP a+totP b:=by simp [totP]
theorem mem_tot {l:List Pr} {p:Pr} (h:p∈l):p.c≤totP l:=by
 induction l with
 | nil=>simp at h
 | cons q l ih =>
   rw [totP_cons]
   rcases List.mem_cons.1 h with rfl|h
   ·omega
   ·have:=ih h;omega
theorem take_tot (l:List Pr) (k:Nat):totP (l.take k)≤totP l:=by
 conv=>rhs;rw [←List.take_append_drop k l,totP_app]
 omega
def byV (p i:Int):Int:=if p<i then -1 else if i<p then 1 else 0
theorem byV_neg (p i:Int):byV p i<0↔p<i:=by
 unfold byV
 by_cases h:p<i
 ·rw [if_pos h];simp [h]
 ·by_cases h2:i<p
  ·rw [if_neg h,if_pos h2];omega
  ·rw [if_neg h,if_neg h2];omega
theorem byV_zero (p i:Int):(byV p i==0)=decide (p=i):=by
 unfold byV
 by_cases h:p<i
 ·rw [if_pos h,decide_eq_false (by omega)];rfl
 ·by_cases h2:i<p
  ·rw [if_neg h,if_pos h2,decide_eq_false (by omega)];rfl
  ·rw [if_neg h,if_neg h2,decide_eq_true (by omega)];rfl
set_option maxRecDepth 100000 in
theorem runs_by (w:World) (p:Pr) (i:Int) :
 Calls Tryz.prog 209 #[.agg #[.int .i64 p.i,.int .u64 p.c],.int .i64 i] w fun e w'=>e=.returned (.int .i64 (byV p.i i))∧Chg [] w w':=by
 have hc:=(Chg.refl [] w).alloc (.cells #[.int .i64 p.i,.int .u64 p.c] 183)
 go_enter Tryz.func209,Tryz.ntmps209
 by_cases h1:p.i<i
 ·have hd:decide (p.i<i)=true:=decide_eq_true h1
  have HV:=Lib.hid (show byV p.i i=-1 from if_pos h1)
  go_wp2
  go_ret
  exact ⟨by rw [HV.out];rfl,hc⟩
 ·have hd:decide (p.i<i)=false:=decide_eq_false h1
  by_cases h2:i<p.i
  ·have hd2:decide (i<p.i)=true:=decide_eq_true h2
   have HV:=Lib.hid (show byV p.i i=1 from by rw [byV,if_neg h1,if_pos h2])
   go_wp2
   go_ret
   exact ⟨by rw [HV.out];rfl,hc⟩
  ·have hd2:decide (i<p.i)=false:=decide_eq_false h2
   have HV:=Lib.hid (show byV p.i i=0 from by rw [byV,if_neg h1,if_neg h2])
   go_wp2
   go_ret
   exact ⟨by rw [HV.out];rfl,hc⟩
def cntLt (l:List Pr) (i:Int):Nat:=l.countP fun p=>decide (p.i<i)
def hasI (l:List Pr) (i:Int):Bool:=l.any fun p=>p.i==i
def rises (l:List Pr):Prop:=∀ j k,(hjk:j<k)→(h:k<l.length)→(l[j]'(by omega)).i<l[k].i
theorem cntLt_eq {l:List Pr} {i:Int} {n:Nat} (hn:n≤l.length) (h0:∀ k,(h:k<l.length)→k<n→l[k].i<i) (h1:∀ k,(h:k<l.length)→n≤k→i≤l[k].i):cntLt l i=n:=by
 induction l generalizing n with
 | nil=>simp at hn;subst hn;rfl
 | cons p l ih =>
   rw [cntLt,List.countP_cons]
   cases n with
   | zero =>
     have hp:=h1 0 (by simp) (Nat.le_refl _)
     have:=ih (n:=0) (Nat.zero_le _) (fun k _ hk=>(Nat.not_lt_zero k hk).elim) (fun k h _=>by have:=h1 (k+1) (by simpa using h) (by omega);simpa using this)
     rw [cntLt] at this
     rw [this]
     simp only [List.getElem_cons_zero] at hp
     rw [if_neg (by simp;omega)]
   | succ n =>
     have hp:=h0 0 (by simp) (by omega)
     have:=ih (n:=n) (by simpa using hn) (fun k h hk=>by have:=h0 (k+1) (by simpa using h) (by omega);simpa using this) (fun k h hk=>by have:=h1 (k+1) (by simpa using h) (by omega);simpa using this)
     rw [cntLt] at this
     rw [this]
     simpa using hp
theorem hasI_eq {l:List Pr} {i:Int} {n:Nat} (h0:∀ k,(h:k<l.length)→k<n→l[k].i<i) (h1:∀ k,(h:k<l.length)→n≤k→i≤l[k].i) (hr:rises l):hasI l i=(decide (n<l.length)&&decide ((l.getD n default).i=i)):=by
 rw [Bool.eq_iff_iff]
 simp only [hasI,List.any_eq_true,beq_iff_eq,Bool.and_eq_true,decide_eq_true_eq]
 constructor
 ·rintro ⟨p,hp,rfl⟩
  obtain ⟨k,hk,rfl⟩:=List.getElem_of_mem hp
  have hnk:n≤k:=by
   rcases Nat.lt_or_ge k n with h|h
   ·have:=h0 k hk h;omega
   ·exact h
  have hn:n<l.length:=by omega
  rcases Nat.lt_or_ge n k with h|h
  ·have:=hr n k h hk
   have:=h1 n hn (Nat.le_refl _)
   omega
  ·obtain rfl:n=k:=by omega
   exact ⟨hn,by simp [List.getD,hn]⟩
 ·rintro ⟨hn,he⟩
  refine ⟨l[n],List.getElem_mem _,?_⟩
  rw [←he]
  simp [List.getD,hn]
set_option maxRecDepth 100000 in
set_option maxHeartbeats 1000000 in
theorem bsf_pairs (w:World) (ao:Option Addr) (cap:Nat) (l:List Pr) (i:Int) (hrs:rises l) (hr:Rd w 2 (.slice ao l.length cap) l.length (prCells l)) (hl:l.length≤100000) :
 Calls Tryz.prog 208 #[.slice ao l.length cap,.int .i64 i,.func (.func 209) #[] #[]] w fun e w'=>e=.returned (.tuple #[.int .i64 (cntLt l i),.bool (hasI l i)])∧Chg [] w w':=by
 go_enter Tryz.func208,Tryz.ntmps208
 go_wp2
 go_loopw [9,10] (fun a b wx=>∃ lo hi:Nat,lo≤hi∧hi≤l.length∧a=.int .i64 (lo:Nat)∧b=.int .i64 (hi:Nat)∧Hid (∀ k,(h:k<l.length)→k<lo→l[k].i<i)∧Hid (∀ k,(h:k<l.length)→hi≤k→i≤l[k].i)∧Chg [] w wx) (fun a b _=>(intOf b).toNat-(intOf a).toNat)
 case atStart=>exact ⟨0,l.length,by omega,by omega,rfl,rfl,Lib.hid (fun k _ hk=>(Nat.not_lt_zero k hk).elim),Lib.hid (fun k h hk=>absurd h (by omega)),Chg.refl _ _⟩
 case round =>
  obtain ⟨lo,hi,hlh,hhl,rfl,rfl,H0,H1,hch⟩:=hrel
  have hr1:=hr.chg hch (by simp)
  by_cases hlt:lo<hi
  ·obtain ⟨b,o,rfl,hc⟩:=hr1.addr (by omega)
   obtain ⟨m,hm⟩:∃ m,m=(lo+hi) / 2:=⟨_,rfl⟩
   have hmi:((lo:Int)+(hi:Int)) / 2=(m:Int):=by omega
   have hml:m<l.length:=by omega
   have hmlo:lo≤m:=by omega
   have hmhi:m<hi:=by omega
   have hmi2:(m:Int)<(l.length:Int):=by omega
   have hmi3:(0:Int)≤(m:Int):=by omega
   obtain ⟨c0,c1⟩:=pr_at hc hml
   have HBY:=Lib.hid (runs_by wr l[m] i)
   have hdl:decide ((lo:Int)<(hi:Int))=true:=decide_eq_true (by omega)
   have HR:=Lib.hid hrs
   have HV:=Lib.hid (show byV l[m].i i<0↔l[m].i<i from byV_neg _ _)
   clear hm hc hr1 hrs
   go_wp2_with fail
   refine HBY.out.mono ?_
   rintro e w2 ⟨rfl,hc2⟩
   have hc3:=hch.trans hc2
   clear hch hc2 HBY c0 c1 hr
   by_cases hb:l[m].i<i
   ·have hv:byV l[m].i i<0:=HV.out.2 hb
    have hd2:=decide_eq_true hv
    have HN:=Lib.hid (show ∀ k,(h:k<l.length)→k<m+1→l[k].i<i from fun k h hk=>by
     rcases Nat.lt_or_ge k m with h1|h1
     ·have:=HR.out k m h1 hml;omega
     ·obtain rfl:k=m:=by omega
      exact hb)
    clear HV hb hv
    generalize byV l[m].i i=v at *
    go_wp2
    exact ⟨⟨m+1,hi,by omega,by omega,by go_num,rfl,HN,H1,hc3⟩,by simp [intOf];omega⟩
   ·have hv:¬byV l[m].i i<0:=fun h=>hb (HV.out.1 h)
    have hd2:=decide_eq_false hv
    have HN:=Lib.hid (show ∀ k,(h:k<l.length)→m≤k→i≤l[k].i from fun k h hk=>by
     rcases Nat.lt_or_ge m k with h1|h1
     ·have:=HR.out m k h1 h;omega
     ·obtain rfl:k=m:=by omega
      omega)
    clear HV hb hv
    generalize byV l[m].i i=v at *
    go_wp2
    exact ⟨⟨lo,m,by omega,by omega,rfl,rfl,H0,HN,hc3⟩,by simp [intOf];omega⟩
  ·obtain rfl:lo=hi:=by omega
   have HC:=Lib.hid (cntLt_eq hhl H0.out H1.out)
   have HH:=Lib.hid (hasI_eq H0.out H1.out hrs)
   clear hrs
   by_cases hn:lo<l.length
   ·obtain ⟨b,o,rfl,hc⟩:=hr1.addr (by omega)
    obtain ⟨c0,c1⟩:=pr_at hc hn
    have hdn:decide ((lo:Int)<(l.length:Int))=true:=decide_eq_true (by omega)
    have hn0:(0:Int)≤(lo:Int):=by omega
    have HBY:=Lib.hid (runs_by wr l[lo] i)
    have HV:=Lib.hid (show (byV l[lo].i i==0)=hasI l i from by
     rw [HH.out,decide_eq_true hn,Bool.true_and,show l.getD lo default=l[lo] from by simp [List.getD,hn]]
     exact byV_zero _ _)
    clear hc hr1 HH
    go_wp2_with fail
    refine HBY.out.mono ?_
    rintro e w2 ⟨rfl,hc2⟩
    have hv:=HV.out
    clear HV
    generalize byV l[lo].i i=v at *
    go_wp2
    go_ret2
    exact ⟨by rw [HC.out];rfl,hch.trans hc2⟩
   ·have hdn:decide ((lo:Int)<(l.length:Int))=false:=decide_eq_false (by omega)
    have HV:=Lib.hid (show hasI l i=false from by rw [HH.out,decide_eq_false hn];rfl)
    clear HH
    go_wp2
    go_ret2
    exact ⟨by rw [HC.out,HV.out];rfl,hch⟩
set_option maxRecDepth 100000 in
theorem runs_find (w:World) (ao:Option Addr) (cap:Nat) (l:List Pr) (i:Int) (hrs:rises l) (hr:Rd w 2 (.slice ao l.length cap) l.length (prCells l)) (hl:l.length≤100000) :
 Calls Tryz.prog 160 #[.slice ao l.length cap,.int .i64 i] w fun e w'=>e=.returned (.tuple #[.int .i64 (cntLt l i),.bool (hasI l i)])∧Chg [] w w':=by
 have HB:=Lib.hid (bsf_pairs w ao cap l i hrs hr hl)
 clear hrs
 go_enter Tryz.func160,Tryz.ntmps160
 go_wp2_with fail
 refine HB.out.mono ?_
 rintro e w2 ⟨rfl,hc2⟩
 go_wp2
 go_ret2
 exact ⟨rfl,hc2⟩
end Go.Proofs.YthoolcpcmhhkpaaGreatDoor
namespace Go.Proofs.YthoolcpcmhhkpaaGreatDoor
def cntI (l:List Pr) (i:Int):Nat:=(l.map fun p=>if p.i=i then p.c else 0).sum
def refAdd (l:List Pr) (i:Int) (c:Nat):List Pr:=l.filter (fun p=>decide (p.i<i))++(if 0<cntI l i+c then [⟨i,cntI l i+c⟩] else [])++l.filter (fun p=>decide (i<p.i))
def addV (l:List Pr) (i:Int) (c:Nat):List Pr:=
 if c=0 then l else if hasI l i then l.set (cntLt l i) ⟨i,(l.getD (cntLt l i) default).c+c⟩ else l.take (cntLt l i)++[⟨i,c⟩]++l.drop (cntLt l i)
theorem rises_tail {p:Pr} {l:List Pr} (h:rises (p::l)):rises l:=fun j k hjk hk=>by
 have:=h (j+1) (k+1) (by omega) (by simpa using hk)
 simpa using this
theorem rises_head {p:Pr} {l:List Pr} (h:rises (p::l)):∀ q∈l,p.i<q.i:=fun q hq=>by
 obtain ⟨k,hk,rfl⟩:=List.getElem_of_mem hq
 have:=h 0 (k+1) (by omega) (by simpa using hk)
 simpa using this
theorem rises_cons {p:Pr} {l:List Pr} (h:rises l) (hp:∀ q∈l,p.i<q.i):rises (p::l):=fun j k hjk hk=>by
 cases k with
 | zero=>omega
 | succ k =>
   have hk':k<l.length:=by simpa using hk
   cases j with
   | zero=>simpa using hp _ (List.getElem_mem hk')
   | succ j=>simpa using h j k (by omega) hk'
theorem rises_app {a b:List Pr} (ha:rises a) (hb:rises b) (hab:∀ p∈a,∀ q∈b,p.i<q.i):rises (a++b):=by
 induction a with
 | nil=>simpa using hb
 | cons p a ih =>
   refine rises_cons (ih (rises_tail ha) (fun p hp q hq=>hab p (by simp [hp]) q hq)) (fun q hq => ?_)
   rcases List.mem_append.1 hq with h|h
   ·exact rises_head ha q h
   ·exact hab p (by simp) q h
theorem rises_left {a b:List Pr} (h:rises (a++b)):rises a:=by
 induction a with
 | nil=>intro j k _ hk;simp at hk
 | cons p a ih=>exact rises_cons (ih (rises_tail h)) (fun q hq=>rises_head h q (by simp [hq]))
theorem rises_right {a b:List Pr} (h:rises (a++b)):rises b:=by
 induction a with
 | nil=>simpa using h
 | cons p a ih=>exact ih (rises_tail h)
structure Parted (l:List Pr) (i:Int) (A M B:List Pr):Prop where
 eq:l=A++M++B
 lo:∀ p∈A,p.i<i
 hi:∀ p∈B,i<p.i
 mid:M=[]∨∃ c,M=[⟨i,c⟩]
theorem parted {l:List Pr} (h:rises l) (i:Int):∃ A M B,Parted l i A M B:=by
 induction l with
 | nil=>exact ⟨[],[],[],rfl,by simp,by simp,.inl rfl⟩
 | cons p l ih =>
   obtain ⟨A,M,B,e,h1,h2,h3⟩:=ih (rises_tail h)
   have hp:=rises_head h
   rcases Int.lt_trichotomy p.i i with hlt|heq|hgt
   ·exact ⟨p::A,M,B,by rw [e];simp,by simpa using ⟨hlt,h1⟩,h2,h3⟩
   ·refine ⟨[],[p],l,rfl,by simp,fun q hq=>by have:=hp q hq;omega,.inr ⟨p.c,?_⟩⟩
    cases p
    simp only at heq
    subst heq
    rfl
   ·exact ⟨[],[],p::l,rfl,by simp,fun q hq=>by
     rcases List.mem_cons.1 hq with rfl|hq
     ·exact hgt
     ·have:=hp q hq;omega,.inl rfl⟩
theorem cntI_app (a b:List Pr) (i:Int):cntI (a++b) i=cntI a i+cntI b i:=by simp [cntI]
theorem cntI_none {a:List Pr} {i:Int} (h:∀ p∈a,p.i≠i):cntI a i=0:=by
 induction a with
 | nil=>rfl
 | cons p a ih =>
   have h1:=h p (by simp)
   have h2:=ih (fun q hq=>h q (by simp [hq]))
   rw [cntI] at h2 ⊢
   simp [h1,h2]
section
variable {l A M B:List Pr} {i:Int}
theorem Parted.filter_lt (h:Parted l i A M B):l.filter (fun p=>decide (p.i<i))=A:=by
 have e1:A.filter (fun p=>decide (p.i<i))=A:=List.filter_eq_self.2 (fun p hp=>by simpa using h.lo p hp)
 have e2:B.filter (fun p=>decide (p.i<i))=[]:=List.filter_eq_nil_iff.2 (fun p hp=>by have:=h.hi p hp;simp;omega)
 rw [h.eq,List.filter_append,List.filter_append,e1,e2]
 rcases h.mid with rfl|⟨c,rfl⟩<;>simp
theorem Parted.filter_gt (h:Parted l i A M B):l.filter (fun p=>decide (i<p.i))=B:=by
 have e1:B.filter (fun p=>decide (i<p.i))=B:=List.filter_eq_self.2 (fun p hp=>by simpa using h.hi p hp)
 have e2:A.filter (fun p=>decide (i<p.i))=[]:=List.filter_eq_nil_iff.2 (fun p hp=>by have:=h.lo p hp;simp;omega)
 rw [h.eq,List.filter_append,List.filter_append,e1,e2]
 rcases h.mid with rfl|⟨c,rfl⟩<;>simp
theorem Parted.cnt (h:Parted l i A M B):cntI l i=cntI M i:=by
 rw [h.eq,cntI_app,cntI_app,cntI_none (fun p hp=>by have:=h.lo p hp;omega),cntI_none (a:=B) (fun p hp=>by have:=h.hi p hp;omega)]
 omega
theorem Parted.lt (h:Parted l i A M B):cntLt l i=A.length:=by
 rw [cntLt,List.countP_eq_length_filter,h.filter_lt]
theorem Parted.has (h:Parted l i A M B):hasI l i=!M.isEmpty:=by
 have e1:(A.any fun p=>p.i==i)=false:=List.any_eq_false.2 (fun p hp=>by have:=h.lo p hp;simp;omega)
 have e2:(B.any fun p=>p.i==i)=false:=List.any_eq_false.2 (fun p hp=>by have:=h.hi p hp;simp;omega)
 rw [hasI,h.eq,List.any_append,List.any_append,e1,e2]
 rcases h.mid with rfl|⟨c,rfl⟩<;>simp
theorem add_same (hr:rises l) (h1:∀ p∈l,1≤p.c) (c:Nat):refAdd l i c=addV l i c:=by
 obtain ⟨A,M,B,h⟩:=parted hr i
 rw [refAdd,addV,h.filter_lt,h.filter_gt,h.cnt,h.lt,h.has]
 rcases h.mid with rfl|⟨c0,rfl⟩
 ·have hz:cntI [] i=0:=rfl
  rw [hz,Nat.zero_add]
  have he:=h.eq
  simp only [List.append_nil] at he
  by_cases hc:c=0
  ·rw [if_pos hc,hc];simp [he]
  ·rw [if_neg hc,if_pos (by omega)]
   simp [he]
 ·have hz:cntI [⟨i,c0⟩] i=c0:=by simp [cntI]
  have hc0:1≤c0:=h1 ⟨i,c0⟩ (by rw [h.eq];simp)
  rw [hz,if_pos (by omega)]
  by_cases hc:c=0
  ·rw [if_pos hc,hc,h.eq];rfl
  ·rw [if_neg hc,h.eq]
   simp [List.getD]
theorem refAdd_rises (hr:rises l) (c:Nat):rises (refAdd l i c):=by
 obtain ⟨A,M,B,h⟩:=parted hr i
 rw [refAdd,h.filter_lt,h.filter_gt]
 have he:=h.eq
 rw [he] at hr
 have hA:=rises_left (rises_left hr)
 have hB:=rises_right hr
 have one:∀ c,rises [⟨i,c⟩]:=fun c j k hjk hk=>by simp at hk;omega
 split
 ·exact rises_app (rises_app hA (one _) (fun p hp q hq=>by simp at hq;subst hq;exact h.lo p hp)) hB (fun p hp q hq=>by
   have hq:=h.hi q hq
   rcases List.mem_append.1 hp with hp|hp
   ·have:=h.lo p hp;omega
   ·simp at hp;subst hp;exact hq)
 ·rw [List.append_nil]
  exact rises_app hA hB (fun p hp q hq=>by have:=h.lo p hp;have:=h.hi q hq;omega)
theorem refAdd_pos (h1:∀ p∈l,1≤p.c) (c:Nat):∀ p∈refAdd l i c,1≤p.c:=by
 intro p hp
 rw [refAdd] at hp
 simp only [List.mem_append,List.mem_filter] at hp
 rcases hp with (hp|hp)|hp
 ·exact h1 p hp.1
 ·split at hp
  ·simp at hp;subst hp;simp only;omega
  ·simp at hp
 ·exact h1 p hp.1
theorem refAdd_len (hr:rises l) (c:Nat):(refAdd l i c).length≤l.length+1:=by
 obtain ⟨A,M,B,h⟩:=parted hr i
 rw [refAdd,h.filter_lt,h.filter_gt]
 have:=congrArg List.length h.eq
 simp only [List.length_append] at this ⊢
 split
 ·simp;omega
 ·simp;omega
end
theorem Parted.tot {l A M B:List Pr} {i:Int} (h:Parted l i A M B):totP l=totP A+totP M+totP B:=by
 rw [h.eq,totP_app,totP_app]
theorem refAdd_tot {l:List Pr} {i:Int} (hr:rises l) (c:Nat):totP (refAdd l i c)=totP l+c:=by
 obtain ⟨A,M,B,h⟩:=parted hr i
 rw [refAdd,h.filter_lt,h.filter_gt,h.cnt,totP_app,totP_app,h.tot]
 rcases h.mid with rfl|⟨c0,rfl⟩
 ·have hz:cntI [] i=0:=rfl
  rw [hz]
  split
  ·simp [totP];omega
  ·simp [totP];omega
 ·have hz:cntI [⟨i,c0⟩] i=c0:=by simp [cntI]
  rw [hz]
  split
  ·simp [totP];omega
  ·simp [totP];omega
end Go.Proofs.YthoolcpcmhhkpaaGreatDoor
namespace Go.Proofs.YthoolcpcmhhkpaaGreatDoor
def firstC (r:List Pr):Int:=(r.getD 0 default).i
def lastC (r:List Pr):Int:=(r.getD (r.length-1) default).i
def farI (hi:Bool) (m:Nat) (e i:Int):Bool:=if hi then decide (e<i∧(m:Int)≤i-e) else decide (i<e∧(m:Int)≤e-i)
def farC (hi:Bool) (m:Nat) (e:Int) (p:Pr):Bool:=farI hi m e p.i
def endC (hi:Bool) (r:List Pr):Int:=if hi then firstC r else lastC r
def Win (m:Nat) (r:List Pr):Prop:=∀ p∈r,∀ q∈r,q.i-p.i<(m:Int)
structure CapD where
 hi:Bool
 m:Nat
 r:List Pr
 lost:Nat
structure CapD.ok (D:CapD):Prop where
 m1:1≤D.m
 m2:D.m≤4096
 rises:rises D.r
 pos:∀ p∈D.r,1≤p.c
 win:Win D.m D.r
 ix:∀ p∈D.r,-1000000≤p.i∧p.i≤1000000
 tot:totP D.r+D.lost≤9223372036854775807
def keepC (D:CapD) (i:Int):List Pr:=D.r.filter fun p=>!farC D.hi D.m i p
def goneC (D:CapD) (i:Int):Nat:=totP (D.r.filter fun p=>farC D.hi D.m i p)
def CapD.put (D:CapD) (i:Int) (c:Nat):CapD:=
 if D.r≠[]∧farI D.hi D.m (endC D.hi D.r) i=true then { D with lost:=D.lost+c }
 else { D with r:=refAdd (keepC D i) i c,lost:=D.lost+goneC D i }
theorem rises_mem {r:List Pr} (h:rises r) {j k:Nat} (hj:j<r.length) (hk:k<r.length) (hjk:j≤k):r[j].i≤r[k].i:=by
 rcases Nat.lt_or_ge j k with h1|h1
 ·exact Int.le_of_lt (h j k h1 hk)
 ·have:j=k:=by omega
  subst this
  exact Int.le_refl _
theorem first_le {r:List Pr} (h:rises r):∀ p∈r,firstC r≤p.i:=fun p hp=>by
 obtain ⟨k,hk,rfl⟩:=List.getElem_of_mem hp
 have e:firstC r=(r[0]'(by omega)).i:=by unfold firstC;simp [List.getD,show 0<r.length by omega]
 rw [e]
 exact rises_mem h (by omega) hk (by omega)
theorem le_last {r:List Pr} (h:rises r):∀ p∈r,p.i≤lastC r:=fun p hp=>by
 obtain ⟨k,hk,rfl⟩:=List.getElem_of_mem hp
 have e:lastC r=(r[r.length-1]'(by omega)).i:=by unfold lastC;simp [List.getD,show r.length-1<r.length by omega]
 rw [e]
 exact rises_mem h hk (by omega) (by omega)
theorem first_mem {r:List Pr} (h:r≠[]):∃ p∈r,p.i=firstC r:=by
 have hl:0<r.length:=List.length_pos_iff.2 h
 exact ⟨r[0],List.getElem_mem _,by unfold firstC;simp [List.getD,hl]⟩
theorem last_mem {r:List Pr} (h:r≠[]):∃ p∈r,p.i=lastC r:=by
 have hl:0<r.length:=List.length_pos_iff.2 h
 exact ⟨r[r.length-1],List.getElem_mem _,by unfold lastC;simp [List.getD,show r.length-1<r.length by omega]⟩
theorem rises_span {r:List Pr} (h:rises r):∀ k,(hk:k<r.length)→(r[0]'(by omega)).i+(k:Int)≤r[k].i:=by
 intro k
 induction k with
 | zero=>intro hk;simp
 | succ k ih =>
   intro hk
   have h1:=ih (by omega)
   have h2:=h k (k+1) (by omega) hk
   omega
theorem win_len {m:Nat} {r:List Pr} (h:rises r) (hw:Win m r):r.length≤m:=by
 rcases Nat.eq_zero_or_pos r.length with h0|h0
 ·omega
 ·have h1:=rises_span h (r.length-1) (by omega)
  have h2:=hw r[0] (List.getElem_mem _) (r[r.length-1]'(by omega)) (List.getElem_mem _)
  omega
theorem filter_risesC {r:List Pr} (h:rises r) (f:Pr→Bool):rises (r.filter f):=by
 induction r with
 | nil=>exact h
 | cons p r ih =>
   rw [List.filter_cons]
   split
   ·exact rises_cons (ih (rises_tail h)) (fun q hq=>rises_head h q (List.mem_filter.1 hq).1)
   ·exact ih (rises_tail h)
theorem totP_filterC (r:List Pr) (f:Pr→Bool):totP (r.filter f)+totP (r.filter fun p=>!f p)=totP r:=by
 induction r with
 | nil=>rfl
 | cons p r ih =>
   rw [List.filter_cons,List.filter_cons]
   cases hf:f p<;>simp [totP] at ih ⊢<;>omega
theorem refAdd_memC {r:List Pr} {i:Int} {c:Nat} {q:Pr} (h:q∈refAdd r i c):(∃ p∈r,p.i=q.i)∨q.i=i:=by
 unfold refAdd at h
 rcases List.mem_append.1 h with h|h
 ·rcases List.mem_append.1 h with h|h
  ·exact .inl ⟨q,(List.mem_filter.1 h).1,rfl⟩
  ·split at h
   ·rw [List.mem_singleton.1 h];exact .inr rfl
   ·simp at h
 ·exact .inl ⟨q,(List.mem_filter.1 h).1,rfl⟩
theorem CapD.put_tot {D:CapD} (h:D.ok) (i:Int) (c:Nat):totP (D.put i c).r+(D.put i c).lost=totP D.r+D.lost+c:=by
 unfold CapD.put
 split
 ·simp only;omega
 ·have h1:=totP_filterC D.r (fun p=>farC D.hi D.m i p)
  have h2:=refAdd_tot (i:=i) (filter_risesC h.rises (fun p=>!farC D.hi D.m i p)) c
  simp only [keepC,goneC]
  omega
theorem CapD.put_ok {D:CapD} (h:D.ok) {i:Int} {c:Nat} (hi:-1000000≤i∧i≤1000000) (hc:totP D.r+D.lost+c≤9223372036854775807):(D.put i c).ok:=by
 have ht:=CapD.put_tot h i c
 have hm1:=h.m1
 have hm2:=h.m2
 unfold CapD.put at ht ⊢
 split
 ·rename_i hf
  rw [if_pos hf] at ht
  exact ⟨h.m1,h.m2,h.rises,h.pos,h.win,h.ix,by rw [ht];exact hc⟩
 ·rename_i hf
  rw [if_neg hf] at ht
  have hr:=filter_risesC h.rises (fun p=>!farC D.hi D.m i p)
  have hin:∀ p∈keepC D i,p∈D.r∧farC D.hi D.m i p=false:=fun p hp=>by
   obtain ⟨h1,h2⟩:=List.mem_filter.1 hp
   exact ⟨h1,by simpa using h2⟩
  -- the distance from i, in the other direction
  have hother:∀ p∈keepC D i,(if D.hi then i-p.i else p.i-i)<(D.m:Int):=fun p hp=>by
   obtain ⟨h1,h2⟩:=hin p hp
   have hne:D.r≠[]:=fun e=>by rw [e] at h1;simp at h1
   have hf2:farI D.hi D.m (endC D.hi D.r) i=false:=by
    cases hx:farI D.hi D.m (endC D.hi D.r) i with
    | false=>rfl
    | true=>exact absurd ⟨hne,hx⟩ hf
   have a1:=first_le h.rises p h1
   have a2:=le_last h.rises p h1
   unfold farI endC at hf2
   cases hhi:D.hi with
   | true =>
     rw [hhi] at hf2
     simp only [if_true,decide_eq_false_iff_not] at hf2 ⊢
     omega
   | false =>
     rw [hhi] at hf2
     simp only [Bool.false_eq_true,if_false,decide_eq_false_iff_not] at hf2 ⊢
     omega
  have hthis:∀ p∈keepC D i,(if D.hi then p.i-i else i-p.i)<(D.m:Int):=fun p hp=>by
   obtain ⟨h1,h2⟩:=hin p hp
   unfold farC farI at h2
   cases hhi:D.hi with
   | true =>
     rw [hhi] at h2
     simp only [if_true,decide_eq_false_iff_not] at h2 ⊢
     omega
   | false =>
     rw [hhi] at h2
     simp only [Bool.false_eq_true,if_false,decide_eq_false_iff_not] at h2 ⊢
     omega
  have hwin:∀ p∈keepC D i,i-p.i<(D.m:Int)∧p.i-i<(D.m:Int):=fun p hp=>by
   have b1:=hother p hp
   have b2:=hthis p hp
   cases hhi:D.hi with
   | true=>rw [hhi] at b1 b2;simp only [if_true] at b1 b2;omega
   | false=>rw [hhi] at b1 b2;simp only [Bool.false_eq_true,if_false] at b1 b2;omega
  refine ⟨h.m1,h.m2,refAdd_rises hr c,refAdd_pos (fun p hp=>h.pos p (hin p hp).1) c,fun p hp q hq => ?_,fun p hp => ?_,by rw [ht];exact hc⟩
  ·simp only at hp hq
   rcases refAdd_memC hp with ⟨p',hp',ep⟩|ep
   ·rcases refAdd_memC hq with ⟨q',hq',eq⟩|eq
    ·have:=h.win p' (hin p' hp').1 q' (hin q' hq').1
     rw [←ep,←eq];exact this
    ·have:=hwin p' hp'
     rw [←ep,eq];exact this.1
   ·rcases refAdd_memC hq with ⟨q',hq',eq⟩|eq
    ·have:=hwin q' hq'
     rw [ep,←eq];exact this.2
    ·rw [ep,eq];simp only [Int.sub_self];omega
  ·simp only at hp
   rcases refAdd_memC hp with ⟨p',hp',ep⟩|ep
   ·rw [←ep];exact h.ix p' (hin p' hp').1
   ·rw [ep];exact hi
theorem CapD.new_ok (hi:Bool) {m:Nat} (h1:1≤m) (h2:m≤4096):CapD.ok ⟨hi,m,[],0⟩:=
 ⟨h1,h2,fun j k _ hk=>by simp at hk,by simp,fun p hp=>by simp at hp,by simp,by simp [totP]⟩
end Go.Proofs.YthoolcpcmhhkpaaGreatDoor
namespace Go.Proofs.YthoolcpcmhhkpaaGreatDoor
def two63:Nat:=9223372036854775808
def goodC11 (num den:Nat):Bool:=decide (0<num)&&(decide (num<den)&&decide (den≤2147483648))
def nextC (num den low:Nat):Nat × Nat:=
 let r:=low*(den+num) / den
 if two63<r then (two63-1,two63)
 else (min r (two63-1),min (r*den / (den-num)) two63)
def lowK (num den:Nat):Nat→Nat
 | 0=>1
 | k+1=>(nextC num den (lowK num den k)).2+1
def repK (num den k:Nat):Nat:=(nextC num den (lowK num den k)).1
theorem nextC_ge {num den low:Nat} (h0:0<num) (h1:num<den) (hl:low≤two63):low≤(nextC num den low).2∧(nextC num den low).2≤two63:=by
 have hd:0<den:=by omega
 have hr:low≤low*(den+num) / den:=by
  rw [Nat.le_div_iff_mul_le hd]
  exact Nat.mul_le_mul_left _ (by omega)
 unfold nextC
 simp only
 split
 ·exact ⟨hl,Nat.le_refl _⟩
 ·rename_i h
  have h2:low*(den+num) / den≤low*(den+num) / den*den / (den-num):=by
   rw [Nat.le_div_iff_mul_le (by omega)]
   exact Nat.mul_le_mul_left _ (by omega)
  simp only
  omega
theorem lowK_step {num den:Nat} (h0:0<num) (h1:num<den) {k:Nat} (h:lowK num den k≤two63):lowK num den k<lowK num den (k+1):=by
 have:=nextC_ge (num:=num) (den:=den) h0 h1 h
 rw [lowK]
 omega
structure TabOk (num den n:Nat):Prop where
 good:0<num∧num<den∧den≤2147483648
 n1:n≤4096
 below:∀ k,k<n→lowK num den k≤two63
 above:two63<lowK num den n
theorem TabOk.pos {num den n:Nat} (h:TabOk num den n):1≤n:=by
 rcases Nat.eq_zero_or_pos n with h0|h0
 ·have:=h.above
  rw [h0,lowK] at this
  simp [two63] at this
 ·exact h0
theorem TabOk.rises {num den n:Nat} (h:TabOk num den n):∀ k j,j<k→k≤n→lowK num den j<lowK num den k:=by
 intro k
 induction k with
 | zero=>intro j hj;omega
 | succ k ih =>
   intro j hj hk
   have h1:=lowK_step h.good.1 h.good.2.1 (h.below k (by omega))
   by_cases hjk:j=k
   ·subst hjk;exact h1
   ·have:=ih j (by omega) (by omega);omega
def lowsT (num den n:Nat):List Nat:=(List.range n).map (lowK num den)
def repsT (num den n:Nat):List Nat:=(List.range n).map (repK num den)
def cellI (num den n m:Nat):Nat:=(lowsT num den n).countP (fun l=>decide (l≤m))-1
end Go.Proofs.YthoolcpcmhhkpaaGreatDoor
namespace Go.Proofs.YthoolcpcmhhkpaaGreatDoor
def belowP (r:List Pr) (i:Int):Nat:=totP (r.filter fun p=>decide (p.i≤i))
def CapD.total (D:CapD):Nat:=totP D.r+D.lost
def CapD.below (D:CapD) (i:Int):Nat × Nat:=
 if D.hi then if D.r≠[]∧farI true D.m (firstC D.r) i=true then (belowP D.r i,belowP D.r i+D.lost) else (belowP D.r i,belowP D.r i)
 else if D.r≠[]∧(i<lastC D.r∧(D.m:Int)<lastC D.r-i) then (0,D.lost) else (belowP D.r i+D.lost,belowP D.r i+D.lost)
def CapD.putAll (D:CapD) (l:List Pr):CapD:=l.foldl (fun D p=>D.put p.i p.c) D
def CapD.addLost (D:CapD) (n:Nat):CapD:={ D with lost:=D.lost+n }
def CapD.merge (D O:CapD):CapD:=(D.putAll O.r).addLost O.lost
theorem CapD.put_hi (D:CapD) (i:Int) (c:Nat):(D.put i c).hi=D.hi∧(D.put i c).m=D.m:=by
 unfold CapD.put
 split<;>exact ⟨rfl,rfl⟩
theorem CapD.put_mem {D:CapD} {i:Int} {c:Nat} {q:Pr} (h:q∈(D.put i c).r):(∃ p∈D.r,p.i=q.i)∨q.i=i:=by
 unfold CapD.put at h
 split at h
 ·exact .inl ⟨q,h,rfl⟩
 ·rcases refAdd_memC h with ⟨p,hp,e⟩|e
  ·exact .inl ⟨p,(List.mem_filter.1 hp).1,e⟩
  ·exact .inr e
structure BinD where
 num:Nat
 den:Nat
 n:Nat
 hi:Bool
 m:Nat
 minus:CapD
 plus:CapD
 zero:Nat
structure BinD.ok (D:BinD):Prop where
 tab:TabOk D.num D.den D.n
 mh:D.minus.hi=D.hi
 ph:D.plus.hi=D.hi
 mm:D.minus.m=D.m
 pm:D.plus.m=D.m
 minus:D.minus.ok
 plus:D.plus.ok
 ix1:∀ p∈D.minus.r,0≤p.i∧p.i<D.n
 ix2:∀ p∈D.plus.r,0≤p.i∧p.i<D.n
 tot:D.minus.total+D.zero+D.plus.total≤9223372036854775807
def BinD.total (D:BinD):Nat:=D.minus.total+D.zero+D.plus.total
def BinD.part (D:BinD) (m:Nat):Int:=(cellI D.num D.den D.n m:Int)
def BinD.add (D:BinD) (x:Int) (c:Nat):BinD:=
 if x=0 then { D with zero:=D.zero+c }
 else if x<0 then { D with minus:=D.minus.put (D.part x.natAbs) c }
 else { D with plus:=D.plus.put (D.part x.natAbs) c }
def BinD.merge (D O:BinD):BinD:={ D with minus:=D.minus.merge O.minus,plus:=D.plus.merge O.plus,zero:=D.zero+O.zero }
theorem cellI_lt {num den n:Nat} (h:TabOk num den n) (m:Nat):cellI num den n m<n:=by
 have h1:=h.pos
 have h2:(lowsT num den n).countP (fun l=>decide (l≤m))≤n:=by
  have:=List.countP_le_length (p:=fun l=>decide (l≤m)) (l:=lowsT num den n)
  simpa [lowsT] using this
 unfold cellI
 omega
theorem BinD.ix_ok {D:BinD} (h:D.ok) (m:Nat):0≤D.part m∧D.part m<D.n∧-1000000≤D.part m∧D.part m≤1000000:=by
 have h1:=cellI_lt h.tab m
 have h2:=h.tab.n1
 unfold BinD.part
 omega
theorem BinD.add_ok {D:BinD} (h:D.ok) (x:Int) {c:Nat} (hc:D.total+c≤9223372036854775807):(D.add x c).ok∧(D.add x c).total=D.total+c:=by
 have ht:=h.tot
 unfold BinD.total at hc
 obtain ⟨i1,i2,i3,i4⟩:=BinD.ix_ok h x.natAbs
 unfold BinD.add
 split
 ·refine ⟨⟨h.tab,h.mh,h.ph,h.mm,h.pm,h.minus,h.plus,h.ix1,h.ix2,?_⟩,?_⟩
  ·simp only;omega
  ·unfold BinD.total;simp only;omega
 ·split
  ·have e:=CapD.put_tot h.minus (D.part x.natAbs) c
   have hh:=CapD.put_hi D.minus (D.part x.natAbs) c
   have ht2:D.minus.total+c≤9223372036854775807:=by omega
   refine ⟨⟨h.tab,hh.1.trans h.mh,h.ph,hh.2.trans h.mm,h.pm,CapD.put_ok h.minus ⟨i3,i4⟩ ht2,h.plus,fun p hp => ?_,h.ix2,?_⟩,?_⟩
   ·rcases CapD.put_mem hp with ⟨q,hq,eq⟩|eq
    ·rw [←eq];exact h.ix1 q hq
    ·rw [eq];exact ⟨i1,i2⟩
   ·unfold CapD.total at *;simp only;omega
   ·unfold BinD.total CapD.total at *;simp only;omega
  ·have e:=CapD.put_tot h.plus (D.part x.natAbs) c
   have hh:=CapD.put_hi D.plus (D.part x.natAbs) c
   have ht2:D.plus.total+c≤9223372036854775807:=by omega
   refine ⟨⟨h.tab,h.mh,hh.1.trans h.ph,h.mm,hh.2.trans h.pm,h.minus,CapD.put_ok h.plus ⟨i3,i4⟩ ht2,h.ix1,fun p hp => ?_,?_⟩,?_⟩
   ·rcases CapD.put_mem hp with ⟨q,hq,eq⟩|eq
    ·rw [←eq];exact h.ix2 q hq
    ·rw [eq];exact ⟨i1,i2⟩
   ·unfold CapD.total at *;simp only;omega
   ·unfold BinD.total CapD.total at *;simp only;omega
structure LogD where
 bins:BinD
 least:Int
 most:Int
def LogD.ends (D:LogD) (lo hi:Int):LogD:=if D.bins.total=0 then { D with least:=lo,most:=hi } else { D with least:=min D.least lo,most:=max D.most hi }
structure LogD.ok (D:LogD):Prop where
 bins:D.bins.ok
 none:D.bins.total=0→D.least=0∧D.most=0
 le:D.least≤D.most
 low:-9223372036854775808≤D.least
 high:D.most<9223372036854775808
def LogD.putE (D:LogD) (c:Nat):Nat:=if c=0 then 1 else if D.bins.total+c≤9223372036854775807 then 0 else 6
def LogD.put (D:LogD) (x:Int) (c:Nat):LogD:=if D.putE c=0 then { D.ends x x with bins:=D.bins.add x c } else D
theorem LogD.put_ok {D:LogD} (h:D.ok) {x:Int} (hx:-9223372036854775808≤x∧x<9223372036854775808) (c:Nat):(D.put x c).ok:=by
 unfold LogD.put LogD.putE
 by_cases h0:c=0
 ·simp only [if_pos h0];exact h
 rw [if_neg h0]
 by_cases h1:D.bins.total+c≤9223372036854775807
 ·rw [if_pos h1,if_pos rfl]
  obtain ⟨b1,b2⟩:=BinD.add_ok h.bins x h1
  have h2:=h.le
  have h3:=h.low
  have h4:=h.high
  unfold LogD.ends
  split
  ·exact ⟨b1,fun e=>by simp only at e;omega,Int.le_refl _,hx.1,hx.2⟩
  ·exact ⟨b1,fun e=>by simp only at e;omega,by simp only;omega,by simp only;omega,by simp only;omega⟩
 ·rw [if_neg h1]
  simp only [show ¬((6:Nat)=0) from by decide,if_false]
  exact h
end Go.Proofs.YthoolcpcmhhkpaaGreatDoor
