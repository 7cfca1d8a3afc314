/-
  Parts of a proof, pressed. Conditions: the form's own reach.
-/
import Derived.Test.YthoolcpcmhhkpaaGreatDoorSuiteConfigsB38
import Derived.Test.YthoolcpcmhhkpaaGreatDoorSuiteConfigsB22
import Derived.Test.YthoolcpcmhhkpaaGreatDoorSuiteConfigsB8
import Derived.Test.YthoolcpcmhhkpaaGreatDoorSuiteConfigsB9
import Derived.Test.YthoolcpcmhhkpaaGreatDoorProg
import Derived.Shelf.SortM.Plain
import Derived.Shelf.SortM.SortNone
import Derived.Test.YthoolcpcmhhkpaaGreatDoorSuiteConfigsB3
import Derived.Test.YthoolcpcmhhkpaaGreatDoorSuiteConfigsB5
namespace Go.Proofs.YthoolcpcmhhkpaaGreatDoor
def limG (num den n:Nat):Nat:=max (2*num*n / den) 1
theorem limG_mono {num den a b:Nat} (h:a≤b):limG num den a≤limG num den b:=by
 have:=Nat.div_le_div_right (c:=den) (Nat.mul_le_mul_left (2*num) h)
 unfold limG
 omega
structure GkD where
 num:Nat
 den:Nat
 row:List Tp
 vals:List Int
 waits:List Int
namespace GkD
def total (D:GkD):Nat:=D.vals.length+D.waits.length
end GkD
def ins1 (r:List Tp) (x:Int):List Tp:=insT r x (upT r x)
def insAll (r:List Tp) (ws:List Int):List Tp:=ws.foldl ins1 r
namespace GkD
def flush (D:GkD):GkD:=if D.waits=[] then D else
 { D with row:=sqT (limG D.num D.den D.total) (insAll D.row (sortL D.waits)),vals:=D.vals++sortL D.waits,waits:=[] }
def wait (D:GkD) (x:Int):GkD:={ D with waits:=D.waits++[x] }
def put1 (D:GkD) (x:Int):GkD:=if 16≤(D.wait x).waits.length then (D.wait x).flush else D.wait x
def putN (D:GkD) (x:Int):Nat→GkD
 | 0=>D
 | k+1=>(D.putN x k).put1 x
structure ok (D:GkD):Prop where
 fine:FineT D.row D.vals.length
 placed:Placed (spF 0 D.row) D.vals
 len:D.row.length≤D.vals.length
 few:D.waits.length<16
 tight:∀ p∈D.row,p.st+p.sl≤limG D.num D.den D.vals.length
theorem flush_same (D:GkD):D.flush.num=D.num∧D.flush.den=D.den∧D.flush.total=D.total∧D.flush.waits=[]:=by
 unfold flush
 split
 ·next h=>exact ⟨rfl,rfl,rfl,h⟩
 ·refine ⟨rfl,rfl,?_,rfl⟩
  simp [total,(sort_ok D.waits).2.2]
theorem put1_same (D:GkD) (x:Int):(D.put1 x).num=D.num∧(D.put1 x).den=D.den∧(D.put1 x).total=D.total+1:=by
 have ht:(D.wait x).total=D.total+1:=by simp [wait,total];omega
 unfold put1
 split
 ·obtain ⟨h1,h2,h3,_⟩:=(D.wait x).flush_same
  exact ⟨h1,h2,h3.trans ht⟩
 ·exact ⟨rfl,rfl,ht⟩
theorem putN_same (D:GkD) (x:Int) (k:Nat):(D.putN x k).num=D.num∧(D.putN x k).den=D.den∧(D.putN x k).total=D.total+k:=by
 induction k with
 | zero=>exact ⟨rfl,rfl,rfl⟩
 | succ k ih =>
   obtain ⟨h1,h2,h3⟩:=(D.putN x k).put1_same x
   exact ⟨h1.trans ih.1,h2.trans ih.2.1,by rw [show D.putN x (k+1)=(D.putN x k).put1 x from rfl,h3,ih.2.2];omega⟩
end GkD
theorem getD_memT {l:List Tp} {k:Nat} (h:k<l.length):l.getD k default∈l:=by
 simp [List.getD,h]
theorem insT_tight {r:List Tp} {x:Int} {k g:Nat} (hg:1≤g) (hp:∀ p∈r,1≤p.st) (h:∀ p∈r,p.st+p.sl≤g):∀ p∈insT r x k,p.st+p.sl≤g:=by
 intro p hm
 unfold insT at hm
 simp only [List.mem_append,List.mem_cons,List.not_mem_nil,or_false] at hm
 rcases hm with (hm|rfl)|hm
 ·exact h p (List.mem_of_mem_take hm)
 ·simp only
  split
  ·next hk =>
   have h1:=h _ (getD_memT hk.2)
   have h2:=hp _ (getD_memT hk.2)
   omega
  ·omega
 ·exact h p (List.mem_of_mem_drop hm)
theorem sqStep_tight {m i:Nat} {r:List Tp} {g:Nat} (hmg:m≤g) (h:∀ p∈r,p.st+p.sl≤g):∀ p∈sqStep m i r,p.st+p.sl≤g:=by
 intro p hm
 unfold sqStep at hm
 split at hm
 ·next hle =>
  simp only [List.mem_append,List.mem_cons,List.not_mem_nil,or_false] at hm
  rcases hm with (hm|rfl)|hm
  ·exact h p (List.mem_of_mem_take hm)
  ·simp only;omega
  ·exact h p (List.mem_of_mem_drop hm)
 ·exact h p hm
theorem sqTo_tight {m g:Nat} (hmg:m≤g):∀ (i:Nat) (r:List Tp),(∀ p∈r,p.st+p.sl≤g)→∀ p∈sqTo m i r,p.st+p.sl≤g
 | 0,_,h=>h
 | i+1,_,h=>sqTo_tight hmg i _ (sqStep_tight hmg h)
theorem sqT_tight {m g:Nat} (hmg:m≤g) {r:List Tp} (h:∀ p∈r,p.st+p.sl≤g):∀ p∈sqT m r,p.st+p.sl≤g:=sqTo_tight hmg _ r h
theorem insAll_fine {g:Nat} (hg:1≤g):∀ (ws:List Int) {r:List Tp} {A:List Int},FineP (r,A) A.length→(∀ p∈r,p.st+p.sl≤g) →
 FineP (insAll r ws,A++ws) (A++ws).length∧∀ p∈insAll r ws,p.st+p.sl≤g
 | [],r,A,h,h3=>by rw [List.append_nil];exact ⟨h,h3⟩
 | x::ws,r,A,h,h3=>by
   have h4:=h.step ⟨x,0,false⟩
   have e:playS (r,A) ⟨x,0,false⟩=(ins1 r x,A++[x]):=by simp [playS,ins1]
   rw [e] at h4
   have hl:(A++[x]).length=A.length+1:=by simp
   have h5:=insAll_fine hg ws (r:=ins1 r x) (A:=A++[x]) (by rw [hl];exact h4) (insT_tight hg h.fine.pos h3)
   rw [List.append_assoc,List.singleton_append] at h5
   exact h5
namespace GkD
theorem ok.lim {D:GkD} (h:D.ok) {n:Nat} (hn:D.vals.length≤n):∀ p∈D.row,p.st+p.sl≤limG D.num D.den n:=fun p hp=>Nat.le_trans (h.tight p hp) (limG_mono hn)
theorem limG_pos (num den n:Nat):1≤limG num den n:=Nat.le_max_right _ _
structure ok' (D:GkD):Prop where
 fine:FineT D.row D.vals.length
 placed:Placed (spF 0 D.row) D.vals
 len:D.row.length≤D.vals.length
 few:D.waits.length≤16
 tight:∀ p∈D.row,p.st+p.sl≤limG D.num D.den D.vals.length
theorem flush_ok' {D:GkD} (h:D.ok') (hw:D.waits≠[]):D.flush.ok:=by
 unfold flush
 rw [if_neg hw]
 have hlen:(D.vals++sortL D.waits).length=D.total:=by simp [total,(sort_ok D.waits).2.2]
 have h1:=insAll_fine (limG_pos D.num D.den D.total) (sortL D.waits) (r:=D.row) (A:=D.vals) ⟨h.fine,h.placed,h.len,Nat.le_refl _⟩ (fun p hp=>Nat.le_trans (h.tight p hp) (limG_mono (by unfold total;omega)))
 obtain ⟨⟨h2,h3,h4,_⟩,h6⟩:=h1
 refine ⟨h2.squeeze _,?_,?_,by simp,?_⟩
 ·show Placed (spF 0 (sqT (limG D.num D.den D.total) (insAll D.row (sortL D.waits)))) _
  rw [squeeze_same]
  exact h3.squeeze _
 ·exact Nat.le_trans (sqT_len _ _) h4
 ·show ∀ p∈sqT (limG D.num D.den D.total) (insAll D.row (sortL D.waits)),p.st+p.sl≤limG D.num D.den (D.vals++sortL D.waits).length
  rw [hlen]
  exact sqT_tight (Nat.le_refl _) h6
theorem put1_ok {D:GkD} (h:D.ok) (x:Int):(D.put1 x).ok:=by
 unfold put1
 have hl:(D.wait x).waits.length=D.waits.length+1:=by simp [wait]
 have hf:=h.few
 split
 ·refine flush_ok' ⟨h.fine,h.placed,h.len,by omega,h.tight⟩ (fun e => ?_)
  rw [e] at hl
  simp at hl
 ·exact ⟨h.fine,h.placed,h.len,by omega,h.tight⟩
theorem putN_ok {D:GkD} (h:D.ok) (x:Int) (k:Nat):(D.putN x k).ok:=by
 induction k with
 | zero=>exact h
 | succ k ih=>exact put1_ok ih x
def all (D:GkD):List Int:=D.vals++D.waits
theorem upC_sort (l:List Int) (x:Int):upC (sortL l) x=upC l x:=(sort_ok l).2.1 x
end GkD
end Go.Proofs.YthoolcpcmhhkpaaGreatDoor
namespace Go.Proofs.YthoolcpcmhhkpaaGreatDoor
open Go.RowKit
def afV (y x:Int):Int:=if x<y then 1 else -1
theorem afV_neg (y x:Int):afV y x<0↔y≤x:=by
 unfold afV
 by_cases h:x<y
 ·rw [if_pos h];omega
 ·rw [if_neg h];omega
theorem afV_zero (y x:Int):(afV y x==0)=false:=by
 unfold afV
 by_cases h:x<y
 ·rw [if_pos h];rfl
 ·rw [if_neg h];rfl
set_option maxRecDepth 100000 in
theorem after_cmp (w:World) (p:Tp) (x:Int) :
 Calls Tryz.prog 288 #[.agg #[.int .i64 p.x,.int .u64 p.st,.int .u64 p.sl],.int .i64 x] w fun e w'=>e=.returned (.int .i64 (afV p.x x))∧Chg [] w w':=by
 have hc:=(Chg.refl [] w).alloc (.cells #[.int .i64 p.x,.int .u64 p.st,.int .u64 p.sl] 194)
 go_enter Tryz.func288,Tryz.ntmps288
 by_cases h:x<p.x
 ·have hd:decide (x<p.x)=true:=decide_eq_true h
  have HV:=Lib.hid (show afV p.x x=1 from if_pos h)
  go_wp2
  go_ret
  exact ⟨by rw [HV.out];rfl,hc⟩
 ·have hd:decide (x<p.x)=false:=decide_eq_false h
  have HV:=Lib.hid (show afV p.x x=-1 from if_neg h)
  go_wp2
  go_ret
  exact ⟨by rw [HV.out];rfl,hc⟩
theorem upT_cons (p:Tp) (l:List Tp) (x:Int):upT (p::l) x=upT l x+if p.x≤x then 1 else 0:=by
 simp [upT,List.countP_cons]
theorem upT_eq {l:List Tp} {x:Int} {n:Nat} (hn:n≤l.length) (h0:∀ k,(h:k<l.length)→k<n→l[k].x≤x) (h1:∀ k,(h:k<l.length)→n≤k→x<l[k].x):upT l x=n:=by
 induction l generalizing n with
 | nil=>simp at hn;subst hn;rfl
 | cons p l ih =>
   rw [upT_cons]
   cases n with
   | zero =>
     have hp:=h1 0 (by simp) (Nat.le_refl _)
     have:=ih (n:=0) (Nat.zero_le _) (fun k _ hk=>(Nat.not_lt_zero k hk).elim) (fun k h _=>by have:=h1 (k+1) (by simpa using h) (by omega);simpa using this)
     rw [this]
     simp only [List.getElem_cons_zero] at hp
     rw [if_neg (by omega)]
   | succ n =>
     have hp:=h0 0 (by simp) (by omega)
     have:=ih (n:=n) (by simpa using hn) (fun k h hk=>by have:=h0 (k+1) (by simpa using h) (by omega);simpa using this) (fun k h hk=>by have:=h1 (k+1) (by simpa using h) (by omega);simpa using this)
     rw [this]
     simp only [List.getElem_cons_zero] at hp
     rw [if_pos hp]
set_option maxRecDepth 100000 in
set_option maxHeartbeats 1000000 in
theorem bsf_tuples (w:World) (ao:Option Addr) (cap:Nat) (l:List Tp) (x:Int) (hrs:∀ j k,(hjk:j≤k)→(h:k<l.length)→(l[j]'(by omega)).x≤l[k].x) (hr:Rd w 3 (.slice ao l.length cap) l.length (tpCells l)) (hl:l.length≤10000000000) :
 Calls Tryz.prog 287 #[.slice ao l.length cap,.int .i64 x,.func (.func 288) #[] #[]] w fun e w'=>e=.returned (.tuple #[.int .i64 (upT l x),.bool false])∧Chg [] w w':=by
 go_enter Tryz.func287,Tryz.ntmps287
 go_wp2
 go_loopw [9,10] (fun a b wx=>∃ lo hi:Nat,lo≤hi∧hi≤l.length∧a=.int .i64 (lo:Nat)∧b=.int .i64 (hi:Nat)∧Hid (∀ k,(h:k<l.length)→k<lo→l[k].x≤x)∧Hid (∀ k,(h:k<l.length)→hi≤k→x<l[k].x)∧Chg [] w wx) (fun a b _=>(intOf b).toNat-(intOf a).toNat)
 case atStart=>exact ⟨0,l.length,by omega,by omega,rfl,rfl,Lib.hid (fun k _ hk=>(Nat.not_lt_zero k hk).elim),Lib.hid (fun k h hk=>absurd h (by omega)),Chg.refl _ _⟩
 case round =>
  obtain ⟨lo,hi,hlh,hhl,rfl,rfl,H0,H1,hch⟩:=hrel
  have hr1:=hr.chg hch (by simp)
  by_cases hlt:lo<hi
  ·obtain ⟨b,o,rfl,hc⟩:=hr1.addr (by omega)
   obtain ⟨m,hm⟩:∃ m,m=(lo+hi) / 2:=⟨_,rfl⟩
   have hmi:((lo:Int)+(hi:Int)) / 2=(m:Int):=by omega
   have hml:m<l.length:=by omega
   have hmlo:lo≤m:=by omega
   have hmhi:m<hi:=by omega
   have hmi2:(m:Int)<(l.length:Int):=by omega
   have hmi3:(0:Int)≤(m:Int):=by omega
   obtain ⟨c0,c1,c2⟩:=tp_at hc hml
   have HBY:=Lib.hid (after_cmp wr l[m] x)
   have hdl:decide ((lo:Int)<(hi:Int))=true:=decide_eq_true (by omega)
   have HR:=Lib.hid hrs
   have HV:=Lib.hid (afV_neg l[m].x x)
   clear hm hc hr1 hrs
   go_wp2_with fail
   refine HBY.out.mono ?_
   rintro e w2 ⟨rfl,hc2⟩
   have hc3:=hch.trans hc2
   clear hch hc2 HBY c0 c1 c2 hr
   by_cases hb:l[m].x≤x
   ·have hv:afV l[m].x x<0:=HV.out.2 hb
    have hd2:=decide_eq_true hv
    have HN:=Lib.hid (show ∀ k,(h:k<l.length)→k<m+1→l[k].x≤x from fun k h hk=>by
     have:=HR.out k m (by omega) hml;omega)
    clear HV hb hv
    generalize afV l[m].x x=v at *
    go_wp2
    exact ⟨⟨m+1,hi,by omega,by omega,by go_num,rfl,HN,H1,hc3⟩,by simp [intOf];omega⟩
   ·have hv:¬afV l[m].x x<0:=fun h=>hb (HV.out.1 h)
    have hd2:=decide_eq_false hv
    have HN:=Lib.hid (show ∀ k,(h:k<l.length)→m≤k→x<l[k].x from fun k h hk=>by
     have:=HR.out m k hk h;omega)
    clear HV hb hv
    generalize afV l[m].x x=v at *
    go_wp2
    exact ⟨⟨lo,m,by omega,by omega,rfl,rfl,H0,HN,hc3⟩,by simp [intOf];omega⟩
  ·obtain rfl:lo=hi:=by omega
   have HC:=Lib.hid (upT_eq hhl H0.out H1.out)
   clear hrs
   by_cases hn:lo<l.length
   ·obtain ⟨b,o,rfl,hc⟩:=hr1.addr (by omega)
    obtain ⟨c0,c1,c2⟩:=tp_at hc hn
    have hdn:decide ((lo:Int)<(l.length:Int))=true:=decide_eq_true (by omega)
    have hn0:(0:Int)≤(lo:Int):=by omega
    have HBY:=Lib.hid (after_cmp wr l[lo] x)
    have HV:=Lib.hid (afV_zero l[lo].x x)
    clear hc hr1
    go_wp2_with fail
    refine HBY.out.mono ?_
    rintro e w2 ⟨rfl,hc2⟩
    have hv:=HV.out
    clear HV
    generalize afV l[lo].x x=v at *
    go_wp2
    go_ret2
    exact ⟨by rw [HC.out];rfl,hch.trans hc2⟩
   ·have hdn:decide ((lo:Int)<(l.length:Int))=false:=decide_eq_false (by omega)
    go_wp2
    go_ret2
    exact ⟨by rw [HC.out];rfl,hch⟩
set_option maxRecDepth 100000 in
theorem tup_after (w:World) (ao:Option Addr) (cap:Nat) (l:List Tp) (x:Int) (hrs:∀ j k,(hjk:j≤k)→(h:k<l.length)→(l[j]'(by omega)).x≤l[k].x) (hr:Rd w 3 (.slice ao l.length cap) l.length (tpCells l)) (hl:l.length≤10000000000) :
 Calls Tryz.prog 250 #[.slice ao l.length cap,.int .i64 x] w fun e w'=>e=.returned (.int .i64 (upT l x:Nat))∧Chg [] w w':=by
 have HB:=Lib.hid (bsf_tuples w ao cap l x hrs hr hl)
 clear hrs
 go_enter Tryz.func250,Tryz.ntmps250
 go_wp2_with fail
 refine HB.out.mono ?_
 rintro e w2 ⟨rfl,hc2⟩
 go_wp2
 go_ret
 exact ⟨rfl,hc2⟩
theorem insT_len (l:List Tp) (x:Int) (k:Nat) (hk:k≤l.length):(insT l x k).length=l.length+1:=by
 simp [insT];omega
theorem upT_le (l:List Tp) (x:Int):upT l x≤l.length:=List.countP_le_length
set_option maxRecDepth 100000 in
set_option maxHeartbeats 1000000 in
theorem tup_insert (w:World) (ao:Option Addr) (cap:Nat) (l:List Tp) (x:Int) (hrs:∀ j k,(hjk:j≤k)→(h:k<l.length)→(l[j]'(by omega)).x≤l[k].x) (ho:Own w 194 3 (.slice ao l.length cap) l.length (tpCells l)) (hl:l.length≤10000000000)
 (hst:∀ p∈l,1≤p.st∧p.st+p.sl≤4611686018427387904) :
 Calls Tryz.prog 216 #[.slice ao l.length cap,.int .i64 x] w fun e w'=>∃ a3 c3,e=.returned (.slice a3 (l.length+1) c3) ∧
  Own w' 194 3 (.slice a3 (l.length+1) c3) (l.length+1) (tpCells (insT l x (upT l x)))∧Chg (abl ao) w w'∧∀ b∈abl a3,b∈abl ao∨w.heap.size≤b:=by
 have HA:=Lib.hid (tup_after w ao cap l x hrs ho.rd hl)
 have hle:=upT_le l x
 have HST:=Lib.hid hst
 clear hrs hst
 generalize upT l x=n at *
 go_enter Tryz.func216,Tryz.ntmps216
 go_wp2_with fail
 refine HA.out.mono ?_
 rintro e w1 ⟨rfl,hc1⟩
 clear HA
 have ho1:=ho.chg hc1 (by simp)
 have hsz:=hc1.size
 have hbl:=ho1.lt
 by_cases hin:0<n∧n<l.length
 ·obtain ⟨hn0,hnl⟩:=hin
  obtain ⟨b,o,rfl,hc⟩:=ho1.rd.addr (by omega)
  obtain ⟨c0,c1,c2⟩:=tp_at hc hnl
  have hs:=HST.out l[n] (List.getElem_mem _)
  have HE:=Lib.hid (show insT l x n=l.take n++[⟨x,1,l[n].st+l[n].sl-1⟩]++l.drop n from by
   rw [insT,if_pos ⟨hn0,hnl⟩,show l.getD n default=l[n] from by simp [List.getD,hnl]])
  generalize l[n]=p at *
  have hd1:decide ((0:Int)<(n:Int))=true:=decide_eq_true (by omega)
  have hd2:decide ((n:Int)<(l.length:Int))=true:=decide_eq_true (by omega)
  have hn1:(0:Int)≤(n:Int):=by omega
  have hnl2:(n:Int)<(l.length:Int):=by omega
  have hw:(p.st:Int)+(p.sl:Int)-1=((p.st+p.sl-1:Nat):Int):=by omega
  clear hc ho
  have hw1:IntKind.u64.wrap ((p.st:Int)+(p.sl:Int))=(p.st:Int)+(p.sl:Int):=IntWalk.u64_in _ (by omega)
  have hw2:IntKind.u64.wrap ((p.st:Int)+(p.sl:Int)-1)=((p.st+p.sl-1:Nat):Int):=by rw [hw];exact IntWalk.u64_in _ (by omega)
  clear hw
  go_wp2
  have hcW:=(Chg.refl [] w1).alloc (.cells #[.int .i64 x,.int .u64 1,.int .u64 0] 194)
  have d1:=hcW.cell c1 (by simp)
  have d2:=hcW.cell c2 (by simp)
  have hbx:=Blk.alloc_new w1 #[.int .i64 x,.int .u64 1,.int .u64 0] 194
  have hoW:=ho1.chg hcW (by simp)
  have hsW:(w1.alloc (.cells #[.int .i64 x,.int .u64 1,.int .u64 0] 194)).heap.size=w1.heap.size+1:=by simp
  have hblW:=fun k (hk:k∈abl (some ⟨b,o,none⟩))=>hbl k hk
  generalize w1.alloc (.cells #[.int .i64 x,.int .u64 1,.int .u64 0] 194)=W at *
  generalize w1.heap.size=B at *
  have e0:=hbx.cell 0
  have e1:=hbx.cell 1
  have e2:=hbx.cell 2
  have f2:=hbx.free 2
  have HB:=Lib.hid hbx
  have HS:=Lib.hid hsW
  clear c0 c1 c2 hbx hsW hbl
  go_still_tail 13,(by kernel_rfl)
  change wpList _ _ _ _ _ (World.drew _)
  have hcS:Chg [B] W (W.drew.setCell ⟨B,2,none⟩ (.int .u64 (p.st+p.sl-1:Nat))):=((Chg.refl [B] W).drew).setCell (.inl (by simp)) _
  have hoS:=hoW.chg hcS (fun k hk=>by have:=hblW k (by simpa using hk);simp;omega)
  have HC:=Lib.hid ((((hc1.trans hcW).nil (F:=[b])).trans' hcS (by simp;omega)).alloc (.cells #[.int .i64 x,.int .u64 1,.int .u64 (p.st+p.sl-1:Nat)] 194))
  clear hcS hblW hcW
  go_wp2_with fail
  refine (insert_tuple _ (some ⟨b,o,none⟩) cap l n hle ⟨x,1,p.st+p.sl-1⟩ W.heap.size hl (hoS.alloc _) (by have:=Blk.alloc_new (W.drew.setCell ⟨B,2,none⟩ (.int .u64 (p.st+p.sl-1:Nat))) #[.int .i64 x,.int .u64 1,.int .u64 (p.st+p.sl-1:Nat)] 194;simpa [World.setCell] using this) (by have:=HS.out;have:=hoW.lt b (by simp);simp;omega)).mono ?_
  rintro e w7 ⟨a3,c3,rfl,ho7,hg7,hf7⟩
  go_wp2
  go_ret
  refine ⟨a3,c3,rfl,by rw [HE.out];exact ho7,HC.out.trans hg7,fun k hk => ?_⟩
  rcases hf7 k hk with h|h
  ·exact .inl h
  ·right
   have:=HS.out
   simp [World.setCell] at h
   omega
 ·have HE:=Lib.hid (show insT l x n=l.take n++[⟨x,1,0⟩]++l.drop n from by rw [insT,if_neg hin])
  have hne:n=0∨n=l.length:=by omega
  clear hin
  have fin:∀ w7 a3 c3,Own w7 194 3 (.slice a3 (l.length+1) c3) (l.length+1) (tpCells (l.take n++[⟨x,1,0⟩]++l.drop n)) →
   Chg (abl ao) ((w1.alloc (.cells #[.int .i64 x,.int .u64 1,.int .u64 0] 194)).alloc (.cells #[.int .i64 x,.int .u64 1,.int .u64 0] 194)) w7 →
   (∀ b∈abl a3,b∈abl ao∨((w1.alloc (.cells #[.int .i64 x,.int .u64 1,.int .u64 0] 194)).alloc (.cells #[.int .i64 x,.int .u64 1,.int .u64 0] 194)).heap.size≤b) →
   Own w7 194 3 (.slice a3 (l.length+1) c3) (l.length+1) (tpCells (insT l x n))∧Chg (abl ao) w w7∧∀ b∈abl a3,b∈abl ao∨w.heap.size≤b:=fun w7 a3 c3 h1 h2 h3=>by
   refine ⟨by rw [HE.out];exact h1,(((hc1.alloc _).alloc _).nil).trans h2,fun k hk => ?_⟩
   rcases h3 k hk with h|h
   ·exact .inl h
   ·right
    simp at h
    omega
  have FIN:=Lib.hid fin
  have hbx:=Blk.alloc_new w1 #[.int .i64 x,.int .u64 1,.int .u64 0] 194
  have HV:=Lib.hid (show Blk ((w1.alloc (.cells #[.int .i64 x,.int .u64 1,.int .u64 0] 194)).alloc (.cells #[.int .i64 x,.int .u64 1,.int .u64 0] 194)) (w1.heap.size+1) #[.int .i64 x,.int .u64 1,.int .u64 0] 194 from by
   have:=Blk.alloc_new (w1.alloc (.cells #[.int .i64 x,.int .u64 1,.int .u64 0] 194)) #[.int .i64 x,.int .u64 1,.int .u64 0] 194
   simpa using this)
  have e0:=hbx.cell 0
  have e1:=hbx.cell 1
  have e2:=hbx.cell 2
  have HB:=Lib.hid (show w1.heap.size+1∉abl ao from fun hb=>by have:=hbl _ (by simpa using hb);omega)
  clear fin hbx HE hbl ho
  rcases hne with h0|h0
  ·subst h0
   go_wp2_with fail
   refine (insert_tuple _ ao cap l 0 hle ⟨x,1,0⟩ (w1.heap.size+1) hl ((ho1.alloc _).alloc _) HV.out HB.out).mono ?_
   rintro e w7 ⟨a3,c3,rfl,ho7,hg7,hf7⟩
   have HF:=Lib.hid (FIN.out w7 a3 c3 ho7 hg7 hf7)
   clear ho7 hg7 hf7
   go_wp2
   go_ret
   exact ⟨a3,c3,rfl,HF.out.1,HF.out.2.1,HF.out.2.2⟩
  ·have hd2:decide (n<l.length)=false:=decide_eq_false (by omega)
   by_cases hz:0<n
   all_goals
    clear h0
    go_wp2_with fail
    refine (insert_tuple _ ao cap l n hle ⟨x,1,0⟩ (w1.heap.size+1) hl ((ho1.alloc _).alloc _) HV.out HB.out).mono ?_
    rintro e w7 ⟨a3,c3,rfl,ho7,hg7,hf7⟩
    have HF:=Lib.hid (FIN.out w7 a3 c3 ho7 hg7 hf7)
    clear ho7 hg7 hf7
    go_wp2
    go_ret
    exact ⟨a3,c3,rfl,HF.out.1,HF.out.2.1,HF.out.2.2⟩
theorem sorted_get {l:List Tp} (h:l.Pairwise fun p q=>p.x≤q.x):∀ j k,(hjk:j≤k)→(h:k<l.length)→(l[j]'(by omega)).x≤l[k].x:=by
 intro j k hjk hk
 rcases Nat.lt_or_ge j k with h1|h1
 ·exact List.pairwise_iff_getElem.1 h j k (by omega) hk h1
 ·obtain rfl:j=k:=by omega
  exact Int.le_refl _
end Go.Proofs.YthoolcpcmhhkpaaGreatDoor
namespace Go.Proofs.YthoolcpcmhhkpaaGreatDoor
open Go.Shelf
def sortI_ren:Go.Shelf.Ren:=⟨fun|5=>215|8=>214|7=>249|19=>247|20=>248|10=>278|11=>279|12=>280|13=>281|14=>282|15=>283|16=>284|17=>285|18=>286|30=>301|31=>274|32=>275|33=>302|34=>303|35=>304|40=>315|n=>n,fun|23=>100|25=>2|3=>3|32=>38|22=>100|0=>0|44=>30|46=>23|4=>4|36=>339|35=>338|41=>156|5=>5|9=>9|53=>364|57=>367|63=>383|64=>384|n=>n,fun|n=>n⟩
theorem sortI:Go.Proofs.SlLaysM.n5 Tryz.prog sortI_ren:={
 mixed:=by kernel_rfl,
 f5:=⟨Tryz.f215.name,by decide,Tryz.func215.trans (congrArg some (by kernel_rfl))⟩,
 f7:=⟨Tryz.f249.name,by decide,Tryz.func249.trans (congrArg some (by kernel_rfl))⟩,
 f8:=Tryz.func214.trans (congrArg some (by kernel_rfl)),
 f10:=⟨Tryz.f278.name,by decide,Tryz.func278.trans (congrArg some (by kernel_rfl))⟩,
 f11:=⟨Tryz.f279.name,by decide,Tryz.func279.trans (congrArg some (by kernel_rfl))⟩,
 f12:=⟨Tryz.f280.name,by decide,Tryz.func280.trans (congrArg some (by kernel_rfl))⟩,
 f13:=⟨Tryz.f281.name,by decide,Tryz.func281.trans (congrArg some (by kernel_rfl))⟩,
 f14:=⟨Tryz.f282.name,by decide,Tryz.func282.trans (congrArg some (by kernel_rfl))⟩,
 f15:=⟨Tryz.f283.name,by decide,Tryz.func283.trans (congrArg some (by kernel_rfl))⟩,
 f16:=⟨Tryz.f284.name,by decide,Tryz.func284.trans (congrArg some (by kernel_rfl))⟩,
 f17:=⟨Tryz.f285.name,by decide,Tryz.func285.trans (congrArg some (by kernel_rfl))⟩,
 f18:=⟨Tryz.f286.name,by decide,Tryz.func286.trans (congrArg some (by kernel_rfl))⟩,
 f19:=Tryz.func247.trans (congrArg some (by kernel_rfl)),
 f20:=Tryz.func248.trans (congrArg some (by kernel_rfl)),
 f30:=⟨Tryz.f301.name,by decide,Tryz.func301.trans (congrArg some (by kernel_rfl))⟩,
 f31:=Tryz.func274.trans (congrArg some (by kernel_rfl)),
 f32:=Tryz.func275.trans (congrArg some (by kernel_rfl)),
 f33:=⟨Tryz.f302.name,by decide,Tryz.func302.trans (congrArg some (by kernel_rfl))⟩,
 f34:=⟨Tryz.f303.name,by decide,Tryz.func303.trans (congrArg some (by kernel_rfl))⟩,
 f35:=⟨Tryz.f304.name,by decide,Tryz.func304.trans (congrArg some (by kernel_rfl))⟩,
 f40:=⟨Tryz.f315.name,by decide,Tryz.func315.trans (congrArg some (by kernel_rfl))⟩,
 t0:=Tryz.underlying0,
 a0:=Tryz.isAgg0,
 z0:=Tryz.sizeOf0,
 v0:=Tryz.zeroValue0,
 t3:=Tryz.underlying3,
 a3:=Tryz.isAgg3,
 z3:=Tryz.sizeOf3,
 v3:=Tryz.zeroValue3,
 t4:=Tryz.underlying4,
 a4:=Tryz.isAgg4,
 z4:=Tryz.sizeOf4,
 v4:=Tryz.zeroValue4,
 t5:=Tryz.underlying5,
 a5:=Tryz.isAgg5,
 z5:=Tryz.sizeOf5,
 v5:=Tryz.zeroValue5,
 t9:=Tryz.underlying9,
 a9:=Tryz.isAgg9,
 z9:=Tryz.sizeOf9,
 v9:=Tryz.zeroValue9,
 t22:=Tryz.underlying100,
 a22:=Tryz.isAgg100,
 z22:=Tryz.sizeOf100,
 v22:=Tryz.zeroValue100,
 t23:=Tryz.underlying100,
 a23:=Tryz.isAgg100,
 z23:=Tryz.sizeOf100,
 v23:=Tryz.zeroValue100,
 t25:=Tryz.underlying2,
 a25:=Tryz.isAgg2,
 z25:=Tryz.sizeOf2,
 v25:=Tryz.zeroValue2,
 t32:=Tryz.underlying38,
 a32:=Tryz.isAgg38,
 z32:=Tryz.sizeOf38,
 v32:=Tryz.zeroValue38,
 t35:=Tryz.underlying338,
 a35:=Tryz.isAgg338,
 z35:=Tryz.sizeOf338,
 v35:=Tryz.zeroValue338,
 t36:=Tryz.underlying339,
 a36:=Tryz.isAgg339,
 z36:=Tryz.sizeOf339,
 v36:=Tryz.zeroValue339,
 t41:=Tryz.underlying156,
 a41:=Tryz.isAgg156,
 z41:=Tryz.sizeOf156,
 v41:=Tryz.zeroValue156,
 t44:=Tryz.underlying30,
 a44:=Tryz.isAgg30,
 z44:=Tryz.sizeOf30,
 v44:=Tryz.zeroValue30,
 t46:=Tryz.underlying23,
 a46:=Tryz.isAgg23,
 z46:=Tryz.sizeOf23,
 v46:=Tryz.zeroValue23,
 t53:=Tryz.underlying364,
 a53:=Tryz.isAgg364,
 z53:=Tryz.sizeOf364,
 v53:=Tryz.zeroValue364,
 t57:=Tryz.underlying367,
 a57:=Tryz.isAgg367,
 z57:=Tryz.sizeOf367,
 v57:=Tryz.zeroValue367,
 t63:=Tryz.underlying383,
 a63:=Tryz.isAgg383,
 z63:=Tryz.sizeOf383,
 v63:=Tryz.zeroValue383,
 t64:=Tryz.underlying384,
 a64:=Tryz.isAgg384,
 z64:=Tryz.sizeOf384,
 v64:=Tryz.zeroValue384 }
end Go.Proofs.YthoolcpcmhhkpaaGreatDoor
namespace Go.Proofs.YthoolcpcmhhkpaaGreatDoor
open Go.RowKit Go.Sort
theorem ints_getE (l:List Int) (j:Nat) (h:j<l.length):(ints l)[j]? = some (.int .i64 l[j]):=by simp [ints,h]
theorem Own.holdsI {w:World} {e:TypeId} {g o cap:Nat} {l:List Int} (h:Own w e 1 (.slice (some ⟨g,o,none⟩) l.length cap) l.length (ints l)):Holds (Value.int .i64) w g o l.toArray:=by
 intro j hj
 have hj':j<l.length:=by simpa using hj
 refine ⟨?_,h.free _⟩
 rw [h.cells j (by omega),ints_getE l j hj',getElem!_pos l.toArray j hj,List.getElem_toArray]
theorem sortedI_heap {w:World} {g n off:Nat} {os:Array Obj} {cur:Array Value} {e:TypeId} {fr:Nat × Nat} (d:Array Int) (hb:w.heap[g]? = some (.cells cur e fr)) :
 (grow (putRow (Value.int .i64) (Sort.ahead w n) g off d) os).heap[g]? = some (.cells (putCells (Value.int .i64) off d cur) e fr):=by
 have hg:g<w.heap.size:=(Array.getElem?_eq_some_iff.1 hb).1
 rw [heap_grow_old _ _ (by simpa using hg)]
 simp [putRow,mapBlock,Sort.ahead,Array.getElem?_modify,hb,onCells]
theorem sortedI_chg (w:World) (g n off:Nat) (os:Array Obj) (d:Array Int):Chg [g] w (grow (putRow (Value.int .i64) (Sort.ahead w n) g off d) os):=by
 refine ⟨rfl,rfl,rfl,by simp,fun j hj hne => ?_⟩
 rw [heap_grow_old _ _ (by simpa using hj)]
 have:g≠j:=fun e=>hne (by simp [e])
 simp [putRow,mapBlock,Sort.ahead,Array.getElem?_modify,this]
theorem Own.sortedI {w:World} {e:TypeId} {g o cap:Nat} {l l':List Int} (h:Own w e 1 (.slice (some ⟨g,o,none⟩) l.length cap) l.length (ints l)) (hl:l'.length=l.length) (n:Nat) (os:Array Obj) :
 Own (grow (putRow (Value.int .i64) (Sort.ahead w n) g o l'.toArray) os) e 1 (.slice (some ⟨g,o,none⟩) l.length cap) l.length (ints l'):=by
 obtain ⟨h1,⟨h0,_⟩|⟨g',o',cap',cur,h0,h2,h3,h4,h5,h6⟩⟩:=h
 ·simp at h0
 simp only [Value.slice.injEq,Option.some.injEq,Addr.mk.injEq,and_true,true_and] at h0
 obtain ⟨⟨rfl,rfl⟩,rfl⟩:=h0
 refine ⟨by simp [ints,hl],.inr ⟨g,o,cap,_,rfl,sortedI_heap _ h2,h3,h4,by simpa [putCells] using h5,?_⟩⟩
 apply List.ext_getElem?
 intro t
 by_cases ht:t<l.length
 ·rw [List.getElem?_take_of_lt (by omega),List.getElem?_drop,Array.getElem?_toList,ints_getE l' t (by omega)]
  have hf:t<l'.toArray.size:=by simpa [hl] using ht
  simp only [putCells,Array.getElem?_mapIdx]
  rw [Array.getElem?_eq_getElem (show o+t<cur.size by omega),Option.map_some,if_pos ⟨by omega,by omega⟩,show o+t-o=t by omega,getElem!_pos _ t hf,List.getElem_toArray]
 ·rw [List.getElem?_take_eq_none (by omega),List.getElem?_eq_none (by simp [ints,hl];omega)]
theorem sort_ints (w:World) (ao:Option Addr) (cap n:Nat) (l:List Int) (hn:n=l.length) (h:Own w 2 1 (.slice ao n cap) n (ints l)) (hsz:n<4611686018427387904) :
 Calls Tryz.prog 215 #[.slice ao n cap] w fun e w'=>e=.returned (.tuple #[])∧Own w' 2 1 (.slice ao n cap) n (ints (sortL l))∧Chg (abl ao) w w':=by
 subst hn
 have hl:=(sort_ok l).2.2
 by_cases h0:l=[]
 ·subst h0
  have hcon:=AnyM.slices_Sort_int_none sortI ao cap w
  change Calls Tryz.prog 215 _ _ _ at hcon
  refine hcon.mono ?_
  rintro e w' ⟨rfl,rfl⟩
  exact ⟨rfl,h,Chg.refl _ _⟩
 ·have hpos:0<l.length:=List.length_pos_iff.2 h0
  obtain ⟨g,o,rfl,-⟩:=h.rd.addr hpos
  have hcon:=AnyM.slices_Sort_int sortI g o cap l w h.holdsI (h.lt g (by simp)) hsz
  change Calls Tryz.prog 215 _ _ _ at hcon
  rw [msort_eq] at hcon
  refine hcon.mono ?_
  rintro e w' ⟨rfl,m,os,rfl⟩
  exact ⟨rfl,h.sortedI hl m os,sortedI_chg _ _ _ _ _ _⟩
end Go.Proofs.YthoolcpcmhhkpaaGreatDoor
namespace Go.Proofs.YthoolcpcmhhkpaaGreatDoor
open Go.RowKit
def sqFrame (ao:Option Addr) (n cap m:Nat) (i:Int) (f:Nat→Value):Act:=
 { tmps:=#[.slice ao n cap,.int .u64 m,undef,undef,.slice none 0 0,.int .i64 i,f 6,f 7,f 8,f 9,f 10,f 11,f 12,f 13,f 14,f 15,f 16,f 17,f 18,f 19,f 20,f 21,f 22,f 23,f 24,f 25,f 26,f 27,f 28,f 29,f 30,f 31,f 32,f 33,f 34,f 35,f 36,f 37,f 38,f 39,f 40,f 41,f 42,f 43,f 44,f 45,f 46,f 47,f 48,f 49,f 50,f 51],defers:=[] }
def sqJ (w:World) (ao:Option Addr) (cap m N:Nat) (l:List Tp):Nat→Act→World→Prop
 | 0,a,w'=>∃ (i:Int) (r:List Tp),a=sqFrame ao r.length cap m i (fun k=>a.tmps.getD k undef)∧-2≤i∧(1≤i→i+1<r.length)∧r.length≤10000000000∧FineT r N∧sqTo m i.toNat r=sqT m l ∧
    Own w' 194 3 (.slice ao r.length cap) r.length (tpCells r)∧Chg (abl ao) w w'
 | _,_,_=>False
def sqM:Nat→Act→World→Nat:=fun _ a _=>(intOf (a.tmps.getD 5 undef)+2).toNat
theorem FineT.two {row:List Tp} {n i:Nat} (h:FineT row n) (hi:i+1<row.length):row[i].st+row[i+1].st+row[i+1].sl≤n:=by
 have e:row=row.take i++row[i]::row[i+1]::row.drop (i+2):=by
  have h1:=List.take_append_drop i row
  rw [List.drop_eq_getElem_cons (by omega),List.drop_eq_getElem_cons hi] at h1
  exact h1.symm
 have hs:=h.high
 rw [e,spF_app] at hs
 have:=hs ⟨row[i+1].x,0+tot (row.take i)+row[i].st+row[i+1].st,0+tot (row.take i)+row[i].st+row[i+1].st+row[i+1].sl⟩ (by simp [spF])
 simp only at this
 omega
theorem FineT.one {row:List Tp} {n i:Nat} (h:FineT row n) (hi:i<row.length):row[i].st+row[i].sl≤n:=by
 have e:row=row.take i++row[i]::row.drop (i+1):=by
  have h1:=List.take_append_drop i row
  rw [List.drop_eq_getElem_cons hi] at h1
  exact h1.symm
 have hs:=h.high
 rw [e,spF_app] at hs
 have:=hs ⟨row[i].x,0+tot (row.take i)+row[i].st,0+tot (row.take i)+row[i].st+row[i].sl⟩ (by simp [spF])
 simp only at this
 omega
theorem tpCells_setStep (l:List Tp) (n:Nat) (hn:n<l.length) (c:Nat):tpCells (l.set n ⟨l[n].x,c,l[n].sl⟩)=(tpCells l).set (n*3+1) (.int .u64 c):=by
 induction l generalizing n with
 | nil=>simp at hn
 | cons p l ih =>
   cases n with
   | zero=>simp [tpCells,Tp.cells]
   | succ n =>
     have:=ih n (by simpa using hn)
     simp only [tpCells,jS,List.map_cons,List.flatten_cons,List.getElem_cons_succ] at this ⊢
     rw [this,show (n+1)*3+1=(n*3+1)+3 from by omega]
     simp [Tp.cells]
theorem sqStep_yes {m i:Nat} {r:List Tp} (hi:i+1<r.length) (h:r[i].st+r[i+1].st+r[i+1].sl≤m) :
 sqStep m i r=(r.set (i+1) ⟨r[i+1].x,r[i+1].st+r[i].st,r[i+1].sl⟩).take i++(r.set (i+1) ⟨r[i+1].x,r[i+1].st+r[i].st,r[i+1].sl⟩).drop (i+1):=by
 have g1:r.getD i default=r[i]:=by simp [List.getD,show i<r.length by omega]
 have g2:r.getD (i+1) default=r[i+1]:=by simp [List.getD,hi]
 rw [sqStep,g1,g2,if_pos h]
 rw [List.take_set_of_le (by omega),List.drop_set,if_neg (by omega),Nat.sub_self,List.append_assoc,List.drop_eq_getElem_cons hi]
 rfl
theorem sqStep_no {m i:Nat} {r:List Tp} (hi:i+1<r.length) (h:¬r[i].st+r[i+1].st+r[i+1].sl≤m):sqStep m i r=r:=by
 have g1:r.getD i default=r[i]:=by simp [List.getD,show i<r.length by omega]
 have g2:r.getD (i+1) default=r[i+1]:=by simp [List.getD,hi]
 rw [sqStep,g1,g2,if_neg h]
theorem sqTo_down (m k:Nat) (r:List Tp) (hk:0<k):sqTo m k r=sqTo m (k-1) (sqStep m k r):=by
 obtain ⟨j,rfl⟩:∃ j,k=j+1:=⟨k-1,by omega⟩
 rfl
theorem delete_tuple' (w:World) (g o cap:Nat) (l:List Tp) (n:Nat) (hn:n=l.length) (k:Nat) (hk:k<n) (hl:n≤10000000000) (ho:Own w 194 3 (.slice (some ⟨g,o,none⟩) n cap) n (tpCells l)) :
 Calls Tryz.prog 252 #[.slice (some ⟨g,o,none⟩) n cap,.int .i64 (k:Nat),.int .i64 ((k:Int)+1)] w fun e w' =>
  e=.returned (.slice (some ⟨g,o,none⟩) (n-1) cap) ∧
  Own w' 194 3 (.slice (some ⟨g,o,none⟩) (n-1) cap) (n-1) (tpCells (l.take k++l.drop (k+1)))∧Chg [g] w w':=by
 subst hn
 exact delete_tuple w g o cap l k hk hl ho
set_option maxRecDepth 100000 in
set_option maxHeartbeats 2000000 in
theorem tup_squeeze (w:World) (ao:Option Addr) (cap:Nat) (l:List Tp) (m N:Nat) (_hm:m<18446744073709551616) (hf:FineT l N) (hN:N≤9223372036854775807) (hl:l.length≤10000000000)
 (ho:Own w 194 3 (.slice ao l.length cap) l.length (tpCells l)) :
 Calls Tryz.prog 217 #[.slice ao l.length cap,.int .u64 m] w fun e w'=>e=.returned (.slice ao (sqT m l).length cap) ∧
  Own w' 194 3 (.slice ao (sqT m l).length cap) (sqT m l).length (tpCells (sqT m l))∧Chg (abl ao) w w':=by
 have HN:=Lib.hid hN
 have HM:=Lib.hid _hm
 clear hN _hm
 go_enter Tryz.func217,Tryz.ntmps217
 go_wp2
 refine (fun pass=>wp_scope_labels (sqJ w ao cap m N l) sqM ?_ pass) ?_
 ·go_wp2
  rename_i K hK
  refine wp_label (hK _ _ ?_)
  obtain ⟨R,hf0,hp⟩:=pass 0 (sqFrame ao l.length cap m ((l.length:Int)-2) (fun k=>(#[undef,undef,undef,undef,undef,undef,undef,.slice ao l.length cap,.int .i64 l.length,.int .i64 ((l.length:Int)-2)]:Array Value).getD k undef)) w
   ⟨_,l,rfl,by omega,by omega,hl,hf,by rw [sqT];congr 1;omega,ho,Chg.refl _ _⟩
  obtain rfl:=(Code.seq.inj (Option.some.inj hf0)).2
  refine wp_mono hp (fun ex a1 w1 hq => ?_)
  cases ex<;>first|exact hq.1|exact hq
 ·intro lb a wr hJ
  match lb with
  | 0 =>
    obtain ⟨i,r,ha,hi2,hi1,hrl,hfr,hsq,hor,hch⟩:=hJ
    generalize (fun k=>a.tmps.getD k undef)=f at ha
    subst ha
    refine ⟨_,rfl,?_⟩
    have HQ:=Lib.hid hsq
    clear hsq hf hl ho
    by_cases hlt:i<1
    ·have hd:decide (i<1)=true:=decide_eq_true hlt
     have HE:=Lib.hid (show sqT m l=r from by
      have h:=HQ.out
      rw [show i.toNat=0 from by omega] at h
      exact h.symm)
     clear HQ hi1 hi2
     unfold sqFrame
     go_wp2
     go_ret
     rw [HE.out]
     exact ⟨rfl,hor,hch⟩
    ·obtain ⟨k,rfl⟩:∃ k:Nat,i=(k:Int):=⟨i.toNat,by omega⟩
     have hk1:k+1<r.length:=by have:=hi1 (by omega);omega
     have hk0:0<k:=by omega
     rw [Int.toNat_natCast] at HQ
     obtain ⟨b,o,rfl,hc⟩:=hor.rd.addr (by omega)
     obtain ⟨c0,c1,c2⟩:=tp_at hc (show k<r.length by omega)
     obtain ⟨d0,d1,d2⟩:=tp_at hc hk1
     have hsum:=hfr.two hk1
     have hN:=HN.out
     have HT:=Lib.hid (fun h=>sqStep_yes (m:=m) hk1 h)
     have HF:=Lib.hid (fun h=>sqStep_no (m:=m) hk1 h)
     have HST:=Lib.hid (hfr.step m k hk0 hk1)
     have HC:=Lib.hid (tpCells_setStep r (k+1) hk1)
     have hdd:decide ((k:Int)<1)=false:=decide_eq_false hlt
     have hkp:(0:Int)≤(k:Int):=by omega
     have hkl:(k:Int)<(r.length:Int):=by omega
     have hkp1:(0:Int)≤(k:Int)+1:=by omega
     have hkl1:(k:Int)+1<(r.length:Int):=by omega
     have htn:((k:Int)+1).toNat=k+1:=by omega
     have HR:=Lib.hid hor
     have HFR:=Lib.hid hfr
     have hbl:=hor.lt b (by simp)
     clear hlt hi1 hi2 hc hor hfr
     generalize r[k]=p at *
     generalize r[k+1]=q at *
     have hws:IntKind.u64.wrap ((p.st:Int)+(q.st:Int))=(p.st:Int)+(q.st:Int):=IntWalk.u64_in _ (by omega)
     have hwt:IntKind.u64.wrap ((p.st:Int)+(q.st:Int)+(q.sl:Int))=(p.st:Int)+(q.st:Int)+(q.sl:Int):=IntWalk.u64_in _ (by omega)
     have hkw:IntKind.i64.wrap ((k:Int)+1)=(k:Int)+1:=IntWalk.i64_in _ (by omega)
     unfold sqFrame
     go_wp2
     have hcW:=(Chg.refl [] wr).alloc (.cells #[.int .i64 q.x,.int .u64 q.st,.int .u64 q.sl] 194)
     have c1':=hcW.cell c1 (by simp)
     have d1':=hcW.cell d1 (by simp)
     have hbx:=Blk.alloc_new wr #[.int .i64 q.x,.int .u64 q.st,.int .u64 q.sl] 194
     have HO:=Lib.hid (HR.out.chg hcW (by simp))
     have HCH:=Lib.hid (hch.trans hcW.nil)
     generalize wr.alloc (.cells #[.int .i64 q.x,.int .u64 q.st,.int .u64 q.sl] 194)=W at *
     generalize wr.heap.size=B at *
     have e1:=hbx.cell 1
     have e2:=hbx.cell 2
     clear c0 c1 c2 d0 d1 d2 hbx hcW HR hch
     by_cases hle:p.st+q.st+q.sl≤m
     ·have hdl:decide ((p.st:Int)+(q.st:Int)+(q.sl:Int)≤(m:Int))=true:=decide_eq_true (by omega)
      have HS:=Lib.hid (HT.out hle)
      clear hle HT HF
      go_quiet (fail)
      have HO2:=Lib.hid (show Own (W.drewN nq) 194 3 _ _ _ from HO.out.chg ((Chg.refl [] W).drewN nq) (by simp))
      have HCH2:=Lib.hid (HCH.out.drewN nq)
      have c1'':(W.drewN nq).cell? ⟨b,o+k*3+1,none⟩=_:=c1'
      have d1'':(W.drewN nq).cell? ⟨b,o+(k+1)*3+1,none⟩=_:=d1'
      generalize W.drewN nq=W2 at *
      clear c1' d1' e1 e2 HO HCH hws hwt
      have hfz:=HO2.out.free (o+(k+1)*3+1)
      have hwu:IntKind.u64.wrap ((q.st:Int)+(p.st:Int))=(q.st:Int)+(p.st:Int):=IntWalk.u64_in _ (by omega)
      go_wp2
      go_still_tail 14,(by kernel_rfl)
      change wpList _ _ _ _ _ (World.drew _)
      clear hwu hkw c1''
      have hoS0:=HO2.out.set ((k+1)*3+1) (.int .u64 ((q.st+p.st:Nat):Int))
      rw [←HC.out (q.st+p.st),←Nat.add_assoc o] at hoS0
      have hoS:Own (W2.setCell ⟨b,o+(k+1)*3+1,none⟩ (.int .u64 ((q.st:Int)+(p.st:Int)))) 194 3 (.slice (some ⟨b,o,none⟩) r.length cap) r.length (tpCells (r.set (k+1) ⟨q.x,q.st+p.st,q.sl⟩)):=hoS0
      clear hoS0
      have HCS:=Lib.hid (HCH2.out.setCell (a:=⟨b,o+(k+1)*3+1,none⟩) (.inl (by simp)) (.int .u64 ((q.st:Int)+(p.st:Int)))).drew
      clear HO2 HCH2 HC
      go_wp2_with fail
      refine (delete_tuple' _ b o cap (r.set (k+1) ⟨q.x,q.st+p.st,q.sl⟩) r.length (by simp) k (by omega) hrl hoS.drew).mono ?_
      rintro e w7 ⟨rfl,ho7,hg7⟩
      rw [←HS.out] at ho7
      have hlen:(sqStep m k r).length=r.length-1:=by rw [HS.out];simp;omega
      have HL:=Lib.hid hlen
      clear hlen hoS d1'' hfz
      go_wp2
      go_step3
      refine ⟨⟨_,sqStep m k r,by rw [HL.out];rfl,by omega,by rw [HL.out];omega,by rw [HL.out];omega,HST.out,?_,by rw [HL.out];exact ho7,HCS.out.trans hg7⟩,by simp [sqM,intOf];omega⟩
      rw [←HQ.out,show ((k:Int)-1).toNat=k-1 from by omega,←sqTo_down m k r hk0]
     ·have hdl:decide ((p.st:Int)+(q.st:Int)+(q.sl:Int)≤(m:Int))=false:=decide_eq_false (by omega)
      have HS:=Lib.hid (HF.out hle)
      clear hle HT HF
      go_quiet (fail)
      go_wp2
      go_step3
      refine ⟨⟨_,r,rfl,by omega,by omega,hrl,HFR.out,?_,HO.out,HCH.out.drewN nq⟩,by simp [sqM,intOf];omega⟩
      rw [←HQ.out,show ((k:Int)-1).toNat=k-1 from by omega,sqTo_down m k r hk0,HS.out]
  | _+1=>exact hJ.elim
end Go.Proofs.YthoolcpcmhhkpaaGreatDoor
