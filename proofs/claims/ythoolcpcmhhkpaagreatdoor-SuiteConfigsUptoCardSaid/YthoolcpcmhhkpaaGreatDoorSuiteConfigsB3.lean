/-
  Parts of a proof, pressed. Conditions: the form's own reach.
-/
import Derived.Test.YthoolcpcmhhkpaaGreatDoorSuiteConfigsB2
import Derived.Test.YthoolcpcmhhkpaaGreatDoorSuiteConfigsLBitLen
import Derived.Test.YthoolcpcmhhkpaaGreatDoorSuiteConfigsB1
import Derived.Test.YthoolcpcmhhkpaaGreatDoorProg
import Derived.Laws.StructEq
namespace Go.Proofs.YthoolcpcmhhkpaaGreatDoor
def spShift (L m:Nat):Nat:=Lib.bitLen m-1-L
def spIdx (L m:Nat):Nat:=spShift L m*2^L+m / 2^spShift L m
def spLast (L:Nat):Nat:=(64-L)*2^L
def logD:Nat→Nat
 | 1=>4
 | 2=>7
 | 3=>10
 | 4=>14
 | _=>0
theorem logD_cases {d:Nat} (h1:1≤d) (h2:d≤4):logD d=4∨logD d=7∨logD d=10∨logD d=14:=by
 rcases (show d=1∨d=2∨d=3∨d=4 by omega) with rfl|rfl|rfl|rfl<;>simp [logD]
structure HdD where
 digits:Nat
 limit:Nat
 zero:Nat
 minus:List Pr
 plus:List Pr
 least:Int
 most:Int
def HdD.L (D:HdD):Nat:=logD D.digits
def HdD.idx (D:HdD) (x:Int):Int:=(spIdx D.L x.natAbs:Nat)
def HdD.total (D:HdD):Nat:=totP D.minus+D.zero+totP D.plus
def HdD.side (D:HdD) (x:Int):List Pr:=if x<0 then D.minus else D.plus
def HdD.ends (D:HdD) (lo hi:Int):HdD:=if D.total=0 then { D with least:=lo,most:=hi } else { D with least:=min D.least lo,most:=max D.most hi }
def HdD.setSide (D:HdD) (x:Int) (r:List Pr):HdD:=if x<0 then { D with minus:=r } else { D with plus:=r }
def roomP (r:List Pr) (i:Int):Bool:=decide (cntI r i≠0) || decide (r.length<4096)
def HdD.putE (D:HdD) (x:Int) (c:Nat):Nat:=
 if c=0 then 1 else if 0<D.limit∧D.limit<x.natAbs then 7 else if 9223372036854775807<D.total+c then 6
 else if x≠0∧roomP (D.side x) (D.idx x)=false then 6 else 0
def HdD.put1 (D:HdD) (x:Int) (c:Nat):HdD:=
 if x=0 then { D.ends x x with zero:=D.zero+c } else (D.ends x x).setSide x (refAdd (D.side x) (D.idx x) c)
def HdD.put (D:HdD) (x:Int) (c:Nat):HdD:=if D.putE x c=0 then D.put1 x c else D
def lackP (r o:List Pr):Nat:=(o.filter fun p=>decide (cntI r p.i=0)).length
def HdD.fits (D O:HdD):Bool:=decide (D.minus.length+lackP D.minus O.minus≤4096)&&decide (D.plus.length+lackP D.plus O.plus≤4096)
structure RowHd (L:Nat) (r:List Pr):Prop where
 rises:rises r
 pos:∀ p∈r,1≤p.c
 few:r.length≤4096
 ix:∀ p∈r,1≤p.i∧p.i≤(spLast L:Int)
structure HdD.ok (D:HdD):Prop where
 d1:1≤D.digits
 d2:D.digits≤4
 lim:D.limit≤9223372036854775808
 minus:RowHd D.L D.minus
 plus:RowHd D.L D.plus
 tot:D.total≤9223372036854775807
 none:D.total=0→D.least=0∧D.most=0
 le:D.least≤D.most
 low:-9223372036854775808≤D.least
 high:D.most<9223372036854775808
theorem bitLenAux_bnds:∀ (f x:Nat),1≤x→x<2^f→1≤Lib.bitLenAux f x∧Lib.bitLenAux f x≤f∧2^(Lib.bitLenAux f x-1)≤x∧x<2^Lib.bitLenAux f x:=by
 intro f
 induction f with
 | zero=>intro x h0 h1;simp at h1;omega
 | succ f ih =>
   intro x h0 h1
   rw [Lib.bitLenAux,if_neg (by omega)]
   by_cases hx:x=1
   ·subst hx
    have e:Lib.bitLenAux f (1 / 2)=0:=by
     cases f with
     | zero=>rfl
     | succ f=>rw [Lib.bitLenAux,if_pos (by decide)]
    rw [e]
    simp
   ·have h2:x / 2<2^f:=by rw [Nat.pow_succ] at h1;omega
    obtain ⟨a,b,c,d⟩:=ih (x / 2) (by omega) h2
    refine ⟨by omega,by omega,?_,?_⟩
    ·have e:1+Lib.bitLenAux f (x / 2)-1=(Lib.bitLenAux f (x / 2)-1)+1:=by omega
     rw [e,Nat.pow_succ]
     omega
    ·rw [Nat.add_comm,Nat.pow_succ]
     omega
theorem bitLen_bnds {m:Nat} (h0:1≤m) (h1:m≤two63):1≤Lib.bitLen m∧Lib.bitLen m≤64∧2^(Lib.bitLen m-1)≤m∧m<2^Lib.bitLen m:=
 bitLenAux_bnds 64 m h0 (by unfold two63 at h1;omega)
theorem spIdx_ok {L m:Nat} (hL:L≤20) (h0:1≤m) (h1:m≤two63):1≤spIdx L m∧spIdx L m≤spLast L:=by
 obtain ⟨b1,b2,b3,b4⟩:=bitLen_bnds h0 h1
 obtain ⟨n,hn⟩:∃ n,n=Lib.bitLen m:=⟨_,rfl⟩
 rw [←hn] at b1 b2 b3 b4
 unfold spIdx spLast spShift
 rw [←hn]
 have hP:0<2^L:=Nat.pow_pos (by decide)
 by_cases hk:n-1≤L
 ·have e:n-1-L=0:=by omega
  rw [e]
  simp only [Nat.zero_mul,Nat.pow_zero,Nat.div_one,Nat.zero_add]
  refine ⟨h0,?_⟩
  have h2:2^n≤2^(L+1):=Nat.pow_le_pow_right (by decide) (by omega)
  rw [Nat.pow_succ] at h2
  have h3:2*2^L≤(64-L)*2^L:=Nat.mul_le_mul_right _ (by omega)
  omega
 ·obtain ⟨k,hk2⟩:∃ k,k=n-1-L:=⟨_,rfl⟩
  rw [←hk2]
  have e1:2^(n-1)=2^L*2^k:=by rw [←Nat.pow_add];congr 1;omega
  have hK:0<2^k:=Nat.pow_pos (by decide)
  have h4:2^L≤m / 2^k:=by rw [Nat.le_div_iff_mul_le hK];omega
  refine ⟨by omega,?_⟩
  -- by cases: below the top
  by_cases ht:m=two63
  ·have e2:2^(n-1)≤two63:=by omega
   have en:n=64:=by
    by_cases h:n=64
    ·exact h
    ·have:2^n≤2^63:=Nat.pow_le_pow_right (by decide) (by omega)
     unfold two63 at ht
     omega
   have e3:m / 2^k=2^L:=by
    have:m=2^L*2^k:=by rw [←e1,en,ht];rfl
    rw [this,Nat.mul_div_cancel _ hK]
   rw [e3]
   have:k*2^L+2^L=(k+1)*2^L:=by rw [Nat.succ_mul]
   rw [this]
   exact Nat.mul_le_mul_right _ (by omega)
  ·have hn63:n≤63:=by
    by_cases h:n≤63
    ·exact h
    ·have:2^63≤2^(n-1):=Nat.pow_le_pow_right (by decide) (by omega)
     unfold two63 at ht h1
     omega
   have h5:m / 2^k<2*2^L:=by
    rw [Nat.div_lt_iff_lt_mul hK]
    have:2^n=2*2^L*2^k:=by
     rw [Nat.mul_assoc,←e1,←Nat.pow_succ']
     congr 1
     omega
    omega
   have h6:(k+2)*2^L≤(64-L)*2^L:=Nat.mul_le_mul_right _ (by omega)
   rw [Nat.add_mul] at h6
   omega
theorem refAdd_lenE {l:List Pr} {i:Int} (hr:rises l) (h1:∀ p∈l,1≤p.c) {c:Nat} (hc:1≤c):(refAdd l i c).length=l.length+(if cntI l i=0 then 1 else 0):=by
 obtain ⟨A,M,B,h⟩:=parted hr i
 rw [refAdd,h.filter_lt,h.filter_gt,if_pos (by omega),h.cnt]
 have:=congrArg List.length h.eq
 simp only [List.length_append,List.length_cons,List.length_nil] at this ⊢
 rcases h.mid with rfl|⟨c0,rfl⟩
 ·have hz:cntI [] i=0:=rfl
  rw [hz,if_pos rfl]
  simp at this
  omega
 ·have hz:cntI [⟨i,c0⟩] i=c0:=by simp [cntI]
  have:=h1 ⟨i,c0⟩ (by rw [h.eq];simp)
  rw [hz,if_neg (by simp only at this;omega)]
  simp only [List.length_cons,List.length_nil] at *
  omega
theorem RowHd.add {L:Nat} {r:List Pr} (h:RowHd L r) {i:Int} {c:Nat} (hi:1≤i∧i≤(spLast L:Int)) (hc:1≤c) (hroom:roomP r i=true):RowHd L (refAdd r i c):=by
 refine ⟨refAdd_rises h.rises c,refAdd_pos h.pos c,?_,fun p hp => ?_⟩
 ·rw [refAdd_lenE h.rises h.pos hc]
  unfold roomP at hroom
  have hf:=h.few
  split
  ·rename_i h0
   simp [h0] at hroom
   omega
  ·omega
 ·rcases refAdd_memC hp with ⟨q,hq,e⟩|e
  ·rw [←e];exact h.ix q hq
  ·rw [e];exact hi
theorem HdD.idx_ok {D:HdD} (h:D.ok) {x:Int} (hx:-9223372036854775808≤x∧x<9223372036854775808) (h0:x≠0):1≤D.idx x∧D.idx x≤(spLast D.L:Int):=by
 have hL:D.L≤20:=by
  unfold HdD.L
  rcases logD_cases h.d1 h.d2 with e|e|e|e<;>rw [e]<;>decide
 have:=spIdx_ok hL (m:=x.natAbs) (by omega) (by unfold two63;omega)
 unfold HdD.idx
 omega
theorem HdD.put_ok {D:HdD} (h:D.ok) {x:Int} (hx:-9223372036854775808≤x∧x<9223372036854775808) (c:Nat):(D.put x c).ok:=by
 unfold HdD.put
 split
 case isFalse=>exact h
 rename_i he
 unfold HdD.putE at he
 have hc:1≤c:=by
  rcases Nat.eq_zero_or_pos c with e|e
  ·rw [if_pos e] at he;exact absurd he (by decide)
  ·exact e
 rw [if_neg (by omega)] at he
 by_cases h7:0<D.limit∧D.limit<x.natAbs
 ·rw [if_pos h7] at he;exact absurd he (by decide)
 rw [if_neg h7] at he
 by_cases h6:9223372036854775807<D.total+c
 ·rw [if_pos h6] at he;exact absurd he (by decide)
 rw [if_neg h6] at he
 have h2:=h.le
 have h3:=h.low
 have h4:=h.high
 have ht:D.total=totP D.minus+D.zero+totP D.plus:=rfl
 unfold HdD.put1
 by_cases hx0:x=0
 ·rw [if_pos hx0]
  unfold HdD.ends
  split
  ·exact ⟨h.d1,h.d2,h.lim,h.minus,h.plus,by unfold HdD.total;simp only;omega,fun e=>by unfold HdD.total at e;simp only at e;omega,Int.le_refl _,hx.1,hx.2⟩
  ·exact ⟨h.d1,h.d2,h.lim,h.minus,h.plus,by unfold HdD.total;simp only;omega,fun e=>by unfold HdD.total at e;simp only at e;omega,by simp only;omega,by simp only;omega,by simp only;omega⟩
 rw [if_neg hx0]
 have hroom:roomP (D.side x) (D.idx x)=true:=by
  cases hr:roomP (D.side x) (D.idx x) with
  | true=>rfl
  | false=>rw [if_pos ⟨hx0,hr⟩] at he;exact absurd he (by decide)
 have hi:=HdD.idx_ok h hx hx0
 unfold HdD.side at hroom ⊢
 by_cases hneg:x<0
 ·rw [if_pos hneg] at hroom ⊢
  have hrow:=h.minus.add hi hc hroom
  have htt:=refAdd_tot (i:=D.idx x) h.minus.rises c
  unfold HdD.setSide HdD.ends
  rw [if_pos hneg]
  split
  ·exact ⟨h.d1,h.d2,h.lim,hrow,h.plus,by unfold HdD.total;simp only;omega,fun e=>by unfold HdD.total at e;simp only at e;omega,Int.le_refl _,hx.1,hx.2⟩
  ·exact ⟨h.d1,h.d2,h.lim,hrow,h.plus,by unfold HdD.total;simp only;omega,fun e=>by unfold HdD.total at e;simp only at e;omega,by simp only;omega,by simp only;omega,by simp only;omega⟩
 ·rw [if_neg hneg] at hroom ⊢
  have hrow:=h.plus.add hi hc hroom
  have htt:=refAdd_tot (i:=D.idx x) h.plus.rises c
  unfold HdD.setSide HdD.ends
  rw [if_neg hneg]
  split
  ·exact ⟨h.d1,h.d2,h.lim,h.minus,hrow,by unfold HdD.total;simp only;omega,fun e=>by unfold HdD.total at e;simp only at e;omega,Int.le_refl _,hx.1,hx.2⟩
  ·exact ⟨h.d1,h.d2,h.lim,h.minus,hrow,by unfold HdD.total;simp only;omega,fun e=>by unfold HdD.total at e;simp only at e;omega,by simp only;omega,by simp only;omega,by simp only;omega⟩
end Go.Proofs.YthoolcpcmhhkpaaGreatDoor
namespace Go.Proofs.YthoolcpcmhhkpaaGreatDoor
open Go.RowKit
structure Tens4 (w:World):Prop where
 t1:w.cell? ⟨0,1,none⟩=some (.int .u64 10)
 t2:w.cell? ⟨0,2,none⟩=some (.int .u64 100)
 t3:w.cell? ⟨0,3,none⟩=some (.int .u64 1000)
 t4:w.cell? ⟨0,4,none⟩=some (.int .u64 10000)
theorem Tens4.chg {w w1:World} (h:Tens4 w) (k:Chg [] w w1):Tens4 w1:=⟨k.cell h.t1 (by simp),k.cell h.t2 (by simp),k.cell h.t3 (by simp),k.cell h.t4 (by simp)⟩
def SpanS (w:World) (p d:Nat):Prop:=Blk w p #[.int .i64 (d:Int),.int .i64 (logD d:Nat)] 255
def NewSpan (w w':World) (d:Int) (e:Ending):Prop:=
 (¬(1≤d∧d≤4)∧e=.returned (.tuple #[.pointer none,.int .i64 1])∧Chg [] w w') ∨
 ((1≤d∧d≤4)∧∃ p,e=.returned (.tuple #[.pointer (some ⟨p,0,none⟩),.int .i64 0])∧SpanS w' p d.toNat∧Chg [] w w'∧w.heap.size≤p)
set_option maxRecDepth 100000 in
set_option maxHeartbeats 8000000 in
theorem spans_newD1 (w:World) (ht:w.cell? ⟨0,1,none⟩=some (.int .u64 10)):Calls Tryz.prog 91 #[.int .i64 1] w fun e w'=>e=.returned (.tuple #[.pointer (some ⟨w.heap.size,0,none⟩),.int .i64 0])∧Blk w' w.heap.size #[.int .i64 1,.int .i64 4] 255∧Chg [] w w':=by
 go_enter Tryz.func91,Tryz.ntmps91
 go_wp2_with fail
 go_loopg [] 4 (fun g wx=>g≤4∧Blk wx w.heap.size #[.int .i64 1,.int .i64 ((4-g:Nat):Int)] 255∧Chg [] w wx)
 case atStart=>exact ⟨Nat.le_refl _,Blk.alloc_new w _ _,(Chg.refl [] w).alloc _⟩
 case round =>
  obtain ⟨hg,hb,hc⟩:=hrel
  have c1:=hb.cell 1
  have f1:=hb.free 1
  have t1:=hc.cell ht (by simp)
  simp only [List.getElem?_toArray,List.getElem?_cons_succ,List.getElem?_cons_zero] at c1
  have HB:=Lib.hid hb
  have HC:=Lib.hid hc
  clear hb hc
  rcases (show gk=0∨gk=1∨gk=2∨gk=3∨gk=4 by omega) with rfl|rfl|rfl|rfl|rfl
  ·go_wp2_with fail
   go_quiet (fail)
   go_wp2
   go_ret2
   exact ⟨rfl,HB.out,HC.out.drewN _⟩
  ·go_wp2_with fail
   go_quiet (fail)
   go_wp2
   go_roundg 0
   case measure=>omega
   case rel=>exact ⟨by omega,HB.out.setCell 1 _,(HC.out.drewN nq).setCell (a:=⟨w.heap.size,1,none⟩) (.inr (Nat.le_refl _)) _⟩
  ·go_wp2_with fail
   go_quiet (fail)
   go_wp2
   go_roundg 1
   case measure=>omega
   case rel=>exact ⟨by omega,HB.out.setCell 1 _,(HC.out.drewN nq).setCell (a:=⟨w.heap.size,1,none⟩) (.inr (Nat.le_refl _)) _⟩
  ·go_wp2_with fail
   go_quiet (fail)
   go_wp2
   go_roundg 2
   case measure=>omega
   case rel=>exact ⟨by omega,HB.out.setCell 1 _,(HC.out.drewN nq).setCell (a:=⟨w.heap.size,1,none⟩) (.inr (Nat.le_refl _)) _⟩
  ·go_wp2_with fail
   go_quiet (fail)
   go_wp2
   go_roundg 3
   case measure=>omega
   case rel=>exact ⟨by omega,HB.out.setCell 1 _,(HC.out.drewN nq).setCell (a:=⟨w.heap.size,1,none⟩) (.inr (Nat.le_refl _)) _⟩
set_option maxRecDepth 100000 in
set_option maxHeartbeats 8000000 in
theorem spans_newD2 (w:World) (ht:w.cell? ⟨0,2,none⟩=some (.int .u64 100)):Calls Tryz.prog 91 #[.int .i64 2] w fun e w'=>e=.returned (.tuple #[.pointer (some ⟨w.heap.size,0,none⟩),.int .i64 0])∧Blk w' w.heap.size #[.int .i64 2,.int .i64 7] 255∧Chg [] w w':=by
 go_enter Tryz.func91,Tryz.ntmps91
 go_wp2_with fail
 go_loopg [] 7 (fun g wx=>g≤7∧Blk wx w.heap.size #[.int .i64 2,.int .i64 ((7-g:Nat):Int)] 255∧Chg [] w wx)
 case atStart=>exact ⟨Nat.le_refl _,Blk.alloc_new w _ _,(Chg.refl [] w).alloc _⟩
 case round =>
  obtain ⟨hg,hb,hc⟩:=hrel
  have c1:=hb.cell 1
  have f1:=hb.free 1
  have t1:=hc.cell ht (by simp)
  simp only [List.getElem?_toArray,List.getElem?_cons_succ,List.getElem?_cons_zero] at c1
  have HB:=Lib.hid hb
  have HC:=Lib.hid hc
  clear hb hc
  rcases (show gk=0∨gk=1∨gk=2∨gk=3∨gk=4∨gk=5∨gk=6∨gk=7 by omega) with rfl|rfl|rfl|rfl|rfl|rfl|rfl|rfl
  ·go_wp2_with fail
   go_quiet (fail)
   go_wp2
   go_ret2
   exact ⟨rfl,HB.out,HC.out.drewN _⟩
  ·go_wp2_with fail
   go_quiet (fail)
   go_wp2
   go_roundg 0
   case measure=>omega
   case rel=>exact ⟨by omega,HB.out.setCell 1 _,(HC.out.drewN nq).setCell (a:=⟨w.heap.size,1,none⟩) (.inr (Nat.le_refl _)) _⟩
  ·go_wp2_with fail
   go_quiet (fail)
   go_wp2
   go_roundg 1
   case measure=>omega
   case rel=>exact ⟨by omega,HB.out.setCell 1 _,(HC.out.drewN nq).setCell (a:=⟨w.heap.size,1,none⟩) (.inr (Nat.le_refl _)) _⟩
  ·go_wp2_with fail
   go_quiet (fail)
   go_wp2
   go_roundg 2
   case measure=>omega
   case rel=>exact ⟨by omega,HB.out.setCell 1 _,(HC.out.drewN nq).setCell (a:=⟨w.heap.size,1,none⟩) (.inr (Nat.le_refl _)) _⟩
  ·go_wp2_with fail
   go_quiet (fail)
   go_wp2
   go_roundg 3
   case measure=>omega
   case rel=>exact ⟨by omega,HB.out.setCell 1 _,(HC.out.drewN nq).setCell (a:=⟨w.heap.size,1,none⟩) (.inr (Nat.le_refl _)) _⟩
  ·go_wp2_with fail
   go_quiet (fail)
   go_wp2
   go_roundg 4
   case measure=>omega
   case rel=>exact ⟨by omega,HB.out.setCell 1 _,(HC.out.drewN nq).setCell (a:=⟨w.heap.size,1,none⟩) (.inr (Nat.le_refl _)) _⟩
  ·go_wp2_with fail
   go_quiet (fail)
   go_wp2
   go_roundg 5
   case measure=>omega
   case rel=>exact ⟨by omega,HB.out.setCell 1 _,(HC.out.drewN nq).setCell (a:=⟨w.heap.size,1,none⟩) (.inr (Nat.le_refl _)) _⟩
  ·go_wp2_with fail
   go_quiet (fail)
   go_wp2
   go_roundg 6
   case measure=>omega
   case rel=>exact ⟨by omega,HB.out.setCell 1 _,(HC.out.drewN nq).setCell (a:=⟨w.heap.size,1,none⟩) (.inr (Nat.le_refl _)) _⟩
set_option maxRecDepth 100000 in
set_option maxHeartbeats 8000000 in
theorem spans_newD3 (w:World) (ht:w.cell? ⟨0,3,none⟩=some (.int .u64 1000)):Calls Tryz.prog 91 #[.int .i64 3] w fun e w'=>e=.returned (.tuple #[.pointer (some ⟨w.heap.size,0,none⟩),.int .i64 0])∧Blk w' w.heap.size #[.int .i64 3,.int .i64 10] 255∧Chg [] w w':=by
 go_enter Tryz.func91,Tryz.ntmps91
 go_wp2_with fail
 go_loopg [] 10 (fun g wx=>g≤10∧Blk wx w.heap.size #[.int .i64 3,.int .i64 ((10-g:Nat):Int)] 255∧Chg [] w wx)
 case atStart=>exact ⟨Nat.le_refl _,Blk.alloc_new w _ _,(Chg.refl [] w).alloc _⟩
 case round =>
  obtain ⟨hg,hb,hc⟩:=hrel
  have c1:=hb.cell 1
  have f1:=hb.free 1
  have t1:=hc.cell ht (by simp)
  simp only [List.getElem?_toArray,List.getElem?_cons_succ,List.getElem?_cons_zero] at c1
  have HB:=Lib.hid hb
  have HC:=Lib.hid hc
  clear hb hc
  rcases (show gk=0∨gk=1∨gk=2∨gk=3∨gk=4∨gk=5∨gk=6∨gk=7∨gk=8∨gk=9∨gk=10 by omega) with rfl|rfl|rfl|rfl|rfl|rfl|rfl|rfl|rfl|rfl|rfl
  ·go_wp2_with fail
   go_quiet (fail)
   go_wp2
   go_ret2
   exact ⟨rfl,HB.out,HC.out.drewN _⟩
  ·go_wp2_with fail
   go_quiet (fail)
   go_wp2
   go_roundg 0
   case measure=>omega
   case rel=>exact ⟨by omega,HB.out.setCell 1 _,(HC.out.drewN nq).setCell (a:=⟨w.heap.size,1,none⟩) (.inr (Nat.le_refl _)) _⟩
  ·go_wp2_with fail
   go_quiet (fail)
   go_wp2
   go_roundg 1
   case measure=>omega
   case rel=>exact ⟨by omega,HB.out.setCell 1 _,(HC.out.drewN nq).setCell (a:=⟨w.heap.size,1,none⟩) (.inr (Nat.le_refl _)) _⟩
  ·go_wp2_with fail
   go_quiet (fail)
   go_wp2
   go_roundg 2
   case measure=>omega
   case rel=>exact ⟨by omega,HB.out.setCell 1 _,(HC.out.drewN nq).setCell (a:=⟨w.heap.size,1,none⟩) (.inr (Nat.le_refl _)) _⟩
  ·go_wp2_with fail
   go_quiet (fail)
   go_wp2
   go_roundg 3
   case measure=>omega
   case rel=>exact ⟨by omega,HB.out.setCell 1 _,(HC.out.drewN nq).setCell (a:=⟨w.heap.size,1,none⟩) (.inr (Nat.le_refl _)) _⟩
  ·go_wp2_with fail
   go_quiet (fail)
   go_wp2
   go_roundg 4
   case measure=>omega
   case rel=>exact ⟨by omega,HB.out.setCell 1 _,(HC.out.drewN nq).setCell (a:=⟨w.heap.size,1,none⟩) (.inr (Nat.le_refl _)) _⟩
  ·go_wp2_with fail
   go_quiet (fail)
   go_wp2
   go_roundg 5
   case measure=>omega
   case rel=>exact ⟨by omega,HB.out.setCell 1 _,(HC.out.drewN nq).setCell (a:=⟨w.heap.size,1,none⟩) (.inr (Nat.le_refl _)) _⟩
  ·go_wp2_with fail
   go_quiet (fail)
   go_wp2
   go_roundg 6
   case measure=>omega
   case rel=>exact ⟨by omega,HB.out.setCell 1 _,(HC.out.drewN nq).setCell (a:=⟨w.heap.size,1,none⟩) (.inr (Nat.le_refl _)) _⟩
  ·go_wp2_with fail
   go_quiet (fail)
   go_wp2
   go_roundg 7
   case measure=>omega
   case rel=>exact ⟨by omega,HB.out.setCell 1 _,(HC.out.drewN nq).setCell (a:=⟨w.heap.size,1,none⟩) (.inr (Nat.le_refl _)) _⟩
  ·go_wp2_with fail
   go_quiet (fail)
   go_wp2
   go_roundg 8
   case measure=>omega
   case rel=>exact ⟨by omega,HB.out.setCell 1 _,(HC.out.drewN nq).setCell (a:=⟨w.heap.size,1,none⟩) (.inr (Nat.le_refl _)) _⟩
  ·go_wp2_with fail
   go_quiet (fail)
   go_wp2
   go_roundg 9
   case measure=>omega
   case rel=>exact ⟨by omega,HB.out.setCell 1 _,(HC.out.drewN nq).setCell (a:=⟨w.heap.size,1,none⟩) (.inr (Nat.le_refl _)) _⟩
set_option maxRecDepth 100000 in
set_option maxHeartbeats 8000000 in
theorem spans_newD4 (w:World) (ht:w.cell? ⟨0,4,none⟩=some (.int .u64 10000)):Calls Tryz.prog 91 #[.int .i64 4] w fun e w'=>e=.returned (.tuple #[.pointer (some ⟨w.heap.size,0,none⟩),.int .i64 0])∧Blk w' w.heap.size #[.int .i64 4,.int .i64 14] 255∧Chg [] w w':=by
 go_enter Tryz.func91,Tryz.ntmps91
 go_wp2_with fail
 go_loopg [] 14 (fun g wx=>g≤14∧Blk wx w.heap.size #[.int .i64 4,.int .i64 ((14-g:Nat):Int)] 255∧Chg [] w wx)
 case atStart=>exact ⟨Nat.le_refl _,Blk.alloc_new w _ _,(Chg.refl [] w).alloc _⟩
 case round =>
  obtain ⟨hg,hb,hc⟩:=hrel
  have c1:=hb.cell 1
  have f1:=hb.free 1
  have t1:=hc.cell ht (by simp)
  simp only [List.getElem?_toArray,List.getElem?_cons_succ,List.getElem?_cons_zero] at c1
  have HB:=Lib.hid hb
  have HC:=Lib.hid hc
  clear hb hc
  rcases (show gk=0∨gk=1∨gk=2∨gk=3∨gk=4∨gk=5∨gk=6∨gk=7∨gk=8∨gk=9∨gk=10∨gk=11∨gk=12∨gk=13∨gk=14 by omega) with rfl|rfl|rfl|rfl|rfl|rfl|rfl|rfl|rfl|rfl|rfl|rfl|rfl|rfl|rfl
  ·go_wp2_with fail
   go_quiet (fail)
   go_wp2
   go_ret2
   exact ⟨rfl,HB.out,HC.out.drewN _⟩
  ·go_wp2_with fail
   go_quiet (fail)
   go_wp2
   go_roundg 0
   case measure=>omega
   case rel=>exact ⟨by omega,HB.out.setCell 1 _,(HC.out.drewN nq).setCell (a:=⟨w.heap.size,1,none⟩) (.inr (Nat.le_refl _)) _⟩
  ·go_wp2_with fail
   go_quiet (fail)
   go_wp2
   go_roundg 1
   case measure=>omega
   case rel=>exact ⟨by omega,HB.out.setCell 1 _,(HC.out.drewN nq).setCell (a:=⟨w.heap.size,1,none⟩) (.inr (Nat.le_refl _)) _⟩
  ·go_wp2_with fail
   go_quiet (fail)
   go_wp2
   go_roundg 2
   case measure=>omega
   case rel=>exact ⟨by omega,HB.out.setCell 1 _,(HC.out.drewN nq).setCell (a:=⟨w.heap.size,1,none⟩) (.inr (Nat.le_refl _)) _⟩
  ·go_wp2_with fail
   go_quiet (fail)
   go_wp2
   go_roundg 3
   case measure=>omega
   case rel=>exact ⟨by omega,HB.out.setCell 1 _,(HC.out.drewN nq).setCell (a:=⟨w.heap.size,1,none⟩) (.inr (Nat.le_refl _)) _⟩
  ·go_wp2_with fail
   go_quiet (fail)
   go_wp2
   go_roundg 4
   case measure=>omega
   case rel=>exact ⟨by omega,HB.out.setCell 1 _,(HC.out.drewN nq).setCell (a:=⟨w.heap.size,1,none⟩) (.inr (Nat.le_refl _)) _⟩
  ·go_wp2_with fail
   go_quiet (fail)
   go_wp2
   go_roundg 5
   case measure=>omega
   case rel=>exact ⟨by omega,HB.out.setCell 1 _,(HC.out.drewN nq).setCell (a:=⟨w.heap.size,1,none⟩) (.inr (Nat.le_refl _)) _⟩
  ·go_wp2_with fail
   go_quiet (fail)
   go_wp2
   go_roundg 6
   case measure=>omega
   case rel=>exact ⟨by omega,HB.out.setCell 1 _,(HC.out.drewN nq).setCell (a:=⟨w.heap.size,1,none⟩) (.inr (Nat.le_refl _)) _⟩
  ·go_wp2_with fail
   go_quiet (fail)
   go_wp2
   go_roundg 7
   case measure=>omega
   case rel=>exact ⟨by omega,HB.out.setCell 1 _,(HC.out.drewN nq).setCell (a:=⟨w.heap.size,1,none⟩) (.inr (Nat.le_refl _)) _⟩
  ·go_wp2_with fail
   go_quiet (fail)
   go_wp2
   go_roundg 8
   case measure=>omega
   case rel=>exact ⟨by omega,HB.out.setCell 1 _,(HC.out.drewN nq).setCell (a:=⟨w.heap.size,1,none⟩) (.inr (Nat.le_refl _)) _⟩
  ·go_wp2_with fail
   go_quiet (fail)
   go_wp2
   go_roundg 9
   case measure=>omega
   case rel=>exact ⟨by omega,HB.out.setCell 1 _,(HC.out.drewN nq).setCell (a:=⟨w.heap.size,1,none⟩) (.inr (Nat.le_refl _)) _⟩
  ·go_wp2_with fail
   go_quiet (fail)
   go_wp2
   go_roundg 10
   case measure=>omega
   case rel=>exact ⟨by omega,HB.out.setCell 1 _,(HC.out.drewN nq).setCell (a:=⟨w.heap.size,1,none⟩) (.inr (Nat.le_refl _)) _⟩
  ·go_wp2_with fail
   go_quiet (fail)
   go_wp2
   go_roundg 11
   case measure=>omega
   case rel=>exact ⟨by omega,HB.out.setCell 1 _,(HC.out.drewN nq).setCell (a:=⟨w.heap.size,1,none⟩) (.inr (Nat.le_refl _)) _⟩
  ·go_wp2_with fail
   go_quiet (fail)
   go_wp2
   go_roundg 12
   case measure=>omega
   case rel=>exact ⟨by omega,HB.out.setCell 1 _,(HC.out.drewN nq).setCell (a:=⟨w.heap.size,1,none⟩) (.inr (Nat.le_refl _)) _⟩
  ·go_wp2_with fail
   go_quiet (fail)
   go_wp2
   go_roundg 13
   case measure=>omega
   case rel=>exact ⟨by omega,HB.out.setCell 1 _,(HC.out.drewN nq).setCell (a:=⟨w.heap.size,1,none⟩) (.inr (Nat.le_refl _)) _⟩
set_option maxRecDepth 100000 in
theorem spans_new (w:World) (ht:Tens4 w) (d:Int):Calls Tryz.prog 91 #[.int .i64 d] w fun e w'=>NewSpan w w' d e:=by
 by_cases h:1≤d∧d≤4
 ·have key:∀ (k l:Nat),d=(k:Int)→logD k=l→1≤k→k≤4→(Calls Tryz.prog 91 #[.int .i64 (k:Int)] w fun e w'=>e=.returned (.tuple #[.pointer (some ⟨w.heap.size,0,none⟩),.int .i64 0])∧Blk w' w.heap.size #[.int .i64 (k:Int),.int .i64 (l:Int)] 255∧Chg [] w w')→Calls Tryz.prog 91 #[.int .i64 d] w fun e w'=>NewSpan w w' d e:=by
   intro k l hd hl h1 h2 hc
   subst hd
   refine hc.mono ?_
   rintro e w' ⟨rfl,hb,hk⟩
   exact .inr ⟨h,w.heap.size,rfl,by unfold SpanS;rw [Int.toNat_natCast,hl];exact hb,hk,Nat.le_refl _⟩
  rcases (show d=1∨d=2∨d=3∨d=4 by omega) with rfl|rfl|rfl|rfl
  ·exact key 1 4 rfl rfl (by omega) (by omega) (spans_newD1 w ht.t1)
  ·exact key 2 7 rfl rfl (by omega) (by omega) (spans_newD2 w ht.t2)
  ·exact key 3 10 rfl rfl (by omega) (by omega) (spans_newD3 w ht.t3)
  ·exact key 4 14 rfl rfl (by omega) (by omega) (spans_newD4 w ht.t4)
 ·have H:=Lib.hid h
  by_cases h1:d<1
  ·have d1:decide (d<1)=true:=decide_eq_true h1
   clear h h1
   go_enter Tryz.func91,Tryz.ntmps91
   go_wp2
   go_ret2
   exact .inl ⟨H.out,rfl,Chg.refl _ _⟩
  ·have d1:decide (d<1)=false:=decide_eq_false h1
   have d2:decide (4<d)=true:=decide_eq_true (by omega)
   clear h h1
   go_enter Tryz.func91,Tryz.ntmps91
   go_wp2
   go_ret2
   exact .inl ⟨H.out,rfl,Chg.refl _ _⟩
end Go.Proofs.YthoolcpcmhhkpaaGreatDoor
namespace Go.Proofs.YthoolcpcmhhkpaaGreatDoor
open Go.RowKit
def ints (l:List Int):List Value:=l.map fun u:Int=>Value.int .i64 u
@[simp] theorem ints_length (l:List Int):(ints l).length=l.length:=by simp [ints]
theorem ints_append (a b:List Int):ints (a++b)=ints a++ints b:=by simp [ints]
theorem ints_oneCell (l:List Int):∀ y∈ints l,y.oneCell'=true:=by
 intro y hy
 simp only [ints,List.mem_map] at hy
 obtain ⟨u,_,rfl⟩:=hy
 rfl
theorem ints_at {w:World} {b o:Nat} {l:List Int} (hc:∀ j,j<l.length*1→w.cell? ⟨b,o+j,none⟩=(ints l)[j]?) (k:Nat) (h:k<l.length):w.cell? ⟨b,o+k,none⟩=some (.int .i64 l[k]):=by
 rw [hc k (by omega)]
 simp [ints,h]
theorem under_ints:Tryz.prog.underlying 100=some (.slice 2):=by kernel_rfl
theorem info_i64:(Tryz.prog.info? 2).map (fun i=>(i.zero,i.size,i.bytes))=some (some (.int .i64 0),1,8):=by kernel_rfl
theorem ints_drop (l:List Int) (u j:Nat):(ints (l.drop u))[j]? = (ints l)[u+j]?:=by
 simp [ints,List.getElem?_drop]
end Go.Proofs.YthoolcpcmhhkpaaGreatDoor
namespace Go.Proofs.YthoolcpcmhhkpaaGreatDoor
open Go.RowKit
theorem step_append_src {P:Program} {ops:Array Oper} {w:World} {o:Oper} {a:Act} {K:Act→World→Prop} {Q:Exit→Act→World→Prop} {E:Prop} (hg:o.guard=none) (s x:Operand) (t u:TypeId)
 (ho:o.op=.call { callee:=.builtin .append,args:=#[s,x],argTypes:=#[t,u] })
 (e:TypeId) (z:Value) (size bytes:Nat) (ht:P.underlying t=some (.slice e)) (hinfo:(P.info? e).map (fun i=>(i.zero,i.size,i.bytes))=some (some z,size,bytes))
 (hzs:z.cells.size=size) (hsz:0<size)
 (v:Value) (n:Nat) (xs:List Value) (hs:a.eval s=v) (hown:Own w e size v n xs)
 (xv:Value) (m:Nat) (news:List Value) (hx:a.eval x=xv) (hsrc:Src P w u size xv m news) (h1:∀ y∈news,y.oneCell'=true)
 (h63:n+m≤maxLen) (hbytes:(n+m)*bytes≤140737488355328)
 (h:∀ ao cap w',Own w' e size (.slice ao (n+m) cap) (n+m) (xs++news)→Chg (blkOf v) w w'→(∀ b∈abl ao,b∈blkOf v∨w.heap.size≤b)→K (a.put o.dst (.slice ao (n+m) cap)) w') :
 if Region.wanted o (yielded ops a.tmps)=true then Oper.wp P o a w K Q else E:=by
 obtain ⟨i,hi,hz0,hz1,hz2⟩:=info_parts hinfo
 obtain ⟨v',w',hr,h2,h3,h4⟩:=run_append_src (P:=P) w t u o.type e i z size bytes ht hi hz0 hz1 hz2 hzs hsz v n xs hown xv m news hsrc h1 h63 hbytes
 obtain ⟨ao,cap,rfl⟩:=h2.shape
 have hw:Region.wanted o (yielded ops a.tmps)=true:=by simp [Region.wanted,hg]
 rw [if_pos hw]
 have hK:=h ao cap w' h2 h3 (fun b hb=>by
  rcases h4 with h4|h4
  ·left;rw [←h4];simpa using hb
  ·right
   rw [blkOf_slice] at h4
   rw [h4] at hb
   simp at hb
   omega)
 unfold Oper.wp
 simp [execOp,ho,resolve,invoke,builtin,hs,hx,hr,Result.andThen]
 exact hK
end Go.Proofs.YthoolcpcmhhkpaaGreatDoor
namespace Go.Proofs.YthoolcpcmhhkpaaGreatDoor
open Go.RowKit
end Go.Proofs.YthoolcpcmhhkpaaGreatDoor
namespace Go.Proofs.YthoolcpcmhhkpaaGreatDoor
open Go.RowKit
theorem Own.set {w:World} {e:TypeId} {size n cap g o:Nat} {xs:List Value} (h:Own w e size (.slice (some ⟨g,o,none⟩) n cap) n xs) (j:Nat) (u:Value) :
 Own (w.setCell ⟨g,o+j,none⟩ u) e size (.slice (some ⟨g,o,none⟩) n cap) n (xs.set j u):=by
 obtain ⟨hl,⟨h1,_⟩|⟨g',o',cp,cur,h1,hg,h2,h3,h4,h5⟩⟩:=h
 ·simp at h1
 ·simp only [Value.slice.injEq,Option.some.injEq,Addr.mk.injEq,true_and,and_true] at h1
  obtain ⟨⟨rfl,rfl⟩,rfl⟩:=h1
  have hb:Blk w g cur e:=hg
  refine ⟨by rw [List.length_set];exact hl,.inr ⟨g,o,cap,_,rfl,hb.setCell (o+j) u,h2,h3,by simpa using h4,?_⟩⟩
  rw [Array.toList_setIfInBounds,←h5]
  rw [List.drop_set,if_neg (by omega),Nat.add_sub_cancel_left,List.take_set]
end Go.Proofs.YthoolcpcmhhkpaaGreatDoor
namespace Go.Proofs.YthoolcpcmhhkpaaGreatDoor
open Go.RowKit
theorem step_calls {P:Program} {ops:Array Oper} {w:World} {o:Oper} {a:Act} {K:Act→World→Prop} {Q:Exit→Act→World→Prop} {E:Prop} (hg:o.guard=none) (f:Nat) (args:Array Operand) (ts:Array TypeId)
 (ho:o.op=.call { callee:=.value (.func f),args:=args,argTypes:=ts })
 (he:∀ args w,(callFunc f args).run P w=.ok (.enter f args) w) (R:Ending→World→Prop) (vs:Array Value) (hv:args.map a.eval=vs) (hc:Calls P f vs w R)
 (h:∀ e w',R e w'→∃ v,e=.returned v∧K (a.put o.dst v) w') :
 if Region.wanted o (yielded ops a.tmps)=true then Oper.wp P o a w K Q else E:=by
 have hw:Region.wanted o (yielded ops a.tmps)=true:=by simp [Region.wanted,hg]
 rw [if_pos hw]
 have hrun:(execOp a.eval o).run P w=.ok (.enter f vs) w:=by
  simp [execOp,ho,resolve,invoke,go_sem,he,hv]
 rw [Oper.wp,hrun,Oper.upon_enter]
 refine hc.mono fun e w' hr => ?_
 obtain ⟨v,rfl,hk⟩:=h e w' hr
 exact hk
end Go.Proofs.YthoolcpcmhhkpaaGreatDoor
namespace Go.Proofs.YthoolcpcmhhkpaaGreatDoor
open Go.RowKit
section
variable {P:Program} {ops:Array Oper} {Q:Exit→Act→World→Prop} {md:Region.Mode} {S:World→Prop} {st:Nat}
def waitsB (md:Region.Mode) (ops:Array Oper) (st i:Nat):Bool:=match ops[st]? with
 | some o=>o.after.toList.any (fun e=>Region.binds md e&&e.on==i)
 | none=>true
def wpG (P:Program) (md:Region.Mode) (ops:Array Oper) (Q:Exit→Act→World→Prop) (S:World→Prop) (st:Nat):Nat→Array Bool→Act→World→Prop
 | 0,seen,a,w=>Region.ready md ops seen=[]∧Q .normal a w
 | m+1,seen,a,w=>(Region.ready md ops seen=[]→Q .normal a w) ∧
   ∀ j∈Region.ready md ops seen,wpOp P ops Q j (fun b u=>(j≠st→seen.getD st true=false→S u)∧wpG P md ops Q S st m (seen.setIfInBounds j true) b u) a w
theorem wpG_any:∀ (m:Nat) (seen:Array Bool) (a:Act) (w:World),wpG P md ops Q S st m seen a w→wpAny P md ops Q m seen a w
 | 0,_,_,_,h=>h
 | m+1,_,_,_,h=>⟨h.1,fun j hj=>wpOp_mono (fun b u k=>wpG_any m _ b u k.2) (h.2 j hj)⟩
theorem wpG_first {T:World→Prop} {i:Nat} {oi:Oper} {v:Value} (hi:ops[i]? = some oi) (hno:Region.noSelect ops=true) (his:i≠st)
 (hQ:∀ c a w,Q (.panic c) (a.put oi.dst v) w→Q (.panic c) a w) :
 ∀ (m:Nat) (seen:Array Bool) (a:Act) (w:World),
   ((∀ u,T u)∨((∀ u,S u→T u)∧waitsB md ops st i=true∧seen.getD st true=false)) →
   (∀ j oj,ops[j]? = some oj→j≠i→seen.getD j true=false→(∀ e∈oj.after,Region.binds md e=true→e.on≠i)→oi.apart ops oj=true) →
   i∈Region.ready md ops seen→YieldsIf P ops T oi v a→T w→(seen.getD st true=false→S w) →
   wpG P md ops Q S st m (seen.setIfInBounds i true) (a.put oi.dst v) w→wpG P md ops Q S st (m+1) seen a w
 | m,seen,a,w=>fun hT hap hr hy hTw hS H=>by
   have hun:=(mem_ready.1 hr).1
   refine ⟨fun h=>(by rw [h] at hr;cases hr),fun j hj => ?_⟩
   rcases Decidable.em (j=i) with rfl|hji
   ·exact hy.wpOp hi hTw ⟨fun _=>hS,H⟩
   ·obtain ⟨hjun,oj,hoj,hall⟩:=mem_ready.1 hj
    have hwait:∀ e∈oj.after,Region.binds md e=true→e.on≠i:=fun e he hb heq=>by
     have h1:=hall e he hb
     rw [heq] at h1
     by_cases hlt:i<seen.size
     ·simp [hlt] at hun h1
      rw [hun] at h1
      cases h1
     ·simp [Array.getElem?_eq_none (Nat.le_of_not_lt hlt)] at h1
    have hjst:waitsB md ops st i=true→j≠st:=fun hw e=>by
     subst e
     simp only [waitsB,hoj,List.any_eq_true,Bool.and_eq_true,beq_iff_eq] at hw
     obtain ⟨e,he,hb,heq⟩:=hw
     exact hwait e (by simpa using he) hb heq
    match m,H with
    | 0,H =>
      have h1:=ready_mono hj hji
      rw [H.1] at h1
      cases h1
    | m+1,H =>
      have h2:=wpOp_putIf hoj (hap j oj hoj hji hjun hwait) (fun cs b=>Region.noSelect_spec hno i oi cs b hi) (fun cs b=>Region.noSelect_spec hno j oj cs b hoj) hQ hy (H.2 j (ready_mono hj hji))
      have hSu:∀ u,(j≠st→(seen.setIfInBounds i true).getD st true=false→S u)→j≠st→seen.getD st true=false→S u:=fun u h1 h4 h5=>h1 h4 (by rw [getD_set_ne true his];exact h5)
      refine wpOp_mono (fun b u h3=>⟨fun h4 h5=>hSu u h3.2.1 h4 h5,wpG_first hi hno his hQ m (seen.setIfInBounds j true) b u ?_ (fun k ok hk hki hkun hkno => ?_) (ready_mono hr (Ne.symm hji)) h3.1 ?_ (fun h5 => ?_) ?_⟩) h2
      ·rcases hT with hT|⟨hT,hw,hs⟩
       ·exact .inl hT
       ·exact .inr ⟨hT,hw,by rw [getD_set_ne true (hjst hw)];exact hs⟩
      ·refine hap k ok hk hki ?_ hkno
       by_cases hjk:j=k
       ·subst hjk;exact hjun
       ·rw [getD_set_ne true hjk] at hkun;exact hkun
      ·rcases hT with hT|⟨hT,hw,hs⟩
       ·exact hT u
       ·exact hT u (hSu u h3.2.1 (hjst hw) hs)
      ·have hjs:j≠st:=fun e=>by
        subst e
        by_cases hlt:j<seen.size
        ·simp [hlt] at h5
        ·simp [Nat.le_of_not_lt hlt] at h5
       rw [getD_set_ne true hjs] at h5
       exact hSu u h3.2.1 hjs h5
      ·rw [Array.setIfInBounds_comm _ _ hji]
       exact h3.2.2
end
section
variable {P:Program} {l:List Oper} {Q:Exit→Act→World→Prop} {md:Region.Mode} {S:World→Prop} {st:Nat}
theorem startG {id:Nat} {a:Act} {w:World} (hm:P.follows .mixedOrders=true) (hS:S w.drew)
 (h:S w.drew→wpG P .any l.toArray Q S st l.toArray.size (Array.replicate l.toArray.size false) a w.drew):(Code.region id l.toArray true).wp P Q a w:=
 wp_region_any hm (wpG_any _ _ _ _ (h hS))
theorem takeG {i:Nat} {oi:Oper} {v:Value} {m:Nat} {seen:Array Bool} {a:Act} {w:World} (hi:l[i]? = some oi)
 (hno:Region.noSelect l.toArray=true) (hf:Region.free md l.toArray seen i=true) (hr:(Region.ready md l.toArray seen).contains i=true) (his:i≠st) (hw:waitsB md l.toArray st i=true) (hs:seen.getD st true=false)
 (hQ:∀ c a w,Q (.panic c) (a.put oi.dst v) w→Q (.panic c) a w) (hy:YieldsIf P l.toArray S oi v a) (hS:S w)
 (h:wpG P md l.toArray Q S st m (seen.setIfInBounds i true) (a.put oi.dst v) w):wpG P md l.toArray Q S st (m+1) seen a w:=by
 have hi':l.toArray[i]? = some oi:=by simpa using hi
 exact wpG_first (T:=S) hi' hno his hQ m seen a w (.inr ⟨fun _ h=>h,hw,hs⟩) (Region.free_spec hi' hf) (by simpa using hr) hy hS (fun _=>hS) h
theorem takeP {i:Nat} {oi:Oper} {v:Value} {m:Nat} {seen:Array Bool} {a:Act} {w:World} (hi:l[i]? = some oi)
 (hno:Region.noSelect l.toArray=true) (hf:Region.free md l.toArray seen i=true) (hr:(Region.ready md l.toArray seen).contains i=true) (his:i≠st)
 (hQ:∀ c a w,Q (.panic c) (a.put oi.dst v) w→Q (.panic c) a w) (hy:YieldsIf P l.toArray (fun _=>True) oi v a) (hS:S w)
 (h:wpG P md l.toArray Q S st m (seen.setIfInBounds i true) (a.put oi.dst v) w):wpG P md l.toArray Q S st (m+1) seen a w:=by
 have hi':l.toArray[i]? = some oi:=by simpa using hi
 exact wpG_first (T:=fun _=>True) hi' hno his hQ m seen a w (.inl fun _=>trivial) (Region.free_spec hi' hf) (by simpa using hr) hy trivial (fun _=>hS) h
def WaysG (P:Program) (md:Region.Mode) (l:List Oper) (Q:Exit→Act→World→Prop) (S:World→Prop) (st:Nat) (m:Nat) (seen:Array Bool) (a:Act) (w:World) (rs:List Nat):Prop:=
 ∀ i∈rs,wpOp P l.toArray Q i (fun b u=>(i≠st→seen.getD st true=false→S u)∧wpG P md l.toArray Q S st m (seen.setIfInBounds i true) b u) a w
theorem nilG {m:Nat} {seen:Array Bool} {a:Act} {w:World}:WaysG P md l Q S st m seen a w []:=fun _ h=>by cases h
theorem consG {m:Nat} {seen:Array Bool} {a:Act} {w:World} {i:Nat} {o:Oper} {rs:List Nat} (ho:l[i]? = some o)
 (h:∀ K':Act→World→Prop,Shut (∀ b u,(i≠st→seen.getD st true=false→S u)→((i≠st→seen.getD st true=false→S u)→wpG P md l.toArray Q S st m (seen.setIfInBounds i true) b u)→K' b u)→if Region.wanted o (yielded l.toArray a.tmps)=true then Oper.wp P o a w K' Q else K' (a.put o.dst undef) w)
 (hs:WaysG P md l Q S st m seen a w rs):WaysG P md l Q S st m seen a w (i::rs):=fun j hj=>by
 rcases List.mem_cons.1 hj with rfl|hj
 ·exact wpOp_step (by simpa using ho) (fun K' hK=>h K' (fun b u hS hW=>hK b u ⟨hS,hW hS⟩))
 ·exact hs j hj
theorem readyG {rs:List Nat} {m:Nat} {seen:Array Bool} {a:Act} {w:World} (hr:Region.ready md l.toArray seen=rs) (hne:rs≠[])
 (h:WaysG P md l Q S st m seen a w rs):wpG P md l.toArray Q S st (m+1) seen a w:=⟨fun h0=>absurd (hr ▸ h0) hne,hr ▸ h⟩
theorem doneG {seen:Array Bool} {a:Act} {w:World} (hr:Region.ready md l.toArray seen=[]) (h:Q .normal a w):∀ m,wpG P md l.toArray Q S st m seen a w
 | 0=>⟨hr,h⟩
 | _+1=>⟨fun _=>h,by rw [hr];simp⟩
end
end Go.Proofs.YthoolcpcmhhkpaaGreatDoor
namespace Go.Proofs.YthoolcpcmhhkpaaGreatDoor
open Go.RowKit
theorem step_callsG {P:Program} {ops:Array Oper} {w:World} {o:Oper} {a:Act} {K:Act→World→Prop} {Q:Exit→Act→World→Prop} {E:Prop} (hw:Region.wanted o (yielded ops a.tmps)=true) (f:Nat) (args:Array Operand) (ts:Array TypeId)
 (ho:o.op=.call { callee:=.value (.func f),args:=args,argTypes:=ts })
 (he:∀ args w,(callFunc f args).run P w=.ok (.enter f args) w) (R:Ending→World→Prop) (vs:Array Value) (hv:args.map a.eval=vs) (hc:Calls P f vs w R)
 (h:∀ e w',R e w'→∃ v,e=.returned v∧K (a.put o.dst v) w') :
 if Region.wanted o (yielded ops a.tmps)=true then Oper.wp P o a w K Q else E:=by
 rw [if_pos hw]
 have hrun:(execOp a.eval o).run P w=.ok (.enter f vs) w:=by
  simp [execOp,ho,resolve,invoke,go_sem,he,hv]
 rw [Oper.wp,hrun,Oper.upon_enter]
 refine hc.mono fun e w' hr => ?_
 obtain ⟨v,rfl,hk⟩:=h e w' hr
 exact hk
end Go.Proofs.YthoolcpcmhhkpaaGreatDoor
namespace Go.Proofs.YthoolcpcmhhkpaaGreatDoor
open Go.RowKit
structure Cf where
 kind:Int
 num:Nat
 den:Nat
 side:Int
 most:Int
 digits:Int
 limit:Nat
 depth:Int
 factor:Int
 width:Int
 word:Nat
def Cf.cells (c:Cf):Array Value:=#[.int .i64 c.kind,.int .u64 c.num,.int .u64 c.den,.int .i64 c.side,.int .i64 c.most,.int .i64 c.digits,.int .u64 c.limit,.int .i64 c.depth,.int .i64 c.factor,.int .i64 c.width,.int .u64 c.word]
def Cf.val (c:Cf):Value:=.agg c.cells
def Cf.none (k:Int):Cf:=⟨k,0,0,0,0,0,0,0,0,0,0⟩
set_option maxRecDepth 100000 in
set_option maxHeartbeats 2000000 in
theorem bare_req (w:World) (c:Cf) (hk:c.kind=5):Calls Tryz.prog 69 #[c.val] w fun e w'=>e=.returned ({ Cf.none 5 with width:=c.width,word:=c.word }:Cf).val∧Chg [] w w':=by
 obtain ⟨k,num,den,side,most,digits,limit,depth,factor,width,word⟩:=c
 simp only at hk
 subst hk
 simp only [Cf.val,Cf.cells,Cf.none]
 go_enter Tryz.func69,Tryz.ntmps69
 go_wp2_with fail
 go_region_with (fail)
 all_goals
  go_wp2
  refine bodyPost_ret (v:=.agg #[.int .i64 5,.int .u64 0,.int .u64 0,.int .i64 0,.int .i64 0,.int .i64 0,.int .u64 0,.int .i64 0,.int .i64 0,.int .i64 width,.int .u64 word]) (by simp [results,Tryz.results69,go_sem]) rfl ?_
  exact ⟨rfl,by with_reducible (repeat (first|exact Chg.refl _ _|apply Chg.alloc|apply Chg.drew|(apply Chg.setCell;simp)))⟩
set_option maxRecDepth 100000 in
set_option maxHeartbeats 2000000 in
theorem bare_hdr (w:World) (c:Cf) (hk:c.kind=2):Calls Tryz.prog 69 #[c.val] w fun e w'=>e=.returned ({ Cf.none 2 with digits:=c.digits,limit:=c.limit }:Cf).val∧Chg [] w w':=by
 obtain ⟨k,num,den,side,most,digits,limit,depth,factor,width,word⟩:=c
 simp only at hk
 subst hk
 simp only [Cf.val,Cf.cells,Cf.none]
 go_enter Tryz.func69,Tryz.ntmps69
 go_wp2_with fail
 go_region_with (fail)
 all_goals
  go_wp2
  refine bodyPost_ret (v:=.agg #[.int .i64 2,.int .u64 0,.int .u64 0,.int .i64 0,.int .i64 0,.int .i64 digits,.int .u64 limit,.int .i64 0,.int .i64 0,.int .i64 0,.int .u64 0]) (by simp [results,Tryz.results69,go_sem]) rfl ?_
  exact ⟨rfl,by with_reducible (repeat (first|exact Chg.refl _ _|apply Chg.alloc|apply Chg.drew|(apply Chg.setCell;simp)))⟩
end Go.Proofs.YthoolcpcmhhkpaaGreatDoor
