/-
  Parts of a proof, pressed. Conditions: the form's own reach.
-/
import Derived.Test.YthoolcpcmhhkpaaGreatDoorSuiteConfigsB10
import Derived.Test.YthoolcpcmhhkpaaGreatDoorProg
import Derived.Test.YthoolcpcmhhkpaaGreatDoorSuiteConfigsB1
import Derived.Test.YthoolcpcmhhkpaaGreatDoorSuiteConfigsLBitLen
import Derived.Lib.Strings
import Derived.Lib.Slices
import Derived.Lib.Small
import Derived.Lib.Walk
import Derived.Lib.BitFns
namespace Go.Proofs.YthoolcpcmhhkpaaGreatDoor
theorem totL_take_le (l:List Lp) (k:Nat):totL (l.take k)≤totL l:=by
 conv=>rhs;rw [←List.take_append_drop k l,totL_app]
 omega
structure Sc where
 num:Nat
 den:Nat
 at_:Int
 ahead:Nat
def pairN (l:List Lp) (k:Nat):Nat:=(l.getD k default).n+(l.getD (k+1) default).n
def costD (T ahead n:Nat):Nat:=min ahead (T-ahead-n)+1
def betterS (s:Sc) (n d:Nat):Bool:=decide (s.at_<0) || decide (n*s.den<s.num*d)
def scanL (l:List Lp) (T:Nat):Nat→Sc
 | 0=>⟨0,0,-1,0⟩
 | k+1 =>
   let s:=scanL l T k
   let n:=pairN l k
   let d:=costD T s.ahead n
   if betterS s n d then ⟨n,d,k,s.ahead+(l.getD k default).n⟩ else ⟨s.num,s.den,s.at_,s.ahead+(l.getD k default).n⟩
theorem scanL_ahead (l:List Lp) (T:Nat):∀ k,k≤l.length→(scanL l T k).ahead=totL (l.take k)
 | 0,_=>rfl
 | k+1,h=>by
   have ih:=scanL_ahead l T k (by omega)
   have hk:k<l.length:=by omega
   have e:totL (l.take (k+1))=totL (l.take k)+(l.getD k default).n:=by
    rw [List.take_succ_eq_append_getElem hk,totL_app,totL_cons,totL_nil]
    simp [List.getD,hk]
   rw [e,←ih,scanL]
   split<;>rfl
theorem scanL_at (l:List Lp) (T:Nat):∀ k,-1≤(scanL l T k).at_∧(scanL l T k).at_<k∧(0<k→0≤(scanL l T k).at_)
 | 0=>by simp [scanL]
 | k+1=>by
   have ih:=scanL_at l T k
   rw [scanL]
   split
   ·simp only;omega
   ·rename_i hb
    simp only
    refine ⟨ih.1,by omega,fun _ => ?_⟩
    rcases Nat.eq_zero_or_pos k with h0|h0
    ·subst h0
     exact absurd (by simp [betterS,scanL]) hb
    ·exact ih.2.2 h0
theorem pairN_le (l:List Lp) (k:Nat) (h:k+1<l.length):totL (l.take k)+pairN l k+totL (l.drop (k+2))=totL l:=by
 obtain ⟨a,b,e,ea,eb⟩:=melt_parts h
 unfold pairN
 rw [ea,eb]
 conv=>rhs;rw [e]
 rw [totL_app,totL_cons,totL_cons]
 omega
theorem scanL_le (l:List Lp):∀ k,k+1≤l.length→(scanL l (totL l) k).num≤totL l∧(scanL l (totL l) k).den≤totL l+1∧(0<k→0<(scanL l (totL l) k).den)
 | 0,_=>by simp [scanL]
 | k+1,h=>by
   have ih:=scanL_le l k (by omega)
   have h1:=pairN_le l k (by omega)
   have h2:=scanL_ahead l (totL l) k (by omega)
   rw [scanL]
   split
   ·simp only [costD];omega
   ·rename_i hb
    refine ⟨ih.1,ih.2.1,fun _ => ?_⟩
    rcases Nat.eq_zero_or_pos k with h0|h0
    ·subst h0
     exact absurd (by simp [betterS,scanL]) hb
    ·exact ih.2.2 h0
def atL (l:List Lp):Nat:=(scanL l (totL l) (l.length-1)).at_.toNat
theorem atL_lt {l:List Lp} (h:1<l.length):atL l+1<l.length:=by
 have:=scanL_at l (totL l) (l.length-1)
 unfold atL
 omega
theorem atL_eq {l:List Lp} (h:1<l.length):(scanL l (totL l) (l.length-1)).at_=(atL l:Nat):=by
 have:=scanL_at l (totL l) (l.length-1)
 unfold atL
 omega
def pressN:Nat→Nat→List Lp→List Lp
 | 0,_,l=>l
 | f+1,most,l=>if l.length≤most then l else pressN f most (meltL l (atL l))
def pressL (most:Nat) (l:List Lp):List Lp:=pressN l.length most l
theorem pressN_few {f most:Nat} {l:List Lp} (h:l.length≤most):pressN f most l=l:=by
 cases f with
 | zero=>rfl
 | succ f=>rw [pressN,if_pos h]
theorem pressN_more (most:Nat) (hm:1≤most):∀ (f g:Nat) (l:List Lp),risesL l→l.length≤f→l.length≤g→pressN f most l=pressN g most l
 | 0,g,l,_,hf,_=>by
   rw [pressN_few (f:=g) (by omega)]
   rfl
 | f+1,0,l,_,_,hg=>by
   rw [pressN_few (f:=f+1) (by omega)]
   rfl
 | f+1,g+1,l,hr,hf,hg=>by
   rw [pressN,pressN]
   by_cases h:l.length≤most
   ·rw [if_pos h,if_pos h]
   ·rw [if_neg h,if_neg h]
    have h1:=melt_len hr (atL_lt (l:=l) (by omega))
    exact pressN_more most hm f g _ (melt_rises hr _) (by omega) (by omega)
theorem pressL_few {most:Nat} {l:List Lp} (h:l.length≤most):pressL most l=l:=pressN_few h
theorem pressL_step {most:Nat} {l:List Lp} (hr:risesL l) (hm:1≤most) (h:most<l.length):pressL most l=pressL most (meltL l (atL l)):=by
 unfold pressL
 have h1:=melt_len hr (atL_lt (l:=l) (by omega))
 obtain ⟨n,hn⟩:∃ n,l.length=n+1:=⟨l.length-1,by omega⟩
 rw [hn,pressN,if_neg (by omega)]
 exact pressN_more most hm _ _ _ (melt_rises hr _) (by omega) (Nat.le_refl _)
theorem press_ind {most:Nat} (hm:1≤most) (P:List Lp→Prop) (hP:∀ l k,risesL l→P l→k+1<l.length→P (meltL l k)) :
 ∀ (n:Nat) (l:List Lp),l.length≤n→risesL l→P l→risesL (pressL most l)∧P (pressL most l)∧(pressL most l).length≤most
 | n,l,hn,hr,h=>by
   by_cases hle:l.length≤most
   ·rw [pressL_few hle]
    exact ⟨hr,h,hle⟩
   ·have h1:=melt_len hr (atL_lt (l:=l) (by omega))
    rw [pressL_step hr hm (by omega)]
    cases n with
    | zero=>omega
    | succ n=>exact press_ind hm P hP n _ (by omega) (melt_rises hr _) (hP l _ hr h (atL_lt (by omega)))
theorem melt_pos {l:List Lp} (h:∀ p∈l,1≤p.n∧p.lo≤p.hi) {k:Nat} (hk:k+1<l.length):∀ q∈meltL l k,1≤q.n∧q.lo≤q.hi:=by
 obtain ⟨a,b,e,ea,eb⟩:=melt_parts hk
 have ha:=h a (by rw [e];simp)
 have hb:=h b (by rw [e];simp)
 unfold meltL
 rw [ea,eb]
 refine lay_pos (fun q hq=>h q ?_) (by simp only;omega) (by simp only;omega)
 rw [e]
 rcases List.mem_append.1 hq with h1|h1<;>simp [h1]
def loL (l:List Lp):Int:=(l.headD default).lo
def hiL (l:List Lp):Int:=l.foldl (fun m p=>max m p.hi) (l.headD default).hi
theorem fold_hi_ge (l:List Lp):∀ z,z≤l.foldl (fun m p=>max m p.hi) z∧∀ p∈l,p.hi≤l.foldl (fun m p=>max m p.hi) z:=by
 induction l with
 | nil=>intro z;simp
 | cons q l ih =>
   intro z
   obtain ⟨h1,h2⟩:=ih (max z q.hi)
   simp only [List.foldl_cons]
   refine ⟨by omega,fun p hp => ?_⟩
   rcases List.mem_cons.1 hp with rfl|hp
   ·omega
   ·exact h2 p hp
theorem fold_hi_at (l:List Lp):∀ z,l.foldl (fun m p=>max m p.hi) z=z∨∃ p∈l,p.hi=l.foldl (fun m p=>max m p.hi) z:=by
 induction l with
 | nil=>intro z;simp
 | cons q l ih =>
   intro z
   simp only [List.foldl_cons]
   rcases ih (max z q.hi) with h|⟨p,hp,h⟩
   ·rw [h]
    by_cases hq:q.hi≤z
    ·left;omega
    ·right;exact ⟨q,by simp,by omega⟩
   ·exact .inr ⟨p,by simp [hp],h⟩
theorem endsL_of {l:List Lp} (hr:risesL l) (h0:l≠[]):EndsL l (loL l) (hiL l):=by
 obtain ⟨p,r,rfl⟩:=List.exists_cons_of_ne_nil h0
 have h1:=List.pairwise_cons.1 hr
 obtain ⟨g1,g2⟩:=fold_hi_ge (p::r) p.hi
 refine ⟨fun q hq => ?_,fun q hq => ?_,⟨p,by simp,rfl⟩,?_⟩
 ·unfold loL
  rw [List.headD_cons]
  rcases List.mem_cons.1 hq with rfl|hq
  ·exact Int.le_refl _
  ·have:=h1.1 q hq
   unfold ltL at this
   rw [decide_eq_true_eq] at this
   omega
 ·unfold hiL
  rw [List.headD_cons]
  exact g2 q hq
 ·unfold hiL
  rw [List.headD_cons]
  rcases fold_hi_at (p::r) p.hi with h|h
  ·exact ⟨p,by simp,h.symm⟩
  ·exact h
theorem EndsL.same {l:List Lp} {a b c d:Int} (h:EndsL l a b) (k:EndsL l c d):a=c∧b=d:=by
 obtain ⟨p,hp,e1⟩:=h.atLow
 obtain ⟨q,hq,e2⟩:=h.atHigh
 obtain ⟨r,hr,e3⟩:=k.atLow
 obtain ⟨s,hs,e4⟩:=k.atHigh
 have h1:=h.low r hr
 have h2:=h.high s hs
 have h3:=k.low p hp
 have h4:=k.high q hq
 omega
theorem OfL.told {l:List Lp} {m:List Vl} (h:OfL l m) (hm:m≠[]):loL l=loV m∧hiL l=hiV m:=
 (endsL_of h.rises (fun e=>hm (h.nil.1 e))).same (h.ends hm)
end Go.Proofs.YthoolcpcmhhkpaaGreatDoor
namespace Go.Proofs.YthoolcpcmhhkpaaGreatDoor
open Go.RowKit
set_option maxRecDepth 100000 in
set_option maxHeartbeats 2000000 in
theorem lump_cost (w:World) (p:Nat) (ao:Option Addr) (cap n:Nat) (most:Int) (l:List Lp) (hn:n=l.length) (T:Nat) (ht:Lms w p (.slice ao n cap) most l T) (hl:n≤1000) (i:Nat) (hi:i+1<n) (ah:Nat) (hT:ah+pairN l i≤T) (hT2:T<9223372036854775808) (N D:Nat) (hN:N=pairN l i) (hD:D=costD T ah N) :
 Calls Tryz.prog 225 #[.pointer (some ⟨p,0,none⟩),.int .i64 (i:Nat),.int .u64 (ah:Nat)] w fun e w'=>e=.returned (.agg #[.int .u64 (N:Nat),.int .u64 (D:Nat)])∧Chg [] w w':=by
 obtain ⟨g,o,rfl⟩:∃ g o,ao=some ⟨g,o,none⟩:=by
  obtain ⟨b,o,h,-⟩:=ht.own.rd.addr (by omega)
  exact ⟨b,o,h⟩
 obtain ⟨x,hx⟩:∃ x,x=l.getD i default:=⟨_,rfl⟩
 obtain ⟨y,hy⟩:∃ y,y=l.getD (i+1) default:=⟨_,rfl⟩
 obtain ⟨i1,hi1⟩:∃ z,z=i+1:=⟨_,rfl⟩
 have hxl:l[i]'(by omega)=x:=by rw [hx];simp [List.getD,show i<l.length by omega]
 have hyl:l[i1]'(by omega)=y:=by rw [hy];simp [List.getD,hi1,show i+1<l.length by omega]
 have hxy:N=x.n+y.n:=by rw [hN,pairN,←hx,←hy]
 have ht1:=ht.chg ((Chg.refl [] w).alloc (.cells #[.int .u64 0,.int .u64 0] 25)) (by simp)
 have hcs:=ht1.own.cells
 have e0:(w.alloc (.cells #[.int .u64 0,.int .u64 0] 25)).cell? ⟨g,o+i*3,none⟩=some (.int .u64 (x.n:Nat)):=by
  rw [hcs (i*3) (by omega)]
  have t:=lpCells_get l i 0 (by omega) (by omega)
  rw [hxl] at t
  simpa [Lp.cells] using t
 have e1:(w.alloc (.cells #[.int .u64 0,.int .u64 0] 25)).cell? ⟨g,o+i1*3,none⟩=some (.int .u64 (y.n:Nat)):=by
  rw [hcs (i1*3) (by omega)]
  have t:=lpCells_get l i1 0 (by omega) (by omega)
  rw [hyl] at t
  simpa [Lp.cells] using t
 obtain ⟨-,c1,c2⟩:=ht1.cells
 rw [←hN] at hT
 have hb:=Blk.alloc_new w #[.int .u64 0,.int .u64 0] 25
 have HC0:=Lib.hid ((Chg.refl [] w).alloc (.cells #[.int .u64 0,.int .u64 0] 25))
 obtain ⟨b6,hb6⟩:∃ z,z=w.heap.size:=⟨_,rfl⟩
 rw [←hb6] at hb
 have HB:=Lib.hid hb
 have hw1:IntKind.i64.wrap ((i:Int)+1)=(i1:Int):=by rw [hi1,IntWalk.i64_in _ (by omega)];push_cast;rfl
 have hw2:IntKind.u64.wrap ((x.n:Int)+(y.n:Int))=(N:Int):=by rw [IntKind.wrap_u64];omega
 have hl0:(0:Int)≤(i:Int):=by omega
 have hl1:(i:Int)<(n:Int):=by omega
 have hl2:(0:Int)≤(i1:Int):=by omega
 have hl3:(i1:Int)<(n:Int):=by omega
 have HD:=Lib.hid (And.intro hD hT)
 have HB6:=Lib.hid (show w.heap.size≤b6 from by omega)
 clear hN hx hy hxl hyl hcs ht1 ht hn hi1 hxy hD hT hb
 go_enter Tryz.func225,Tryz.ntmps225
 go_wp2_with fail
 rw [←hb6]
 clear hb6
 generalize w.alloc (.cells #[.int .u64 0,.int .u64 0] 25)=w0 at *
 go_quiet (fail)
 have HCN:=Lib.hid (show Chg [] w (w0.drewN nq) from HC0.out.drewN nq)
 have HBN:=Lib.hid (show Blk (w0.drewN nq) b6 #[.int .u64 0,.int .u64 0] 25 from HB.out)
 have c2':(w0.drewN nq).cell? ⟨p,2,none⟩=some (.int .u64 (T:Nat)):=c2
 have f6:=HBN.out.free 0
 have f7:=HBN.out.free 1
 have z6:=HBN.out.cell 0
 have z7:=HBN.out.cell 1
 simp only [List.getElem?_toArray,List.getElem?_cons_zero,List.getElem?_cons_succ] at z6 z7
 have HB6N:=Lib.hid (show w.heap.size≤b6 from HB6.out)
 clear e0 e1 c1 c2 HC0 HB hw1 hw2 hl0 hl1 hl2 hl3
 generalize w0.drewN nq=w1 at *
 obtain ⟨R1,hR1⟩:∃ z,z=T-ah:=⟨_,rfl⟩
 obtain ⟨R2,hR2⟩:∃ z,z=R1-N:=⟨_,rfl⟩
 have hw1:IntKind.u64.wrap ((T:Int)-(ah:Int))=(R1:Int):=by have:=HD.out.2;rw [IntKind.wrap_u64];omega
 have hw2:IntKind.u64.wrap ((R1:Int)-(N:Int))=(R2:Int):=by have:=HD.out.2;rw [IntKind.wrap_u64];omega
 have HD2:=Lib.hid (show D=min ah R2+1 from by rw [HD.out.1,costD,hR2,hR1])
 have hah:ah<9223372036854775808:=by have:=HD.out.2;omega
 have hR2b:R2<9223372036854775808:=by omega
 clear hR1 hR2
 by_cases hlt:R2<ah
 ·have HL:=Lib.hid hlt
  have hmin:min (ah:Int) (R2:Int)=(R2:Int):=by omega
  have hD:D=R2+1:=by have h1:=HL.out;rw [HD2.out];omega
  have hbb:=(HBN.out.setCell 0 (.int .u64 (N:Nat))).setCell 1 (.int .u64 ((R2:Int)+1))
  have y0:((w1.setCell ⟨b6,0,none⟩ (.int .u64 (N:Nat))).setCell ⟨b6,1,none⟩ (.int .u64 ((R2:Int)+1))).cell? ⟨b6,0,none⟩=some (.int .u64 (N:Nat)):=hbb.cell 0
  have y1:((w1.setCell ⟨b6,0,none⟩ (.int .u64 (N:Nat))).setCell ⟨b6,1,none⟩ (.int .u64 ((R2:Int)+1))).cell? ⟨b6,1,none⟩=some (.int .u64 ((R2:Int)+1)):=hbb.cell 1
  have HCE:=Lib.hid (show Chg [] w ((w1.setCell ⟨b6,0,none⟩ (.int .u64 (N:Nat))).setCell ⟨b6,1,none⟩ (.int .u64 ((R2:Int)+1))) from (HCN.out.setCell (.inr HB6N.out) _).setCell (.inr HB6N.out) _)
  clear hbb
  have HDD:=Lib.hid hD
  clear hD
  go_wp2
  generalize ((w1.setCell ⟨b6,0,none⟩ (.int .u64 (N:Nat))).setCell ⟨b6,1,none⟩ (.int .u64 ((R2:Int)+1)))=w2 at *
  refine bodyPost_ret (v:=.agg #[.int .u64 (N:Nat),.int .u64 ((R2:Int)+1)]) (by simp [results,Tryz.results225,go_sem,y0,y1]) rfl ?_
  exact ⟨by rw [HDD.out];push_cast;rfl,HCE.out⟩
 ·have HL:=Lib.hid hlt
  have hmin:min (ah:Int) (R2:Int)=(ah:Int):=by omega
  have hD:D=ah+1:=by have h1:=HL.out;rw [HD2.out];omega
  have hbb:=(HBN.out.setCell 0 (.int .u64 (N:Nat))).setCell 1 (.int .u64 ((ah:Int)+1))
  have y0:((w1.setCell ⟨b6,0,none⟩ (.int .u64 (N:Nat))).setCell ⟨b6,1,none⟩ (.int .u64 ((ah:Int)+1))).cell? ⟨b6,0,none⟩=some (.int .u64 (N:Nat)):=hbb.cell 0
  have y1:((w1.setCell ⟨b6,0,none⟩ (.int .u64 (N:Nat))).setCell ⟨b6,1,none⟩ (.int .u64 ((ah:Int)+1))).cell? ⟨b6,1,none⟩=some (.int .u64 ((ah:Int)+1)):=hbb.cell 1
  have HCE:=Lib.hid (show Chg [] w ((w1.setCell ⟨b6,0,none⟩ (.int .u64 (N:Nat))).setCell ⟨b6,1,none⟩ (.int .u64 ((ah:Int)+1))) from (HCN.out.setCell (.inr HB6N.out) _).setCell (.inr HB6N.out) _)
  clear hbb
  have HDD:=Lib.hid hD
  clear hD
  go_wp2
  generalize ((w1.setCell ⟨b6,0,none⟩ (.int .u64 (N:Nat))).setCell ⟨b6,1,none⟩ (.int .u64 ((ah:Int)+1)))=w2 at *
  refine bodyPost_ret (v:=.agg #[.int .u64 (N:Nat),.int .u64 ((ah:Int)+1)]) (by simp [results,Tryz.results225,go_sem,y0,y1]) rfl ?_
  exact ⟨by rw [HDD.out];push_cast;rfl,HCE.out⟩
set_option maxRecDepth 100000 in
theorem step_allocL {ops:Array Oper} {w:World} {o:Oper} {a:Act} {K:Act→World→Prop} {Q:Exit→Act→World→Prop} {E:Prop} (hg:o.guard=none) (ho:o.op=.alloc 213)
 (h:∀ g w',Blk w' g #[.int .u64 0,.int .i64 0,.int .i64 0] 213→Chg [] w w'→w.heap.size≤g→K (a.put o.dst (.pointer (some ⟨g,0,none⟩))) w') :
 if Region.wanted o (yielded ops a.tmps)=true then Oper.wp Tryz.prog o a w K Q else E:=by
 obtain ⟨dst,op,ty,pos,af,gd⟩:=o
 simp only at hg ho h
 subst hg ho
 have H:=h w.heap.size (w.alloc (.cells #[.int .u64 0,.int .i64 0,.int .i64 0] 213)) (Blk.alloc_new _ _ _) ((Chg.refl [] w).alloc _) (Nat.le_refl _)
 clear h
 go_simp
 exact H
set_option maxRecDepth 100000 in
theorem step_storeL {ops:Array Oper} {w:World} {o:Oper} {a:Act} {K:Act→World→Prop} {Q:Exit→Act→World→Prop} {E:Prop} (hg:o.guard=none) (t u:Tmp) (ho:o.op=.store 213 (.tmp t) (.tmp u))
 (g:Nat) (cs:Array Value) (hb:Blk w g cs 213) (x y z:Value) (hcs:cs=#[x,y,z]) (ht:a.eval (.tmp t)=.pointer (some ⟨g,0,none⟩)) (q:Lp) (hx:a.eval (.tmp u)=.agg #[.int .u64 (q.n:Nat),.int .i64 q.lo,.int .i64 q.hi])
 (hd:o.dst=none) (h:∀ w',Blk w' g #[.int .u64 (q.n:Nat),.int .i64 q.lo,.int .i64 q.hi] 213→Chg [g] w w'→K a w') :
 if Region.wanted o (yielded ops a.tmps)=true then Oper.wp Tryz.prog o a w K Q else E:=by
 obtain ⟨dst,op,ty,pos,af,gd⟩:=o
 subst hcs
 simp only at hg ho h hd
 subst hg ho hd
 have k2:=(((hb.setCell 0 (.int .u64 (q.n:Nat))).setCell 1 (.int .i64 q.lo)).setCell 2 (.int .i64 q.hi))
 have H:=h (((w.setCell ⟨g,0,none⟩ (.int .u64 (q.n:Nat))).setCell ⟨g,1,none⟩ (.int .i64 q.lo)).setCell ⟨g,2,none⟩ (.int .i64 q.hi)) k2 ((((Chg.refl [g] w).setCell (by simp) _).setCell (by simp) _).setCell (by simp) _)
 have c0:=hb.cell 0
 have c1:=hb.cell 1
 have c2:=hb.cell 2
 simp only [List.getElem?_toArray,List.getElem?_cons_zero,List.getElem?_cons_succ] at c0 c1 c2
 have f0:=hb.free 0
 have f1:=hb.free 1
 have f2:=hb.free 2
 have ht':a.tmps[t]?.getD undef=.pointer (some ⟨g,0,none⟩):=by simpa [Act.eval] using ht
 have hx':a.tmps[u]?.getD undef=.agg #[.int .u64 (q.n:Nat),.int .i64 q.lo,.int .i64 q.hi]:=by simpa [Act.eval] using hx
 clear hx ht h k2 hb
 go_simp
 exact H
def lzN (y:Nat):Nat:=64-Lib.bitLen y
theorem bitLen_bounds:∀ (k x:Nat),x<2^k→k≤64→0<x→2^(Lib.bitLen x-1)≤x∧x<2^Lib.bitLen x∧1≤Lib.bitLen x∧Lib.bitLen x≤k:=by
 intro k
 induction k with
 | zero=>intro x h _ h0;simp at h;omega
 | succ k ih =>
   intro x h hk h0
   have h64:x<2^64:=Nat.lt_of_lt_of_le h (Nat.pow_le_pow_right (by omega) hk)
   rw [Lib.bitLen_half x (by omega) h64]
   by_cases h1:x / 2=0
   ·have:x=1:=by omega
    subst this
    have hz:Lib.bitLen (1 / 2)=0:=by decide
    rw [hz]
    simp
   ·have hx2:x / 2<2^k:=by rw [Nat.pow_succ] at h;omega
    obtain ⟨a,b,c,d⟩:=ih (x / 2) hx2 (by omega) (by omega)
    generalize Lib.bitLen (x / 2)=n at *
    obtain ⟨m,rfl⟩:∃ m,n=m+1:=⟨n-1,by omega⟩
    rw [show 1+(m+1)-1=m+1 from by omega,show 1+(m+1)=m+1+1 from by omega]
    rw [Nat.pow_succ] at b
    rw [show m+1-1=m from by omega] at a
    rw [Nat.pow_succ,Nat.pow_succ]
    omega
theorem lz_bounds {y:Nat} (h0:0<y) (h1:y<18446744073709551616):lzN y≤63∧9223372036854775808≤y*2^lzN y∧y*2^lzN y<18446744073709551616:=by
 obtain ⟨a,b,c,d⟩:=bitLen_bounds 64 y h1 (Nat.le_refl _) h0
 unfold lzN
 generalize Lib.bitLen y=n at *
 refine ⟨by omega,?_,?_⟩
 ·have:=Nat.mul_le_mul_right (2^(64-n)) a
  rw [←Nat.pow_add,show n-1+(64-n)=63 from by omega] at this
  exact this
 ·have:=Nat.mul_lt_mul_of_pos_right b (show 0<2^(64-n) from Nat.pow_pos (by omega))
  rw [←Nat.pow_add,show n+(64-n)=64 from by omega] at this
  exact this
set_option maxRecDepth 100000 in
theorem bits_lz (w:World) (y:Nat) (h1:y<18446744073709551616) :
 Calls Tryz.prog 271 #[.int .u64 y] w fun e w'=>e=.returned (.int .i64 (lzN y:Nat))∧w=w':=by
 have l:Lib.bitLen y≤64:=Lib.bitLen_le y 64 (Nat.le_refl _) h1
 have HL:=Lib.hid (bits_len64 (y:Int) w (by omega) (by omega))
 rw [Int.toNat_natCast] at HL
 have HZ:=Lib.hid (show ((lzN y:Nat):Int)=64-(Lib.bitLen y:Int) from by unfold lzN;omega)
 clear h1
 generalize lzN y=z at *
 generalize Lib.bitLen y=n at *
 go_enter Tryz.func271,Tryz.ntmps271
 go_wp2_with fail
 refine HL.out.mono ?_
 rintro e w' ⟨rfl,rfl⟩
 go_wp2
 go_ret
 rw [HZ.out]
 exact ⟨rfl,rfl⟩
theorem mul_parts (x y:Nat):x*y=(x / 4294967296)*(y / 4294967296)*18446744073709551616+((x / 4294967296)*(y % 4294967296)+(x % 4294967296)*(y / 4294967296))*4294967296+(x % 4294967296)*(y % 4294967296):=by
 conv=>lhs;rw [←Nat.div_add_mod x 4294967296,←Nat.div_add_mod y 4294967296]
 generalize x / 4294967296=a
 generalize x % 4294967296=b
 generalize y / 4294967296=c
 generalize y % 4294967296=d
 rw [Nat.add_mul,Nat.mul_add,Nat.mul_add,Nat.add_mul]
 have e1:4294967296*a*(4294967296*c)=a*c*18446744073709551616:=by
  rw [Nat.mul_assoc,Nat.mul_left_comm a,←Nat.mul_assoc,Nat.mul_comm _ (a*c)]
 have e2:4294967296*a*d=a*d*4294967296:=by rw [Nat.mul_assoc,Nat.mul_comm]
 have e3:b*(4294967296*c)=b*c*4294967296:=by rw [Nat.mul_left_comm,Nat.mul_comm]
 omega
theorem half_mul {a b:Nat} (ha:a<4294967296) (hb:b<4294967296):a*b≤18446744065119617025:=Nat.mul_le_mul (show a≤4294967295 by omega) (show b≤4294967295 by omega)
theorem and_mask32 (z:Nat) (h:z<18446744073709551616):bits .and .u64 (z:Int) 4294967295=((z % 4294967296:Nat):Int):=by
 have h1:=u64_and_nat z 4294967295 h (by omega)
 have h2:z &&& 4294967295=z % 4294967296:=Nat.and_two_pow_sub_one_eq_mod z 32
 rw [h2] at h1
 exact h1
set_option maxRecDepth 100000 in
set_option maxHeartbeats 1000000 in
theorem bits_mul (w:World) (x y:Nat) (hx:x<18446744073709551616) (hy:y<18446744073709551616) :
 Calls Tryz.prog 232 #[.int .u64 x,.int .u64 y] w fun e w'=>e=.returned (.tuple #[.int .u64 (x*y / 18446744073709551616:Nat),.int .u64 (x*y % 18446744073709551616:Nat)])∧w=w':=by
 have hp:=mul_parts x y
 have b1:=half_mul (Nat.mod_lt x (show 0<4294967296 by omega)) (Nat.mod_lt y (show 0<4294967296 by omega))
 have b2:=half_mul (show x / 4294967296<4294967296 by omega) (Nat.mod_lt y (show 0<4294967296 by omega))
 have b3:=half_mul (Nat.mod_lt x (show 0<4294967296 by omega)) (show y / 4294967296<4294967296 by omega)
 have b4:=half_mul (show x / 4294967296<4294967296 by omega) (show y / 4294967296<4294967296 by omega)
 have hx0:=and_mask32 x hx
 have hy0:=and_mask32 y hy
 have hx1:(x:Int) / 4294967296=((x / 4294967296:Nat):Int):=by omega
 have hy1:(y:Int) / 4294967296=((y / 4294967296:Nat):Int):=by omega
 have hlo:IntKind.u64.wrap ((x:Int)*(y:Int))=((x*y % 18446744073709551616:Nat):Int):=by
  rw [←Int.natCast_mul,IntKind.wrap_u64]
  omega
 have mA:((x % 4294967296:Nat):Int)*((y % 4294967296:Nat):Int)=(((x % 4294967296)*(y % 4294967296):Nat):Int):=(Int.natCast_mul _ _).symm
 have mB:((x / 4294967296:Nat):Int)*((y % 4294967296:Nat):Int)=(((x / 4294967296)*(y % 4294967296):Nat):Int):=(Int.natCast_mul _ _).symm
 have mC:((x % 4294967296:Nat):Int)*((y / 4294967296:Nat):Int)=(((x % 4294967296)*(y / 4294967296):Nat):Int):=(Int.natCast_mul _ _).symm
 have mD:((x / 4294967296:Nat):Int)*((y / 4294967296:Nat):Int)=(((x / 4294967296)*(y / 4294967296):Nat):Int):=(Int.natCast_mul _ _).symm
 generalize (x % 4294967296)*(y % 4294967296)=A at *
 generalize (x / 4294967296)*(y % 4294967296)=B at *
 generalize (x % 4294967296)*(y / 4294967296)=C at *
 generalize (x / 4294967296)*(y / 4294967296)=D at *
 have hXlt:x*y<340282366920938463463374607431768211456:=by omega
 generalize x*y=XY at *
 obtain ⟨T,hT⟩:∃ T,T=B+A / 4294967296:=⟨_,rfl⟩
 obtain ⟨S,hS⟩:∃ S,S=T % 4294967296+C:=⟨_,rfl⟩
 have hT64:T<18446744073709551616:=by omega
 have hS64:S<18446744073709551616:=by omega
 have hHI:D+T / 4294967296+S / 4294967296=XY / 18446744073709551616:=by omega
 have hTi:(B:Int)+(A:Int) / 4294967296=(T:Int):=by omega
 have hTa:=and_mask32 T hT64
 have hSi:((T % 4294967296:Nat):Int)+(C:Int)=(S:Int):=by omega
 have hT1:(T:Int) / 4294967296=((T / 4294967296:Nat):Int):=by omega
 have hS1:(S:Int) / 4294967296=((S / 4294967296:Nat):Int):=by omega
 have hHi64:XY / 18446744073709551616<18446744073709551616:=by omega
 have hHIi:(D:Int)+((T / 4294967296:Nat):Int)+((S / 4294967296:Nat):Int)=((XY / 18446744073709551616:Nat):Int):=by omega
 generalize XY / 18446744073709551616=HI at *
 generalize XY % 18446744073709551616=LO at *
 clear hp hXlt
 have hTb:T / 4294967296<4294967296:=by omega
 have hSb:S / 4294967296<4294967296:=by omega
 have hT0:T % 4294967296<4294967296:=by omega
 clear hHI hT hS
 generalize T / 4294967296=T1 at *
 generalize S / 4294967296=S1 at *
 generalize T % 4294967296=T0 at *
 generalize x / 4294967296=x1 at *
 generalize y / 4294967296=y1 at *
 generalize x % 4294967296=x0 at *
 generalize y % 4294967296=y0 at *
 go_enter Tryz.func232,Tryz.ntmps232
 go_wp2
 go_ret2
 exact ⟨rfl,rfl⟩
end Go.Proofs.YthoolcpcmhhkpaaGreatDoor
namespace Go.Proofs.YthoolcpcmhhkpaaGreatDoor
theorem kn_more {X d y1 y0 y b q qh rh:Nat} (hy:y=y1*b+y0) (hX:qh*y1+rh=X) (hq1:q*y≤X*b+d) (hq2:q<b) (hc:b≤qh∨b*rh+d<qh*y0):q<qh:=by
 rcases Nat.lt_or_ge q qh with h|h
 ·exact h
 ·rcases hc with hc|hc
  ·omega
  ·have h1:qh*y≤q*y:=Nat.mul_le_mul_right y h
   have h2:qh*y=qh*y1*b+qh*y0:=by rw [hy,Nat.mul_add,Nat.mul_assoc]
   have h3:X*b=qh*y1*b+b*rh:=by rw [←hX,Nat.add_mul,Nat.mul_comm rh b]
   omega
theorem kn_done {X d y1 y0 y b q qh rh:Nat} (hy:y=y1*b+y0) (hX:qh*y1+rh=X) (hq:X*b+d<(q+1)*y) (hle:q≤qh) (hc:qh*y0≤b*rh+d):qh=q:=by
 have h2:qh*y=qh*y1*b+qh*y0:=by rw [hy,Nat.mul_add,Nat.mul_assoc]
 have h3:X*b=qh*y1*b+b*rh:=by rw [←hX,Nat.add_mul,Nat.mul_comm rh b]
 have h4:qh*y<(q+1)*y:=by omega
 have h5:=Nat.lt_of_mul_lt_mul_right h4
 omega
theorem kn_first {X d y1 y0 y b q:Nat} (hy:y=y1*b+y0) (h0:y0<b) (hb:b≤2*y1) (_hb0:0<b) (hX:X<y) (hd:d<b) (hq1:q*y≤X*b+d):q≤X / y1∧X / y1≤b+1:=by
 have hy1:0<y1:=by omega
 constructor
 ·rw [Nat.le_div_iff_mul_le hy1]
  have h2:q*y=q*y1*b+q*y0:=by rw [hy,Nat.mul_add,Nat.mul_assoc]
  have h3:q*y1*b<(X+1)*b:=by rw [Nat.add_mul];omega
  have:=Nat.lt_of_mul_lt_mul_right h3
  omega
 ·have:X / y1<b+2:=by
   rw [Nat.div_lt_iff_lt_mul hy1]
   have:(b+2)*y1=y1*b+2*y1:=by rw [Nat.add_mul,Nat.mul_comm b y1]
   omega
  omega
theorem kn_digit {X d y b:Nat} (hX:X<y) (hd:d<b):(X*b+d) / y<b:=by
 have hy:0<y:=by omega
 rw [Nat.div_lt_iff_lt_mul hy]
 have:(X+1)*b≤y*b:=Nat.mul_le_mul_right b (by omega)
 rw [Nat.add_mul,Nat.one_mul] at this
 rw [Nat.mul_comm b y]
 omega
theorem kn_two {U y b X d1 d0 B:Nat} (hB:B=b*b) (hy:0<y) (hU:U=X*B+d1*b+d0) :
 let q1:=(X*b+d1) / y
 let r1:=(X*b+d1) % y
 q1*b+(r1*b+d0) / y=U / y∧(r1*b+d0) % y=U % y:=by
 subst hB
 intro q1 r1
 have h1:X*b+d1=y*q1+r1:=(Nat.div_add_mod _ _).symm
 have h2:U=y*(q1*b)+(r1*b+d0):=by
  have:(X*b+d1)*b=(y*q1+r1)*b:=by rw [h1]
  rw [Nat.add_mul,Nat.add_mul,Nat.mul_assoc X,Nat.mul_assoc y] at this
  omega
 constructor
 ·rw [h2,Nat.mul_add_div hy]
 ·rw [h2,Nat.mul_add_mod]
theorem kn_shift {N y p:Nat} (hp:0<p):N*p / (y*p)=N / y∧N*p % (y*p) / p=N % y:=by
 constructor
 ·exact Nat.mul_div_mul_right N y hp
 ·rw [Nat.mul_mod_mul_right,Nat.mul_div_cancel _ hp]
end Go.Proofs.YthoolcpcmhhkpaaGreatDoor
