/-
  Parts of a proof, pressed. Conditions: the form's own reach.
-/
import Derived.Test.YthoolcpcmhhkpaaGreatDoorSuiteConfigsB16
import Derived.Test.YthoolcpcmhhkpaaGreatDoorSuiteConfigsB19
import Derived.Test.YthoolcpcmhhkpaaGreatDoorSuiteConfigsB5
import Derived.Test.YthoolcpcmhhkpaaGreatDoorSuiteConfigsB3
import Derived.Test.YthoolcpcmhhkpaaGreatDoorSuiteConfigsB18
import Derived.Shelf.Abstract
namespace Go.Proofs.YthoolcpcmhhkpaaGreatDoor
def sumOf (l:List Int) (g:Int→Nat):Nat:=(l.map g).sum
theorem sumOf_add (l:List Int) (g h:Int→Nat):sumOf l (fun v=>g v+h v)=sumOf l g+sumOf l h:=by
 induction l with
 | nil=>rfl
 | cons v l ih=>simp only [sumOf,List.map_cons,List.sum_cons] at ih ⊢;omega
theorem sumOf_le (l:List Int) (g h:Int→Nat) (hh:∀ v∈l,g v≤h v):sumOf l g≤sumOf l h:=by
 induction l with
 | nil=>exact Nat.le_refl _
 | cons v l ih =>
   have h1:=hh v (by simp)
   have h2:=ih (fun u hu=>hh u (by simp [hu]))
   simp only [sumOf,List.map_cons,List.sum_cons] at h2 ⊢
   omega
theorem sumOf_const (l:List Int) (c:Nat):sumOf l (fun _=>c)=l.length*c:=by
 induction l with
 | nil=>simp [sumOf]
 | cons v l ih=>simp only [sumOf,List.map_cons,List.sum_cons,List.length_cons] at ih ⊢;rw [ih,Nat.add_mul];omega
theorem cnt_sum (g:Int→Int) (m:Nat):∀ (R:List Pr) (l:List Int),(∀ p∈R,l.countP (fun v=>decide (p.i=g v))≤m)→sumOf l (fun v=>cntI R (g v))≤m*totP R
 | [],l,_=>by
   have:sumOf l (fun v=>cntI [] (g v))≤sumOf l (fun _=>0):=sumOf_le _ _ _ (fun v _=>Nat.le_refl _)
   rw [sumOf_const] at this
   omega
 | p::R,l,h=>by
   have ih:=cnt_sum g m R l (fun q hq=>h q (by simp [hq]))
   have h1:=h p (by simp)
   have e:sumOf l (fun v=>cntI (p::R) (g v))=sumOf l (fun v=>if p.i=g v then p.c else 0)+sumOf l (fun v=>cntI R (g v)):=by
    rw [←sumOf_add]
    simp only [cntI,List.map_cons,List.sum_cons]
   have e2:sumOf l (fun v=>if p.i=g v then p.c else 0)=l.countP (fun v=>decide (p.i=g v))*p.c:=by
    clear h ih h1 e
    induction l with
    | nil=>simp [sumOf]
    | cons v l ih =>
      simp only [sumOf,List.map_cons,List.sum_cons,List.countP_cons] at ih ⊢
      rw [ih,Nat.add_mul]
      by_cases hx:p.i=g v
      ·simp [hx];omega
      ·simp [hx]
   rw [e,e2,totP_cons,Nat.mul_add]
   have:=Nat.mul_le_mul_right p.c h1
   omega
theorem count_one {l:List Int} (h:l.Nodup) (i:Int) (q:Int→Bool) (hq:∀ v,q v=true→v=i):l.countP q≤1:=by
 induction l with
 | nil=>simp
 | cons v l ih =>
   rw [List.nodup_cons] at h
   have:=ih h.2
   rw [List.countP_cons]
   by_cases hv:q v=true
   ·have hvi:=hq v hv
    have:l.countP q=0:=List.countP_eq_zero.2 (fun u hu e=>h.1 (by rw [hvi,←hq u e];exact hu))
    simp [hv,this]
   ·simp [hv];omega
theorem count_two {l:List Int} (h:l.Nodup) (i j:Int) (q:Int→Bool) (hq:∀ v,q v=true→v=i∨v=j):l.countP q≤2:=by
 have h1:=count_one h i (fun v=>decide (v=i)) (fun v e=>by simpa using e)
 have h2:=count_one h j (fun v=>decide (v=j)) (fun v e=>by simpa using e)
 have:l.countP q≤l.countP (fun v=>decide (v=i))+l.countP (fun v=>decide (v=j)):=by
  clear h h1 h2
  induction l with
  | nil=>simp
  | cons v l ih =>
    rw [List.countP_cons,List.countP_cons,List.countP_cons]
    by_cases hv:q v=true
    ·rcases hq v hv with rfl|rfl<;>simp [hv]<;>omega
    ·simp only [hv]
     simp only [Bool.false_eq_true,if_false]
     omega
 omega
theorem bes_bes (v:Int):bes (bes v)=v:=by unfold bes;split<;>split<;>omega
theorem rises_nodup {r:List Pr} (h:rises r):(r.map Pr.i).Nodup:=by
 induction r with
 | nil=>simp
 | cons p r ih =>
   rw [List.map_cons,List.nodup_cons]
   refine ⟨fun hm => ?_,ih (rises_tail h)⟩
   rw [List.mem_map] at hm
   obtain ⟨q,hq,e⟩:=hm
   have:=rises_head h q hq
   omega
theorem up_total {R:List Pr} (h:rises R):sumOf (R.map Pr.i) (upSum R)≤4*totP R:=by
 have hn:=rises_nodup h
 have e:sumOf (R.map Pr.i) (upSum R)=sumOf (R.map Pr.i) (fun v=>cntI R v)+sumOf (R.map Pr.i) (fun v=>cntI R (bes v))+sumOf (R.map Pr.i) (fun v=>cntI R (v / 2)):=by
  rw [←sumOf_add,←sumOf_add]
  rfl
 have h1:=cnt_sum (fun v=>v) 1 R (R.map Pr.i) (fun p _=>count_one hn p.i _ (fun v e=>by simp at e;exact e.symm))
 have h2:=cnt_sum bes 1 R (R.map Pr.i) (fun p _=>count_one hn (bes p.i) _ (fun v e=>by simp at e;rw [e,bes_bes]))
 have h3:=cnt_sum (fun v=>v / 2) 2 R (R.map Pr.i) (fun p _=>count_two hn (2*p.i) (2*p.i+1) _ (fun v e=>by simp at e;omega))
 rw [e]
 omega
theorem cntI_of_mem {r:List Pr} (h:rises r) {p:Pr} (hp:p∈r):cntI r p.i=p.c:=by
 induction r with
 | nil=>simp at hp
 | cons q r ih =>
   have h1:=rises_head h
   rcases List.mem_cons.1 hp with rfl|hp
   ·have h2:cntI r p.i=0:=cntI_none (fun q hq=>by have:=h1 q hq;omega)
    simp only [cntI,List.map_cons,List.sum_cons] at h2 ⊢
    simp [h2]
   ·have h2:=ih (rises_tail h) hp
    have h3:=h1 p hp
    simp only [cntI,List.map_cons,List.sum_cons] at h2 ⊢
    rw [if_neg (by omega),h2]
    omega
theorem few_of_stays {f:Nat} (hf:1≤f) {R:List Pr} {top:Int} (h:Nodes R top) (hs:∀ v∈R.map Pr.i,stays f R v=true):R.length≤4*f:=by
 have hn:=rises_nodup h.up
 have ht:=up_total h.up
 have hl:sumOf (R.map Pr.i) (fun _=>totP R / f+1)≤sumOf (R.map Pr.i) (upSum R)+(totP R / f+1):=by
  have key:∀ l:List Int,l.Nodup→(∀ v∈l,stays f R v=true∧cntI R v≠0)→sumOf l (fun _=>totP R / f+1)≤sumOf l (upSum R)+(if (1:Int)∈l then totP R / f+1 else 0):=fun l=>by
   induction l with
   | nil=>intro _ _;simp [sumOf]
   | cons v l ih =>
     intro hd hv
     rw [List.nodup_cons] at hd
     have ih:=ih hd.2 (fun u hu=>hv u (by simp [hu]))
     obtain ⟨s1,s2⟩:=hv v (by simp)
     have e1:sumOf (v::l) (fun _=>totP R / f+1)=(totP R / f+1)+sumOf l (fun _=>totP R / f+1):=by simp [sumOf]
     have e2:sumOf (v::l) (upSum R)=upSum R v+sumOf l (upSum R):=by simp [sumOf]
     rw [e1,e2]
     by_cases h1:v=1
     ·subst h1
      rw [if_neg hd.1] at ih
      rw [if_pos (by simp)]
      omega
     ·simp only [stays,Bool.or_eq_true,decide_eq_true_eq] at s1
      have h3:totP R / f<upSum R v:=by
       rcases s1 with (h|h)|h
       ·exact absurd h h1
       ·exact absurd h s2
       ·exact h
      have e3:((1:Int)∈v::l)↔(1:Int)∈l:=by
       rw [List.mem_cons]
       exact ⟨fun h=>h.resolve_left (fun e=>h1 e.symm),.inr⟩
      by_cases h4:(1:Int)∈l
      ·rw [if_pos h4] at ih
       rw [if_pos (e3.2 h4)]
       omega
      ·rw [if_neg h4] at ih
       rw [if_neg (fun h=>h4 (e3.1 h))]
       omega
  have h5:=key (R.map Pr.i) hn (fun v hv=>⟨hs v hv,by
   rw [List.mem_map] at hv
   obtain ⟨p,hp,rfl⟩:=hv
   have h6:=h.pos p hp
   have h7:=cntI_of_mem h.up hp
   omega⟩)
  refine Nat.le_trans h5 (Nat.add_le_add_left ?_ _)
  split
  ·exact Nat.le_refl _
  ·exact Nat.zero_le _
 rw [sumOf_const,List.length_map] at hl
 have h8:totP R<(totP R / f+1)*f:=by
  have:=Nat.lt_div_mul_add (a:=totP R) (b:=f) (by omega)
  rw [Nat.add_mul]
  omega
 generalize totP R / f+1=L at *
 have hL:1≤L:=by
  rcases Nat.eq_zero_or_pos L with rfl|h
  ·simp at h8
  ·exact h
 by_cases hc:R.length≤4*f
 ·exact hc
 ·exfalso
  have h9:(4*f+1)*L≤R.length*L:=Nat.mul_le_mul_right L (by omega)
  rw [Nat.add_mul,Nat.one_mul] at h9
  have h10:4*f*L=4*(L*f):=by rw [Nat.mul_assoc,Nat.mul_comm f L]
  omega
theorem passV_true (f:Nat):∀ (vs:List Int) (r:List Pr),(passV f vs true r).1=true
 | [],_=>rfl
 | v::vs,r=>by rw [passV,Bool.true_or];exact passV_true f vs _
theorem passV_stays (f:Nat):∀ (vs:List Int) (r:List Pr),(passV f vs false r).1=false→(passV f vs false r).2=r∧∀ v∈vs,stays f r v=true
 | [],r,_=>⟨rfl,by simp⟩
 | v::vs,r,h=>by
   rw [passV] at h ⊢
   cases hs:stays f r v with
   | false =>
     have e:liftV f r v=(true,refAdd (rest r v) (v / 2) (upSum r v)):=by unfold liftV;rw [hs];rfl
     rw [e,Bool.false_or,passV_true] at h
     exact absurd h (by decide)
   | true =>
     have e:liftV f r v=(false,r):=if_pos hs
     rw [e] at h ⊢
     obtain ⟨h1,h2⟩:=passV_stays f vs r h
     refine ⟨h1,fun u hu => ?_⟩
     rcases List.mem_cons.1 hu with rfl|hu
     ·exact hs
     ·exact h2 u hu
def low (r:List Pr) (top:Int) (L:Nat):Prop:=∀ p∈r,2*p.i<top→p.c≤L
theorem refAdd_low {r:List Pr} {top i:Int} {c L:Nat} (h:low r top L) (hi:2*i<top→cntI r i+c≤L):low (refAdd r i c) top L:=by
 intro p hp ht
 rw [refAdd] at hp
 rcases List.mem_append.1 hp with hp|hp
 ·rcases List.mem_append.1 hp with hp|hp
  ·exact h p (List.mem_filter.1 hp).1 ht
  ·split at hp
   ·simp at hp
    subst hp
    exact hi ht
   ·simp at hp
 ·exact h p (List.mem_filter.1 hp).1 ht
theorem cntI_rest (r:List Pr) (v:Int):cntI (rest r v) (v / 2)=0:=cntI_none (fun p hp=>by
 have:=(List.mem_filter.1 hp).2
 simp at this
 exact this.2)
theorem lift_low {f:Nat} {r:List Pr} {top v:Int} (h:low r top (totP r / f)):low (liftV f r v).2 top (totP r / f):=by
 unfold liftV
 split
 ·exact h
 ·next hs =>
  have hs':stays f r v=false:=by simpa using hs
  simp only [stays,Bool.or_eq_false_iff,decide_eq_false_iff_not] at hs'
  refine refAdd_low (fun p hp=>h p (List.mem_filter.1 hp).1) (fun _ => ?_)
  rw [cntI_rest]
  omega
theorem passV_low {f:Nat} {top:Int}:∀ (vs:List Int) (m:Bool) {r:List Pr},Nodes r top→(∀ v∈vs,1≤v∧v<top)→low r top (totP r / f)→low (passV f vs m r).2 top (totP r / f)
 | [],_,_,_,_,h=>h
 | v::vs,m,r,hn,hv,h=>by
   obtain ⟨g1,g2⟩:=hv v (by simp)
   obtain ⟨a1,a2,-⟩:=lift_ok (f:=f) hn g1 g2
   have h2:=lift_low (v:=v) h
   rw [←a2] at h2
   have h3:=passV_low (f:=f) vs (m || (liftV f r v).1) a1 (fun u hu=>hv u (by simp [hu])) h2
   rw [a2] at h3
   rw [passV]
   exact h3
theorem pass_low {f:Nat} {top:Int} {r:List Pr} (hn:Nodes r top) (h:low r top (totP r / f)):low (pass f r).2 top (totP r / f):=
 passV_low _ _ hn (fun v hv=>by
  rw [List.mem_reverse,List.mem_map] at hv
  obtain ⟨p,hp,rfl⟩:=hv
  exact hn.ix p hp) h
theorem SqR.low {f:Nat} (hf:1≤f) {top:Int} {r R:List Pr} (h:SqR f r R):Nodes r top→low r top (totP r / f)→low R top (totP r / f)∧R.length≤4*f:=by
 induction h with
 | @stop r R e =>
   intro hr hl
   have h1:=pass_low (f:=f) hr hl
   rw [e] at h1
   refine ⟨h1,?_⟩
   have h2:=passV_stays f (r.map Pr.i).reverse r (by rw [show passV f (r.map Pr.i).reverse false r=pass f r from rfl,e])
   rw [show passV f (r.map Pr.i).reverse false r=pass f r from rfl,e] at h2
   obtain ⟨rfl,h3⟩:=h2
   exact few_of_stays hf hr (fun v hv=>h3 v (by simpa using hv))
 | @go r r' R e _ ih =>
   intro hr hl
   obtain ⟨b1,b2,-,-⟩:=pass_ok (f:=f) hr
   have h1:=pass_low (f:=f) hr hl
   rw [e] at b1 b2 h1
   rw [←b2] at h1 ⊢
   exact ih b1 h1
theorem tidyR_few {f:Nat} (hf:1≤f) {top:Int} {r:List Pr} (h:Nodes r top) (hl:low r top (totP r / f)):low (tidyR f r) top (totP (tidyR f r) / f)∧(tidyR f r).length≤4*f:=by
 rw [(tidyR_ok (f:=f) h).2.1]
 unfold tidyR
 split
 ·exact (squeezeR_is h).low hf h hl
 ·exact ⟨hl,by omega⟩
theorem low_monoD {r:List Pr} {top:Int} {L L':Nat} (h:low r top L) (hL:L≤L'):low r top L':=fun p hp ht=>Nat.le_trans (h p hp ht) hL
theorem add_leaf_low {f:Nat} {r:List Pr} {top i:Int} (h:low r top (totP r / f)) (hr:rises r) (c:Nat) (hi:top≤2*i):low (refAdd r i c) top (totP (refAdd r i c) / f):=by
 refine refAdd_low (low_monoD h (Nat.div_le_div_right ?_)) (fun ht=>by omega)
 rw [refAdd_tot hr]
 omega
end Go.Proofs.YthoolcpcmhhkpaaGreatDoor
namespace Go.Proofs.YthoolcpcmhhkpaaGreatDoor
open Go.RowKit
def DgD.few (D:DgD):Prop:=low D.row D.top (totP D.row / D.factor)∧D.row.length≤4*D.factor
theorem DgD.put_few {D:DgD} (h:D.ok) (hf:D.few) {x:Int} (c:Nat) (h0:0≤x) (h1:x<((2^D.depth:Nat):Int)):(D.put x c).few:=by
 obtain ⟨e1,e2,e3⟩:=D.ends_same x x
 have hp:=two_d h.d1 h.d2
 have hN:Nodes (refAdd D.row (((2^D.depth:Nat):Int)+x) c) D.top:=h.nodes.add (by omega) (by unfold DgD.top;omega) c
 have hl:=add_leaf_low (i:=((2^D.depth:Nat):Int)+x) hf.1 h.nodes.up c (by unfold DgD.top;omega)
 have ht:=tidyR_few h.f1 hN hl
 have et:(D.put x c).top=D.top:=by show 2*((2^(D.ends x x).depth:Nat):Int)=_;rw [e1];rfl
 have ef:(D.put x c).factor=D.factor:=e2
 unfold DgD.few
 rw [et,ef]
 exact ht
set_option maxRecDepth 100000 in
set_option maxHeartbeats 1000000 in
theorem dg_put_rangeN (w:World) (p s:Nat) (rv:Value) (D:DgD) (h:Dg w p s rv D) (hok:D.ok) (x:Int) (hx:x<0∨((2^D.depth:Nat):Int)≤x) (hx2:x<9223372036854775808) (c:Nat) (hc:1≤c):Calls Tryz.prog 56 #[.pointer (some ⟨p,0,none⟩),.int .i64 x,.int .u64 (c:Nat)] w fun e w'=>e=.returned (.int .i64 7)∧Chg [] w w':=by
 obtain ⟨-,-,c2,-,-,-⟩:=h.cells
 have HL:=Lib.hid (tree_leaf_out w D.depth (2^D.depth) hok.d1 hok.d2 rfl x hx hx2)
 have d0:((c:Int)==0)=false:=by rw [beq_eq_false_iff_ne];omega
 clear h hok hx hx2 hc
 go_enter Tryz.func56,Tryz.ntmps56
 go_wp2_with fail
 refine HL.out.mono ?_
 rintro e w1 ⟨rfl,hc1⟩
 go_wp2_with fail
 go_ret
 exact ⟨rfl,hc1⟩
def lastOf (row:List Pr) (k:Nat):Int:=if k=0 then 0 else (row.getD (k-1) default).i
structure PreL (row:List Pr) (top:Int) (k:Nat):Prop where
 nodes:Nodes (row.take k) top
 tot:totP (row.take k)≤9223372036854775807
 last:∀ q∈row.take k,q.i≤lastOf row k
theorem PreL.zero (row:List Pr) (top:Int):PreL row top 0:=⟨⟨by rw [List.take_zero];intro j k _ hk;simp at hk,by simp,by simp⟩,by simp [totP],by simp⟩
set_option maxRecDepth 100000 in
theorem dg_endsR (w:World) (p s:Nat) (rv:Value) (D:DgD) (h:Dg w p s rv D) (T:Nat) (hT:T=totP D.row):Calls Tryz.prog 57 #[.pointer (some ⟨p,0,none⟩)] w fun e w'=>e=.returned (.tuple #[.int .i64 (if T=0 then 0 else D.least),.int .i64 (if T=0 then 0 else D.most),.bool (!decide (T=0))])∧Chg [] w w':=by
 have HTO:=Lib.hid (fun u (hu:Chg [] w u)=>dg_total u p s rv D (h.chg hu (by simp)))
 rw [←hT] at HTO
 have HCE:=Lib.hid (fun u (hu:Chg [] w u)=>(h.chg hu (by simp)).cells)
 obtain ⟨-,-,-,-,c4,c5⟩:=h.cells
 clear h hT
 by_cases h0:T=0
 ·have d0:((T:Int)==0)=true:=by rw [beq_iff_eq];omega
  rw [if_pos h0,if_pos h0,decide_eq_true h0]
  clear h0
  go_enter Tryz.func57,Tryz.ntmps57
  go_wp2_with fail
  refine (HTO.out _ (Chg.refl _ _)).mono ?_
  rintro e w1 ⟨rfl,rfl⟩
  go_wp2_with fail
  refine bodyPost_ret (v:=.tuple #[.int .i64 0,.int .i64 0,.bool false]) (by simp [results,Tryz.results57,go_sem]) rfl ⟨rfl,Chg.refl _ _⟩
 ·have d0:((T:Int)==0)=false:=by rw [beq_eq_false_iff_ne];omega
  rw [if_neg h0,if_neg h0,decide_eq_false h0]
  clear h0
  go_enter Tryz.func57,Tryz.ntmps57
  go_wp2_with fail
  refine (HTO.out _ (Chg.refl _ _)).mono ?_
  rintro e w1 ⟨rfl,rfl⟩
  go_wp2_with fail
  go_quiet (fail)
  go_wp2_with fail
  refine bodyPost_ret (v:=.tuple #[.int .i64 D.least,.int .i64 D.most,.bool true]) (by simp [results,Tryz.results57,go_sem]) rfl ⟨rfl,?_⟩
  with_reducible (repeat (first|exact Chg.refl _ _|apply Chg.drew|apply Chg.drewN))
def DgD.inEnds (D:DgD):Prop:=(totP D.row=0→D.least=0∧D.most=0)∧0≤D.least∧D.least≤D.most∧D.most<((2^D.depth:Nat):Int)
theorem DgD.put_inEnds {D:DgD} (h:D.ok) (k:D.inEnds) {x:Int} {c:Nat} (h0:0≤x) (h1:x<((2^D.depth:Nat):Int)) (hc1:1≤c) (hc:totP D.row+c≤9223372036854775807) (hl:D.row.length+1≤1000):(D.put x c).inEnds:=by
 obtain ⟨a1,a2,a3,a4,-⟩:=DgD.put_ok h h0 h1 hc hl
 refine ⟨fun e=>by omega,?_⟩
 rw [a2]
 have el:(D.put x c).least=(D.ends x x).least:=rfl
 have em:(D.put x c).most=(D.ends x x).most:=rfl
 rw [el,em]
 obtain ⟨k1,k2,k3,k4⟩:=k
 unfold DgD.ends
 split
 ·exact ⟨h0,Int.le_refl _,h1⟩
 ·simp only
  omega
end Go.Proofs.YthoolcpcmhhkpaaGreatDoor
namespace Go.Proofs.YthoolcpcmhhkpaaGreatDoor
def LogD.side (D:LogD):Nat:=if D.bins.hi then 1 else 0
def putLog (D:LogD):List UInt8:=
 natB D.bins.num++(natB D.bins.den++(natB D.side++(natB D.bins.m++(natB (zig D.least)++(natB (zig D.most)++(natB D.bins.zero++(natB D.bins.minus.lost++(natB D.bins.plus.lost++(putB D.bins.minus.r++putB D.bins.plus.r)))))))))
structure LogR where
 num:Nat
 den:Nat
 side:Nat
 most:Nat
 low:Int
 high:Int
 zero:Nat
 l0:Nat
 l1:Nat
 r0:List Pr
 r1:List Pr
def putHd (D:HdD):List UInt8:=
 natB D.digits++(natB D.limit++(natB (zig D.least)++(natB (zig D.most)++(natB D.zero++(putB D.minus++putB D.plus)))))
structure HdR where
 digits:Nat
 limit:Nat
 low:Int
 high:Int
 zero:Nat
 r0:List Pr
 r1:List Pr
theorem row_ok {l:List Pr} {a b:Int} (ha:-9223372036854775808≤a) (hb:b<9223372036854775808) (hi:∀ p∈l,a≤p.i∧p.i≤b) (ht:totP l≤9223372036854775807):∀ p∈l,p.ok:=fun p hp=>by
 have h1:=hi p hp
 have h2:=mem_tot hp
 exact ⟨by omega,by omega,by omega⟩
theorem CapD.ok.len {D:CapD} (h:D.ok):D.r.length≤D.m:=win_len h.rises h.win
def LogD.told (D:LogD):LogR:=⟨D.bins.num,D.bins.den,D.side,D.bins.m,D.least,D.most,D.bins.zero,D.bins.minus.lost,D.bins.plus.lost,D.bins.minus.r,D.bins.plus.r⟩
def HdD.told (D:HdD):HdR:=⟨D.digits,D.limit,D.least,D.most,D.zero,D.minus,D.plus⟩
theorem spLast_le {L:Nat} (hL:L=4∨L=7∨L=10∨L=14):spLast L≤1000000:=by
 rcases hL with rfl|rfl|rfl|rfl<;>decide
end Go.Proofs.YthoolcpcmhhkpaaGreatDoor
namespace Go.Proofs.YthoolcpcmhhkpaaGreatDoor
theorem bodyTo_lenG (l:List Pr) (hok:∀ p∈l,p.ok) (hl:l.length≤100000):(putB l).length≤20*l.length+10:=by
 have h1:=bodyTo_len l hok l.length (Nat.le_refl _)
 have h2:=natB_len10 (n:=l.length) (by omega)
 rw [putB,List.length_append]
 omega
theorem putB_lenG (l:List Pr) (hok:∀ p∈l,p.ok) (hl:l.length≤100000):(putB l).length≤20*l.length+10:=bodyTo_lenG l hok hl
def putDg (D:DgD):List UInt8:=natB D.depth++(natB D.factor++(natB (zig D.least)++(natB (zig D.most)++putB D.row)))
end Go.Proofs.YthoolcpcmhhkpaaGreatDoor
namespace Go.Proofs.YthoolcpcmhhkpaaGreatDoor
open Go.RowKit
theorem flat10a (us:List Nat) (h:∀ u∈us,u<2^64):(us.flatMap natB).length≤10*us.length:=by
 have:=flat10 us h us.length
 rw [List.take_length] at this
 exact this
theorem qn_lit (w:World) (q:Nat) (F:List Nat) (l:List UInt8) (hq:Qul w q F l) (us:List Nat) (hus:∀ u∈us,u<2^64) (hroom:l.length+10*us.length≤70368744177664) (cs:Array Value) (hcs:cs=(u64s us).toArray) (n:Nat) (hn:n=us.length) (b0:Nat) (hb0:b0=w.heap.size) :
 Calls Tryz.prog 135 #[.pointer (some ⟨q,0,none⟩),.slice (some ⟨b0,0,none⟩) n n] (w.alloc (.cells cs 23)) fun e w'=>e=.returned (.tuple #[]) ∧
  ∃ F' l',Qul w' q F' l'∧l'=l++us.flatMap natB∧l'.length≤l.length+10*n∧Mv F w F' w':=by
 subst hcs hn hb0
 have hr:Rd (w.alloc (.cells (u64s us).toArray 23)) 1 (.slice (some ⟨w.heap.size,0,none⟩) us.length us.length) us.length (u64s us):=by
  have:=Rd.lit w (u64s us).toArray 23 1 us.length us.length (by simp [u64s])
  simpa using this
 refine (quill_nat (w.alloc (.cells (u64s us).toArray 23)) q F l (some ⟨w.heap.size,0,none⟩) us.length us hus (hq.alloc _) hr (by intro b hb e;simp only [abl_some,List.mem_singleton] at hb;have:=hq.lt b e;omega) hroom).mono ?_
 rintro e w' ⟨rfl,F',h1,h2⟩
 exact ⟨rfl,F',_,h1,rfl,by rw [List.length_append];have:=flat10a us hus;omega,(Mv.alloc F w _).trans h2⟩
theorem qi_lit (w:World) (q:Nat) (F:List Nat) (l:List UInt8) (hq:Qul w q F l) (us:List Int) (hus:∀ u∈us,-9223372036854775808≤u∧u<9223372036854775808) (hroom:l.length+10*us.length+10≤70368744177664) (cs:Array Value) (hcs:cs=(i64s us).toArray) (n:Nat) (hn:n=us.length) (b0:Nat) (hb0:b0=w.heap.size) :
 Calls Tryz.prog 354 #[.pointer (some ⟨q,0,none⟩),.slice (some ⟨b0,0,none⟩) n n] (w.alloc (.cells cs 2)) fun e w'=>e=.returned (.tuple #[]) ∧
  ∃ F' l',Qul w' q F' l'∧l'=l++us.flatMap (fun x=>natB (zig x))∧l'.length≤l.length+10*n∧Mv F w F' w':=by
 subst hcs hn hb0
 have hr:Rd (w.alloc (.cells (i64s us).toArray 2)) 1 (.slice (some ⟨w.heap.size,0,none⟩) us.length us.length) us.length (i64s us):=by
  have:=Rd.lit w (i64s us).toArray 2 1 us.length us.length (by simp [i64s])
  simpa using this
 refine (quill_int (w.alloc (.cells (i64s us).toArray 2)) q F l (some ⟨w.heap.size,0,none⟩) us.length us hus (hq.alloc _) hr (by intro b hb e;simp only [abl_some,List.mem_singleton] at hb;have:=hq.lt b e;omega) hroom).mono ?_
 rintro e w' ⟨rfl,F',h1,h2⟩
 have hl:(us.flatMap fun x=>natB (zig x)).length≤10*us.length:=by
  have:=flat10a (us.map zig) (fun u hu=>by
   obtain ⟨x,hx,rfl⟩:=List.mem_map.1 hu
   have:=zig_lt (hus x hx).1 (hus x hx).2
   omega)
  rw [List.flatMap_map,List.length_map] at this
  exact this
 exact ⟨rfl,F',_,h1,rfl,by rw [List.length_append];omega,(Mv.alloc F w _).trans h2⟩
theorem enters_qnat:∀ (args:Array Value) (w:World),(callFunc 135 args).run Tryz.prog w=.ok (.enter 135 args) w:=enters_of Tryz.func135 (by kernel_rfl) rfl
theorem qn_rd (w:World) (q:Nat) (F:List Nat) (l:List UInt8) (hq:Qul w q F l) (us:List Nat) (hus:∀ u∈us,u<2^64) (hroom:l.length+10*us.length≤70368744177664) (n:Nat) (hn:n=us.length) (g:Nat) (hr:Rd w 1 (.slice (some ⟨g,0,none⟩) n n) n (u64s us)) (hg:g∉F) :
 Calls Tryz.prog 135 #[.pointer (some ⟨q,0,none⟩),.slice (some ⟨g,0,none⟩) n n] w fun e w'=>e=.returned (.tuple #[]) ∧
  ∃ F' l',Qul w' q F' l'∧l'=l++us.flatMap natB∧l'.length≤l.length+10*n∧Mv F w F' w':=by
 subst hn
 refine (quill_nat w q F l (some ⟨g,0,none⟩) us.length us hus hq hr (by intro b hb e;simp only [abl_some,List.mem_singleton] at hb;rw [hb] at e;exact hg e) hroom).mono ?_
 rintro e w' ⟨rfl,F',h1,h2⟩
 exact ⟨rfl,F',_,h1,rfl,by rw [List.length_append];have:=flat10a us hus;omega,h2⟩
theorem Rd.ltP {w:World} {size:Nat} {v:Value} {n:Nat} {xs:List Value} (h:Rd w size v n xs) (hn:0<n*size):∀ b∈blkOf v,b<w.heap.size:=by
 obtain ⟨hl,ao,cap,rfl,h|⟨b,o,rfl,hc⟩⟩:=h
 ·subst h;simp at hn
 ·intro x hx
  obtain rfl:x=b:=by simpa [blkOf] using hx
  have:=hc 0 hn
  rw [List.getElem?_eq_getElem (by omega)] at this
  exact World.block_lt_of_cell? w _ this
theorem quill_nat1e (w:World) (q:Nat) (F:List Nat) (l:List UInt8) (u:Nat) (hu:u<18446744073709551616) (hq:Qul w q F l) (x:Int) (hx:x=(u:Int)) (b0:Nat) (hb0:b0=w.heap.size) (hroom:l.length+10≤70368744177664) :
 Calls Tryz.prog 135 #[.pointer (some ⟨q,0,none⟩),.slice (some ⟨b0,0,none⟩) 1 1] (w.alloc (.cells #[.int .u64 x] 23)) fun e w'=>e=.returned (.tuple #[]) ∧
  ∃ F',Qul w' q F' (l++natB u)∧Mv F w F' w':=by
 subst hx
 exact quill_nat1 w q F l u hu hq b0 hb0 hroom
theorem Mv.of_drew {F F1:List Nat} {w w1:World} (h:Mv F w.drew F1 w1):Mv F w F1 w1:=⟨⟨h.1.os,h.1.tape,h.1.output,h.1.size,h.1.block⟩,h.2⟩
theorem gap_eq (p q:Int):IntKind.u64.wrap (IntKind.u64.wrap (IntKind.u64.wrap p-IntKind.u64.wrap q)-1)=(gapN p q:Int):=by
 have h:∀ x:Int,IntKind.u64.wrap x=x % 18446744073709551616:=fun x=>by simp [IntKind.wrap,IntKind.bits,IntKind.signed]
 rw [h,h,h,h,gapN]
 omega
set_option maxRecDepth 100000 in
set_option maxHeartbeats 1000000 in
theorem runs_put (w:World) (q:Nat) (F:List Nat) (pre:List UInt8) (ao:Option Addr) (cap:Nat) (l:List Pr) (hok:∀ p∈l,p.ok) (hq:Qul w q F pre) (hr:Rd w 2 (.slice ao l.length cap) l.length (prCells l)) (ha:0<l.length→∀ b∈blkOf (.slice ao l.length cap),b∉F)
 (hroom:pre.length+20*l.length+30≤70368744177664) :
 Calls Tryz.prog 355 #[.pointer (some ⟨q,0,none⟩),.slice ao l.length cap] w fun e w'=>e=.returned (.tuple #[]) ∧
  ∃ F',Qul w' q F' (pre++putB l)∧Mv F w F' w':=by
 have H0:=Lib.hid (natB_len10 (n:=l.length) (by omega))
 have HQ:=Lib.hid hq
 go_enter Tryz.func355,Tryz.ntmps355
 go_wp2_with fail
 refine (quill_nat1 w q F pre l.length (by omega) HQ.out w.heap.size rfl (by omega)).mono ?_
 rintro e w1 ⟨rfl,F1,hq1,hm1⟩
 have hap:=fun h:0<l.length=>hm1.apart (ha h) (hr.ltP (by omega))
 have hr1:=fun h:0<l.length=>hr.chg hm1.chg (ha h)
 have hlt1:0<l.length→∀ b∈blkOf (.slice ao l.length cap),b<w1.heap.size:=fun h b hb=>Nat.lt_of_lt_of_le (hr.ltP (by omega) b hb) hm1.chg.size
 have hbl:=fun k hk=>bodyTo_len l hok k hk
 have HBL:=Lib.hid hbl
 have HAP:=Lib.hid hap
 have HLT:=Lib.hid hlt1
 have HOK:=Lib.hid hok
 have HM1:=Lib.hid hm1
 have hroom2:(pre++natB l.length).length+20*l.length+20≤70368744177664:=by
  have:=H0.out
  rw [List.length_append]
  omega
 generalize hp:pre++natB l.length=pre1 at *
 have HP:=Lib.hid hp
 have HR:=Lib.hid hr1
 clear hbl hap hlt1 hok hm1 ha hr hroom H0 HQ hq hp hr1
 go_wp2
 go_loopw [14] (fun i wx=>∃ (k:Nat) (F2:List Nat),k≤l.length∧i=.int .i64 (k:Nat)∧Qul wx q F2 (pre1++bodyTo l k)∧Mv F1 w1 F2 wx) (fun i _=>l.length-(intOf i).toNat)
 case atStart=>exact ⟨0,F1,Nat.zero_le _,rfl,by simpa [bodyTo] using hq1,Mv.refl _ _⟩
 case round =>
  obtain ⟨k,F2,hk,rfl,hq2,hm2⟩:=hrel
  have HM2:=Lib.hid hm2
  by_cases hlt:k<l.length
  ·have hr1:=(HR.out (by omega)).chg hm2.chg (HAP.out (by omega))
   have hapF:=hm2.apart (HAP.out (by omega)) (HLT.out (by omega))
   obtain ⟨b,o,rfl,hc⟩:=hr1.addr (by omega)
   obtain ⟨c0,c1⟩:=pr_at hc hlt
   have hok1:=HOK.out l[k] (List.getElem_mem _)
   have hlen:=HBL.out k hk
   have hS:=bodyTo_succ l k
   have hgk:l.getD k default=l[k]:=by simp [List.getD,hlt]
   have hbF2:b∉F2:=hapF b (by simp [blkOf])
   have hroom3:(pre1++bodyTo l k).length+40≤70368744177664:=by rw [List.length_append];omega
   obtain ⟨k0,k1,k2⟩:=hok1
   have hbox:=Blk.alloc_new wr #[.int .i64 l[k].i,.int .u64 l[k].c] 183
   have hnew:wr.heap.size∉F2:=fun h=>by have:=hq2.lt _ h;omega
   have HQ2:=Lib.hid (hq2.alloc (.cells #[.int .i64 l[k].i,.int .u64 l[k].c] 183))
   have hF1:∀ (F3:List Nat) (w3:World),Mv F2 (wr.alloc (.cells #[.int .i64 l[k].i,.int .u64 l[k].c] 183)) F3 w3→Mv F1 w1 F3 w3∧Blk w3 wr.heap.size #[.int .i64 l[k].i,.int .u64 l[k].c] 183:=
    fun F3 w3 hm=>⟨(hm2.trans (Mv.alloc F2 wr _)).trans hm,hbox.chg hm.chg hnew⟩
   have HF1:=Lib.hid hF1
   have HN:=Lib.hid hnew
   have HLN:=Lib.hid (pairB_len l HOK.out k hlt)
   have hch2:=Chg.alloc (Chg.refl [] wr) (.cells #[.int .i64 l[k].i,.int .u64 l[k].c] 183)
   rcases k with _|k
   ·have hB:pairB l 0=natB (zig l[0].i)++natB l[0].c:=by rw [pairB,if_pos rfl,hgk]
    rw [hB] at hS
    have HS:=Lib.hid hS
    generalize l[0]=p at *
    generalize hP2:pre1++bodyTo l 0=pre2 at *
    have HP2:=Lib.hid hP2
    simp only [Nat.zero_mul,Nat.add_zero] at c0 c1
    clear hS hB hgk hr1 hapF hc hq2 hbox hnew hlen hch2 hF1 hP2 hm2
    have HL1:=Lib.hid (natB_len10 (zig_lt k0 k1))
    go_wp2_with fail
    refine (quill_int1 (wr.alloc (.cells #[.int .i64 p.i,.int .u64 p.c] 183)) q F2 pre2 p.i k0 k1 HQ2.out (wr.heap.size+1) (by simp) (by omega)).mono ?_
    rintro e w5 ⟨rfl,F5,hq5,hm5⟩
    obtain ⟨_,hb5⟩:=HF1.out F5 w5 hm5
    have e1:=hb5.cell 1
    go_wp2_with fail
    refine (quill_nat1 w5 q F5 _ p.c k2 hq5 w5.heap.size rfl (by rw [List.length_append];have:=HL1.out;omega)).mono ?_
    rintro e w6 ⟨rfl,F6,hq6,hm6⟩
    obtain ⟨hm7,_⟩:=HF1.out F6 w6 (Mv.trans hm5 hm6)
    go_wp2
    exact ⟨⟨1,F6,by omega,by go_num,by rw [HS.out,←List.append_assoc,HP2.out,←List.append_assoc];exact hq6,hm7⟩,by simp [intOf];omega⟩
   ·obtain ⟨d0,d1⟩:=pr_at hc (show k<l.length by omega)
    have hgk2:l.getD (k+1-1) default=l[k]:=by simp [List.getD,show k<l.length by omega]
    have hB:pairB l (k+1)=natB (gapN l[k+1].i l[k].i)++natB l[k+1].c:=by rw [pairB,if_neg (by omega),hgk,hgk2]
    rw [hB] at hS
    have HS:=Lib.hid hS
    have hk1:(k:Int)+1-1=(k:Int):=by omega
    have hkw:IntKind.i64.wrap (k:Int)=(k:Int):=IntWalk.i64_in _ (by omega)
    have hk0:(0:Int)≤(k:Int):=by omega
    have hkl:(k:Int)<(l.length:Int):=by omega
    have hz5:((k:Int)+1==0)=false:=by simp;omega
    generalize l[k+1]=p at *
    generalize l[k]=q0 at *
    have d2:=hch2.cell d0 (by simp)
    have b2:=(Blk.alloc_new wr #[.int .i64 p.i,.int .u64 p.c] 183).cell 0
    have D2:=Lib.hid (And.intro (show (wr.alloc (.cells #[.int .i64 p.i,.int .u64 p.c] 183)).cell? ⟨wr.heap.size,0,none⟩=some (.int .i64 p.i) from b2) d2)
    have HG:=Lib.hid (gap_eq p.i q0.i)
    have HGL:=Lib.hid (gapN_lt p.i q0.i)
    generalize hP2:pre1++bodyTo l (k+1)=pre2 at *
    have HP2:=Lib.hid hP2
    clear hS hB hgk hgk2 hr1 hapF hc hq2 hbox hnew hlen hch2 hF1 hP2 hm2
    have HL1:=Lib.hid (natB_len10 (n:=gapN p.i q0.i) (by have:=gapN_lt p.i q0.i;omega))
    go_wp2_with fail
    go_region_held3 (fun wx=>wx.cell? ⟨wr.heap.size,0,none⟩=some (.int .i64 p.i)∧wx.cell? ⟨b,o+k*2,none⟩=some (.int .i64 q0.i)) (first|assumption|exact D2.out|exact ⟨(((Chg.refl [] _).alloc _).drew).cell D2.out.1 (by simp),(((Chg.refl [] _).alloc _).drew).cell D2.out.2 (by simp)⟩|exact ⟨((Chg.refl [] _).alloc _).cell D2.out.1 (by simp),((Chg.refl [] _).alloc _).cell D2.out.2 (by simp)⟩) (first|(go_at_call 135;refine (quill_nat1e (World.drew (wr.alloc (.cells #[.int .i64 p.i,.int .u64 p.c] 183))) q F2 pre2 (gapN p.i q0.i) HGL.out HQ2.out _ HG.out (wr.heap.size+1) (by simp) (by omega)).mono ?_;rintro e w5 ⟨rfl,F5,hq5,hm5'⟩;have hm5:=Mv.of_drew hm5';have hd5:w5.cell? ⟨wr.heap.size,0,none⟩=some (.int .i64 p.i)∧w5.cell? ⟨b,o+k*2,none⟩=some (.int .i64 q0.i):=⟨hm5.chg.cell D2.out.1 HN.out,hm5.chg.cell D2.out.2 hbF2⟩))
    obtain ⟨_,hb5⟩:=HF1.out F5 w5 hm5
    have e1:=hb5.cell 1
    go_wp2_with fail
    refine (quill_nat1 w5 q F5 _ p.c k2 hq5 w5.heap.size rfl (by rw [List.length_append];have:=HL1.out;omega)).mono ?_
    rintro e w6 ⟨rfl,F6,hq6,hm6⟩
    obtain ⟨hm7,_⟩:=HF1.out F6 w6 (Mv.trans hm5 hm6)
    go_wp2
    exact ⟨⟨k+1+1,F6,by omega,by go_num,by rw [HS.out,←List.append_assoc,HP2.out,←List.append_assoc];exact hq6,hm7⟩,by simp [intOf];omega⟩
  ·obtain rfl:k=l.length:=by omega
   go_wp2
   go_end0
   refine ⟨rfl,F2,?_,HM1.out.trans hm2⟩
   rw [putB,←List.append_assoc,HP.out]
   exact hq2
end Go.Proofs.YthoolcpcmhhkpaaGreatDoor
