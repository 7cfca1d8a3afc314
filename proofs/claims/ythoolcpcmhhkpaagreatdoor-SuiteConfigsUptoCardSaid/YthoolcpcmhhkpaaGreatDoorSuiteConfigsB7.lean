/-
  Parts of a proof, pressed. Conditions: the form's own reach.
-/
import Derived.Test.YthoolcpcmhhkpaaGreatDoorSuiteConfigsB6
import Derived.Test.YthoolcpcmhhkpaaGreatDoorSuiteConfigsB1
import Derived.Laws.CopyOwn
import Derived.Deep.RegionLaw
namespace Go.Proofs.YthoolcpcmhhkpaaGreatDoor
open Go.RowKit
theorem countP_at {α:Type} {q:α→Bool} {l:List α} {n:Nat} (hn:n≤l.length) (h0:∀ k,(h:k<l.length)→k<n→q l[k]=true) (h1:∀ k,(h:k<l.length)→n≤k→q l[k]=false):l.countP q=n:=by
 induction l generalizing n with
 | nil=>simp at hn;subst hn;rfl
 | cons p l ih =>
   rw [List.countP_cons]
   cases n with
   | zero =>
     have hp:=h1 0 (by simp) (Nat.le_refl _)
     have:=ih (n:=0) (Nat.zero_le _) (fun k _ hk=>(Nat.not_lt_zero k hk).elim) (fun k h _=>by have:=h1 (k+1) (by simpa using h) (by omega);simpa using this)
     rw [this]
     simp only [List.getElem_cons_zero] at hp
     rw [hp]
     rfl
   | succ n =>
     have hp:=h0 0 (by simp) (by omega)
     have:=ih (n:=n) (by simpa using hn) (fun k h hk=>by have:=h0 (k+1) (by simpa using h) (by omega);simpa using this) (fun k h hk=>by have:=h1 (k+1) (by simpa using h) (by omega);simpa using this)
     rw [this]
     simp only [List.getElem_cons_zero] at hp
     rw [hp]
     rfl
theorem risesL_at {l:List Lp} (h:risesL l) {j k:Nat} (hjk:j<k) (hk:k<l.length):ltL (l[j]'(by omega)) l[k]=true:=List.pairwise_iff_getElem.1 h j k (by omega) hk hjk
theorem hasL_at {l:List Lp} {p:Lp} {n:Nat} (h:risesL l) (h0:∀ k,(h:k<l.length)→k<n→ltL l[k] p=true) (h1:∀ k,(h:k<l.length)→n≤k→ltL l[k] p=false):hasL l p=(decide (n<l.length)&&sameL (l.getD n default) p):=by
 by_cases hn:n<l.length
 ·rw [decide_eq_true hn,Bool.true_and,show l.getD n default=l[n] from by simp [List.getD,hn]]
  cases hs:sameL l[n] p with
  | true=>rw [hasL,List.any_eq_true];exact ⟨l[n],List.getElem_mem hn,hs⟩
  | false =>
    rw [hasL,List.any_eq_false]
    intro q hq
    obtain ⟨j,hj,rfl⟩:=List.getElem_of_mem hq
    intro hsj
    rcases Nat.lt_trichotomy j n with hjn|hjn|hjn
    ·have:=h0 j hj hjn
     unfold ltL at this
     unfold sameL at hsj
     rw [decide_eq_true_eq] at this hsj
     omega
    ·subst hjn;rw [hs] at hsj;exact absurd hsj (by decide)
    ·have h2:=risesL_at h hjn hj
     have h3:=h1 n hn (Nat.le_refl _)
     unfold ltL at h2 h3
     unfold sameL at hsj
     rw [decide_eq_true_eq] at h2 hsj
     rw [decide_eq_false_iff_not] at h3
     omega
 ·rw [decide_eq_false hn,Bool.false_and,hasL,List.any_eq_false]
  intro q hq hsj
  obtain ⟨j,hj,rfl⟩:=List.getElem_of_mem hq
  have:=h0 j hj (by omega)
  unfold ltL at this
  unfold sameL at hsj
  rw [decide_eq_true_eq] at this hsj
  omega
def ordV (a b:Lp):Int:=if ltL a b then -1 else if sameL a b then 0 else 1
theorem ordV_neg (a b:Lp):ordV a b<0↔ltL a b=true:=by
 unfold ordV
 cases ltL a b with
 | true=>simp
 | false=>cases sameL a b<;>simp
theorem ordV_zero (a b:Lp):(ordV a b==0)=sameL a b:=by
 unfold ordV
 rcases ltL_tri a b with ⟨h1,h2,-⟩|⟨h1,h2,-⟩|⟨h1,h2,-⟩<;>rw [h1,h2]<;>rfl
set_option maxRecDepth 100000 in
set_option maxHeartbeats 1000000 in
theorem lump_order (w:World) (p q:Lp) :
 Calls Tryz.prog 199 #[.agg #[.int .u64 (p.n:Nat),.int .i64 p.lo,.int .i64 p.hi],.agg #[.int .u64 (q.n:Nat),.int .i64 q.lo,.int .i64 q.hi]] w fun e w'=>e=.returned (.int .i64 (ordV p q))∧Chg [] w w':=by
 have hc:=((Chg.refl [] w).alloc (.cells #[.int .u64 (p.n:Nat),.int .i64 p.lo,.int .i64 p.hi] 213)).alloc (.cells #[.int .u64 (q.n:Nat),.int .i64 q.lo,.int .i64 q.hi] 213)
 have HV:=Lib.hid (show ordV p q=if p.lo<q.lo∨p.lo=q.lo∧p.hi<q.hi then -1 else if p.lo=q.lo∧p.hi=q.hi then 0 else 1 from by unfold ordV ltL sameL;simp only [decide_eq_true_eq])
 obtain ⟨V,hV⟩:∃ V,V=ordV p q:=⟨_,rfl⟩
 rw [←hV] at HV ⊢
 clear hV
 go_enter Tryz.func199,Tryz.ntmps199
 by_cases h1:p.lo<q.lo
 ·have d1:decide (p.lo<q.lo)=true:=decide_eq_true h1
  obtain rfl:V=-1:=by rw [HV.out,if_pos (.inl h1)]
  clear h1
  go_wp2
  go_ret
  exact ⟨rfl,hc⟩
 have d1:decide (p.lo<q.lo)=false:=decide_eq_false h1
 by_cases h2:p.lo=q.lo
 ·have d2:(p.lo==q.lo)=true:=by rw [beq_iff_eq];exact h2
  by_cases h3:p.hi<q.hi
  ·have d3:decide (p.hi<q.hi)=true:=decide_eq_true h3
   obtain rfl:V=-1:=by rw [HV.out,if_pos (.inr ⟨h2,h3⟩)]
   clear h1 h2 h3
   go_wp2
   go_ret
   exact ⟨rfl,hc⟩
  have d3:decide (p.hi<q.hi)=false:=decide_eq_false h3
  by_cases h4:p.hi=q.hi
  ·have d4:(p.hi==q.hi)=true:=by rw [beq_iff_eq];exact h4
   obtain rfl:V=0:=by rw [HV.out,if_neg (by omega),if_pos ⟨h2,h4⟩]
   clear h1 h2 h3 h4
   go_wp2
   go_ret
   exact ⟨rfl,hc⟩
  ·have d4:(p.hi==q.hi)=false:=by rw [beq_eq_false_iff_ne];exact h4
   obtain rfl:V=1:=by rw [HV.out,if_neg (by omega),if_neg (by omega)]
   clear h1 h2 h3 h4
   go_wp2
   go_ret
   exact ⟨rfl,hc⟩
 ·have d2:(p.lo==q.lo)=false:=by rw [beq_eq_false_iff_ne];exact h2
  obtain rfl:V=1:=by rw [HV.out,if_neg (by omega),if_neg (by omega)]
  clear h1 h2
  go_wp2
  go_ret
  exact ⟨rfl,hc⟩
theorem enters_lorder:∀ (args:Array Value) (w:World),(callFunc 199 args).run Tryz.prog w=.ok (.enter 199 args) w:=enters_of Tryz.func199 (by kernel_rfl) rfl
set_option maxRecDepth 100000 in
set_option maxHeartbeats 4000000 in
theorem bsf_lumps (w:World) (ao:Option Addr) (cap n:Nat) (l:List Lp) (hn:n=l.length) (p:Lp) (hrs:risesL l) (hr:Rd w 3 (.slice ao n cap) n (lpCells l)) (hl:n≤100000) :
 Calls Tryz.prog 223 #[.slice ao n cap,.agg #[.int .u64 (p.n:Nat),.int .i64 p.lo,.int .i64 p.hi],.func (.func 199) #[] #[]] w fun e w'=>e=.returned (.tuple #[.int .i64 (posL l p),.bool (hasL l p)])∧Chg [] w w':=by
 have HN:=Lib.hid hn
 have HR0:=Lib.hid hr
 have HRS:=Lib.hid hrs
 obtain ⟨q,hq⟩:∃ q,q=w.heap.size:=⟨_,rfl⟩
 have HQ:=Lib.hid (show Blk (w.alloc (.cells #[.int .u64 (p.n:Nat),.int .i64 p.lo,.int .i64 p.hi] 213)) q #[.int .u64 (p.n:Nat),.int .i64 p.lo,.int .i64 p.hi] 213 from by rw [hq];exact Blk.alloc_new _ _ _)
 have HC0:=Lib.hid ((Chg.refl [] w).alloc (.cells #[.int .u64 (p.n:Nat),.int .i64 p.lo,.int .i64 p.hi] 213))
 clear hn hr hrs
 go_enter Tryz.func223,Tryz.ntmps223
 go_wp2_with fail
 rw [←hq]
 clear hq
 generalize w.alloc (.cells #[.int .u64 (p.n:Nat),.int .i64 p.lo,.int .i64 p.hi] 213)=w0 at *
 go_loopw [9,10] (fun a b wx=>∃ lo hi:Nat,lo≤hi∧hi≤n∧a=.int .i64 (lo:Nat)∧b=.int .i64 (hi:Nat)∧Hid (∀ k,(h:k<l.length)→k<lo→ltL l[k] p=true)∧Hid (∀ k,(h:k<l.length)→hi≤k→ltL l[k] p=false)∧Hid (Chg [] w0 wx)) (fun a b _=>(intOf b).toNat-(intOf a).toNat)
 case atStart=>exact ⟨0,n,by omega,by omega,rfl,rfl,Lib.hid (fun k _ hk=>(Nat.not_lt_zero k hk).elim),Lib.hid (fun k h hk=>absurd h (by have:=HN.out;omega)),Lib.hid (Chg.refl _ _)⟩
 case round =>
  obtain ⟨lo,hi,hlh,hhl,rfl,rfl,H0,H1,HC⟩:=hrel
  have hr1:=HR0.out.chg (HC0.out.trans HC.out) (by simp)
  by_cases hlt:lo<hi
  ·obtain ⟨b,o,rfl,hc⟩:=hr1.addr (by omega)
   obtain ⟨m,hm⟩:∃ m,m=(lo+hi) / 2:=⟨_,rfl⟩
   have hmi:((lo:Int)+(hi:Int)) / 2=(m:Int):=by omega
   have hml:m<n:=by omega
   have hmL:m<l.length:=by have:=HN.out;omega
   have hmlo:lo≤m:=by omega
   have hmhi:m<hi:=by omega
   have hmi2:(m:Int)<(n:Int):=by omega
   have hmi3:(0:Int)≤(m:Int):=by omega
   obtain ⟨c0,c1,c2⟩:=lp_at (l:=l) (fun j hj=>hc j (by rw [HN.out];exact hj)) hmL
   have HTW:=Lib.hid (show ltL l[m] p=true→∀ k,(h:k<l.length)→k<m+1→ltL l[k] p=true from fun hb k h hk=>by
    rcases Nat.lt_or_ge k m with h1|h1
    ·exact ltL_trans (risesL_at HRS.out h1 hmL) hb
    ·obtain rfl:k=m:=by omega
     exact hb)
   have HFW:=Lib.hid (show ltL l[m] p=false→∀ k,(h:k<l.length)→m≤k→ltL l[k] p=false from fun hb k h hk=>by
    rcases Nat.lt_or_ge m k with h1|h1
    ·cases hx:ltL l[k] p with
     | false=>rfl
     | true=>rw [ltL_trans (risesL_at HRS.out h1 h) hx] at hb;exact absurd hb (by decide)
    ·obtain rfl:k=m:=by omega
     exact hb)
   generalize l[m]=u at *
   have HBY:=Lib.hid (fun x=>lump_order x u p)
   have hdl:decide ((lo:Int)<(hi:Int))=true:=decide_eq_true (by omega)
   have HV:=Lib.hid (ordV_neg u p)
   obtain ⟨q0,q1,q2⟩:wr.cell? ⟨q,0,none⟩=some (.int .u64 (p.n:Nat))∧wr.cell? ⟨q,1,none⟩=some (.int .i64 p.lo)∧wr.cell? ⟨q,2,none⟩=some (.int .i64 p.hi):=⟨(HQ.out.chg HC.out (by simp)).cell 0,(HQ.out.chg HC.out (by simp)).cell 1,(HQ.out.chg HC.out (by simp)).cell 2⟩
   have c0d:wr.drew.cell? ⟨b,o+m*3,none⟩=some (.int .u64 (u.n:Nat)):=c0
   have c1d:wr.drew.cell? ⟨b,o+m*3+1,none⟩=some (.int .i64 u.lo):=c1
   have c2d:wr.drew.cell? ⟨b,o+m*3+2,none⟩=some (.int .i64 u.hi):=c2
   have q0d:wr.drew.cell? ⟨q,0,none⟩=some (.int .u64 (p.n:Nat)):=q0
   have q1d:wr.drew.cell? ⟨q,1,none⟩=some (.int .i64 p.lo):=q1
   have q2d:wr.drew.cell? ⟨q,2,none⟩=some (.int .i64 p.hi):=q2
   clear hm hc hr1
   go_wp2_with fail
   have hSS:=And.intro (And.intro c0d (And.intro c1d c2d)) (And.intro q0d (And.intro q1d q2d))
   clear c0 c1 c2 q0 q1 q2 c0d c1d c2d q0d q1d q2d
   have HLB:=Lib.hid (show decide (ordV u p<0)=ltL u p from by
    cases hx:ltL u p with
    | true=>exact decide_eq_true (HV.out.2 hx)
    | false=>exact decide_eq_false (fun h=>by rw [HV.out.1 h] at hx;exact absurd hx (by decide)))
   obtain ⟨V,hVV⟩:∃ V,V=ordV u p:=⟨_,rfl⟩
   rw [←hVV] at HLB HBY
   clear hVV HV
   refine startN (S:=fun wx=>(wx.cell? ⟨b,o+m*3,none⟩=some (.int .u64 (u.n:Nat))∧wx.cell? ⟨b,o+m*3+1,none⟩=some (.int .i64 u.lo)∧wx.cell? ⟨b,o+m*3+2,none⟩=some (.int .i64 u.hi))∧wx.cell? ⟨q,0,none⟩=some (.int .u64 (p.n:Nat))∧wx.cell? ⟨q,1,none⟩=some (.int .i64 p.lo)∧wx.cell? ⟨q,2,none⟩=some (.int .i64 p.hi)) (by kernel_rfl) hSS (fun hHeld => ?_)
   refine takeN (i:=0) (v:=?va0) rfl (by kernel_rfl) (by kernel_rfl) (by kernel_rfl) (fun _ _ _ h=>h) (Or.inl ⟨by rfl,?ya0⟩) hSS ?ra0
   case ya0=>(intro w hSw;(try dsimp only at hSw);go_simp;first|done|with_reducible rfl)
   try simp only [Act.put,jI,jZ,jS]
   refine takeN (i:=1) (v:=?va1) rfl (by kernel_rfl) (by kernel_rfl) (by kernel_rfl) (fun _ _ _ h=>h) (Or.inl ⟨by rfl,?ya1⟩) hSS ?ra1
   case ya1=>(intro w hSw;(try dsimp only at hSw);go_simp;first|done|with_reducible rfl)
   try simp only [Act.put,jI,jZ,jS]
   refine takeN (i:=2) (v:=?va2) rfl (by kernel_rfl) (by kernel_rfl) (by kernel_rfl) (fun _ _ _ h=>h) (Or.inl ⟨by rfl,?ya2⟩) hSS ?ra2
   case ya2=>(intro w hSw;(try dsimp only at hSw);go_simp;first|done|with_reducible rfl)
   try simp only [Act.put,jI,jZ,jS]
   refine takeN (i:=3) (v:=?va3) rfl (by kernel_rfl) (by kernel_rfl) (by kernel_rfl) (fun _ _ _ h=>h) (Or.inl ⟨by rfl,?ya3⟩) hSS ?ra3
   case ya3=>(intro w hSw;(try dsimp only at hSw);go_simp;first|done|with_reducible rfl)
   try simp only [Act.put,jI,jZ,jS]
   refine takeN (i:=4) (v:=?va4) rfl (by kernel_rfl) (by kernel_rfl) (by kernel_rfl) (fun _ _ _ h=>h) (Or.inl ⟨by rfl,?ya4⟩) hSS ?ra4
   case ya4=>(intro w hSw;(try dsimp only at hSw);go_simp;first|done|with_reducible rfl)
   try simp only [Act.put,jI,jZ,jS]
   refine takeN (i:=5) (v:=?va5) rfl (by kernel_rfl) (by kernel_rfl) (by kernel_rfl) (fun _ _ _ h=>h) (Or.inl ⟨by rfl,?ya5⟩) hSS ?ra5
   case ya5=>(intro w hSw;(try dsimp only at hSw);go_simp;first|done|with_reducible rfl)
   try simp only [Act.put,jI,jZ,jS]
   refine readyN (rs:=[6]) (by kernel_rfl) (by simp) (consN rfl (fun K hK => ?_) nilN)
   refine step_callsV (by rfl) 199 (.tmp 24) _ _ rfl (by simp [Act.eval]) enters_lorder _ #[.agg #[.int .u64 (u.n:Nat),.int .i64 u.lo,.int .i64 u.hi],.agg #[.int .u64 (p.n:Nat),.int .i64 p.lo,.int .i64 p.hi]] (by simp [Act.eval]) (HBY.out _) ?_;rintro e w2 ⟨rfl,hc2⟩;refine ⟨_,rfl,?_⟩
   have hS2:=And.intro (And.intro (hc2.cell hSS.1.1 (by simp)) (And.intro (hc2.cell hSS.1.2.1 (by simp)) (hc2.cell hSS.1.2.2 (by simp)))) (And.intro (hc2.cell hSS.2.1 (by simp)) (And.intro (hc2.cell hSS.2.2.1 (by simp)) (hc2.cell hSS.2.2.2 (by simp))))
   have HC2:=Lib.hid (HC.out.trans ((Chg.refl [] wr).drew.trans hc2))
   clear hc2
   refine hK.out _ _ hS2 (fun hHeld => ?_)
   clear hK K hHeld
   try simp only [Act.put,jI,jZ,jS]
   refine takeN (i:=7) (v:=?va7) rfl (by kernel_rfl) (by kernel_rfl) (by kernel_rfl) (fun _ _ _ h=>h) (Or.inl ⟨by rfl,?ya7⟩) hS2 ?ra7
   case ya7=>(intro w hSw;(try dsimp only at hSw);go_simp;first|done|with_reducible rfl)
   try simp only [Act.put,jI,jZ,jS]
   refine doneN (by kernel_rfl) ?_ _
   have hlb:=HLB.out
   clear hSS hS2 HBY HLB
   cases hb:ltL u p with
   | true =>
     have HT:=Lib.hid (HTW.out hb)
     rw [hb] at hlb
     clear hb
     rw [hlb]
     go_wp2
     exact ⟨⟨m+1,hi,by omega,by omega,by go_num,rfl,HT,H1,HC2⟩,by simp [intOf];omega⟩
   | false =>
     have HT:=Lib.hid (HFW.out hb)
     rw [hb] at hlb
     clear hb
     rw [hlb]
     go_wp2
     exact ⟨⟨lo,m,by omega,by omega,rfl,rfl,H0,HT,HC2⟩,by simp [intOf];omega⟩
  ·obtain rfl:lo=hi:=by omega
   have HCN:=Lib.hid (show posL l p=lo from countP_at (by have:=HN.out;omega) H0.out H1.out)
   have HH:=Lib.hid (hasL_at HRS.out H0.out H1.out)
   go_wp2_with fail
   by_cases hn:lo<n
   ·obtain ⟨b,o,rfl,hc⟩:=hr1.addr (by omega)
    have hmL:lo<l.length:=by have:=HN.out;omega
    obtain ⟨c0,c1,c2⟩:=lp_at (l:=l) (fun j hj=>hc j (by rw [HN.out];exact hj)) hmL
    have HHV:=Lib.hid (show hasL l p=sameL l[lo] p from by
     rw [HH.out,decide_eq_true hmL,Bool.true_and,show l.getD lo default=l[lo] from by simp [List.getD,hmL]])
    generalize l[lo]=u at *
    have HBY:=Lib.hid (fun x=>lump_order x u p)
    have hdn:decide ((lo:Int)<(n:Int))=true:=decide_eq_true (by omega)
    have hdn':decide (lo<n)=true:=decide_eq_true hn
    have hn0:(0:Int)≤(lo:Int):=by omega
    have hn1:(lo:Int)<(n:Int):=by omega
    have HLB:=Lib.hid (ordV_zero u p)
    obtain ⟨V,hVV⟩:∃ V,V=ordV u p:=⟨_,rfl⟩
    rw [←hVV] at HLB HBY
    have hSS:((wr.drew.cell? ⟨b,o+lo*3,none⟩=some (.int .u64 (u.n:Nat))∧wr.drew.cell? ⟨b,o+lo*3+1,none⟩=some (.int .i64 u.lo)∧wr.drew.cell? ⟨b,o+lo*3+2,none⟩=some (.int .i64 u.hi))∧wr.drew.cell? ⟨q,0,none⟩=some (.int .u64 (p.n:Nat))∧wr.drew.cell? ⟨q,1,none⟩=some (.int .i64 p.lo)∧wr.drew.cell? ⟨q,2,none⟩=some (.int .i64 p.hi)):=⟨⟨c0,c1,c2⟩,(HQ.out.chg HC.out (by simp)).cell 0,(HQ.out.chg HC.out (by simp)).cell 1,(HQ.out.chg HC.out (by simp)).cell 2⟩
    clear hc hr1 HH hVV c0 c1 c2
    refine startN (S:=fun wx=>(wx.cell? ⟨b,o+lo*3,none⟩=some (.int .u64 (u.n:Nat))∧wx.cell? ⟨b,o+lo*3+1,none⟩=some (.int .i64 u.lo)∧wx.cell? ⟨b,o+lo*3+2,none⟩=some (.int .i64 u.hi))∧wx.cell? ⟨q,0,none⟩=some (.int .u64 (p.n:Nat))∧wx.cell? ⟨q,1,none⟩=some (.int .i64 p.lo)∧wx.cell? ⟨q,2,none⟩=some (.int .i64 p.hi)) (by kernel_rfl) hSS (fun hHeld => ?_)
    refine takeN (i:=0) (v:=?vb0) rfl (by kernel_rfl) (by kernel_rfl) (by kernel_rfl) (fun _ _ _ h=>h) (Or.inl ⟨by rfl,?yb0⟩) hSS ?rb0
    case yb0=>(intro w hSw;(try dsimp only at hSw);go_simp;first|done|with_reducible rfl)
    try simp only [Act.put,jI,jZ,jS]
    refine takeN (i:=1) (v:=?vb1) rfl (by kernel_rfl) (by kernel_rfl) (by kernel_rfl) (fun _ _ _ h=>h) (Or.inl ⟨by rfl,?yb1⟩) hSS ?rb1
    case yb1=>(intro w hSw;(try dsimp only at hSw);go_simp;first|done|with_reducible rfl)
    try simp only [Act.put,jI,jZ,jS]
    refine takeN (i:=2) (v:=?vb2) rfl (by kernel_rfl) (by kernel_rfl) (by kernel_rfl) (fun _ _ _ h=>h) (Or.inl ⟨by rfl,?yb2⟩) hSS ?rb2
    case yb2=>(intro w hSw;(try dsimp only at hSw);go_simp;first|done|with_reducible rfl)
    try simp only [Act.put,jI,jZ,jS]
    refine takeN (i:=3) (v:=?vb3) rfl (by kernel_rfl) (by kernel_rfl) (by kernel_rfl) (fun _ _ _ h=>h) (Or.inl ⟨by rfl,?yb3⟩) hSS ?rb3
    case yb3=>(intro w hSw;(try dsimp only at hSw);go_simp;first|done|with_reducible rfl)
    try simp only [Act.put,jI,jZ,jS]
    refine takeN (i:=4) (v:=?vb4) rfl (by kernel_rfl) (by kernel_rfl) (by kernel_rfl) (fun _ _ _ h=>h) (Or.inl ⟨by rfl,?yb4⟩) hSS ?rb4
    case yb4=>(intro w hSw;(try dsimp only at hSw);go_simp;first|done|with_reducible rfl)
    try simp only [Act.put,jI,jZ,jS]
    refine takeN (i:=5) (v:=?vb5) rfl (by kernel_rfl) (by kernel_rfl) (by kernel_rfl) (fun _ _ _ h=>h) (Or.inl ⟨by rfl,?yb5⟩) hSS ?rb5
    case yb5=>(intro w hSw;(try dsimp only at hSw);go_simp;first|done|with_reducible rfl)
    try simp only [Act.put,jI,jZ,jS]
    refine takeN (i:=6) (v:=?vb6) rfl (by kernel_rfl) (by kernel_rfl) (by kernel_rfl) (fun _ _ _ h=>h) (Or.inl ⟨by rfl,?yb6⟩) hSS ?rb6
    case yb6=>(intro w hSw;(try dsimp only at hSw);go_simp;first|done|with_reducible rfl)
    try simp only [Act.put,jI,jZ,jS]
    refine takeN (i:=7) (v:=?vb7) rfl (by kernel_rfl) (by kernel_rfl) (by kernel_rfl) (fun _ _ _ h=>h) (Or.inl ⟨by rfl,?yb7⟩) hSS ?rb7
    case yb7=>(intro w hSw;(try dsimp only at hSw);go_simp;first|done|with_reducible rfl)
    try simp only [Act.put,jI,jZ,jS]
    refine takeN (i:=8) (v:=?vb8) rfl (by kernel_rfl) (by kernel_rfl) (by kernel_rfl) (fun _ _ _ h=>h) (Or.inl ⟨by rfl,?yb8⟩) hSS ?rb8
    case yb8=>(intro w hSw;(try dsimp only at hSw);go_simp;first|done|with_reducible rfl)
    try simp only [Act.put,jI,jZ,jS]
    refine takeN (i:=9) (v:=?vb9) rfl (by kernel_rfl) (by kernel_rfl) (by kernel_rfl) (fun _ _ _ h=>h) (Or.inl ⟨by rfl,?yb9⟩) hSS ?rb9
    case yb9=>(intro w hSw;(try dsimp only at hSw);go_simp;first|done|with_reducible rfl)
    try simp only [Act.put,jI,jZ,jS]
    refine takeN (i:=10) (v:=?vb10) rfl (by kernel_rfl) (by kernel_rfl) (by kernel_rfl) (fun _ _ _ h=>h) (Or.inl ⟨by rfl,?yb10⟩) hSS ?rb10
    case yb10=>(intro w hSw;(try dsimp only at hSw);go_simp;first|done|with_reducible rfl)
    try simp only [Act.put,jI,jZ,jS]
    refine readyN (rs:=[11]) (by kernel_rfl) (by simp) (consN rfl (fun K hK => ?_) nilN)
    refine step_callsV (by rfl) 199 (.tmp 40) _ _ rfl (by simp [Act.eval]) enters_lorder _ #[.agg #[.int .u64 (u.n:Nat),.int .i64 u.lo,.int .i64 u.hi],.agg #[.int .u64 (p.n:Nat),.int .i64 p.lo,.int .i64 p.hi]] (by simp [Act.eval]) (HBY.out _) ?_;rintro e w2 ⟨rfl,hc2⟩;refine ⟨_,rfl,?_⟩
    have hS2:=And.intro (And.intro (hc2.cell hSS.1.1 (by simp)) (And.intro (hc2.cell hSS.1.2.1 (by simp)) (hc2.cell hSS.1.2.2 (by simp)))) (And.intro (hc2.cell hSS.2.1 (by simp)) (And.intro (hc2.cell hSS.2.2.1 (by simp)) (hc2.cell hSS.2.2.2 (by simp))))
    have HC2:=Lib.hid (HC.out.trans ((Chg.refl [] wr).drew.trans hc2))
    clear hc2
    refine hK.out _ _ hS2 (fun hHeld => ?_)
    clear hK K hHeld
    try simp only [Act.put,jI,jZ,jS]
    refine takeN (i:=12) (v:=?vb12) rfl (by kernel_rfl) (by kernel_rfl) (by kernel_rfl) (fun _ _ _ h=>h) (Or.inl ⟨by rfl,?yb12⟩) hS2 ?rb12
    case yb12=>(intro w hSw;(try dsimp only at hSw);go_simp;first|done|with_reducible rfl)
    try simp only [Act.put,jI,jZ,jS]
    refine takeN (i:=13) (v:=?vb13) rfl (by kernel_rfl) (by kernel_rfl) (by kernel_rfl) (fun _ _ _ h=>h) (Or.inl ⟨by rfl,?yb13⟩) hS2 ?rb13
    case yb13=>(intro w hSw;(try dsimp only at hSw);go_simp;first|done|with_reducible rfl)
    try simp only [Act.put,jI,jZ,jS]
    refine takeN (i:=14) (v:=?vb14) rfl (by kernel_rfl) (by kernel_rfl) (by kernel_rfl) (fun _ _ _ h=>h) (Or.inl ⟨by rfl,?yb14⟩) hS2 ?rb14
    case yb14=>(intro w hSw;(try dsimp only at hSw);go_simp;first|done|with_reducible rfl)
    try simp only [Act.put,jI,jZ,jS]
    refine takeN (i:=15) (v:=?vb15) rfl (by kernel_rfl) (by kernel_rfl) (by kernel_rfl) (fun _ _ _ h=>h) (Or.inl ⟨by rfl,?yb15⟩) hS2 ?rb15
    case yb15=>(intro w hSw;(try dsimp only at hSw);go_simp;first|done|with_reducible rfl)
    try simp only [Act.put,jI,jZ,jS]
    refine doneN (by kernel_rfl) ?_ _
    have hlb:=HLB.out
    clear hSS hS2 HBY HLB
    go_wp2
    refine bodyPost_ret (v:=.tuple #[.int .i64 (lo:Nat),.bool (V==0)]) (by simp [results,Tryz.results223,go_sem]) rfl ?_
    exact ⟨by rw [HCN.out,HHV.out,←hlb],HC0.out.trans HC2.out⟩
   ·have hdn:decide ((lo:Int)<(n:Int))=false:=decide_eq_false (by omega)
    have hdn':decide (lo<n)=false:=decide_eq_false hn
    have HV:=Lib.hid (show hasL l p=false from by rw [HH.out,decide_eq_false (by have:=HN.out;omega)];rfl)
    have hSS:True:=trivial
    clear HH hr1
    refine startN (S:=fun _=>True) (by kernel_rfl) hSS (fun hHeld => ?_)
    refine takeN (i:=0) (v:=?vc0) rfl (by kernel_rfl) (by kernel_rfl) (by kernel_rfl) (fun _ _ _ h=>h) (Or.inl ⟨by rfl,?yc0⟩) hSS ?rc0
    case yc0=>(intro w hSw;(try dsimp only at hSw);go_simp;first|done|with_reducible rfl)
    try simp only [Act.put,jI,jZ,jS]
    refine takeN (i:=1) (v:=?vc1) rfl (by kernel_rfl) (by kernel_rfl) (by kernel_rfl) (fun _ _ _ h=>h) (Or.inl ⟨by rfl,?yc1⟩) hSS ?rc1
    case yc1=>(intro w hSw;(try dsimp only at hSw);go_simp;first|done|with_reducible rfl)
    try simp only [Act.put,jI,jZ,jS]
    refine takeN (i:=2) (v:=?vc2) rfl (by kernel_rfl) (by kernel_rfl) (by kernel_rfl) (fun _ _ _ h=>h) (Or.inl ⟨by rfl,?yc2⟩) hSS ?rc2
    case yc2=>(intro w hSw;(try dsimp only at hSw);go_simp;first|done|with_reducible rfl)
    try simp only [Act.put,jI,jZ,jS]
    refine takeN (i:=3) (v:=?vc3) rfl (by kernel_rfl) (by kernel_rfl) (by kernel_rfl) (fun _ _ _ h=>h) (Or.inl ⟨by rfl,?yc3⟩) hSS ?rc3
    case yc3=>(intro w hSw;(try dsimp only at hSw);go_simp;first|done|with_reducible rfl)
    try simp only [Act.put,jI,jZ,jS]
    refine takeN (i:=4) (v:=?vc4) rfl (by kernel_rfl) (by kernel_rfl) (by kernel_rfl) (fun _ _ _ h=>h) (Or.inl ⟨by rfl,?yc4⟩) hSS ?rc4
    case yc4=>(intro w hSw;(try dsimp only at hSw);go_simp;first|done|with_reducible rfl)
    try simp only [Act.put,jI,jZ,jS]
    refine takeN (i:=5) (v:=undef) rfl (by kernel_rfl) (by kernel_rfl) (by kernel_rfl) (fun _ _ _ h=>h) (Or.inr ⟨by rfl,rfl⟩) hSS ?rc5
    try simp only [Act.put,jI,jZ,jS]
    refine takeN (i:=6) (v:=undef) rfl (by kernel_rfl) (by kernel_rfl) (by kernel_rfl) (fun _ _ _ h=>h) (Or.inr ⟨by rfl,rfl⟩) hSS ?rc6
    try simp only [Act.put,jI,jZ,jS]
    refine takeN (i:=7) (v:=undef) rfl (by kernel_rfl) (by kernel_rfl) (by kernel_rfl) (fun _ _ _ h=>h) (Or.inr ⟨by rfl,rfl⟩) hSS ?rc7
    try simp only [Act.put,jI,jZ,jS]
    refine takeN (i:=8) (v:=undef) rfl (by kernel_rfl) (by kernel_rfl) (by kernel_rfl) (fun _ _ _ h=>h) (Or.inr ⟨by rfl,rfl⟩) hSS ?rc8
    try simp only [Act.put,jI,jZ,jS]
    refine takeN (i:=9) (v:=undef) rfl (by kernel_rfl) (by kernel_rfl) (by kernel_rfl) (fun _ _ _ h=>h) (Or.inr ⟨by rfl,rfl⟩) hSS ?rc9
    try simp only [Act.put,jI,jZ,jS]
    refine takeN (i:=10) (v:=undef) rfl (by kernel_rfl) (by kernel_rfl) (by kernel_rfl) (fun _ _ _ h=>h) (Or.inr ⟨by rfl,rfl⟩) hSS ?rc10
    try simp only [Act.put,jI,jZ,jS]
    refine takeN (i:=11) (v:=undef) rfl (by kernel_rfl) (by kernel_rfl) (by kernel_rfl) (fun _ _ _ h=>h) (Or.inr ⟨by rfl,rfl⟩) hSS ?rc11
    try simp only [Act.put,jI,jZ,jS]
    refine takeN (i:=12) (v:=undef) rfl (by kernel_rfl) (by kernel_rfl) (by kernel_rfl) (fun _ _ _ h=>h) (Or.inr ⟨by rfl,rfl⟩) hSS ?rc12
    try simp only [Act.put,jI,jZ,jS]
    refine takeN (i:=13) (v:=?vc13) rfl (by kernel_rfl) (by kernel_rfl) (by kernel_rfl) (fun _ _ _ h=>h) (Or.inl ⟨by rfl,?yc13⟩) hSS ?rc13
    case yc13=>(intro w hSw;(try dsimp only at hSw);go_simp;first|done|with_reducible rfl)
    try simp only [Act.put,jI,jZ,jS]
    refine takeN (i:=14) (v:=?vc14) rfl (by kernel_rfl) (by kernel_rfl) (by kernel_rfl) (fun _ _ _ h=>h) (Or.inl ⟨by rfl,?yc14⟩) hSS ?rc14
    case yc14=>(intro w hSw;(try dsimp only at hSw);go_simp;first|done|with_reducible rfl)
    try simp only [Act.put,jI,jZ,jS]
    refine takeN (i:=15) (v:=?vc15) rfl (by kernel_rfl) (by kernel_rfl) (by kernel_rfl) (fun _ _ _ h=>h) (Or.inl ⟨by rfl,?yc15⟩) hSS ?rc15
    case yc15=>(intro w hSw;(try dsimp only at hSw);go_simp;first|done|with_reducible rfl)
    try simp only [Act.put,jI,jZ,jS]
    refine doneN (by kernel_rfl) ?_ _
    go_wp2
    refine bodyPost_ret (v:=.tuple #[.int .i64 (lo:Nat),.bool false]) (by simp [results,Tryz.results223,go_sem]) rfl ?_
    exact ⟨by rw [HCN.out,HV.out],HC0.out.trans HC.out.drew⟩
theorem run_copy_rowK {P:Program} (w:World) (dT sT ty elem:TypeId) (size g o dLen dCap:Nat) (a:Addr) (sLen sCap:Nat) (cur:Array Value) (t:TypeId) (cs:List Value)
 (hu:P.underlying dT=some (.slice elem)) (hs:(P.info? elem).map (·.size)=some size)
 (hg:w.heap[g]? = some (.cells cur t (0,0))) (hn:cs.length=Nat.min sLen dLen*size)
 (hsrc:∀ j v,cs[j]? = some v→w.cell? (a.add j)=some v) (hfit:o+cs.length≤cur.size) (h1:∀ v∈cs,v.oneCell'=true) :
 (Builtin.copy_ #[dT,sT] ty #[.slice (some ⟨g,o,none⟩) dLen dCap,.slice (some a) sLen sCap]).run P w =
   .ok (goInt (Nat.min sLen dLen)) (w.setRow g (cur.toList.take o++cs++cur.toList.drop (o+cs.length)).toArray):=by
 have hl:=run_loadCells_list (P:=P) w a cs hsrc
 have hst:=run_storeCells_at P g o t cs 0 cur w hg (by simpa using hfit) h1
 cases hq:P.info? elem with
 | none=>simp [hq] at hs
 | some i =>
   have hi:i.size=size:=by simpa [hq] using hs
   simp [Builtin.copy_,run_underlying hu,Builtin.lenOf,Builtin.firstCells,sizeOf,typeInfo,hq,hi,←hn,hl,hst]
theorem wpList_copy_rowK {P:Program} {w:World} {ops:Array Oper} {rest:List Oper} {o:Oper} {a:Act} {Q:Exit→Act→World→Prop} (hgd:o.guard=none) (d s:Operand) (dT sT:TypeId)
 (ho:o.op=.call { callee:=.builtin .copy,args:=#[d,s],argTypes:=#[dT,sT] }) (v u:Value) (hd:a.eval d=v) (hs:a.eval s=u) {v':Value} {w':World}
 (hr:(Builtin.copy_ #[dT,sT] o.type #[v,u]).run P w=.ok v' w') (h:wpList P ops Q rest (a.put o.dst v') w'):wpList P ops Q (o::rest) a w:=by
 refine wpList_plain hgd fun K hK => ?_
 unfold Oper.wp
 simp [execOp,ho,resolve,invoke,builtin,hd,hs,hr,Result.andThen]
 exact hK _ _ h
theorem step_copy_rowK {P:Program} {ops:Array Oper} {o:Oper} {a:Act} {w:World} {K:Act→World→Prop} {Q:Exit→Act→World→Prop} {E:Prop}
 (hg:o.guard=none) (d x:Operand) (dT sT:TypeId) (hop:o.op=Op.call { callee:=Callee.builtin Builtin.copy,args:=#[d,x],argTypes:=#[dT,sT] })
 (v u:Value) (hd:a.eval d=v) (hx:a.eval x=u) {v':Value} {w':World} (hr:(Builtin.copy_ #[dT,sT] o.type #[v,u]).run P w=.ok v' w') (hK:K (a.put o.dst v') w') :
 if Region.wanted o (yielded ops a.tmps)=true then Oper.wp P o a w K Q else E:=by
 have hw:Region.wanted o (yielded ops a.tmps)=true:=by simp [Region.wanted,hg]
 rw [if_pos hw]
 unfold Oper.wp
 simp [execOp,hop,resolve,invoke,builtin,hd,hx,hr,Result.andThen]
 exact hK
theorem wpList_append_runK {P:Program} {w:World} {ops:Array Oper} {rest:List Oper} {o:Oper} {a:Act} {Q:Exit→Act→World→Prop} (hgd:o.guard=none) (d s:Operand) (dT sT:TypeId)
 (ho:o.op=.call { callee:=.builtin .append,args:=#[d,s],argTypes:=#[dT,sT] }) (v u:Value) (hd:a.eval d=v) (hs:a.eval s=u) {v':Value} {w':World}
 (hr:(Builtin.append_ #[dT,sT] o.type #[v,u]).run P w=.ok v' w') (h:wpList P ops Q rest (a.put o.dst v') w'):wpList P ops Q (o::rest) a w:=by
 refine wpList_plain hgd fun K hK => ?_
 unfold Oper.wp
 simp [execOp,ho,resolve,invoke,builtin,hd,hs,hr,Result.andThen]
 exact hK _ _ h
theorem take_len {α:Type} {x y:List α} {n:Nat} (h:n=x.length):(x++y).take n=x:=by rw [h,List.take_left]
theorem drop_len {α:Type} {x y:List α} {n:Nat} (h:n=x.length):(x++y).drop n=y:=by rw [h,List.drop_left]
theorem shift_rows {α:Type} (e:Nat) (C A B P:List α) (o a b cap:Nat) (hA:A.length=a) (hB:B.length=b) (hP:P.length=e) (hX:(C.drop o).take (a+b)=A++B) (hC:o+cap≤C.length) (hcap:a+b+e≤cap) :
 let R2:=C.take (o+(a+e))++B++C.drop (o+(a+e)+b)
 let R3:=R2.take (o+a)++P++R2.drop (o+a+e)
 R2.length=C.length∧R3.length=C.length∧(R3.drop o).take (a+b+e)=A++P++B:=by
 intro R2 R3
 have h1:C=C.take o++(A++(B++(C.drop o).drop (a+b))):=by
  rw [←List.append_assoc A,←hX,List.take_append_drop,List.take_append_drop]
 have hl0:(C.take o).length=o:=by rw [List.length_take];omega
 have hlR:e≤(B++(C.drop o).drop (a+b)).length:=by simp only [List.length_append,List.length_drop];omega
 generalize C.take o=C0 at *
 generalize B++(C.drop o).drop (a+b)=S at *
 have e1:C.take (o+(a+e))=C0++(A++S.take e):=by
  rw [h1,show o+(a+e)=C0.length+(a+e) from by omega,List.take_length_add_append,show a+e=A.length+e from by omega,List.take_length_add_append]
 have e2:R2=C0++(A++(S.take e++(B++C.drop (o+(a+e)+b)))):=by
  show C.take (o+(a+e))++B++C.drop (o+(a+e)+b)=_
  rw [e1]
  simp only [List.append_assoc]
 have e3:R2.take (o+a)=C0++A:=by
  rw [e2,←List.append_assoc]
  exact take_len (by rw [List.length_append];omega)
 have e4:R2.drop (o+a+e)=B++C.drop (o+(a+e)+b):=by
  rw [e2,←List.append_assoc,←List.append_assoc]
  exact drop_len (by rw [List.length_append,List.length_append,List.length_take];omega)
 have e5:R3=C0++(A++(P++(B++C.drop (o+(a+e)+b)))):=by
  show R2.take (o+a)++P++R2.drop (o+a+e)=_
  rw [e3,e4]
  simp only [List.append_assoc]
 refine ⟨?_,?_,?_⟩
 ·rw [e2]
  simp only [List.length_append,List.length_take,List.length_drop]
  omega
 ·rw [e5]
  simp only [List.length_append,List.length_drop]
  omega
 ·rw [e5,drop_len hl0.symm,←List.append_assoc,←List.append_assoc]
  exact take_len (by simp only [List.length_append];omega)
theorem grow_rows {α:Type} (e:Nat) (C A B P:List α) (a b:Nat) (hA:A.length=a) (hB:B.length=b) (hP:P.length=e) (hX:C.take a=A) (hC:a+b+e≤C.length) :
 let R2:=C.take a++P++C.drop (a+e)
 let R3:=R2.take (a+e)++B++R2.drop (a+e+b)
 R2.length=C.length∧R3.length=C.length∧R3.take (a+b+e)=A++P++B:=by
 intro R2 R3
 have e2:R2.length=C.length:=by
  show (C.take a++P++C.drop (a+e)).length=_
  simp only [List.length_append,List.length_take,List.length_drop]
  omega
 have e3:R2.take (a+e)=A++P:=by
  show (C.take a++P++C.drop (a+e)).take (a+e)=_
  rw [hX]
  exact take_len (by rw [List.length_append];omega)
 have e5:R3=A++P++B++R2.drop (a+e+b):=by
  show R2.take (a+e)++B++R2.drop (a+e+b)=_
  rw [e3]
 refine ⟨e2,?_,?_⟩
 ·rw [e5]
  simp only [List.length_append,List.length_drop]
  omega
 ·rw [e5]
  exact take_len (by simp only [List.length_append];omega)
end Go.Proofs.YthoolcpcmhhkpaaGreatDoor
