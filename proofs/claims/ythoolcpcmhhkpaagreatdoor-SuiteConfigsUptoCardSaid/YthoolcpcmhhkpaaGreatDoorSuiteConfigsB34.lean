/-
  Parts of a proof, pressed. Conditions: the form's own reach.
-/
import Derived.Test.YthoolcpcmhhkpaaGreatDoorSuiteConfigsB31
import Derived.Test.YthoolcpcmhhkpaaGreatDoorSuiteConfigsB2
import Derived.Test.YthoolcpcmhhkpaaGreatDoorSuiteConfigsB33
namespace Go.Proofs.YthoolcpcmhhkpaaGreatDoor
open Go.RowKit
theorem u64_at {w:World} {b o:Nat} {l:List Nat} (hc:∀ j,j<l.length*1→w.cell? ⟨b,o+j,none⟩=(u64s l)[j]?) (k:Nat) (h:k<l.length):w.cell? ⟨b,o+k,none⟩=some (.int .u64 (l[k]:Nat)):=by
 rw [hc k (by omega)]
 simp [u64s,h]
set_option maxRecDepth 100000 in
theorem isnan_u64 (w:World) (a:Nat):Calls Tryz.prog 345 #[.int .u64 (a:Nat)] w fun e w'=>e=.returned (.bool false)∧w'=w:=by
 go_enter Tryz.func345,Tryz.ntmps345
 have h:((a:Int) != (a:Int))=false:=by simp
 go_wp2
 go_ret
 exact ⟨rfl,rfl⟩
set_option maxRecDepth 100000 in
theorem snan_u64 (w:World) (a:Nat):Calls Tryz.prog 344 #[.int .u64 (a:Nat)] w fun e w'=>e=.returned (.bool false)∧w'=w:=by
 go_enter Tryz.func344,Tryz.ntmps344
 have h:((a:Int) != (a:Int))=false:=by simp
 go_wp2
 go_ret
 exact ⟨rfl,rfl⟩
set_option maxRecDepth 100000 in
theorem less_u64 (w:World) (a b:Nat) (B:Bool) (hB:B=decide (a<b)):Calls Tryz.prog 343 #[.int .u64 (a:Nat),.int .u64 (b:Nat)] w fun e w'=>e=.returned (.bool B)∧w'=w:=by
 have d1:decide (a<b)=B:=hB.symm
 have d2:decide ((a:Int)<(b:Int))=B:=by rw [hB];simp
 have HN:=Lib.hid (isnan_u64 w a)
 clear hB
 go_enter Tryz.func343,Tryz.ntmps343
 go_wp2_with fail
 refine HN.out.mono ?_
 rintro e w1 ⟨rfl,rfl⟩
 go_wp2
 go_ret
 first|exact ⟨rfl,rfl⟩|exact ⟨by rw [d1],rfl⟩|exact ⟨by rw [d2],rfl⟩
structure At64 (l:List Nat) (m at_:Nat) (is:Bool):Prop where
 le:at_≤l.length
 lo:∀ k,(h:k<l.length)→k<at_→l[k]<m
 hi:∀ k,(h:k<l.length)→at_≤k→m≤l[k]
 is:is=(decide (at_<l.length)&&decide (l.getD at_ 0=m))
set_option maxRecDepth 100000 in
set_option maxHeartbeats 2000000 in
theorem bs_u64 (w:World) (ao:Option Addr) (cap n:Nat) (l:List Nat) (hn:n=l.length) (m:Nat) (hrs:∀ j k,(hjk:j≤k)→(h:k<l.length)→(l[j]'(by omega))≤l[k]) (hr:Rd w 1 (.slice ao n cap) n (u64s l)) (hl:n≤100000) :
 Calls Tryz.prog 342 #[.slice ao n cap,.int .u64 (m:Nat)] w fun e w'=>∃ at_ is,e=.returned (.tuple #[.int .i64 (at_:Nat),.bool is])∧At64 l m at_ is∧Chg [] w w':=by
 have HR:=Lib.hid hrs
 have HRD:=Lib.hid hr
 have HNE:=Lib.hid hn
 clear hrs hr hn
 go_enter Tryz.func342,Tryz.ntmps342
 go_wp2
 go_loopw [7,8] (fun a b wx=>∃ lo hi:Nat,lo≤hi∧hi≤n∧a=.int .i64 (lo:Nat)∧b=.int .i64 (hi:Nat)∧Hid (∀ k,(h:k<l.length)→k<lo→l[k]<m)∧Hid (∀ k,(h:k<l.length)→hi≤k→m≤l[k])∧Chg [] w wx) (fun a b _=>(intOf b).toNat-(intOf a).toNat)
 case atStart=>exact ⟨0,n,by omega,by omega,rfl,rfl,Lib.hid (fun k _ hk=>(Nat.not_lt_zero k hk).elim),Lib.hid (fun k h hk=>absurd h (by have:=HNE.out;omega)),Chg.refl _ _⟩
 case round =>
  obtain ⟨lo,hi,hlh,hhl,rfl,rfl,H0,H1,hch⟩:=hrel
  have HCH:=Lib.hid hch
  clear hch
  by_cases hlt:lo<hi
  ·obtain ⟨b,o,rfl,hc⟩:=(HRD.out.chg HCH.out (by simp)).addr (by omega)
   obtain ⟨q,hq⟩:∃ q,q=(lo+hi) / 2:=⟨_,rfl⟩
   have hmi:((lo:Int)+(hi:Int)) / 2=(q:Int):=by omega
   have hml:q<l.length:=by have:=HNE.out;omega
   have hmlo:lo≤q:=by omega
   have hmhi:q<hi:=by omega
   have hmi2:(q:Int)<(n:Int):=by omega
   have hmi3:(0:Int)≤(q:Int):=by omega
   have c0:=u64_at (fun j hj=>hc j (by have:=HNE.out;omega)) q hml
   obtain ⟨B,hB⟩:∃ B,B=decide (l[q]<m):=⟨_,rfl⟩
   have HL:=Lib.hid (less_u64 wr l[q] m B hB)
   have hdl:decide ((lo:Int)<(hi:Int))=true:=decide_eq_true (by omega)
   have HB:=Lib.hid hB
   have HML:=Lib.hid hml
   have HNB:Hid (B=true→∀ k,(h:k<l.length)→k<q+1→l[k]<m):=Lib.hid (fun hb k h hk=>by
    rw [hb,eq_comm,decide_eq_true_eq] at hB
    have:=HR.out k q (by omega) hml
    omega)
   have HNC:Hid (B=false→∀ k,(h:k<l.length)→q≤k→m≤l[k]):=Lib.hid (fun hb k h hk=>by
    rw [hb,eq_comm,decide_eq_false_iff_not] at hB
    have:=HR.out q k hk h
    omega)
   clear hq hc hB
   generalize l[q]=y at *
   clear hml
   go_wp2_with fail
   refine HL.out.mono ?_
   rintro e w2 ⟨rfl,rfl⟩
   clear HL c0 HB HML
   cases B with
   | true =>
     have HN:=Lib.hid (HNB.out rfl)
     clear HNB HNC
     go_wp2
     exact ⟨⟨q+1,hi,by omega,by omega,by go_num,rfl,HN,H1,HCH.out⟩,by simp [intOf];omega⟩
   | false =>
     have HN:=Lib.hid (HNC.out rfl)
     clear HNB HNC
     go_wp2
     exact ⟨⟨lo,q,by omega,by omega,rfl,rfl,H0,HN,HCH.out⟩,by simp [intOf];omega⟩
  ·obtain rfl:lo=hi:=by omega
   by_cases hn:lo<n
   ·obtain ⟨b,o,rfl,hc⟩:=(HRD.out.chg HCH.out (by simp)).addr (by omega)
    have hnl:lo<l.length:=by have:=HNE.out;omega
    have c0:=u64_at (fun j hj=>hc j (by have:=HNE.out;omega)) lo hnl
    have hdn:decide ((lo:Int)<(n:Int))=true:=decide_eq_true (by omega)
    have hn0:(0:Int)≤(lo:Int):=by omega
    have hn1:(lo:Int)<(n:Int):=by omega
    obtain ⟨B,hB⟩:∃ B,B=decide (l[lo]=m):=⟨_,rfl⟩
    have HX:=Lib.hid (show At64 l m lo B from ⟨by omega,H0.out,H1.out,by rw [decide_eq_true hnl,Bool.true_and,hB];simp [List.getD,hnl]⟩)
    have hb1:((l[lo]:Int)==(m:Int))=B:=by rw [hB,Bool.eq_iff_iff,beq_iff_eq,decide_eq_true_eq];omega
    have HN1:=Lib.hid (snan_u64 wr l[lo])
    clear hc hB
    generalize l[lo]=y at *
    clear hnl
    cases B with
    | true =>
      go_wp2
      go_ret2
      exact ⟨lo,true,rfl,HX.out,HCH.out⟩
    | false =>
      go_wp2_with fail
      refine HN1.out.mono ?_
      rintro e w2 ⟨rfl,rfl⟩
      go_wp2
      go_ret2
      exact ⟨lo,false,rfl,HX.out,HCH.out⟩
   ·have hdn:decide ((lo:Int)<(n:Int))=false:=decide_eq_false (by omega)
    have HX:=Lib.hid (show At64 l m lo false from ⟨by have:=HNE.out;omega,H0.out,H1.out,by rw [decide_eq_false (by have:=HNE.out;omega)];rfl⟩)
    go_wp2
    go_ret2
    exact ⟨lo,false,rfl,HX.out,HCH.out⟩
theorem countP_atN {l:List Nat} (p:Nat→Bool):∀ {n:Nat},n≤l.length→(∀ k,(h:k<l.length)→k<n→p l[k]=true)→(∀ k,(h:k<l.length)→n≤k→p l[k]=false)→l.countP p=n:=by
 induction l with
 | nil=>intro n hn _ _;simp at hn;subst hn;rfl
 | cons a l ih =>
   intro n hn h0 h1
   cases n with
   | zero =>
     have ha:=h1 0 (by simp) (Nat.le_refl _)
     simp only [List.getElem_cons_zero] at ha
     rw [List.countP_cons,ih (n:=0) (Nat.zero_le _) (fun k _ hk=>absurd hk (Nat.not_lt_zero k)) (fun k h _=>h1 (k+1) (by simpa using h) (Nat.zero_le _)),ha]
     rfl
   | succ n =>
     have ha:=h0 0 (by simp) (by omega)
     simp only [List.getElem_cons_zero] at ha
     rw [List.countP_cons,ih (n:=n) (by simpa using hn) (fun k h hk=>h0 (k+1) (by simpa using h) (by omega)) (fun k h hk=>h1 (k+1) (by simpa using h) (by omega)),ha]
     rfl
theorem lowsT_len (num den n:Nat):(lowsT num den n).length=n:=by simp [lowsT]
theorem lowsT_get {num den n k:Nat} (h:k<(lowsT num den n).length):(lowsT num den n)[k]=lowK num den k:=by simp [lowsT]
theorem lowsT_mono {num den n:Nat} (h:TabOk num den n):∀ j k,(hjk:j≤k)→(hk:k<(lowsT num den n).length)→((lowsT num den n)[j]'(by omega))≤(lowsT num den n)[k]:=fun j k hjk hk=>by
 rw [lowsT_get,lowsT_get]
 rw [lowsT_len] at hk
 rcases Nat.lt_or_ge j k with h1|h1
 ·exact Nat.le_of_lt (h.rises k j h1 (by omega))
 ·have:j=k:=by omega
  subst this
  exact Nat.le_refl _
theorem At64.cell {num den n m at_:Nat} {is:Bool} (h:TabOk num den n) (hm:1≤m) (k:At64 (lowsT num den n) m at_ is):(if is then at_ else at_-1)=cellI num den n m∧(is=false→1≤at_):=by
 have hp:=h.pos
 have hl:=lowsT_len num den n
 have hle:=k.le
 cases is with
 | true =>
   have h1:=k.is
   rw [eq_comm,Bool.and_eq_true,decide_eq_true_eq,decide_eq_true_eq] at h1
   obtain ⟨h1,h2⟩:=h1
   have e:(lowsT num den n).getD at_ 0=(lowsT num den n)[at_]:=by simp [List.getD,h1]
   rw [e,lowsT_get] at h2
   have hc:(lowsT num den n).countP (fun l=>decide (l≤m))=at_+1:=by
    refine countP_atN _ (by omega) (fun j hj hlt => ?_) (fun j hj hge => ?_)
    ·rw [decide_eq_true_eq,←h2,←lowsT_get h1]
     exact lowsT_mono h j at_ (by omega) h1
    ·rw [decide_eq_false_iff_not,lowsT_get,←h2]
     have:=h.rises j at_ (by omega) (by omega)
     omega
   unfold cellI
   rw [hc]
   exact ⟨rfl,fun e=>absurd e (by decide)⟩
 | false =>
   have h1:=k.is
   have hne:∀ j,(hj:j<(lowsT num den n).length)→at_≤j→m<(lowsT num den n)[j]:=fun j hj hge=>by
    have h2:=k.hi j hj hge
    rcases Nat.lt_or_ge m (lowsT num den n)[j] with h3|h3
    ·exact h3
    ·have h4:(lowsT num den n)[j]=m:=by omega
     have h5:=k.hi at_ (by omega) (Nat.le_refl _)
     have h6:=lowsT_mono h at_ j hge hj
     have e:(lowsT num den n).getD at_ 0=(lowsT num den n)[at_]'(by omega):=by simp [List.getD,show at_<(lowsT num den n).length by omega]
     rw [e,decide_eq_true (show at_<(lowsT num den n).length by omega),decide_eq_true (show (lowsT num den n)[at_]'(by omega)=m by omega)] at h1
     exact absurd h1 (by decide)
   have hc:(lowsT num den n).countP (fun l=>decide (l≤m))=at_:=by
    refine countP_atN _ hle (fun j hj hlt => ?_) (fun j hj hge => ?_)
    ·have:=k.lo j hj hlt
     rw [decide_eq_true_eq];omega
    ·have:=hne j hj hge
     rw [decide_eq_false_iff_not];omega
   unfold cellI
   rw [hc]
   refine ⟨rfl,fun _ => ?_⟩
   rcases Nat.eq_zero_or_pos at_ with e|e
   ·have h2:=hne 0 (by omega) (by omega)
    rw [lowsT_get,lowK] at h2
    omega
   ·exact e
set_option maxRecDepth 100000 in
set_option maxHeartbeats 2000000 in
theorem tab_index (w:World) (t num den n:Nat) (la:Option Addr) (lc:Nat) (ra:Option Addr) (rc:Nat) (h:Tab w t num den n la lc ra rc) (hok:TabOk num den n) (m:Nat) (hm0:1≤m) (hm:m≤9223372036854775808) (I:Nat) (hI:I=cellI num den n m) :
 Calls Tryz.prog 339 #[.pointer (some ⟨t,0,none⟩),.int .u64 (m:Nat)] w fun e w'=>e=.returned (.tuple #[.int .i64 (I:Nat),.bool true])∧Chg [] w w':=by
 obtain ⟨-,-,c2,-⟩:=h.cells
 have HB:=Lib.hid (bs_u64 w la lc n (lowsT num den n) (lowsT_len num den n).symm m (lowsT_mono hok) (by have:=h.lows.rd;exact this) (by have:=hok.n1;omega))
 have HA:=Lib.hid (fun at_ is (k:At64 (lowsT num den n) m at_ is)=>k.cell hok hm0)
 rw [←hI] at HA
 have hn:=hok.n1
 have HL:=Lib.hid (fun at_ is (k:At64 (lowsT num den n) m at_ is)=>show at_≤4096 from by have h1:=k.le;rw [lowsT_len] at h1;omega)
 have d0:((m:Int)==0)=false:=by rw [beq_eq_false_iff_ne];omega
 have d1:decide (9223372036854775808<(m:Int))=false:=decide_eq_false (by omega)
 have d2:decide (9223372036854775808<m)=false:=decide_eq_false (by omega)
 clear h hok hI hm hm0 hn
 go_enter Tryz.func339,Tryz.ntmps339
 go_wp2_with fail
 refine HB.out.mono ?_
 rintro e w1 ⟨at_,is,rfl,hat,hc⟩
 have HC:=Lib.hid hc
 obtain ⟨ha,hb⟩:=HA.out _ _ hat
 have hl:=HL.out _ _ hat
 clear hc HB HA HL hat
 cases is with
 | true =>
   rw [if_pos rfl] at ha
   subst ha
   clear hb
   go_wp2
   go_ret2
   exact ⟨rfl,HC.out⟩
 | false =>
   rw [if_neg (by decide)] at ha
   have hb:=hb rfl
   have hw1:IntKind.i64.wrap ((at_:Int)-1)=(I:Int):=by rw [IntKind.wrap_i64];omega
   have HE:=Lib.hid (show ((at_:Int)-1)=(I:Int) from by omega)
   clear ha
   go_wp2
   go_ret2
   first|exact ⟨rfl,HC.out⟩|exact ⟨by rw [HE.out],HC.out⟩
set_option maxRecDepth 100000 in
theorem tab_index0 (w:World) (t:Nat):Calls Tryz.prog 339 #[.pointer (some ⟨t,0,none⟩),.int .u64 0] w fun e w'=>e=.returned (.tuple #[.int .i64 0,.bool false])∧Chg [] w w':=by
 go_enter Tryz.func339,Tryz.ntmps339
 go_wp2
 go_ret2
 exact ⟨rfl,Chg.refl _ _⟩
set_option maxRecDepth 100000 in
theorem sign_of (w:World) (x:Int) (h0:-9223372036854775808≤x) (h1:x<9223372036854775808) (m:Nat) (hm:m=x.natAbs) (B:Bool) (hB:B=decide (x<0)):Calls Tryz.prog 90 #[.int .i64 x] w fun e w'=>e=.returned (.tuple #[.int .u64 (m:Nat),.bool B])∧w'=w:=by
 by_cases hx:x<0
 ·have d:decide (x<0)=true:=decide_eq_true hx
  have hb:B=true:=by rw [hB,d]
  subst hb
  have e1:IntKind.u64.wrap (-(IntKind.u64.wrap x))=(m:Int):=by simp only [IntKind.wrap_u64];omega
  have HE:=Lib.hid e1
  clear hB hm h0 h1 hx
  go_enter Tryz.func90,Tryz.ntmps90
  go_wp2
  go_ret2
  first|exact ⟨rfl,rfl⟩|exact ⟨by rw [HE.out],rfl⟩
 ·have d:decide (x<0)=false:=decide_eq_false hx
  have hb:B=false:=by rw [hB,d]
  subst hb
  obtain rfl:x=(m:Int):=by omega
  clear hB hm hx
  go_enter Tryz.func90,Tryz.ntmps90
  go_wp2
  go_ret2
  exact ⟨rfl,rfl⟩
end Go.Proofs.YthoolcpcmhhkpaaGreatDoor
namespace Go.Proofs.YthoolcpcmhhkpaaGreatDoor
open Go.RowKit
namespace BinS
variable {w w1:World} {A:BinA} {D:BinD}
theorem minus' (h:BinS w A D) {rv:Value} {M:CapD} (k:CapS w1 A.p1 A.s1 rv M) (m:Mv (fpC A.p1 A.s1 A.r1) w (fpC A.p1 A.s1 rv) w1) :
 BinS w1 { A with r1:=rv } { D with minus:=M }∧Mv (fpBin A) w (fpBin { A with r1:=rv }) w1:=by
 have hb:A.b∉fpC A.p1 A.s1 rv:=fun hb=>by
  rcases m.fr _ hb with h1|h1
  ·exact h.b1 h1
  ·have:=h.blk.lt;omega
 have ht:∀ x∈fpTab A.t A.la A.ra,x∉fpC A.p1 A.s1 rv:=fun x hx hb=>by
  rcases m.fr _ hb with h1|h1
  ·exact (h.t1 x hx).1 h1
  ·have:=h.tab.lt x hx;omega
 have hs:∀ x∈fpC A.p1 A.s1 rv,x∉fpC A.p2 A.s2 A.r2:=fun x hx hb=>by
  rcases m.fr _ hx with h1|h1
  ·exact h.s12 x h1 hb
  ·have:=h.plus.lt x hb;omega
 refine ⟨⟨h.blk.chg m.chg h.b1,h.tab.chg m.chg (fun b hb=>(h.t1 b hb).1),h.rows,k,h.plus.chg m.chg (fun b hb e=>h.s12 b e hb),h.bt,hb,h.b2,fun x hx=>⟨ht x hx,(h.t1 x hx).2⟩,hs⟩,m.chg.mono (fun b hb=>.inl (by simp [fpBin,hb])),fun b hb => ?_⟩
 simp only [fpBin,List.mem_cons,List.mem_append] at hb ⊢
 rcases hb with hb|hb|hb|hb
 ·exact .inl (.inl hb)
 ·exact .inl (.inr (.inl hb))
 ·rcases m.fr b hb with h1|h1
  ·exact .inl (.inr (.inr (.inl h1)))
  ·exact .inr h1
 ·exact .inl (.inr (.inr (.inr hb)))
theorem plus' (h:BinS w A D) {rv:Value} {M:CapD} (k:CapS w1 A.p2 A.s2 rv M) (m:Mv (fpC A.p2 A.s2 A.r2) w (fpC A.p2 A.s2 rv) w1) :
 BinS w1 { A with r2:=rv } { D with plus:=M }∧Mv (fpBin A) w (fpBin { A with r2:=rv }) w1:=by
 have hb:A.b∉fpC A.p2 A.s2 rv:=fun hb=>by
  rcases m.fr _ hb with h1|h1
  ·exact h.b2 h1
  ·have:=h.blk.lt;omega
 have ht:∀ x∈fpTab A.t A.la A.ra,x∉fpC A.p2 A.s2 rv:=fun x hx hb=>by
  rcases m.fr _ hb with h1|h1
  ·exact (h.t1 x hx).2 h1
  ·have:=h.tab.lt x hx;omega
 have hs:∀ x∈fpC A.p1 A.s1 A.r1,x∉fpC A.p2 A.s2 rv:=fun x hx hb=>by
  rcases m.fr _ hb with h1|h1
  ·exact h.s12 x hx h1
  ·have:=h.minus.lt x hx;omega
 refine ⟨⟨h.blk.chg m.chg h.b2,h.tab.chg m.chg (fun b hb=>(h.t1 b hb).2),h.rows,h.minus.chg m.chg (fun b hb e=>h.s12 b hb e),k,h.bt,h.b1,hb,fun x hx=>⟨(h.t1 x hx).1,ht x hx⟩,hs⟩,m.chg.mono (fun b hb=>.inl (by simp [fpBin,hb])),fun b hb => ?_⟩
 simp only [fpBin,List.mem_cons,List.mem_append] at hb ⊢
 rcases hb with hb|hb|hb|hb
 ·exact .inl (.inl hb)
 ·exact .inl (.inr (.inl hb))
 ·exact .inl (.inr (.inr (.inl hb)))
 ·rcases m.fr b hb with h1|h1
  ·exact .inl (.inr (.inr (.inr h1)))
  ·exact .inr h1
theorem zero' (h:BinS w A D) (z:Nat):BinS (w.setCell ⟨A.b,5,none⟩ (.int .u64 (z:Nat))) A { D with zero:=z }∧Mv (fpBin A) w (fpBin A) (w.setCell ⟨A.b,5,none⟩ (.int .u64 (z:Nat))):=by
 have k:Chg [A.b] w (w.setCell ⟨A.b,5,none⟩ (.int .u64 (z:Nat))):=(Chg.refl _ w).setCell (by simp) _
 exact ⟨⟨h.blk.setCell 5 _,h.tab.chg k (fun b hb e=>h.bt (by simp at e;rw [←e];exact hb)),h.rows,h.minus.chg k (fun b hb e=>h.b1 (by simp at e;rw [←e];exact hb)),h.plus.chg k (fun b hb e=>h.b2 (by simp at e;rw [←e];exact hb)),h.bt,h.b1,h.b2,h.t1,h.s12⟩,Mv.of_chg ((Chg.refl _ w).setCell (.inl (by simp [fpBin])) _)⟩
theorem low_cells (h:BinS w A D) (hhi:D.hi=false):w.cell? ⟨A.b,0,none⟩=some (.iface 133 (.pointer (some ⟨A.t,0,none⟩)))∧w.cell? ⟨A.b,1,none⟩=some (.int .i64 0)∧w.cell? ⟨A.b,2,none⟩=some (.int .i64 (D.m:Int))∧w.cell? ⟨A.b,3,none⟩=some (.iface 296 (.pointer (some ⟨A.p1,0,none⟩)))∧w.cell? ⟨A.b,4,none⟩=some (.iface 296 (.pointer (some ⟨A.p2,0,none⟩)))∧w.cell? ⟨A.b,5,none⟩=some (.int .u64 (D.zero:Nat)):=by
 have:=h.blk
 rw [hhi] at this
 exact ⟨this.cell 0,this.cell 1,this.cell 2,this.cell 3,this.cell 4,this.cell 5⟩
theorem high_cells (h:BinS w A D) (hhi:D.hi=true):w.cell? ⟨A.b,0,none⟩=some (.iface 133 (.pointer (some ⟨A.t,0,none⟩)))∧w.cell? ⟨A.b,1,none⟩=some (.int .i64 1)∧w.cell? ⟨A.b,2,none⟩=some (.int .i64 (D.m:Int))∧w.cell? ⟨A.b,3,none⟩=some (.iface 293 (.pointer (some ⟨A.p1,0,none⟩)))∧w.cell? ⟨A.b,4,none⟩=some (.iface 293 (.pointer (some ⟨A.p2,0,none⟩)))∧w.cell? ⟨A.b,5,none⟩=some (.int .u64 (D.zero:Nat)):=by
 have:=h.blk
 rw [hhi] at this
 exact ⟨this.cell 0,this.cell 1,this.cell 2,this.cell 3,this.cell 4,this.cell 5⟩
end BinS
end Go.Proofs.YthoolcpcmhhkpaaGreatDoor
