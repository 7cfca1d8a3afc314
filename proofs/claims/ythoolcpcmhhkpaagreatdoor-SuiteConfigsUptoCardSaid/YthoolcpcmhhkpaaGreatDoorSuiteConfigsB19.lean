/-
  Parts of a proof, pressed. Conditions: the form's own reach.
-/
import Derived.Test.YthoolcpcmhhkpaaGreatDoorSuiteConfigsB18
import Derived.Test.YthoolcpcmhhkpaaGreatDoorSuiteConfigsLBitLen
import Derived.Test.YthoolcpcmhhkpaaGreatDoorSuiteConfigsB15
import Derived.Test.YthoolcpcmhhkpaaGreatDoorSuiteConfigsB1
import Derived.Test.YthoolcpcmhhkpaaGreatDoorProg
import Derived.Test.YthoolcpcmhhkpaaGreatDoorSuiteConfigsB5
import Derived.Lib.SmallJoins
import Derived.Laws.StructEq
namespace Go.Proofs.YthoolcpcmhhkpaaGreatDoor
open Go.RowKit
theorem SqR.step {f:Nat} {r R r':List Pr} {b:Bool} (h:SqR f r R) (e:pass f r=(b,r')):(b=false∧r'=R)∨(b=true∧SqR f r' R):=by
 cases h with
 | stop h2 =>
   rw [h2] at e
   simp only [Prod.mk.injEq] at e
   exact .inl ⟨e.1.symm,e.2.symm⟩
 | go h2 h3 =>
   rw [h2] at e
   simp only [Prod.mk.injEq] at e
   rw [←e.2]
   exact .inr ⟨e.1.symm,h3⟩
theorem ok_row {D:DgD} (h:D.ok) {r:List Pr} (h1:Nodes r D.top) (h2:totP r≤9223372036854775807) (h3:r.length≤1000):({ D with row:=r }:DgD).ok:=⟨h.d1,h.d2,h.f1,h.f2,h1,h2,h3⟩
theorem take_rev (l:List Int) (k:Nat) (h:k<l.length):(l.take (k+1)).reverse=l[k]::(l.take k).reverse:=by
 rw [List.take_succ_eq_append_getElem h]
 simp
theorem lift_row {D:DgD} (h:D.ok) {v:Int} (h1:1≤v) (h2:v<D.top):({ D with row:=(liftV D.factor D.row v).2 }:DgD).ok:=by
 obtain ⟨a1,a2,-,a4,-⟩:=lift_ok (f:=D.factor) h.nodes h1 h2
 exact ok_row h a1 (by rw [a2];exact h.tot) (Nat.le_trans a4 h.len)
set_option maxRecDepth 100000 in
set_option maxHeartbeats 8000000 in
theorem dg_squeeze (w:World) (p s:Nat) (rv:Value) (D:DgD) (h:Dg w p s rv D) (hok:D.ok) :
 Calls Tryz.prog 168 #[.pointer (some ⟨p,0,none⟩)] w fun e w'=>e=.returned (.tuple #[])∧∃ s' rv',Dg w' p s' rv' { D with row:=squeezeR D.factor D.row }∧Mv (fpD p s rv) w (fpD p s' rv') w':=by
 obtain ⟨R,hR⟩:∃ R,R=squeezeR D.factor D.row:=⟨_,rfl⟩
 have hsq:=squeezeR_is (f:=D.factor) hok.nodes
 rw [←hR] at hsq ⊢
 have HSQ:=Lib.hid hsq
 have HH:=Lib.hid h
 have HOK:=Lib.hid hok
 obtain ⟨G,hG⟩:∃ G,G=phi D.row+2:=⟨_,rfl⟩
 have HGP:=Lib.hid (show phi D.row<G from by omega)
 clear hR hsq h hok hG
 go_enter Tryz.func168,Tryz.ntmps168
 go_wp2_with fail
 go_loopg [2] G (fun g m wx=>∃ (b:Bool) (r:List Pr) (s':Nat) (rv':Value),m=.bool b∧Dg wx p s' rv' { D with row:=r }∧Mv (fpD p s rv) w (fpD p s' rv') wx∧Hid (({ D with row:=r }:DgD).ok)∧Hid (if b then SqR D.factor r R else r=R)∧(b=true→phi r<g))
 case atStart=>exact ⟨true,D.row,s,rv,rfl,HH.out,Mv.of_chg (Chg.refl _ _),HOK,Lib.hid HSQ.out,fun _=>HGP.out⟩
 case round =>
  obtain ⟨b,r,s1,rv1,rfl,hdg,hmv,HO,HQ,hph⟩:=hrel
  have HDG:=Lib.hid hdg
  have HMV:=Lib.hid hmv
  have HPH:=Lib.hid hph
  clear hdg hmv hph
  cases b with
  | false =>
    have hrR:r=R:=HQ.out
    subst hrR
    go_wp2_with fail
    go_end0
    exact ⟨rfl,s1,rv1,HDG.out,HMV.out⟩
  | true =>
    obtain ⟨T,hT⟩:∃ T,T=pass D.factor r:=⟨_,rfl⟩
    have HT:=Lib.hid hT
    obtain ⟨-,-,-,c3,-,-⟩:=HDG.out.cells
    obtain ⟨n,hn⟩:∃ n,n=r.length:=⟨_,rfl⟩
    have hn1:n≤1000:=by have:=HO.out.len;simp only at this;omega
    have HPA:=Lib.hid (strip_pairs wr s1 rv1 r HDG.out.strip n hn hn1)
    have HN:=Lib.hid hn
    obtain ⟨go,hgo⟩:∃ z,z=gk:=⟨_,rfl⟩
    have HGO:=Lib.hid (show go=gk∧phi r<go from ⟨hgo,by rw [hgo];exact HPH.out rfl⟩)
    have HSR:=Lib.hid (show SqR D.factor r R from HQ.out)
    have hgl:go=gk:=hgo
    clear hT hn hgo HPH HQ
    go_wp2_with fail
    refine HPA.out.mono ?_
    rintro e w2 ⟨a2,c2,rfl,ho2,hc2,hf2⟩
    have HO2:=Lib.hid ho2
    have HD2:=Lib.hid (HDG.out.chg hc2 (by simp))
    have HM2:=Lib.hid (HMV.out.trans (Mv.of_chg (F:=fpD p s1 rv1) hc2.nil))
    have HF2:=Lib.hid (show ∀ x∈abl a2,x∉fpD p s1 rv1 from fun x hx e=>by have h1:=hf2 x hx;have h2:=HDG.out.lt x e;omega)
    clear ho2 hc2 hf2 HPA c3
    have hwn:IntKind.i64.wrap ((n:Int)-1)=(n:Int)-1:=by rw [IntKind.wrap_i64];omega
    go_wp2_with fail
    go_loopg [2,4] n (fun g m i wx=>∃ (b:Bool) (x:List Pr) (s':Nat) (rv':Value),g≤n∧i=.int .i64 (if g=0 then -1 else ((g-1:Nat):Int))∧m=.bool b∧Dg wx p s' rv' { D with row:=x }∧Mv (fpD p s1 rv1) w2 (fpD p s' rv') wx∧Hid (({ D with row:=x }:DgD).ok)∧Hid (passV D.factor ((r.map Pr.i).take g).reverse b x=T))
    case atStart=>exact ⟨false,r,s1,rv1,Nat.le_refl _,by (split<;>congr 1<;>omega),rfl,HD2.out,Mv.of_chg (Chg.refl _ _),HO,Lib.hid (by rw [HT.out,List.take_of_length_le (by simp [HN.out])];rfl)⟩
    case round =>
     obtain ⟨b,x,s3,rv3,hgn,hi,rfl,hd3,hm3,HO3,HP3⟩:=hrel
     have HD3:=Lib.hid hd3
     have HM3:=Lib.hid hm3
     clear hd3 hm3
     by_cases hg0:gk=0
     ·have hi2:=hi
      rw [if_pos hg0] at hi2
      clear hi
      subst hi2
      have hT2:=HP3.out
      rw [hg0,List.take_zero,List.reverse_nil,passV,HT.out] at hT2
      have HNX:=Lib.hid (show (b=false∧x=R)∨(b=true∧SqR D.factor x R∧phi x<phi r) from by
       rcases HSR.out.step hT2.symm with h|h
       ·exact .inl h
       ·refine .inr ⟨h.1,h.2,?_⟩
        have h3:=(pass_ok (f:=D.factor) HO.out.nodes).2.2.1
        rw [←hT2] at h3
        exact h3 h.1)
      clear hT2 hg0 hgn
      go_wp2_with fail
      rcases HNX.out with ⟨rfl,h2⟩|⟨rfl,h2,h3⟩
      ·go_roundg 0
       case measure=>have:=HGO.out;omega
       case rel=>exact ⟨false,x,s3,rv3,rfl,HD3.out,HM2.out.trans HM3.out,HO3,Lib.hid h2,fun e=>absurd e (by decide)⟩
      ·go_roundg (phi x+1)
       case measure=>have:=HGO.out;omega
       case rel=>exact ⟨true,x,s3,rv3,rfl,HD3.out,HM2.out.trans HM3.out,HO3,Lib.hid h2,fun _=>Nat.lt_succ_self _⟩
     ·obtain ⟨j,hj⟩:∃ j,gk=j+1:=⟨gk-1,by omega⟩
      have hi2:=hi
      rw [if_neg hg0,hj,Nat.add_sub_cancel] at hi2
      clear hi
      subst hi2
      have hjl:j<r.length:=by have:=HN.out;omega
      obtain ⟨b2,o2,rfl,hcc⟩:=(HO2.out.chg HM3.out.chg (fun y hy=>HF2.out y (by simpa using hy))).rd.addr (by omega)
      rw [HN.out] at hcc
      obtain ⟨e0,-⟩:=pr_at hcc hjl
      have hvx:=HO.out.nodes.ix _ (List.getElem_mem hjl)
      have hT2:=HP3.out
      rw [hj,take_rev (r.map Pr.i) j (by simpa using hjl),List.getElem_map,passV] at hT2
      generalize r[j].i=v at *
      have HLI:=Lib.hid (dg_lift wr p s3 rv3 { D with row:=x } HD3.out HO3.out v hvx.1 hvx.2)
      have HOK3:=Lib.hid (lift_row HO3.out hvx.1 hvx.2)
      obtain ⟨lx,hlx⟩:∃ z,z=liftV D.factor x v:=⟨_,rfl⟩
      have HLI2:=Lib.hid (show Calls Tryz.prog 212 #[.pointer (some ⟨p,0,none⟩),.int .i64 v] wr fun e w'=>e=.returned (.bool lx.1)∧∃ s' rv',Dg w' p s' rv' { D with row:=lx.2 }∧Mv (fpD p s3 rv3) wr (fpD p s' rv') w' from by rw [hlx];exact HLI.out)
      have HOK4:=Lib.hid (show ({ D with row:=lx.2 }:DgD).ok from by rw [hlx];exact HOK3.out)
      rw [←hlx] at hT2
      have HT2:=Lib.hid hT2
      have hjn:j<n:=by omega
      have hjk:j<gk:=by omega
      have HJ:=Lib.hid (show j<gk∧j≤n from ⟨hjk,by omega⟩)
      clear hcc hvx hT2 hlx HLI HOK3 hg0 hgn hj hjl
      have hwj:IntKind.i64.wrap ((j:Int)-1)=(j:Int)-1:=by rw [IntKind.wrap_i64];omega
      go_wp2_with fail
      refine HLI2.out.mono ?_
      rintro e w4 ⟨rfl,s4,rv4,hd4,hm4⟩
      have HD4:=Lib.hid hd4
      have HM4:=Lib.hid (HM3.out.trans hm4)
      clear hd4 hm4 HLI2 e0
      obtain ⟨lb,lr⟩:=lx
      cases lb with
      | true =>
        go_wp2_with fail
        go_roundg j
        case measure=>exact HJ.out.1
        case rel=>exact ⟨true,lr,s4,rv4,HJ.out.2,by (split<;>congr 1<;>omega),rfl,HD4.out,HM4.out,HOK4,Lib.hid (by have h:=HT2.out;simpa using h)⟩
      | false =>
        go_wp2_with fail
        go_roundg j
        case measure=>exact HJ.out.1
        case rel=>exact ⟨b,lr,s4,rv4,HJ.out.2,by (split<;>congr 1<;>omega),rfl,HD4.out,HM4.out,HOK4,Lib.hid (by have h:=HT2.out;simpa using h)⟩
def DgD.ends (D:DgD) (lo hi:Int):DgD:=if totP D.row=0 then { D with least:=lo,most:=hi } else { D with least:=min D.least lo,most:=max D.most hi }
theorem DgD.ends_same (D:DgD) (lo hi:Int):(D.ends lo hi).depth=D.depth∧(D.ends lo hi).factor=D.factor∧(D.ends lo hi).row=D.row:=by
 unfold DgD.ends
 split<;>exact ⟨rfl,rfl,rfl⟩
theorem Dg.setEnds {w:World} {p s:Nat} {rv:Value} {D:DgD} (h:Dg w p s rv D) (lo hi:Int) :
 Dg ((w.setCell ⟨p,4,none⟩ (.int .i64 lo)).setCell ⟨p,5,none⟩ (.int .i64 hi)) p s rv { D with least:=lo,most:=hi }∧Chg [p] w ((w.setCell ⟨p,4,none⟩ (.int .i64 lo)).setCell ⟨p,5,none⟩ (.int .i64 hi)):=by
 have k2:Chg [p] w ((w.setCell ⟨p,4,none⟩ (.int .i64 lo)).setCell ⟨p,5,none⟩ (.int .i64 hi)):=((Chg.refl _ w).setCell (a:=⟨p,4,none⟩) (.inl (by simp)) _).setCell (a:=⟨p,5,none⟩) (.inl (by simp)) _
 refine ⟨⟨?_,h.strip.chg k2 (fun b hb e=>by simp at e;subst e;exact h.p_fp hb),h.ne⟩,k2⟩
 exact (h.blk.setCell 4 (.int .i64 lo)).setCell 5 (.int .i64 hi)
set_option maxRecDepth 100000 in
set_option maxHeartbeats 1000000 in
theorem dg_tidy (w:World) (p s:Nat) (rv:Value) (D:DgD) (h:Dg w p s rv D) (hok:D.ok) :
 Calls Tryz.prog 106 #[.pointer (some ⟨p,0,none⟩)] w fun e w'=>e=.returned (.tuple #[])∧∃ s' rv',Dg w' p s' rv' { D with row:=tidyR D.factor D.row }∧Mv (fpD p s rv) w (fpD p s' rv') w':=by
 obtain ⟨-,-,-,c3,-,-⟩:=h.cells
 obtain ⟨n,hn⟩:∃ n,n=D.row.length:=⟨_,rfl⟩
 have HLE:=Lib.hid (strip_len w s rv D.row h.strip n hn)
 have HMO:=Lib.hid (dg_most w p s rv D h hok.f2)
 have HSQ:=Lib.hid (dg_squeeze w p s rv D h hok)
 have HH:=Lib.hid h
 obtain ⟨m,hm⟩:∃ m,m=4*D.factor:=⟨_,rfl⟩
 have HT:=Lib.hid (show tidyR D.factor D.row=if m<n then squeezeR D.factor D.row else D.row from by rw [hm,hn];rfl)
 rw [←hm] at HMO
 clear h hok hn hm
 go_enter Tryz.func106,Tryz.ntmps106
 go_wp2_with fail
 refine HLE.out.mono ?_
 rintro e w1 ⟨rfl,rfl⟩
 go_wp2_with fail
 refine HMO.out.mono ?_
 rintro e w1 ⟨rfl,rfl⟩
 by_cases h1:m<n
 ·have d1:decide ((m:Int)<(n:Int))=true:=decide_eq_true (by omega)
  have d1':decide (m<n)=true:=decide_eq_true h1
  rw [if_pos h1] at HT
  clear h1
  go_wp2_with fail
  refine HSQ.out.mono ?_
  rintro e w2 ⟨rfl,s2,rv2,h2,h3⟩
  have H2:=Lib.hid h2
  have H3:=Lib.hid h3
  clear h2 h3
  go_wp2_with fail
  go_end0
  rw [HT.out]
  exact ⟨rfl,s2,rv2,H2.out,H3.out⟩
 ·have d1:decide ((m:Int)<(n:Int))=false:=decide_eq_false (by omega)
  have d1':decide (m<n)=false:=decide_eq_false h1
  rw [if_neg h1] at HT
  clear h1
  go_wp2_with fail
  go_end0
  rw [HT.out]
  exact ⟨rfl,s,rv,HH.out,Mv.of_chg (Chg.refl _ _)⟩
set_option maxRecDepth 100000 in
set_option maxHeartbeats 4000000 in
theorem dg_ends (w:World) (p s:Nat) (rv:Value) (D:DgD) (h:Dg w p s rv D) (lo hi:Int) :
 Calls Tryz.prog 105 #[.pointer (some ⟨p,0,none⟩),.int .i64 lo,.int .i64 hi] w fun e w'=>e=.returned (.tuple #[])∧Dg w' p s rv (D.ends lo hi)∧Chg [p] w w':=by
 have HTO:=Lib.hid (dg_total w p s rv D h)
 have HH:=Lib.hid h
 obtain ⟨-,-,-,-,c4,c5⟩:=h.cells
 have f4:=h.blk.free 4
 have f5:=h.blk.free 5
 obtain ⟨T,hT⟩:∃ T,T=totP D.row:=⟨_,rfl⟩
 have HE:=Lib.hid (show D.ends lo hi=if T=0 then { D with least:=lo,most:=hi } else { D with least:=min D.least lo,most:=max D.most hi } from by rw [hT];rfl)
 rw [←hT] at HTO
 clear h hT
 go_enter Tryz.func105,Tryz.ntmps105
 go_wp2_with fail
 refine HTO.out.mono ?_
 rintro e w1 ⟨rfl,rfl⟩
 by_cases h0:T=0
 ·have d0:((T:Int)==0)=true:=by rw [beq_iff_eq];omega
  rw [if_pos h0] at HE
  have HS:=Lib.hid (HH.out.setEnds lo hi)
  clear h0 HTO
  go_wp2_with fail
  refine bodyPost_ret (results_none rfl _ _ _) rfl ?_
  rw [HE.out]
  exact ⟨rfl,HS.out.1,HS.out.2⟩
 ·have d0:((T:Int)==0)=false:=by rw [beq_eq_false_iff_ne];omega
  rw [if_neg h0] at HE
  clear h0 HTO
  go_upto_region 2 with (fail)
  have hSS:w.drew.cell? ⟨p,4,none⟩=some (.int .i64 D.least)∧w.drew.cell? ⟨p,5,none⟩=some (.int .i64 D.most):=⟨c4,c5⟩
  refine startG (S:=fun wx=>wx.cell? ⟨p,4,none⟩=some (.int .i64 D.least)∧wx.cell? ⟨p,5,none⟩=some (.int .i64 D.most)) (st:=16) (by kernel_rfl) hSS (fun hHeld => ?_)
  refine takeP (i:=0) (v:=?vz0) rfl (by kernel_rfl) (by kernel_rfl) (by kernel_rfl) (by decide) (fun _ _ _ h=>h) (Or.inl ⟨by rfl,?yz0⟩) hSS ?rz0
  case yz0=>(intro w _;go_simp;first|done|with_reducible rfl)
  try simp only [Act.put,jI,jZ,jS]
  refine takeP (i:=1) (v:=?vz1) rfl (by kernel_rfl) (by kernel_rfl) (by kernel_rfl) (by decide) (fun _ _ _ h=>h) (Or.inl ⟨by rfl,?yz1⟩) hSS ?rz1
  case yz1=>(intro w _;go_simp;first|done|with_reducible rfl)
  try simp only [Act.put,jI,jZ,jS]
  refine takeP (i:=2) (v:=?vz2) rfl (by kernel_rfl) (by kernel_rfl) (by kernel_rfl) (by decide) (fun _ _ _ h=>h) (Or.inl ⟨by rfl,?yz2⟩) hSS ?rz2
  case yz2=>(intro w _;go_simp;first|done|with_reducible rfl)
  try simp only [Act.put,jI,jZ,jS]
  refine takeP (i:=3) (v:=?vz3) rfl (by kernel_rfl) (by kernel_rfl) (by kernel_rfl) (by decide) (fun _ _ _ h=>h) (Or.inl ⟨by rfl,?yz3⟩) hSS ?rz3
  case yz3=>(intro w _;go_simp;first|done|with_reducible rfl)
  try simp only [Act.put,jI,jZ,jS]
  refine takeP (i:=4) (v:=?vz4) rfl (by kernel_rfl) (by kernel_rfl) (by kernel_rfl) (by decide) (fun _ _ _ h=>h) (Or.inl ⟨by rfl,?yz4⟩) hSS ?rz4
  case yz4=>(intro w _;go_simp;first|done|with_reducible rfl)
  try simp only [Act.put,jI,jZ,jS]
  refine takeG (i:=5) (v:=?vz5) rfl (by kernel_rfl) (by kernel_rfl) (by kernel_rfl) (by decide) (by kernel_rfl) (by kernel_rfl) (fun _ _ _ h=>h) (Or.inl ⟨by rfl,?yz5⟩) hSS ?rz5
  case yz5=>(intro w hSw;(try dsimp only at hSw);go_simp;first|done|with_reducible rfl)
  try simp only [Act.put,jI,jZ,jS]
  refine takeP (i:=6) (v:=?vz6) rfl (by kernel_rfl) (by kernel_rfl) (by kernel_rfl) (by decide) (fun _ _ _ h=>h) (Or.inl ⟨by rfl,?yz6⟩) hSS ?rz6
  case yz6=>(intro w _;go_simp;first|done|with_reducible rfl)
  try simp only [Act.put,jI,jZ,jS]
  refine takeP (i:=7) (v:=?vz7) rfl (by kernel_rfl) (by kernel_rfl) (by kernel_rfl) (by decide) (fun _ _ _ h=>h) (Or.inl ⟨by rfl,?yz7⟩) hSS ?rz7
  case yz7=>(intro w _;go_simp;first|done|with_reducible rfl)
  try simp only [Act.put,jI,jZ,jS]
  refine takeP (i:=8) (v:=?vz8) rfl (by kernel_rfl) (by kernel_rfl) (by kernel_rfl) (by decide) (fun _ _ _ h=>h) (Or.inl ⟨by rfl,?yz8⟩) hSS ?rz8
  case yz8=>(intro w _;go_simp;first|done|with_reducible rfl)
  try simp only [Act.put,jI,jZ,jS]
  refine takeP (i:=9) (v:=?vz9) rfl (by kernel_rfl) (by kernel_rfl) (by kernel_rfl) (by decide) (fun _ _ _ h=>h) (Or.inl ⟨by rfl,?yz9⟩) hSS ?rz9
  case yz9=>(intro w _;go_simp;first|done|with_reducible rfl)
  try simp only [Act.put,jI,jZ,jS]
  refine takeP (i:=10) (v:=?vz10) rfl (by kernel_rfl) (by kernel_rfl) (by kernel_rfl) (by decide) (fun _ _ _ h=>h) (Or.inl ⟨by rfl,?yz10⟩) hSS ?rz10
  case yz10=>(intro w _;go_simp;first|done|with_reducible rfl)
  try simp only [Act.put,jI,jZ,jS]
  refine takeG (i:=11) (v:=?vz11) rfl (by kernel_rfl) (by kernel_rfl) (by kernel_rfl) (by decide) (by kernel_rfl) (by kernel_rfl) (fun _ _ _ h=>h) (Or.inl ⟨by rfl,?yz11⟩) hSS ?rz11
  case yz11=>(intro w hSw;(try dsimp only at hSw);go_simp;first|done|with_reducible rfl)
  try simp only [Act.put,jI,jZ,jS]
  refine takeP (i:=12) (v:=?vz12) rfl (by kernel_rfl) (by kernel_rfl) (by kernel_rfl) (by decide) (fun _ _ _ h=>h) (Or.inl ⟨by rfl,?yz12⟩) hSS ?rz12
  case yz12=>(intro w _;go_simp;first|done|with_reducible rfl)
  try simp only [Act.put,jI,jZ,jS]
  refine takeP (i:=13) (v:=?vz13) rfl (by kernel_rfl) (by kernel_rfl) (by kernel_rfl) (by decide) (fun _ _ _ h=>h) (Or.inl ⟨by rfl,?yz13⟩) hSS ?rz13
  case yz13=>(intro w _;go_simp;first|done|with_reducible rfl)
  try simp only [Act.put,jI,jZ,jS]
  refine takeP (i:=14) (v:=?vz14) rfl (by kernel_rfl) (by kernel_rfl) (by kernel_rfl) (by decide) (fun _ _ _ h=>h) (Or.inl ⟨by rfl,?yz14⟩) hSS ?rz14
  case yz14=>(intro w _;go_simp;first|done|with_reducible rfl)
  try simp only [Act.put,jI,jZ,jS]
  refine takeP (i:=15) (v:=?vz15) rfl (by kernel_rfl) (by kernel_rfl) (by kernel_rfl) (by decide) (fun _ _ _ h=>h) (Or.inl ⟨by rfl,?yz15⟩) hSS ?rz15
  case yz15=>(intro w _;go_simp;first|done|with_reducible rfl)
  try simp only [Act.put,jI,jZ,jS]
  refine readyG (rs:=[16]) (by kernel_rfl) (by simp) (consG rfl (fun K hK => ?_) nilG)
  go_simp
  refine hK.out _ _ (fun h=>absurd rfl h) (fun hHeld => ?_)
  clear hK K hHeld
  try simp only [Act.put,jI,jZ,jS]
  refine readyG (rs:=[17]) (by kernel_rfl) (by simp) (consG rfl (fun K hK => ?_) nilG)
  go_simp
  refine hK.out _ _ (fun _ h=>absurd h (by decide)) (fun hHeld => ?_)
  clear hK K hHeld
  try simp only [Act.put,jI,jZ,jS]
  refine readyG (rs:=[18]) (by kernel_rfl) (by simp) (consG rfl (fun K hK => ?_) nilG)
  go_simp
  refine hK.out _ _ (fun _ h=>absurd h (by decide)) (fun hHeld => ?_)
  clear hK K hHeld
  try simp only [Act.put,jI,jZ,jS]
  refine readyG (rs:=[19]) (by kernel_rfl) (by simp) (consG rfl (fun K hK => ?_) nilG)
  go_simp
  refine hK.out _ _ (fun _ h=>absurd h (by decide)) (fun hHeld => ?_)
  clear hK K hHeld
  try simp only [Act.put,jI,jZ,jS]
  refine doneG (by kernel_rfl) ?_ _
  have HS:=Lib.hid (HH.out.setEnds (min D.least lo) (max D.most hi))
  have e1:(if lo<D.least then lo else D.least)=min D.least lo:=by split<;>omega
  have e2:(if D.most<hi then hi else D.most)=max D.most hi:=by split<;>omega
  first|rw [e1,e2]|skip
  clear e1 e2 hSS
  go_wp2_with fail
  go_end0
  rw [HE.out]
  exact ⟨rfl,HS.out.1.chg ((Chg.refl [] _).drew) (by simp),HS.out.2.drew⟩
theorem Dg.mvEnds {w w1:World} {p s:Nat} {rv:Value} (k:Chg [p] w w1):Mv (fpD p s rv) w (fpD p s rv) w1:=⟨k.mono (fun b hb=>.inl (by simp at hb;subst hb;simp [fpD])),fun b hb=>.inl hb⟩
noncomputable def DgD.put (D:DgD) (x:Int) (c:Nat):DgD:={ D.ends x x with row:=tidyR D.factor (refAdd D.row (((2^D.depth:Nat):Int)+x) c) }
theorem DgD.ends_ok {D:DgD} (h:D.ok) (lo hi:Int):(D.ends lo hi).ok:=by
 unfold DgD.ends
 split<;>exact ⟨h.d1,h.d2,h.f1,h.f2,h.nodes,h.tot,h.len⟩
theorem DgD.put_ok {D:DgD} (h:D.ok) {x:Int} {c:Nat} (h0:0≤x) (h1:x<((2^D.depth:Nat):Int)) (hc:totP D.row+c≤9223372036854775807) (hl:D.row.length+1≤1000) :
 (D.put x c).ok∧(D.put x c).depth=D.depth∧(D.put x c).factor=D.factor∧totP (D.put x c).row=totP D.row+c∧(D.put x c).row.length≤D.row.length+1:=by
 obtain ⟨e1,e2,e3⟩:=D.ends_same x x
 have hp:=two_d h.d1 h.d2
 have hN:Nodes (refAdd D.row (((2^D.depth:Nat):Int)+x) c) D.top:=h.nodes.add (by omega) (by unfold DgD.top;omega) c
 obtain ⟨t1,t2,t3⟩:=tidyR_ok (f:=D.factor) hN
 have t4:=refAdd_len (i:=((2^D.depth:Nat):Int)+x) h.nodes.up c
 have t5:=refAdd_tot (i:=((2^D.depth:Nat):Int)+x) h.nodes.up c
 refine ⟨⟨?_,?_,?_,?_,?_,?_,?_⟩,e1,e2,?_,?_⟩
 ·show 1≤(D.ends x x).depth;rw [e1];exact h.d1
 ·show (D.ends x x).depth≤24;rw [e1];exact h.d2
 ·show 1≤(D.ends x x).factor;rw [e2];exact h.f1
 ·show (D.ends x x).factor≤64;rw [e2];exact h.f2
 ·show Nodes (tidyR D.factor _) (2*((2^(D.ends x x).depth:Nat):Int));rw [e1];exact t1
 ·show totP (tidyR D.factor _)≤_;omega
 ·show (tidyR D.factor _).length≤_;omega
 ·show totP (tidyR D.factor _)=_;omega
 ·show (tidyR D.factor _).length≤_;omega
set_option maxRecDepth 100000 in
set_option maxHeartbeats 4000000 in
theorem dg_put (w:World) (p s:Nat) (rv:Value) (D:DgD) (h:Dg w p s rv D) (hok:D.ok) (x:Int) (c:Nat) (h0:0≤x) (h1:x<((2^D.depth:Nat):Int)) (hc1:1≤c) (hc:totP D.row+c≤9223372036854775807) (hl:D.row.length+1≤1000) :
 Calls Tryz.prog 56 #[.pointer (some ⟨p,0,none⟩),.int .i64 x,.int .u64 (c:Nat)] w fun e w'=>e=.returned (.int .i64 0)∧∃ s' rv',Dg w' p s' rv' (D.put x c)∧Mv (fpD p s rv) w (fpD p s' rv') w':=by
 obtain ⟨P,hP⟩:∃ P,P=2^D.depth:=⟨_,rfl⟩
 have hp2:=two_d hok.d1 hok.d2
 rw [←hP] at h1 hp2
 have HLF:=Lib.hid (fun u=>tree_leaf u D.depth P hok.d1 hok.d2 hP x h0 h1)
 obtain ⟨T,hT⟩:∃ T,T=totP D.row:=⟨_,rfl⟩
 obtain ⟨S,hS⟩:∃ S,S=T+c:=⟨_,rfl⟩
 rw [←hT] at hc
 have HTO:=Lib.hid (fun u (hu:Chg [] w u)=>dg_total u p s rv D (h.chg hu (by simp)))
 rw [←hT] at HTO
 have HPL:=Lib.hid (fun u b0 hb0=>wide_plus2 u T c (by omega) (by omega) b0 hb0)
 have e:plusV [T,c]=.tuple #[.int .u64 (S:Nat),.bool true]:=by
  have e0:[T,c].sum=S:=by simp [hS]
  unfold plusV
  rw [e0,if_pos (by omega)]
 rw [e] at HPL
 obtain ⟨E,hE⟩:∃ E,E=D.ends x x:=⟨_,rfl⟩
 obtain ⟨e1,e2,e3⟩:=D.ends_same x x
 rw [←hE] at e1 e2 e3
 have HEN:=Lib.hid (fun u (hu:Chg [] w u)=>dg_ends u p s rv D (h.chg hu (by simp)) x x)
 rw [←hE] at HEN
 have HEO:=Lib.hid (show E.ok from by rw [hE];exact DgD.ends_ok hok x x)
 obtain ⟨r2,hr2⟩:∃ r,r=refAdd D.row ((P:Int)+x) c:=⟨_,rfl⟩
 have hN:Nodes r2 D.top:=by rw [hr2];exact hok.nodes.add (by omega) (by unfold DgD.top;rw [←hP];omega) c
 have t4:=refAdd_len (i:=(P:Int)+x) hok.nodes.up c
 have t5:=refAdd_tot (i:=(P:Int)+x) hok.nodes.up c
 rw [←hr2] at t4 t5
 have HO2:=Lib.hid (show ({ E with row:=r2 }:DgD).ok from ⟨HEO.out.d1,HEO.out.d2,HEO.out.f1,HEO.out.f2,by unfold DgD.top;simp only;rw [e1];exact hN,by show totP r2≤_;omega,by show r2.length≤_;omega⟩)
 have HAD:=Lib.hid (fun u (hu:Spt u s rv E.row)=>strip_add u s rv E.row hu HEO.out.nodes.up HEO.out.nodes.pos HEO.out.len ((P:Int)+x) c hc1 (by rw [e3,←hT];exact hc))
 have hra:refAdd E.row ((P:Int)+x) c=r2:=by rw [e3,hr2]
 rw [hra] at HAD
 have HPT:=Lib.hid (show D.put x c={ E with row:=tidyR E.factor r2 } from by rw [DgD.put,←hE,e2,hr2,hP])
 have HH:=Lib.hid h
 have HS:=Lib.hid (fun wx (hu:Chg [] w wx)=>show wx.cell? ⟨p,2,none⟩=some (.int .i64 (D.depth:Nat)) from (h.chg hu (by simp)).cells.2.2.1)
 have d0:((c:Int)==0)=false:=by rw [beq_eq_false_iff_ne];omega
 have c2:=HS.out _ (Chg.refl _ _)
 clear h hok hP h0 h1 hc hl hT hS e hE e1 e2 e3 hr2 hN t4 t5 hra hp2 hc1
 go_enter Tryz.func56,Tryz.ntmps56
 go_wp2_with fail
 refine (HLF.out _).mono ?_
 rintro e w1 ⟨rfl,hc1⟩
 have HC1:=Lib.hid hc1
 clear hc1 c2
 go_wp2_with fail
 refine (HTO.out _ HC1.out).mono ?_
 rintro e w2 ⟨rfl,rfl⟩
 go_wp2_with fail
 refine (HPL.out _ _ rfl).mono ?_
 rintro e w2 ⟨rfl,rfl⟩
 have HC2:=Lib.hid (HC1.out.alloc (.cells #[.int .u64 (T:Nat),.int .u64 (c:Nat)] 23))
 clear HPL HTO HLF HC1
 go_wp2_with fail
 generalize w1.alloc (.cells #[.int .u64 (T:Nat),.int .u64 (c:Nat)] 23)=w2 at *
 refine (HEN.out _ HC2.out).mono ?_
 rintro e w3 ⟨rfl,hd3,hc3⟩
 have HD3:=Lib.hid hd3
 have HM3:=Lib.hid ((Mv.of_chg (F:=fpD p s rv) HC2.out.nil).trans (Dg.mvEnds hc3))
 obtain ⟨-,-,-,c3,-,-⟩:=hd3.cells
 clear hd3 hc3 HEN
 go_wp2_with fail
 refine (HAD.out _ HD3.out.strip).mono ?_
 rintro e w4 ⟨rfl,rv4,hs4,hm4⟩
 obtain ⟨hg1,hg2⟩:=HD3.out.go hs4 hm4
 have HM4:=Lib.hid (HM3.out.trans hg2)
 have HTI:=Lib.hid (dg_tidy w4 p s rv4 { E with row:=r2 } hg1 HO2.out)
 clear hs4 hm4 hg1 hg2 HAD c3
 go_wp2_with fail
 refine HTI.out.mono ?_
 rintro e w5 ⟨rfl,s5,rv5,h5,hm5⟩
 have H5:=Lib.hid h5
 have HM5:=Lib.hid (HM4.out.trans hm5)
 clear h5 hm5 HTI
 go_wp2_with fail
 go_ret
 rw [HPT.out]
 exact ⟨rfl,s5,rv5,H5.out,HM5.out⟩
theorem new_ok {d f:Nat} (h1:1≤d) (h2:d≤24) (h3:1≤f) (h4:f≤64):(DgD.new d f).ok:=
 ⟨h1,h2,h3,h4,⟨fun j k _ hk=>by simp [DgD.new] at hk,by simp [DgD.new],by simp [DgD.new]⟩,by simp [DgD.new,totP],by simp [DgD.new]⟩
end Go.Proofs.YthoolcpcmhhkpaaGreatDoor
namespace Go.Proofs.YthoolcpcmhhkpaaGreatDoor
open Go.ChangeShapes Go.WideShapes Go.ChangeAt Go.RowKit
theorem i64_range {n:Int} (h:(Lit.int .i64 n).wf=true):-9223372036854775808≤n∧n<9223372036854775808:=by
 simp [Lit.wf,IntKind.min,IntKind.max,IntKind.signed,IntKind.bits] at h;omega
theorem u64_range {n:Int} (h:(Lit.int .u64 n).wf=true):0≤n∧n<18446744073709551616:=by
 simp [Lit.wf,IntKind.min,IntKind.max,IntKind.signed,IntKind.bits] at h;omega
end Go.Proofs.YthoolcpcmhhkpaaGreatDoor
namespace Go.Proofs.YthoolcpcmhhkpaaGreatDoor
open Go.ChangeShapes Go.WideShapes Go.ChangeAt Go.RowKit
theorem cells_val:Tryz.prog.cellsOf 56=2:=by kernel_rfl
theorem bytes_val:Tryz.prog.bytesOf 56=16:=by kernel_rfl
theorem val_int64:Tryz.prog.cellsOf 2=1:=by kernel_rfl
theorem val_uint64:Tryz.prog.cellsOf 23=1:=by kernel_rfl
section
variable {H:Type} {enc:TypeId × Value→H} {W:World}
set_option maxRecDepth 100000 in
theorem val_open {x:List Value} (h:x.length=Tryz.prog.cellsOf 56∧∃ (n:Nat) (y:DataW H × List MemPlace),DataW.trod enc Tryz.prog W 0 (fun _=>true) true n 56 x=some y∧Reached Tryz.prog 56 y.1) :
 ∃ i:Vl,x=i.cells∧i.ok:=by
 obtain ⟨hl,n,y,hy,_⟩:=h
 rw [cells_val] at hl
 obtain ⟨y0,y1,m,rfl,_,h0,h1⟩:=trod_struct2 Tryz.underlying56 hy
 match x,hl with
 | [c0,c1],_ =>
 simp only [val_int64,val_uint64,List.drop_zero,List.drop_succ_cons,List.take_succ_cons,List.take_zero] at h0 h1
 obtain ⟨k,e0,_,w0⟩:=DataW.trod_int Tryz.underlying2 h0
 obtain ⟨u,e1,_,w1⟩:=DataW.trod_int Tryz.underlying23 h1
 simp only [List.cons.injEq,and_true] at e0 e1
 subst e0 e1
 have r0:=i64_range w0
 have r1:=u64_range w1
 obtain ⟨u,rfl⟩:=Int.eq_ofNat_of_zero_le r1.1
 exact ⟨⟨k,u⟩,rfl,r0.1,r0.2,by simp only;omega⟩
set_option maxRecDepth 100000 in
theorem vals_open {v:Value} {d:DataW H} {ps:List MemPlace} {r:Reach} {b0:Nat} (hval:Value.okWide Tryz.prog W r b0 29 v)
 (hd:DataW.Trod enc Tryz.prog W 0 (fun _=>true) true 29 v d ps) (hr:Reached Tryz.prog 29 d) :
 ∃ (ao:Option Addr) (cap:Nat) (a:List Vl),v=.slice ao a.length cap∧Rd W 2 (.slice ao a.length cap) a.length (vlCells a)∧a.length≤140737488351232∧∀ i∈a,i.ok:=by
 obtain ⟨ao,cap,xs,rfl,h1,h2,h3,_,h4⟩:=open_rows Tryz.underlying29 hval hd hr (by rw [cells_val];omega)
 obtain ⟨a,rfl,ha⟩:=choose_list (f:=Vl.cells) (p:=Vl.ok) (fun x hx=>val_open (h4 x hx))
 rw [cells_val] at h1
 rw [bytes_val] at h3
 rw [List.length_map] at *
 exact ⟨ao,cap,a,rfl,h1,by omega,ha⟩
end
end Go.Proofs.YthoolcpcmhhkpaaGreatDoor
namespace Go.Proofs.YthoolcpcmhhkpaaGreatDoor
open Go.ChangeShapes Go.WideShapes Go.ChangeAt Go.RowKit
section
variable {H:Type} {enc:TypeId × Value→H} {W:World}
end
end Go.Proofs.YthoolcpcmhhkpaaGreatDoor
namespace Go.Proofs.YthoolcpcmhhkpaaGreatDoor
open Go.RowKit
set_option maxRecDepth 100000 in
theorem dg_config (w:World) (p s:Nat) (rv:Value) (D:DgD) (h:Dg w p s rv D):Calls Tryz.prog 374 #[.pointer (some ⟨p,0,none⟩)] w fun e w'=>e=.returned (.agg #[.int .i64 (D.depth:Nat),.int .i64 (D.factor:Nat)])∧Chg [] w w':=by
 obtain ⟨c0,c1,-,-,-,-⟩:=(h.chg ((Chg.refl [] w).alloc (.cells #[.int .i64 0,.int .i64 0] 110)) (by simp)).cells
 have hb:=Blk.alloc_new w #[.int .i64 0,.int .i64 0] 110
 have z0:=hb.cell 0
 have z1:=hb.cell 1
 have f0:=hb.free 0
 have f1:=hb.free 1
 go_enter Tryz.func374,Tryz.ntmps374
 go_wp2
 have hb2:=Blk.alloc_new w #[.int .i64 (D.depth:Nat),.int .i64 (D.factor:Nat)] 110
 have y0:=hb2.cell 0
 have y1:=hb2.cell 1
 refine bodyPost_ret (v:=.agg #[.int .i64 (D.depth:Nat),.int .i64 (D.factor:Nat)]) (by simp [results,Tryz.results374,go_sem,y0,y1]) rfl ⟨rfl,?_⟩
 with_reducible (repeat (first|exact Chg.refl _ _|apply Chg.alloc))
set_option maxRecDepth 100000 in
theorem dg_put_zero (w:World) (p:Nat) (x:Int):Calls Tryz.prog 56 #[.pointer (some ⟨p,0,none⟩),.int .i64 x,.int .u64 0] w fun e w'=>e=.returned (.int .i64 1)∧w=w':=by
 go_enter Tryz.func56,Tryz.ntmps56
 go_wp2
 go_ret
 exact ⟨rfl,rfl⟩
end Go.Proofs.YthoolcpcmhhkpaaGreatDoor
