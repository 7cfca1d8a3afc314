/-
  Parts of a proof, pressed. Conditions: the form's own reach.
-/
import Derived.Test.YthoolcpcmhhkpaaGreatDoorSuiteConfigsB23
namespace Go.Proofs.YthoolcpcmhhkpaaGreatDoor
open Go.RowKit
theorem getD_at {l:List (List Int)} {h:Nat} (hh:h<l.length):l.getD h []=l[h]:=by simp [List.getD,hh]
theorem flat_le {l:List (List Int)} {h:Nat} (hh:h<l.length):l[h].length≤l.flatten.length:=by
 obtain ⟨A,r,B,rfl,rfl⟩:=split_at hh
 simp
 omega
theorem enters_next:∀ (args:Array Value) (w:World),(callFunc 221 args).run Tryz.prog w=.ok (.enter 221 args) w:=enters_of Tryz.func221 (by kernel_rfl) rfl
theorem enters_halve:∀ (args:Array Value) (w:World),(callFunc 220 args).run Tryz.prog w=.ok (.enter 220 args) w:=enters_of Tryz.func220 (by kernel_rfl) rfl
theorem Tow.row_at {w:World} {p tp:Nat} {rv:Value} {vs:List Value} {D:TwD} (h:Tow w p tp rv vs D) {R:List (List Int)} (hR:D.rows=R) {j:Nat} (hj:j<vs.length) (hj':j<R.length) {v:Value} (hv:vs[j]=v) {r:List Int} (hr:r=R[j]) {l:Nat} (hl:l=r.length):Own w 2 1 v l (ints r):=by
 subst hR hl hr hv
 exact h.rows.2.1 j hj hj'
theorem Tow.at2v {w:World} {p tp g o n c j:Nat} {vs:List Value} {D:TwD} (h:Tow w p tp (.slice (some ⟨g,o,none⟩) n c) vs D) (hj:j<vs.length) {v:Value} (hv:vs[j]=v) :
 w.cell? ⟨g,o+j,none⟩=some v∧w.frozen? ⟨g,o+j,none⟩=false∧w.cell? ⟨p,3,none⟩=some (.slice (some ⟨g,o,none⟩) n c)∧w.cell? ⟨p,2,none⟩=some (.pointer (some ⟨tp,0,none⟩)):=by
 subst hv
 exact h.at2 hj
theorem settle_tow {w6 w7:World} {p tp g o n c j l1 sc1 k c9:Nat} {so1 a9:Option Addr} {vs:List Value} {D:TwD} {r1 H:List Int} (h:Tow w6 p tp (.slice (some ⟨g,o,none⟩) n c) vs D) (hj:j<vs.length) (hv:vs[j]=.slice so1 l1 sc1)
 (hg:Chg (blkOf (.slice so1 l1 sc1)) w6 w7) (hl:l1=r1.length) (hk:k=H.length) (ho:Own w7 2 1 (.slice a9 (l1+k) c9) (l1+k) (ints r1++ints H)) (hf:∀ b∈abl a9,b∈blkOf (.slice so1 l1 sc1)∨w6.heap.size≤b) :
 Tow (w7.setCell ⟨g,o+j,none⟩ (.slice a9 (l1+k) c9)) p tp (.slice (some ⟨g,o,none⟩) n c) (vs.set j (.slice a9 (l1+k) c9)) { D with rows:=D.rows.set j (r1++H) }:=by
 have hbv:blkOf (.slice so1 l1 sc1)=blkOf vs[j]:=by rw [hv]
 have hlen9:l1+k=(r1++H).length:=by rw [List.length_append,←hl,←hk]
 have ho9:Own w7 2 1 (.slice a9 (l1+k) c9) (r1++H).length (ints (r1++H)):=by
  rw [←hlen9,ints_append];exact ho
 exact h.turn hj hg (fun b hb=>.inl (by rw [←hbv];exact hb)) ho9 (fun i hi hne b hb e=>by
  rcases hf b (by simpa using hb) with h1|h1
  ·rw [hbv] at h1
   exact h.rows.2.2 j i hj hi (by omega) b h1 e
  ·have:=h.rows.lt i hi b e;omega)
theorem settle_mv {w0 w2 w3 w5 w6 w7:World} {p tp g2 o2 n2 cc ix m n9 c9:Nat} {F0:List Nat} {vsP:List Value} {a3 a9:Option Addr} {old:Value}
 (hm:Mv F0 w0 (fp p tp (.slice (some ⟨g2,o2,none⟩) n2 cc) vsP) w2) (h23:Chg (fp p tp (.slice (some ⟨g2,o2,none⟩) n2 cc) vsP) w2 w3) (h5:Chg [tp] w3.drew w5) (h6:Chg [] w5 w6) (h7:Chg (blkOf old) w6 w7)
 (hold:∀ b∈blkOf old,b∈fp p tp (.slice (some ⟨g2,o2,none⟩) n2 cc) vsP) (hfa:∀ b∈abl a3,w0.heap.size≤b) (hf7:∀ b∈abl a9,b∈blkOf old∨w6.heap.size≤b) :
 Mv F0 w0 (fp p tp (.slice (some ⟨g2,o2,none⟩) n2 cc) ((vsP.set ix (.slice a3 m m)).set (ix+1) (.slice a9 n9 c9))) (w7.setCell ⟨g2,o2+(ix+1),none⟩ (.slice a9 n9 c9)):=by
 have hk28:=((((h23.drew).trans' h5 (fun b hb=>.inl (by simp at hb;subst hb;simp [fp]))).trans' h6 (by simp)).trans' h7 (fun b hb=>.inl (hold b hb))).setCell (a:=⟨g2,o2+(ix+1),none⟩) (.inl (by simp [fp])) (.slice a9 n9 c9)
 have hs68:w0.heap.size≤w6.heap.size:=by
  have h1:=hm.chg.size
  have h2:=h23.size
  have h3:=h5.size
  have h4:=h6.size
  have h5:w3.drew.heap.size=w3.heap.size:=rfl
  omega
 refine ⟨hm.chg.trans' hk28 hm.fr,fun b hb => ?_⟩
 simp only [fp,List.mem_cons,List.mem_append,List.mem_flatMap] at hb
 rcases hb with rfl|rfl|hb|⟨v,hv,hb⟩
 ·exact hm.fr b (by simp [fp])
 ·exact hm.fr b (by simp [fp])
 ·exact hm.fr b (by simp only [fp,List.mem_cons,List.mem_append];exact .inr (.inr (.inl hb)))
 ·rcases List.mem_or_eq_of_mem_set hv with hv|rfl
  ·rcases List.mem_or_eq_of_mem_set hv with hv|rfl
   ·exact hm.fr b (by simp only [fp,List.mem_cons,List.mem_append,List.mem_flatMap];exact .inr (.inr (.inr ⟨v,hv,hb⟩)))
   ·exact .inr (hfa b (by simpa using hb))
  ·rcases hf7 b (by simpa using hb) with h1|h1
   ·exact hm.fr b (hold b h1)
   ·exact .inr (by omega)
theorem takeL {P:Program} {md:Region.Mode} {l:List Oper} {Q:Exit→Act→World→Prop} {S:World→Prop} {i:Nat} {oi:Oper} {v:Value} {fuel:Nat} {listed:Array Bool} {a:Act} {w:World} (hi:l[i]? = some oi)
 (hs:Region.noSelect l.toArray=true) (hf:Region.free md l.toArray listed i=true) (hr:(Region.ready md l.toArray listed).contains i=true)
 (hQ:∀ c a w,Q (.panic c) (a.put oi.dst v) w→Q (.panic c) a w) (hy:YieldsIf P l.toArray S oi v a) (hS:S w)
 (h:wpAnyH P md l.toArray Q S fuel (listed.setIfInBounds i true) (a.put oi.dst v) w):wpAnyH P md l.toArray Q S (fuel+1) listed a w:=
 wpAnyH_take (by simpa using hi) hs hf hr hQ hy hS h
theorem consL {P:Program} {md:Region.Mode} {l:List Oper} {Q:Exit→Act→World→Prop} {S:World→Prop} {fuel:Nat} {listed:Array Bool} {a:Act} {w:World} {i:Nat} {o:Oper} {rs:List Nat} (ho:l[i]? = some o)
 (h:∀ K':Act→World→Prop,Shut (∀ a w,S w→(S w→wpAnyH P md l.toArray Q S fuel (listed.setIfInBounds i true) a w)→K' a w)→if Region.wanted o (yielded l.toArray a.tmps)=true then Oper.wp P o a w K' Q else K' (a.put o.dst undef) w)
 (hs:AllReadyH P md l.toArray Q S fuel listed a w rs):AllReadyH P md l.toArray Q S fuel listed a w (i::rs):=
 AllReadyH.cons (by simpa using ho) h hs
set_option maxRecDepth 100000 in
set_option maxHeartbeats 4000000 in
set_option linter.unusedSimpArgs false in
theorem req_settle (w:World) (p tp:Nat) (rv:Value) (vs:List Value) (D:TwD) (ht:Tow w p tp rv vs D) (hW:4≤D.W) (hW2:D.W≤64) (hword:D.word<18446744073709551616) (hu:D.used≤1000000) (hN:D.rows.flatten.length≤200000) (hR:D.rows.length≤200000) :
 Calls Tryz.prog 184 #[.pointer (some ⟨p,0,none⟩)] w fun e w'=>e=.returned (.tuple #[])∧∃ rv' vs',Tow w' p tp rv' vs' D.settled∧Mv (fp p tp rv vs) w (fp p tp rv' vs') w':=by
 obtain ⟨B,hB⟩:∃ B,B=needF 0 (D.used,D.rows):=⟨_,rfl⟩
 have hB1:B≤600100:=by rw [hB,needF];simp only [List.drop_zero,Nat.sub_zero];omega
 have HF:=Lib.hid (show settleF D.W (coinB D.word) (B-0) 0 (D.used,D.rows)=settle D.W (coinB D.word) (D.used,D.rows) from by rw [hB];rfl)
 have HNB:=Lib.hid (show needF 0 (D.used,D.rows)≤B-0 from by rw [hB];exact Nat.le_refl _)
 clear hB
 go_enter Tryz.func184,Tryz.ntmps184
 go_wp2
 go_loopw [2] (fun i wx=>∃ (ix u:Nat) (rows:List (List Int)) (rv':Value) (vs':List Value),ix≤B∧i=.int .i64 (ix:Nat)∧Tow wx p tp rv' vs' (D.at (u,rows))∧Mv (fp p tp rv vs) w (fp p tp rv' vs') wx ∧
  u≤1000000+ix∧rows.flatten.length≤200000∧Hid (settleF D.W (coinB D.word) (B-ix) ix (u,rows)=settle D.W (coinB D.word) (D.used,D.rows)∧needF ix (u,rows)≤B-ix)) (fun i _=>B+1-(intOf i).toNat)
 case atStart=>exact ⟨0,D.used,D.rows,rv,vs,Nat.zero_le _,rfl,ht,Mv.refl _ _,by omega,hN,Lib.hid ⟨HF.out,HNB.out⟩⟩
 case round =>
  obtain ⟨ix,u,rows,rv',vs',hhB,rfl,ht',hm,hu',hN',HS⟩:=hrel
  clear ht hN hR HF HNB hu
  have hrl:rows.length≤600100:=by have:=HS.out.2;unfold needF at this;simp only at this;omega
  obtain ⟨c0,c1,c2,c3,-,-,-⟩:=ht'.cells
  have hvl:vs'.length=rows.length:=ht'.rows.1
  obtain ⟨ro,rc,hrv⟩:∃ ro rc,rv'=.slice ro rows.length rc:=ht'.own.shape
  subst hrv
  simp only [TwD.at] at c0 c1 c2 c3
  by_cases hlt:ix<rows.length
  ·obtain ⟨g,o,cp,hsl,d0,f0,hcp⟩:∃ g o cap,Value.slice ro rows.length rc=.slice (some ⟨g,o,none⟩) rows.length cap∧wr.cell? ⟨g,o+ix,none⟩=some vs'[ix]∧wr.frozen? ⟨g,o+ix,none⟩=false∧rows.length≤cap:=ht'.own.at1 (j:=ix) hlt (by omega)
   simp only [Value.slice.injEq,true_and] at hsl
   obtain ⟨rfl,rfl⟩:=hsl
   have hrow:Own wr 2 1 vs'[ix] rows[ix].length (ints rows[ix]):=ht'.rows.2.1 ix (by omega) hlt
   obtain ⟨so,sc,hsv⟩:=hrow.shape
   rw [hsv] at d0 hrow
   have HST:=Lib.hid (settleF_at HS.out.1 HS.out.2 hW hlt)
   have HFL:=Lib.hid (step_flat (s:=(u,rows)) (coinB D.word) hlt (W:=D.W))
   have hrf:=flat_le hlt
   by_cases hsh:rows[ix].length<D.W
   ·have hE:=Lib.hid (show stepR D.W (coinB D.word) ix (u,rows)=(u,rows) from by unfold stepR;rw [if_pos (by simp only;rw [getD_at hlt];exact hsh)])
    have hd:decide (rows[ix].length<D.W)=true:=decide_eq_true hsh
    generalize rows[ix]=r at *
    clear hsv
    go_wp2
    go_quiet (fail)
    go_wp2
    refine ⟨⟨ix+1,u,rows,_,vs',HST.out.1,by go_num,ht'.chg ((Chg.refl [] wr).drewN nq) (by simp),hm.trans (Mv.of_chg ((Chg.refl _ wr).drewN nq)),by omega,hN',Lib.hid ?_⟩,by simp [intOf];have:=HST.out.1;omega⟩
    have:=HST.out.2
    rw [hE.out] at this
    exact this
   ·have hd:decide (rows[ix].length<D.W)=false:=decide_eq_false hsh
    have HR:=Lib.hid hrow
    generalize hr:rows[ix]=r at *
    have HRR:=Lib.hid hr
    clear hr
    go_wp2
    go_quiet (fail)
    have HT0:=Lib.hid (ht'.chg ((Chg.refl [] wr).drewN nq) (by simp))
    have HM0:=Lib.hid (hm.trans (Mv.of_chg ((Chg.refl _ wr).drewN nq)))
    have hR0:=HR.out.chg ((Chg.refl [] wr).drewN nq) (by simp)
    have d0':(wr.drewN nq).cell? ⟨g,o+ix,none⟩=some (.slice so r.length sc):=d0
    have f0':(wr.drewN nq).frozen? ⟨g,o+ix,none⟩=false:=f0
    have hvl:=Lib.hid hvl
    clear HR ht' hm c0 c1 c2 c3 d0 f0 hrow hd
    generalize wr.drewN nq=w0 at *
    obtain ⟨c0,c1,c2,c3,-,-,-⟩:=HT0.out.cells
    simp only [TwD.at] at c0 c1 c2 c3
    obtain ⟨m,hm⟩:∃ m,m=keepN r.length (D.W / 2):=⟨_,rfl⟩
    have hq:(D.W:Int).tdiv 2=((D.W / 2:Nat):Int):=by rw [Int.tdiv_eq_ediv_of_nonneg (by omega)];omega
    have HSP:=Lib.hid (coins_split w0.drew so sc r r.length rfl ((D.W / 2:Nat):Int) m hm (hR0.drew.rd) (by omega))
    have HM:=Lib.hid hm
    have hmr:m≤r.length:=by rw [hm];exact (keepN_le (by omega)).2.2.1
    have hW2b:D.W / 2≤32:=by omega
    generalize hW2e:D.W / 2=W2 at *
    have HW2E:=Lib.hid hW2e
    clear hW2e
    have hww:IntKind.i64.wrap (W2:Int)=(W2:Int):=IntWalk.i64_in _ (by omega)
    generalize hrn:r.length=n at *
    have HRN:=Lib.hid hrn
    clear hrn hm
    go_wp2_with fail
    go_cut [3,4] (fun a b wx=>∃ a3 a4 c4,a=.slice a3 m m∧b=.slice a4 (n-m) c4∧Own wx 2 1 (.slice a3 m m) m (ints ((sortL r).take m))∧Rd wx 1 (.slice a4 (n-m) c4) (n-m) (ints ((sortL r).drop m))∧Chg [] w0 wx∧(∀ b∈abl a3,w0.heap.size≤b)∧(∀ b∈abl a4,w0.heap.size≤b))
    case first =>
     go_region_with (first|(go_at_call 219;refine HSP.out.mono ?_;rintro e w1 ⟨a3,c3,a4,c4,rfl,ho1,hb1,hc1,hfa,hfb,_,_,rfl⟩))
     all_goals
      have hcc:Chg [] w0 w1:=Chg.trans (by with_reducible (repeat (first|exact Chg.refl _ _|apply Chg.drew))) hc1
      go_wp2_with fail
      go_meet
      exact ⟨a3,a4,c4,rfl,rfl,ho1,hb1,hcc,hfa,hfb⟩
    case rest =>
     obtain ⟨a3,a4,c4,rfl,rfl,ho1,hb1,hc1,hfa,hfb⟩:=hcut
     clear HSP hq hww
     rename World=>w1
     have HT1:=Lib.hid (HT0.out.chg hc1 (by simp))
     obtain ⟨c0,c1,c2,c3,-,-,-⟩:=HT1.out.cells
     simp only [TwD.at] at c0 c1 c2 c3
     have HA:=Lib.hid ho1
     have HB1:=Lib.hid hb1
     have hl3:∀ b∈abl a3,b<w1.heap.size:=fun b hb=>ho1.lt b (by simpa using hb)
     have hl4:=hb1.lt (by omega)
     simp only [blkOf_slice] at hl4
     have hsz01:=hc1.size
     have hfp0:=HT0.out.lt
     have HM01:=Lib.hid (Mv.of_chg (hc1.mono (by simp)):Mv (fp p tp (.slice (some ⟨g,o,none⟩) rows.length rc) vs') w0 (fp p tp (.slice (some ⟨g,o,none⟩) rows.length rc) vs') w1)
     clear ho1 hb1 HT0 hc1 hR0 d0' f0'
     have hoc:∀ y∈[Value.slice none 0 0],y.oneCell'=true:=fun y hy=>by simp at hy;subst hy;rfl
     have hfr3:=HT1.out.blk.free 3
     have hvl1:=hvl.out
     obtain ⟨rowsP,hrowsP⟩:∃ z,z=(if ix+1=rows.length then rows++[[]] else rows):=⟨_,rfl⟩
     obtain ⟨vsP,hvsP⟩:∃ z,z=(if ix+1=rows.length then vs'++[.slice none 0 0] else vs'):=⟨_,rfl⟩
     go_upto_if 52 with (fail)
     go_cut [3,4] (fun a b wx=>∃ rv2,a=.slice a3 m m∧b=.slice a4 (n-m) c4∧Tow wx p tp rv2 vsP (D.at (u,rowsP))∧Mv (fp p tp (.slice (some ⟨g,o,none⟩) rows.length rc) vs') w1 (fp p tp rv2 vsP) wx)
     case first =>
      by_cases hlast:ix+1=rows.length
      ·rw [if_pos hlast] at hrowsP hvsP
       have hlb:((ix:Int)+1==(rows.length:Int))=true:=by rw [beq_iff_eq];omega
       have hrd:Rd (w1.alloc (.cells #[.slice none 0 0] 100)) 1 (.slice (some ⟨w1.heap.size,0,none⟩) 1 1) 1 [.slice none 0 0]:=Rd.lit1 w1 (.slice none 0 0) 100 1
       have hrl1:rows.length+1≤600101:=by omega
       clear hlast
       go_wp2_with (at_builtin;go_must (refine wpList_append_src _ rfl (.tmp 57) (.tmp 58) 203 203 rfl 100 _ 1 24 under_rowsT info_intsT rfl (by decide) (.slice (some ⟨g,o,none⟩) rows.length rc) rows.length vs' rfl (HT1.out.own.alloc _) (.slice (some ⟨w1.heap.size,0,none⟩) 1 1) 1 [.slice none 0 0] rfl (Src.of_rd under_rowsT hrd) hoc (by unfold maxLen;omega) (by omega) ?_;intro a5 c5 w2 ho2 hg2 hf2;have HG2:=Lib.hid ((HT1.out.blk.alloc (.cells #[.slice none 0 0] 100)).chg hg2 (HT1.out.p_rv));have z3:=HG2.out.cell 3;have zf:=HG2.out.free 3))
       go_meet
       have hk2:Chg (blkOf (.slice (some ⟨g,o,none⟩) rows.length rc)) w1 w2:=((Chg.refl _ w1).alloc _).trans' hg2 (fun b hb=>.inl hb)
       refine ⟨.slice a5 (rows.length+1) c5,rfl,rfl,?_,?_,?_⟩
       ·rw [hrowsP,hvsP]
        exact HT1.out.push hk2 ho2
       ·exact (hk2.mono (fun b hb=>.inl (HT1.out.mem_rv b hb))).setCell (a:=⟨p,3,none⟩) (.inl (by simp [fp])) _
       ·intro b hb
        rw [hvsP] at hb
        simp only [fp,List.flatMap_append,List.flatMap_cons,List.flatMap_nil,List.append_nil,List.mem_cons,List.mem_append,blkOf_slice] at hb ⊢
        rcases hb with rfl|rfl|hb|hb|hb
        ·simp
        ·simp
        ·rcases hf2 b hb with h|h
         ·simp at h;simp [h]
         ·simp at h;right;omega
        ·exact .inl (.inr (.inr (.inr hb)))
        ·simp at hb
      ·rw [if_neg hlast] at hrowsP hvsP
       have hlb:((ix:Int)+1==(rows.length:Int))=false:=by rw [beq_eq_false_iff_ne];omega
       subst hrowsP hvsP
       go_wp2
       go_meet
       exact ⟨_,rfl,rfl,HT1.out,Mv.refl _ _⟩
     case rest =>
      rename World=>w2
      obtain ⟨rv2,rfl,rfl,HT2,HM2⟩:=hcut
      have hPl:=Lib.hid (show vsP.length=rowsP.length from HT2.rows.1)
      have hixP:ix+1<rowsP.length:=by
       rw [hrowsP];split
       ·simp;omega
       ·omega
      have hixr:rowsP.length≤600101:=by
       rw [hrowsP];split
       ·simp;omega
       ·omega
      have hfp3:∀ b∈abl a3,b∉fp p tp rv2 vsP:=fun b hb hf=>by
       rcases HM2.fr b hf with h1|h1
       ·have:=hfp0 b h1;have:=hfa b hb;omega
       ·have:=hl3 b hb;omega
      have hfp4:n-m=0∨∀ b∈abl a4,b∉fp p tp rv2 vsP:=hl4.imp id fun hl4 b hb hf=>by
       rcases HM2.fr b hf with h1|h1
       ·have:=hfp0 b h1;have:=hfb b hb;omega
       ·have:=hl4 b hb;omega
      have hA2:=HA.out.chg HM2.chg (fun b hb e=>by have:=hfp0 b e;have:=hfa b (by simpa using hb);omega)
      have hB2:=HB1.out.chg HM2.chg (fun b hb e=>by have:=hfp0 b e;have:=hfb b (by simpa using hb);omega)
      obtain ⟨g2,o2,cc,rfl,e0,e1,hcc⟩:∃ g o cap,rv2=.slice (some ⟨g,o,none⟩) rowsP.length cap∧w2.cell? ⟨g,o+ix,none⟩=some (vsP[ix]'(by have:=hPl.out;omega))∧w2.frozen? ⟨g,o+ix,none⟩=false∧rowsP.length≤cap:=HT2.own.at1 (j:=ix) (show ix<rowsP.length by omega) (by have:=hPl.out;omega)
      obtain ⟨-,-,-,c3,-,-,-⟩:=HT2.cells
      have HAL:=Lib.hid (show ((sortL r).take m).length=m from by rw [List.length_take,(sort_ok r).2.2,HRN.out];omega)
      have HBL:=Lib.hid (show ((sortL r).drop m).length=n-m from by rw [List.length_drop,(sort_ok r).2.2,HRN.out])
      have HT3:=Lib.hid (HT2.turn (j:=ix) (by have:=hPl.out;omega) (Chg.refl [] w2) (by simp) (v:=.slice a3 m m) (r:=(sortL r).take m) (by rw [HAL.out];exact hA2) (fun i hi _ b hb e=>hfp3 b (by simpa using hb) (HT2.mem_row i hi b e)))
      have hB3:=hB2.keep (w1:=w2.setCell ⟨g2,o2+ix,none⟩ (.slice a3 m m)) (F:=[g2]) ((Chg.refl _ w2).setCell (.inl (by simp)) _) (hfp4.imp id fun hfp4 b hb e=>by simp at e;subst e;exact hfp4 b (by simpa using hb) (HT2.mem_rv b (by simp)))
      have HCH3:=Lib.hid (show Chg (fp p tp (.slice (some ⟨g2,o2,none⟩) rowsP.length cc) vsP) w2 (w2.setCell ⟨g2,o2+ix,none⟩ (.slice a3 m m)) from (Chg.refl _ w2).setCell (.inl (HT2.mem_rv g2 (by simp))) _)
      have hixi:(ix:Int)<(rowsP.length:Int):=by omega
      have HRP:=Lib.hid hrowsP
      have HVP:=Lib.hid hvsP
      have HA2:=Lib.hid hA2
      have hfpd:∀ b∈fp p tp (.slice (some ⟨g2,o2,none⟩) rowsP.length cc) vsP,b<w2.heap.size:=HT2.lt
      clear hrowsP hvsP HA HB1 hA2 hB2 HT1 hrl hcp hfr3 hoc hvl1 hfp3 hl3 hl4 hfpd
      clear c0 c1 c2
      go_wp2_with fail
      generalize w2.setCell ⟨g2,o2+ix,none⟩ (.slice a3 m m)=w3 at *
      obtain ⟨-,-,q2,q3,-,-,-⟩:=HT3.out.cells
      have hlen3:(rowsP.set ix ((sortL r).take m)).length=rowsP.length:=by simp
      have hvl3:(vsP.set ix (Value.slice a3 m m)).length=rowsP.length:=by rw [List.length_set];exact hPl.out
      obtain ⟨g',o',cc',hgg,x0,x1,-⟩:∃ g o cap,Value.slice (some ⟨g2,o2,none⟩) rowsP.length cc=.slice (some ⟨g,o,none⟩) (rowsP.set ix ((sortL r).take m)).length cap∧w3.cell? ⟨g,o+(ix+1),none⟩=some (vsP.set ix (Value.slice a3 m m))[ix+1]∧w3.frozen? ⟨g,o+(ix+1),none⟩=false∧(rowsP.set ix ((sortL r).take m)).length≤cap:=HT3.out.own.at1 (j:=ix+1) (by simp only [TwD.at];omega) (by omega)
      simp only [Value.slice.injEq,Option.some.injEq,Addr.mk.injEq,and_true] at hgg
      obtain ⟨⟨rfl,rfl⟩,-,rfl⟩:=hgg
      have hown1:Own w3 2 1 (vsP.set ix (Value.slice a3 m m))[ix+1] ((rowsP.set ix ((sortL r).take m))[ix+1]'(by omega)).length (ints ((rowsP.set ix ((sortL r).take m))[ix+1]'(by omega))):=HT3.out.rows.2.1 (ix+1) (by omega) (by simp only [TwD.at];omega)
      obtain ⟨so1,sc1,hsv1⟩:=hown1.shape
      rw [hsv1] at x0 hown1
      obtain ⟨r1,hr1⟩:∃ z,z=(rowsP.set ix ((sortL r).take m))[ix+1]'(by omega):=⟨_,rfl⟩
      rw [←hr1] at x0 hown1 hsv1
      obtain ⟨l1,hl1⟩:∃ z,z=r1.length:=⟨_,rfl⟩
      rw [←hl1] at x0 hown1 hsv1
      have hr1N:l1≤200000:=by
       have h1:r1.length≤rows.flatten.length:=by
        rw [hr1,List.getElem_set_ne (by omega)]
        by_cases hla:ix+1=rows.length
        ·have e1:=HRP.out
         rw [if_pos hla] at e1
         subst e1
         rw [List.getElem_append_right (by omega)]
         simp
        ·have e1:=HRP.out
         rw [if_neg hla] at e1
         subst e1
         exact flat_le _
       omega
      have HR1:=Lib.hid hr1
      have HL1:=Lib.hid hl1
      obtain ⟨H,hH⟩:∃ H,H=halveL ((sortL r).drop m) (coinB D.word u):=⟨_,rfl⟩
      obtain ⟨k,hk⟩:∃ k,k=H.length:=⟨_,rfl⟩
      have hkn:k≤200000:=by
       have h1:=halveL_len ((sortL r).drop m) (coinB D.word u)
       rw [←hH,←hk,HBL.out] at h1
       omega
      have HHH:=Lib.hid hH
      have HKK:=Lib.hid hk
      have HT3D:=Lib.hid (show Tow w3.drew _ _ _ _ _ from HT3.out.chg ((Chg.refl [] w3).drew) (by simp))
      have HNX:=Lib.hid (coins_next w3.drew tp D.word u hword (by omega) HT3D.out.tape)
      have HB3D:=Lib.hid (hB3.chg ((Chg.refl [] w3).drew) (by simp))
      have hwi:IntKind.i64.wrap ((ix:Int)+1)=(ix:Int)+1:=IntWalk.i64_in _ (by omega)
      have hix2:(0:Int)≤(ix:Int)+1:=by omega
      have hix3:(ix:Int)+1<(rowsP.length:Int):=by omega
      have hvl4:=Lib.hid hvl3
      have hlen4:=Lib.hid hlen3
      have HSV1:=Lib.hid hsv1
      clear hl1 hH hk hB3 hown1 hsv1 e0 e1 c3 hr1
      have HFP4:=Lib.hid hfp4
      have HFA:=Lib.hid hfa
      have HFP0:=Lib.hid hfp0
      have HFB:=Lib.hid hfb
      clear hfp4 hfa hfp0 hfb hvl hix3 hixi
      have hix3:(ix:Int)+1<(rowsP.length:Int):=by omega
      have HE:=Lib.hid (stepR_eq (W:=D.W) (c:=coinB D.word) (u:=u) (m:=m) hlt HRR.out (by rw [HRN.out];exact hsh) (by rw [HRN.out,HW2E.out];exact HM.out) HRP.out hixP)
      have HJ4:=Lib.hid (show ix+1<(vsP.set ix (Value.slice a3 m m)).length from by have:=hvl4.out;omega)
      have HJ5:=Lib.hid (show ix+1<(rowsP.set ix ((sortL r).take m)).length from by have:=hlen4.out;omega)
      have hnm:n-m≤1000000:=by omega
      have hlk:l1+k≤maxLen:=by unfold maxLen;omega
      have hlk8:(l1+k)*8≤140737488355328:=by omega
      have HOLD:=Lib.hid (show ∀ b∈blkOf (.slice so1 l1 sc1),b∈fp p tp (.slice (some ⟨g2,o2,none⟩) rowsP.length cc) vsP from fun b hb=>by
       rw [←HSV1.out,List.getElem_set_ne (by omega)] at hb
       exact HT2.mem_row (ix+1) (by have:=HJ4.out;simpa using this) b hb)
      have HM12:=Lib.hid (HM01.out.trans HM2)
      have HE8:=HE.out
      rw [←HR1.out,←HHH.out] at HE8
      have hst:=HST.out
      rw [HE8] at hst
      have hfl:=HFL.out
      rw [HE8] at hfl
      have HST9:=Lib.hid hst
      have HFL9:=Lib.hid (Nat.le_trans hfl hN')
      have HB4:=Lib.hid (show (n-m=0)∨∀ b∈blkOf (.slice a4 (n-m) c4),b∉[tp] from HFP4.out.imp id fun h b hb e=>by simp at e;subst e;exact h b (by simpa using hb) (by simp [fp]))
      clear HE8 hst hfl
      refine wp_region_held_drew (S:=(fun wx=>wx.cell? ⟨p,3,none⟩=some (.slice (some ⟨g2,o2,none⟩) rowsP.length cc)∧wx.cell? ⟨p,2,none⟩=some (.pointer (some ⟨tp,0,none⟩)))) (by kernel_rfl) ⟨q3,q2⟩ (fun hHeld => ?_)
      refine takeL (i:=0) (v:=?v0) rfl (by kernel_rfl) (by kernel_rfl) (by kernel_rfl) (fun _ _ _ h=>h) (Or.inl ⟨by rfl,?y0⟩) (by assumption) ?r0
      case y0=>(intro w hSw;(try dsimp only at hSw);go_simp;first|done|with_reducible rfl)
      try simp only [Act.put,jI,jZ,jS]
      refine takeL (i:=1) (v:=?v1) rfl (by kernel_rfl) (by kernel_rfl) (by kernel_rfl) (fun _ _ _ h=>h) (Or.inl ⟨by rfl,?y1⟩) (by assumption) ?r1
      case y1=>(intro w hSw;(try dsimp only at hSw);go_simp;first|done|with_reducible rfl)
      try simp only [Act.put,jI,jZ,jS]
      refine takeL (i:=2) (v:=?v2) rfl (by kernel_rfl) (by kernel_rfl) (by kernel_rfl) (fun _ _ _ h=>h) (Or.inl ⟨by rfl,?y2⟩) (by assumption) ?r2
      case y2=>(intro w hSw;(try dsimp only at hSw);go_simp;first|done|with_reducible rfl)
      try simp only [Act.put,jI,jZ,jS]
      refine takeL (i:=3) (v:=?v3) rfl (by kernel_rfl) (by kernel_rfl) (by kernel_rfl) (fun _ _ _ h=>h) (Or.inl ⟨by rfl,?y3⟩) (by assumption) ?r3
      case y3=>(intro w hSw;(try dsimp only at hSw);go_simp;first|done|with_reducible rfl)
      try simp only [Act.put,jI,jZ,jS]
      refine takeL (i:=4) (v:=?v4) rfl (by kernel_rfl) (by kernel_rfl) (by kernel_rfl) (fun _ _ _ h=>h) (Or.inl ⟨by rfl,?y4⟩) (by assumption) ?r4
      case y4=>(intro w hSw;(try dsimp only at hSw);go_simp;first|done|with_reducible rfl)
      try simp only [Act.put,jI,jZ,jS]
      refine takeL (i:=5) (v:=?v5) rfl (by kernel_rfl) (by kernel_rfl) (by kernel_rfl) (fun _ _ _ h=>h) (Or.inl ⟨by rfl,?y5⟩) (by assumption) ?r5
      case y5=>(intro w hSw;(try dsimp only at hSw);go_simp;first|done|with_reducible rfl)
      try simp only [Act.put,jI,jZ,jS]
      refine takeL (i:=6) (v:=?v6) rfl (by kernel_rfl) (by kernel_rfl) (by kernel_rfl) (fun _ _ _ h=>h) (Or.inl ⟨by rfl,?y6⟩) (by assumption) ?r6
      case y6=>(intro w hSw;(try dsimp only at hSw);go_simp;first|done|with_reducible rfl)
      try simp only [Act.put,jI,jZ,jS]
      refine takeL (i:=7) (v:=?v7) rfl (by kernel_rfl) (by kernel_rfl) (by kernel_rfl) (fun _ _ _ h=>h) (Or.inl ⟨by rfl,?y7⟩) (by assumption) ?r7
      case y7=>(intro w hSw;(try dsimp only at hSw);go_simp;first|done|with_reducible rfl)
      try simp only [Act.put,jI,jZ,jS]
      refine takeL (i:=8) (v:=?v8) rfl (by kernel_rfl) (by kernel_rfl) (by kernel_rfl) (fun _ _ _ h=>h) (Or.inl ⟨by rfl,?y8⟩) (by assumption) ?r8
      case y8=>(intro w hSw;(try dsimp only at hSw);go_simp;first|done|with_reducible rfl)
      try simp only [Act.put,jI,jZ,jS]
      refine takeL (i:=9) (v:=?v9) rfl (by kernel_rfl) (by kernel_rfl) (by kernel_rfl) (fun _ _ _ h=>h) (Or.inl ⟨by rfl,?y9⟩) (by assumption) ?r9
      case y9=>(intro w hSw;(try dsimp only at hSw);go_simp;first|done|with_reducible rfl)
      try simp only [Act.put,jI,jZ,jS]
      refine takeL (i:=10) (v:=?v10) rfl (by kernel_rfl) (by kernel_rfl) (by kernel_rfl) (fun _ _ _ h=>h) (Or.inl ⟨by rfl,?y10⟩) (by assumption) ?r10
      case y10=>(intro w hSw;(try dsimp only at hSw);go_simp;first|done|with_reducible rfl)
      try simp only [Act.put,jI,jZ,jS]
      refine takeL (i:=11) (v:=?v11) rfl (by kernel_rfl) (by kernel_rfl) (by kernel_rfl) (fun _ _ _ h=>h) (Or.inl ⟨by rfl,?y11⟩) (by assumption) ?r11
      case y11=>(intro w hSw;(try dsimp only at hSw);go_simp;first|done|with_reducible rfl)
      try simp only [Act.put,jI,jZ,jS]
      refine takeL (i:=12) (v:=?v12) rfl (by kernel_rfl) (by kernel_rfl) (by kernel_rfl) (fun _ _ _ h=>h) (Or.inl ⟨by rfl,?y12⟩) (by assumption) ?r12
      case y12=>(intro w hSw;(try dsimp only at hSw);go_simp;first|done|with_reducible rfl)
      try simp only [Act.put,jI,jZ,jS]
      refine takeL (i:=14) (v:=?v14) rfl (by kernel_rfl) (by kernel_rfl) (by kernel_rfl) (fun _ _ _ h=>h) (Or.inl ⟨by rfl,?y14⟩) (by assumption) ?r14
      case y14=>(intro w hSw;(try dsimp only at hSw);go_simp;first|done|with_reducible rfl)
      try simp only [Act.put,jI,jZ,jS]
      refine takeL (i:=15) (v:=?v15) rfl (by kernel_rfl) (by kernel_rfl) (by kernel_rfl) (fun _ _ _ h=>h) (Or.inl ⟨by rfl,?y15⟩) (by assumption) ?r15
      case y15=>(intro w hSw;(try dsimp only at hSw);go_simp;first|done|with_reducible rfl)
      try simp only [Act.put,jI,jZ,jS]
      refine takeL (i:=16) (v:=?v16) rfl (by kernel_rfl) (by kernel_rfl) (by kernel_rfl) (fun _ _ _ h=>h) (Or.inl ⟨by rfl,?y16⟩) (by assumption) ?r16
      case y16=>(intro w hSw;(try dsimp only at hSw);go_simp;first|done|with_reducible rfl)
      try simp only [Act.put,jI,jZ,jS]
      refine takeL (i:=17) (v:=?v17) rfl (by kernel_rfl) (by kernel_rfl) (by kernel_rfl) (fun _ _ _ h=>h) (Or.inl ⟨by rfl,?y17⟩) (by assumption) ?r17
      case y17=>(intro w hSw;(try dsimp only at hSw);go_simp;first|done|with_reducible rfl)
      try simp only [Act.put,jI,jZ,jS]
      refine takeL (i:=18) (v:=?v18) rfl (by kernel_rfl) (by kernel_rfl) (by kernel_rfl) (fun _ _ _ h=>h) (Or.inl ⟨by rfl,?y18⟩) (by assumption) ?r18
      case y18=>(intro w hSw;(try dsimp only at hSw);go_simp;first|done|with_reducible rfl)
      try simp only [Act.put,jI,jZ,jS]
      refine wpAnyH_ready (rs:=[13,19]) (by kernel_rfl) (by simp) (consL rfl (fun K hK => ?_) (consL rfl (fun K hK => ?_) AllReadyH.nil))
      ·go_simp
       refine hK.out _ _ ⟨q3,q2⟩ (fun hHeld => ?_)
       clear hK K
       try simp only [Act.put,jI,jZ,jS]
       refine wpAnyH_ready (rs:=[19]) (by kernel_rfl) (by simp) (consL rfl (fun K hK => ?_) AllReadyH.nil)
       refine step_calls rfl 221 _ _ rfl enters_next _ #[.pointer (some ⟨tp,0,none⟩)] (by simp [Act.eval,Act.put]) HNX.out ?_;rintro e w5 ⟨rfl,ht5,hc5⟩;refine ⟨_,rfl,?_⟩
       have HT5:=Lib.hid (HT3D.out.tape' hc5 ht5)
       obtain ⟨x0',x1',q3',q2'⟩:=HT5.out.at2v (j:=ix+1) HJ4.out HSV1.out
       have HHV:=Lib.hid (coins_halve' w5 a4 c4 (n-m) ((sortL r).drop m) HBL.out.symm (coinB D.word u) (HB3D.out.keep hc5 HB4.out) hnm H HHH.out k HKK.out)
       refine hK.out _ _ ⟨q3',q2'⟩ (fun hHeld => ?_)
       clear hK K
       try simp only [Act.put,jI,jZ,jS]
       refine wpAnyH_ready (rs:=[20]) (by kernel_rfl) (by simp) (consL rfl (fun K hK => ?_) AllReadyH.nil)
       refine step_calls rfl 220 _ _ rfl enters_halve _ #[.slice a4 (n-m) c4,.bool (coinB D.word u)] (by simp [Act.eval,Act.put]) HHV.out ?_;rintro e w6 ⟨a8,c8,rfl,ho6,hc6,hf6⟩;refine ⟨_,rfl,?_⟩
       have HT6:=Lib.hid (HT5.out.chg hc6 (by simp))
       obtain ⟨x0',x1',q3',q2'⟩:=HT6.out.at2v (j:=ix+1) HJ4.out HSV1.out
       have ho66:=HT6.out.row_at rfl HJ4.out HJ5.out HSV1.out HR1.out HL1.out
       refine hK.out _ _ ⟨q3',q2'⟩ (fun hHeld => ?_)
       clear hK K
       try simp only [Act.put,jI,jZ,jS]
       refine wpAnyH_ready (rs:=[21]) (by kernel_rfl) (by simp) (consL rfl (fun K hK => ?_) AllReadyH.nil)
       refine step_append_src rfl (.tmp 82) (.tmp 89) 100 100 rfl 2 _ 1 8 under_ints info_i64 rfl (by decide) (.slice so1 l1 sc1) l1 (ints r1) rfl ho66 (.slice a8 k c8) k (ints H) rfl (Src.of_rd under_ints ho6.rd) (ints_oneCell _) hlk hlk8 ?_;intro a9 c9 w7 ho7 hg7 hf7
       obtain ⟨y0,y1,y3⟩:=HT6.out.at3 (j:=ix+1) HJ4.out HSV1.out hg7
       have HT8:=settle_tow HT6.out HJ4.out HSV1.out hg7 HL1.out HKK.out ho7 hf7
       have y2:w7.cell? ⟨p,2,none⟩=some (.pointer (some ⟨tp,0,none⟩)):=(HT6.out.blk.chg hg7 (by have h1:=HT6.out.p_row (ix+1) HJ4.out;rw [HSV1.out] at h1;exact h1)).cell 2
       have HT8:=Lib.hid HT8
       refine hK.out _ _ ⟨y3,y2⟩ (fun hHeld => ?_)
       clear hK K
       try simp only [Act.put,jI,jZ,jS]
       refine wpAnyH_ready (rs:=[22]) (by kernel_rfl) (by simp) (consL rfl (fun K hK => ?_) AllReadyH.nil)
       go_simp
       refine hK.out _ _ ⟨y3,y2⟩ (fun hHeld => ?_)
       clear hK K
       try simp only [Act.put,jI,jZ,jS]
       refine wpAnyH_ready (rs:=[23]) (by kernel_rfl) (by simp) (consL rfl (fun K hK => ?_) AllReadyH.nil)
       go_simp
       refine hK.out _ _ ⟨HT8.out.cells.2.2.2.1,HT8.out.cells.2.2.1⟩ (fun hHeld => ?_)
       clear hK K
       try simp only [Act.put,jI,jZ,jS]
       refine wpAnyH_done (by kernel_rfl) ?_ _
       have HT8:=HT8.out
       have HT8:Tow _ p tp _ _ (D.at (u+1,(rowsP.set ix ((sortL r).take m)).set (ix+1) (r1++H))):=HT8
       have HT8:=Lib.hid HT8
       have HMX:=Lib.hid (settle_mv (ix:=ix) (m:=m) (n9:=l1+k) (c9:=c9) HM12.out HCH3.out hc5 hc6 hg7 HOLD.out HFA.out hf7)
       clear ho7 hg7 hf7 y0 y1 y3 hc5 hc6
       try simp only [Act.put,jI,jS,jZ,List.getElem_toArray,List.getElem_cons_succ,List.getElem_cons_zero]
       go_wp2
       exact ⟨⟨ix+1,u+1,(rowsP.set ix ((sortL r).take m)).set (ix+1) (r1++H),_,_,HST9.out.1,by go_num,HT8.out,HM0.out.trans HMX.out,by omega,HFL9.out,Lib.hid HST9.out.2⟩,by simp [intOf];have:=HST9.out.1;omega⟩
      ·skip
       refine step_calls rfl 221 _ _ rfl enters_next _ #[.pointer (some ⟨tp,0,none⟩)] (by simp [Act.eval,Act.put]) HNX.out ?_;rintro e w5 ⟨rfl,ht5,hc5⟩;refine ⟨_,rfl,?_⟩
       have HT5:=Lib.hid (HT3D.out.tape' hc5 ht5)
       obtain ⟨x0',x1',q3',q2'⟩:=HT5.out.at2v (j:=ix+1) HJ4.out HSV1.out
       have HHV:=Lib.hid (coins_halve' w5 a4 c4 (n-m) ((sortL r).drop m) HBL.out.symm (coinB D.word u) (HB3D.out.keep hc5 HB4.out) hnm H HHH.out k HKK.out)
       refine hK.out _ _ ⟨q3',q2'⟩ (fun hHeld => ?_)
       clear hK K
       try simp only [Act.put,jI,jZ,jS]
       refine wpAnyH_ready (rs:=[13,20]) (by kernel_rfl) (by simp) (consL rfl (fun K hK => ?_) (consL rfl (fun K hK => ?_) AllReadyH.nil))
       ·go_simp
        refine hK.out _ _ ⟨q3',q2'⟩ (fun hHeld => ?_)
        clear hK K
        try simp only [Act.put,jI,jZ,jS]
        refine wpAnyH_ready (rs:=[20]) (by kernel_rfl) (by simp) (consL rfl (fun K hK => ?_) AllReadyH.nil)
        refine step_calls rfl 220 _ _ rfl enters_halve _ #[.slice a4 (n-m) c4,.bool (coinB D.word u)] (by simp [Act.eval,Act.put]) HHV.out ?_;rintro e w6 ⟨a8,c8,rfl,ho6,hc6,hf6⟩;refine ⟨_,rfl,?_⟩
        have HT6:=Lib.hid (HT5.out.chg hc6 (by simp))
        obtain ⟨x0',x1',q3',q2'⟩:=HT6.out.at2v (j:=ix+1) HJ4.out HSV1.out
        have ho66:=HT6.out.row_at rfl HJ4.out HJ5.out HSV1.out HR1.out HL1.out
        refine hK.out _ _ ⟨q3',q2'⟩ (fun hHeld => ?_)
        clear hK K
        try simp only [Act.put,jI,jZ,jS]
        refine wpAnyH_ready (rs:=[21]) (by kernel_rfl) (by simp) (consL rfl (fun K hK => ?_) AllReadyH.nil)
        refine step_append_src rfl (.tmp 82) (.tmp 89) 100 100 rfl 2 _ 1 8 under_ints info_i64 rfl (by decide) (.slice so1 l1 sc1) l1 (ints r1) rfl ho66 (.slice a8 k c8) k (ints H) rfl (Src.of_rd under_ints ho6.rd) (ints_oneCell _) hlk hlk8 ?_;intro a9 c9 w7 ho7 hg7 hf7
        obtain ⟨y0,y1,y3⟩:=HT6.out.at3 (j:=ix+1) HJ4.out HSV1.out hg7
        have HT8:=settle_tow HT6.out HJ4.out HSV1.out hg7 HL1.out HKK.out ho7 hf7
        have y2:w7.cell? ⟨p,2,none⟩=some (.pointer (some ⟨tp,0,none⟩)):=(HT6.out.blk.chg hg7 (by have h1:=HT6.out.p_row (ix+1) HJ4.out;rw [HSV1.out] at h1;exact h1)).cell 2
        have HT8:=Lib.hid HT8
        refine hK.out _ _ ⟨y3,y2⟩ (fun hHeld => ?_)
        clear hK K
        try simp only [Act.put,jI,jZ,jS]
        refine wpAnyH_ready (rs:=[22]) (by kernel_rfl) (by simp) (consL rfl (fun K hK => ?_) AllReadyH.nil)
        go_simp
        refine hK.out _ _ ⟨y3,y2⟩ (fun hHeld => ?_)
        clear hK K
        try simp only [Act.put,jI,jZ,jS]
        refine wpAnyH_ready (rs:=[23]) (by kernel_rfl) (by simp) (consL rfl (fun K hK => ?_) AllReadyH.nil)
        go_simp
        refine hK.out _ _ ⟨HT8.out.cells.2.2.2.1,HT8.out.cells.2.2.1⟩ (fun hHeld => ?_)
        clear hK K
        try simp only [Act.put,jI,jZ,jS]
        refine wpAnyH_done (by kernel_rfl) ?_ _
        have HT8:=HT8.out
        have HT8:Tow _ p tp _ _ (D.at (u+1,(rowsP.set ix ((sortL r).take m)).set (ix+1) (r1++H))):=HT8
        have HT8:=Lib.hid HT8
        have HMX:=Lib.hid (settle_mv (ix:=ix) (m:=m) (n9:=l1+k) (c9:=c9) HM12.out HCH3.out hc5 hc6 hg7 HOLD.out HFA.out hf7)
        clear ho7 hg7 hf7 y0 y1 y3 hc5 hc6
        try simp only [Act.put,jI,jS,jZ,List.getElem_toArray,List.getElem_cons_succ,List.getElem_cons_zero]
        go_wp2
        exact ⟨⟨ix+1,u+1,(rowsP.set ix ((sortL r).take m)).set (ix+1) (r1++H),_,_,HST9.out.1,by go_num,HT8.out,HM0.out.trans HMX.out,by omega,HFL9.out,Lib.hid HST9.out.2⟩,by simp [intOf];have:=HST9.out.1;omega⟩
       ·skip
        refine step_calls rfl 220 _ _ rfl enters_halve _ #[.slice a4 (n-m) c4,.bool (coinB D.word u)] (by simp [Act.eval,Act.put]) HHV.out ?_;rintro e w6 ⟨a8,c8,rfl,ho6,hc6,hf6⟩;refine ⟨_,rfl,?_⟩
        have HT6:=Lib.hid (HT5.out.chg hc6 (by simp))
        obtain ⟨x0',x1',q3',q2'⟩:=HT6.out.at2v (j:=ix+1) HJ4.out HSV1.out
        have ho66:=HT6.out.row_at rfl HJ4.out HJ5.out HSV1.out HR1.out HL1.out
        refine hK.out _ _ ⟨q3',q2'⟩ (fun hHeld => ?_)
        clear hK K
        try simp only [Act.put,jI,jZ,jS]
        refine wpAnyH_ready (rs:=[13]) (by kernel_rfl) (by simp) (consL rfl (fun K hK => ?_) AllReadyH.nil)
        go_simp
        refine hK.out _ _ ⟨q3',q2'⟩ (fun hHeld => ?_)
        clear hK K
        try simp only [Act.put,jI,jZ,jS]
        refine wpAnyH_ready (rs:=[21]) (by kernel_rfl) (by simp) (consL rfl (fun K hK => ?_) AllReadyH.nil)
        refine step_append_src rfl (.tmp 82) (.tmp 89) 100 100 rfl 2 _ 1 8 under_ints info_i64 rfl (by decide) (.slice so1 l1 sc1) l1 (ints r1) rfl ho66 (.slice a8 k c8) k (ints H) rfl (Src.of_rd under_ints ho6.rd) (ints_oneCell _) hlk hlk8 ?_;intro a9 c9 w7 ho7 hg7 hf7
        obtain ⟨y0,y1,y3⟩:=HT6.out.at3 (j:=ix+1) HJ4.out HSV1.out hg7
        have HT8:=settle_tow HT6.out HJ4.out HSV1.out hg7 HL1.out HKK.out ho7 hf7
        have y2:w7.cell? ⟨p,2,none⟩=some (.pointer (some ⟨tp,0,none⟩)):=(HT6.out.blk.chg hg7 (by have h1:=HT6.out.p_row (ix+1) HJ4.out;rw [HSV1.out] at h1;exact h1)).cell 2
        have HT8:=Lib.hid HT8
        refine hK.out _ _ ⟨y3,y2⟩ (fun hHeld => ?_)
        clear hK K
        try simp only [Act.put,jI,jZ,jS]
        refine wpAnyH_ready (rs:=[22]) (by kernel_rfl) (by simp) (consL rfl (fun K hK => ?_) AllReadyH.nil)
        go_simp
        refine hK.out _ _ ⟨y3,y2⟩ (fun hHeld => ?_)
        clear hK K
        try simp only [Act.put,jI,jZ,jS]
        refine wpAnyH_ready (rs:=[23]) (by kernel_rfl) (by simp) (consL rfl (fun K hK => ?_) AllReadyH.nil)
        go_simp
        refine hK.out _ _ ⟨HT8.out.cells.2.2.2.1,HT8.out.cells.2.2.1⟩ (fun hHeld => ?_)
        clear hK K
        try simp only [Act.put,jI,jZ,jS]
        refine wpAnyH_done (by kernel_rfl) ?_ _
        have HT8:=HT8.out
        have HT8:Tow _ p tp _ _ (D.at (u+1,(rowsP.set ix ((sortL r).take m)).set (ix+1) (r1++H))):=HT8
        have HT8:=Lib.hid HT8
        have HMX:=Lib.hid (settle_mv (ix:=ix) (m:=m) (n9:=l1+k) (c9:=c9) HM12.out HCH3.out hc5 hc6 hg7 HOLD.out HFA.out hf7)
        clear ho7 hg7 hf7 y0 y1 y3 hc5 hc6
        try simp only [Act.put,jI,jS,jZ,List.getElem_toArray,List.getElem_cons_succ,List.getElem_cons_zero]
        go_wp2
        exact ⟨⟨ix+1,u+1,(rowsP.set ix ((sortL r).take m)).set (ix+1) (r1++H),_,_,HST9.out.1,by go_num,HT8.out,HM0.out.trans HMX.out,by omega,HFL9.out,Lib.hid HST9.out.2⟩,by simp [intOf];have:=HST9.out.1;omega⟩
  ·have hS:=settleF_end HS.out.1 hlt
   have HD:=Lib.hid (show D.settled=D.at (u,rows) from by unfold TwD.settled;rw [hS])
   clear hS
   have hd:decide ((ix:Int)<(rows.length:Int))=false:=decide_eq_false (by omega)
   go_wp2
   go_end0
   rw [HD.out]
   exact ⟨rfl,_,vs',ht',hm⟩
end Go.Proofs.YthoolcpcmhhkpaaGreatDoor
