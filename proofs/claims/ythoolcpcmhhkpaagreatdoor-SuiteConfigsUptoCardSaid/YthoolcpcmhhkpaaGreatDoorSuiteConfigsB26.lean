/-
  Parts of a proof, pressed. Conditions: the form's own reach.
-/
import Derived.Test.YthoolcpcmhhkpaaGreatDoorSuiteConfigsB25
import Derived.Test.YthoolcpcmhhkpaaGreatDoorSuiteConfigsB15
import Derived.Test.YthoolcpcmhhkpaaGreatDoorSuiteConfigsB3
import Derived.Test.YthoolcpcmhhkpaaGreatDoorSuiteConfigsB5
import Derived.Test.YthoolcpcmhhkpaaGreatDoorSuiteConfigsB4
namespace Go.Proofs.YthoolcpcmhhkpaaGreatDoor
open Go.RowKit
theorem Tow.snoc {w w1 w2:World} {p tp:Nat} {rv rv2 v:Value} {vs:List Value} {D:TwD} {r:List Int} (h:Tow w p tp rv vs D) (k1:Chg [] w w1) (hv:Own w1 2 1 v r.length (ints r)) (hf:∀ b∈blkOf v,w.heap.size≤b)
 (k2:Chg (blkOf rv) w1 w2) (ho:Own w2 100 1 rv2 (D.rows.length+1) (vs++[v])) (S:Nat) :
 Tow ((w2.setCell ⟨p,3,none⟩ rv2).setCell ⟨p,4,none⟩ (.int .u64 (S:Nat))) p tp rv2 (vs++[v]) { D with rows:=D.rows++[r],total:=S }:=by
 have hb:=(h.blk.chg k1 (by simp)).chg k2 h.p_rv
 have k3:Chg [p] w2 ((w2.setCell ⟨p,3,none⟩ rv2).setCell ⟨p,4,none⟩ (.int .u64 (S:Nat))):=((Chg.refl _ w2).setCell (a:=⟨p,3,none⟩) (.inl (by simp)) _).setCell (a:=⟨p,4,none⟩) (.inl (by simp)) _
 have hvs:∀ u∈vs,∀ b∈blkOf u,b<w.heap.size:=fun u hu b hb=>by
  obtain ⟨i,hi,rfl⟩:=List.getElem_of_mem hu
  exact h.rows.lt i hi b hb
 refine ⟨(hb.setCell 3 rv2).setCell 4 (.int .u64 (S:Nat)),((Blk.chg h.tape k1 (by simp)).chg k2 h.tp_rv).chg k3 (by simpa using h.ne_tape.symm),?_,?_⟩
 ·simp only [List.length_append,List.length_cons,List.length_nil,Nat.zero_add]
  exact ho.chg k3 (fun b hb2 e=>by simp at e;subst e;exact ho.ne_blk hb (by decide) hb2)
 ·have h1:RowsW w2 vs D.rows:=(h.rows.chg k1 (by simp)).chg k2 (fun u hu b hb2 e=>by
   obtain ⟨i,hi,rfl⟩:=List.getElem_of_mem hu
   exact h.rv_row i hi b e hb2)
  have h2:Own w2 2 1 v r.length (ints r):=hv.chg k2 (fun b hb2 e=>by
   have h3:=hf b hb2
   have h4:=h.own.lt b e
   omega)
  refine (h1.snoc h2 (fun u hu b hb2 e => ?_)).chg k3 (fun u hu b hb2 e => ?_)
  ·have h3:=hf b hb2
   have h4:=hvs u hu b e
   omega
  ·simp at e;subst e
   rcases List.mem_append.1 hu with hu|hu
   ·obtain ⟨i,hi,rfl⟩:=List.getElem_of_mem hu
    exact h.p_row i hi hb2
   ·simp at hu;subst hu
    have h3:=hf b hb2
    have h4:=h.blk.lt
    omega
def TwD.part (W word:Nat) (rows:List (List Int)) (k:Nat):TwD:=⟨W,word,0,totR (rows.take k),rows.take k,0,0⟩
set_option maxRecDepth 100000 in
set_option maxHeartbeats 4000000 in
theorem req_putK (w:World) (p tp:Nat) (rv:Value) (vs:List Value) (D:TwD) (ht:Tow w p tp rv vs D) (hW:4≤D.W) (hW2:D.W≤64) (hword:D.word<18446744073709551616) (x:Int) (n:Nat) (h1:1≤n) (h2:n≤1024) (hroom:D.total+n≤D.W*1024)
 (hf:∀ k,k≤n→1≤((D.ends x x).putN x k).rows.length∧((D.ends x x).putN x k).rows.length≤190000∧((D.ends x x).putN x k).used+((D.ends x x).putN x k).rows.flatten.length≤190000) :
 Calls Tryz.prog 118 #[.pointer (some ⟨p,0,none⟩),.int .i64 x,.int .u64 n] w fun e w'=>e=.returned (.int .i64 0)∧∃ rv' vs',Tow w' p tp rv' vs' ((D.ends x x).putN x n)∧Mv (fp p tp rv vs) w (fp p tp rv' vs') w':=by
 have HMO:=Lib.hid (fun W hc=>req_most W p tp rv vs D (ht.chg (F:=[]) hc (by simp)) hW2)
 have HEN:=Lib.hid (fun W hc=>req_ends W p tp rv vs D (ht.chg (F:=[]) hc (by simp)) x x)
 obtain ⟨c0,c1,c2,c3,c4,c5,c6⟩:=ht.cells
 have e1:((n:Int)==0)=false:=by rw [beq_eq_false_iff_ne];omega
 have e2:decide ((1024:Int)<(n:Int))=false:=decide_eq_false (by omega)
 go_enter Tryz.func118,Tryz.ntmps118
 go_wp2_with fail
 have e3:decide (IntKind.u64.wrap (((D.W*1024:Nat):Int)-(D.total:Int))<(n:Int))=false:=decide_eq_false (by rw [IntKind.wrap_u64];omega)
 have e4:IntKind.u64.wrap (((D.W*1024:Nat):Int)-(D.total:Int))=((D.W*1024-D.total:Nat):Int):=by rw [IntKind.wrap_u64];omega
 have e5:decide (D.W*1024-D.total<n)=false:=decide_eq_false (by omega)
 have HWT:=Lib.hid (show D.W*1024≤65536 by omega)
 generalize D.W*1024=Wm at *
 go_quiet (first|(go_at_call 182;exact (HMO.out _ (by with_reducible (repeat (first|exact Chg.refl _ _|apply Chg.drew|apply Chg.drewN)))).mono fun e w' ⟨he,hw⟩=>⟨he,_,hw.symm⟩))
 go_wp2_with fail
 refine (HEN.out _ ((Chg.refl [] w).drewN nq)).mono ?_
 rintro e w1 ⟨rfl,ht1,hc1⟩
 have HM1:=Lib.hid (Mv.of_chg (((Chg.refl (fp p tp rv vs) w).drewN nq).trans' hc1 (fun b hb=>.inl (by simp at hb;subst hb;simp [fp]))):Mv (fp p tp rv vs) w (fp p tp rv vs) w1)
 have HD:=Lib.hid (show (D.ends x x).W=D.W∧(D.ends x x).word=D.word∧(D.ends x x).total=D.total∧(D.ends x x).rows=D.rows∧(D.ends x x).used=D.used from by unfold TwD.ends;split<;>exact ⟨rfl,rfl,rfl,rfl,rfl⟩)
 have hfE:=hf
 have HE0:∃ E,Hid (D.ends x x=E):=⟨_,Lib.hid rfl⟩
 obtain ⟨E,HEQ⟩:=HE0
 rw [HEQ.out] at ht1 HD hfE
 have HF:=Lib.hid hfE
 have HT1:=Lib.hid ht1
 clear ht hf hfE HMO HEN c0 c1 c2 c3 c4 c5 c6 e1 e2 e3 e4 e5 hc1 ht1
 go_wp2
 go_loopw [31] (fun i wx=>∃ (k:Nat) (rv':Value) (vs':List Value),k≤n∧i=.int .u64 (k:Nat)∧Tow wx p tp rv' vs' (E.putN x k)∧Mv (fp p tp rv vs) w (fp p tp rv' vs') wx) (fun i _=>n-(intOf i).toNat)
 case atStart=>exact ⟨0,rv,vs,Nat.zero_le _,rfl,HT1.out,HM1.out⟩
 case round =>
  obtain ⟨k,rv',vs',hk,rfl,ht',hm'⟩:=hrel
  by_cases hlt:k<n
  ·obtain ⟨w1',w2',w3'⟩:=E.putN_W x k
   have hfit:=HF.out k (by omega)
   have HS0:∃ G,Hid (E.putN x (k+1)=G.put1 x)∧E.putN x k=G:=⟨_,Lib.hid rfl,rfl⟩
   obtain ⟨G,HS1,hG⟩:=HS0
   rw [hG] at hfit ht' w1' w2' w3'
   clear hG
   have hGW:G.W=D.W:=w1'.trans HD.out.1
   have hGw:G.word=D.word:=w2'.trans HD.out.2.1
   have hGt:G.total=D.total+k:=w3'.trans (by rw [HD.out.2.2.1])
   obtain ⟨f1,f2,f3⟩:=hfit
   have hv0:0<vs'.length:=by rw [ht'.rows.1];exact f1
   obtain ⟨ro,rc,hrv⟩:=ht'.own.shape
   subst hrv
   obtain ⟨g,o,cp,hsl,-,-,-⟩:=ht'.own.at1 (j:=0) f1 hv0
   simp only [Value.slice.injEq,true_and] at hsl
   obtain ⟨rfl,rfl⟩:=hsl
   obtain ⟨x0,x1,x3,-⟩:=ht'.at2 (j:=0) hv0
   have hrow:=ht'.rows.2.1 0 hv0 f1
   obtain ⟨so,sc,hsv⟩:=hrow.shape
   rw [hsv] at x0 hrow
   have hrl:(G.rows[0]'f1).length≤200000:=by have:=flat_le0 f1;omega
   have HGET:=Lib.hid (show G.rows.getD 0 []=G.rows[0]'f1 from by rw [List.getD,List.getElem?_eq_getElem f1];rfl)
   have HT:=Lib.hid ht'
   have HSV:=Lib.hid hsv
   have HROW:=Lib.hid hrow
   have HHV:=Lib.hid hv0
   obtain ⟨r0,hr0⟩:∃ r0,r0=G.rows[0]'f1:=⟨_,rfl⟩
   rw [←hr0] at HGET HROW hrl x0
   rw [←hr0] at HSV
   obtain ⟨l0,hl0⟩:∃ l0,l0=r0.length:=⟨_,rfl⟩
   rw [←hl0] at HROW hrl x0 HSV
   have HL0:=Lib.hid hl0
   have hpos:0<G.rows.length:=by omega
   have hpos':(0:Int)<(G.rows.length:Int):=by omega
   have HB:=Lib.hid (show G.rows.length≤200000∧G.used+G.rows.flatten.length≤190000∧1≤G.rows.length from by omega)
   simp only [Nat.add_zero] at x0 x1
   obtain ⟨z0,z1,z3,-⟩:=(HT.out.chg (F:=[]) (w1:=wr.alloc (.cells #[.int .i64 x] 2)) ((Chg.refl [] _).alloc _) (by simp)).at2 (j:=0) HHV.out
   rw [HSV.out] at z0
   simp only [Nat.add_zero] at z0 z1
   clear hsv hrow hr0 hl0 ht' w1' w2' w3' f2 f3
   go_wp2_with fail
   go_region_law (refine step_append_src rfl (.tmp 42) (.tmp 44) 100 100 rfl 2 _ 1 8 under_ints info_i64 rfl (by decide) (.slice so l0 sc) l0 (ints r0) rfl (HROW.out.chg (F:=[]) (by with_reducible (repeat (first|exact Chg.refl _ _|apply Chg.drew|apply Chg.alloc))) (by simp)) (.slice (some ⟨wr.heap.size,0,none⟩) 1 1) 1 (ints [x]) rfl (Src.of_rd under_ints (by first|exact Rd.lit1 wr (.int .i64 x) 2 1|exact (Rd.lit1 wr (.int .i64 x) 2 1).chg (F:=[]) ((Chg.refl [] _).drew) (by simp))) (ints_oneCell _) (by unfold maxLen;omega) (by omega) ?_;intro a9 c9 w7 ho7 hg7 hf7
                  have HTA:=Lib.hid (HT.out.chg (F:=[]) (w1:=(wr.alloc (.cells #[.int .i64 x] 2)).drew) (by with_reducible (repeat (first|exact Chg.refl _ _|apply Chg.drew|apply Chg.alloc))) (by simp))
                  obtain ⟨y0,y1,y3⟩:=HTA.out.at3 (j:=0) HHV.out HSV.out hg7
                  simp only [Nat.add_zero] at y0 y1)
   all_goals
    have hvb:blkOf (.slice so l0 sc)=blkOf (vs'[0]'HHV.out):=by rw [HSV.out]
    have hlen9:l0+1=(r0++[x]).length:=by rw [List.length_append,←HL0.out];rfl
    have ho9:Own w7 2 1 (.slice a9 (l0+1) c9) (r0++[x]).length (ints (r0++[x])):=by
     rw [←hlen9,ints_append];exact ho7
    have HT8:=HTA.out.turn (j:=0) HHV.out hg7 (fun b hb=>.inl (by rw [←hvb];exact hb)) ho9 (fun i hi hne b hb e=>by
     rcases hf7 b (by simpa using hb) with h1|h1
     ·rw [hvb] at h1
      exact HTA.out.rows.2.2 0 i HHV.out hi (by omega) b h1 e
     ·have:=HTA.out.rows.lt i hi b e;omega)
    have HADD:=Lib.hid (show { G with rows:=G.rows.set 0 (r0++[x]),total:=G.total+1 }=G.add x from by unfold TwD.add;rw [HGET.out])
    have hk78:Chg (fp p tp (.slice (some ⟨g,o,none⟩) G.rows.length rc) vs') wr (w7.setCell ⟨g,o,none⟩ (.slice a9 (l0+1) c9)):=((((Chg.refl _ wr).alloc _).drew).trans' hg7 (fun b hb=>.inl (HT.out.mem_row 0 HHV.out b (by rw [←hvb];exact hb)))).setCell (.inl (HT.out.mem_rv g (by simp))) _
    have HFR:=Lib.hid (show ∀ b∈abl a9,b∈fp p tp (.slice (some ⟨g,o,none⟩) G.rows.length rc) vs'∨wr.heap.size≤b from fun b hb=>by
     rcases hf7 b (by simpa using hb) with h1|h1
     ·exact .inl (HT.out.mem_row 0 HHV.out b (by rw [←hvb];exact h1))
     ·exact .inr (by simp only [World.size_drew,World.size_alloc] at h1;omega))
    have HK:=Lib.hid hk78
    simp only [Nat.add_zero] at HT8
    clear z0 z1 z3 x0 x1 x3 y0 y1 y3 HTA hk78 ho9 ho7 hg7 hf7 hvb HROW
    generalize w7.setCell ⟨g,o,none⟩ (.slice a9 (l0+1) c9)=w8 at *
    obtain ⟨-,-,-,-,t4,-,-⟩:=HT8.cells
    have f4:=HT8.blk.free 4
    obtain ⟨HT9,hk9⟩:=HT8.setTotal (G.total+1)
    simp only at t4 HT9
    rw [HADD.out] at HT9
    have hcast:((G.total+1:Nat):Int)=(G.total:Int)+1:=by push_cast;rfl
    rw [hcast] at HT9 hk9
    have HT9:=Lib.hid HT9
    have HK9:=Lib.hid hk9
    clear HT8 hk9 hcast
    have hgb:(G.total:Int)+1<70000:=by have:=HWT.out;omega
    have HGT:=Lib.hid hGt
    clear hGt
    try simp only [Act.put,jI,jS,jZ,List.getElem_toArray,List.getElem_cons_succ,List.getElem_cons_zero]
    go_wp2_with fail
    have HSZ:=TwD.add_size (D:=G) x f1
    have hB:=HB.out
    refine (req_settle _ p tp _ _ (G.add x) HT9.out (by show 4≤G.W;omega) (by show G.W≤64;omega) (by show G.word<_;rw [hGw];exact hword) (by show G.used≤1000000;omega) (by rw [HSZ.1];omega) (by rw [HSZ.2];omega)).mono ?_
    rintro e w9 ⟨rfl,rv2,vs2,ht2,hm2⟩
    have HMS:Mv (fp p tp (.slice (some ⟨g,o,none⟩) G.rows.length rc) vs') wr (fp p tp (.slice (some ⟨g,o,none⟩) G.rows.length rc) (vs'.set 0 (.slice a9 (l0+1) c9))) _:=⟨HK.out.trans' HK9.out (fun b hb=>.inl (by simp at hb;subst hb;simp [fp])),fun b hb=>by
     simp only [fp,List.mem_cons,List.mem_append,List.mem_flatMap] at hb
     rcases hb with rfl|rfl|hb|⟨v,hv,hb⟩
     ·exact .inl (by simp [fp])
     ·exact .inl (by simp [fp])
     ·exact .inl (HT.out.mem_rv b hb)
     ·rcases List.mem_or_eq_of_mem_set hv with hv|rfl
      ·exact .inl (by simp only [fp,List.mem_cons,List.mem_append,List.mem_flatMap];exact .inr (.inr (.inr ⟨v,hv,hb⟩)))
      ·exact HFR.out b (by simpa using hb)⟩
    have HMZ:=Lib.hid (hm'.trans (HMS.trans hm2))
    have HT2:=Lib.hid ht2
    clear HMS hm2 ht2 t4 f4 hm' hB
    go_wp2
    exact ⟨⟨k+1,rv2,vs2,hlt,by go_num,by rw [HS1.out];exact HT2.out,HMZ.out⟩,by simp [intOf];omega⟩
  ·obtain rfl:k=n:=by omega
   go_wp2
   go_ret
   rw [HEQ.out]
   exact ⟨rfl,rv',vs',ht',hm'⟩
end Go.Proofs.YthoolcpcmhhkpaaGreatDoor
namespace Go.Proofs.YthoolcpcmhhkpaaGreatDoor
theorem step_sum {W:Nat} (c:Nat→Bool) {h:Nat} {s:Nat × List (List Int)} (hW:4≤W) (hh:h<s.2.length) :
 (stepR W c h s).1+(stepR W c h s).2.flatten.length≤s.1+s.2.flatten.length:=by
 obtain ⟨u,l⟩:=s
 obtain ⟨A,r,B,rfl,rfl⟩:=split_at hh
 rw [stepR_split]
 split
 ·exact Nat.le_refl _
 ·next hlt =>
  have hk:=keepN_le (n:=r.length) (k:=W / 2) (by omega)
  have hl:=half_len (W:=W) (c u) r rfl rfl (by omega)
  simp only [List.length_append,List.flatten_append,List.flatten_cons,hl,List.length_take,(sort_ok r).2.2]
  cases B with
  | nil=>simp;omega
  | cons b B=>simp;omega
theorem settle_sum {W:Nat} {c:Nat→Bool} (hW:4≤W) (s:Nat × List (List Int)) :
 (settle W c s).1+(settle W c s).2.flatten.length≤s.1+s.2.flatten.length:=by
 obtain ⟨h',hi,_⟩:=settleF_inv (c:=c) hW (fun _ t=>t.1+t.2.flatten.length≤s.1+s.2.flatten.length)
  (fun h t hi hh=>by have:=step_sum c hW hh;omega) (needF 0 s) 0 s (Nat.le_refl _) (Nat.le_refl _)
 exact hi
theorem TwD.put1_fine {D:TwD} {W word n:Nat} (hW:4≤W) (h:D.fine W word n) {x:Int} (hx:x≤9223372036854775807):(D.put1 x).fine W word (n+1):=by
 obtain ⟨rfl,rfl,rfl,h4,h5,h6,h7,h8⟩:=h
 obtain ⟨r,l,hr⟩:∃ r l,D.rows=r::l:=by
  cases hr:D.rows with
  | nil=>rw [hr] at h4;simp at h4
  | cons r l=>exact ⟨r,l,rfl⟩
 have e1:(D.add x).rows=(r++[x])::l:=by simp [TwD.add,hr]
 have hs:(D.put1 x).rows=(settle D.W (coinB D.word) (D.used,(r++[x])::l)).2:=by
  show (settle D.W (coinB D.word) (D.used,(D.add x).rows)).2=_
  rw [e1]
 refine ⟨rfl,rfl,rfl,?_,?_,?_,?_,?_⟩
 ·rw [hs];exact settle_ne hW _ (by simp)
 ·rw [hs,settle_tot hW]
  rw [hr] at h5
  simp only [totR,wsum,List.length_append,List.length_cons,List.length_nil] at h5 ⊢
  omega
 ·rw [hs];exact settle_short hW _
 ·rw [hs]
  exact settle_full hW _ (by rw [hr] at h7;simpa using h7)
 ·rw [hs]
  refine settle_all hW _ _ ?_
  rw [hr] at h8
  intro q hq v hv
  simp only [List.mem_cons] at hq
  rcases hq with rfl|hq
  ·rcases List.mem_append.1 hv with hv|hv
   ·exact h8 r (by simp) v hv
   ·simp at hv;subst hv;exact hx
  ·exact h8 q (by simp [hq]) v hv
theorem TwD.put1_used {D:TwD} (hW:4≤D.W) (h:1≤D.rows.length) (x:Int):(D.put1 x).used+(D.put1 x).rows.flatten.length≤D.used+D.rows.flatten.length+1:=by
 have h1:=settle_sum (c:=coinB D.word) hW (D.used,(D.add x).rows)
 have h2:=(TwD.add_size (D:=D) x h).1
 simp only [h2] at h1
 exact h1
theorem TwD.ends_fine {D:TwD} {W word n:Nat} (h:D.fine W word n) (x y:Int):(D.ends x y).fine W word n:=by
 unfold TwD.ends
 split<;>exact ⟨h.1,h.2,h.3,h.4,h.5,h.6,h.7,h.8⟩
structure TwD.rq (D:TwD) (W word B:Nat) (m:List Vl):Prop where
 fine:D.fine W word (sumS m)
 used:D.used+D.rows.flatten.length≤B
 few:sumS m≤B
 tells:∀ x,D.tells x (upS x m)
theorem TwD.rq.mono {D:TwD} {W word B B':Nat} {m:List Vl} (h:D.rq W word B m) (hB:B≤B'):D.rq W word B' m:=⟨h.fine,Nat.le_trans h.used hB,Nat.le_trans h.few hB,h.tells⟩
structure TwD.way (D:TwD) (W word B n:Nat) (t:Int→Nat):Prop where
 fine:D.fine W word n
 used:D.used+D.rows.flatten.length≤B
 tells:∀ x,D.tells x (t x)
theorem TwD.put1_way {D:TwD} {W word B n:Nat} {t:Int→Nat} (hW:4≤W) (h4:W % 4=0) (h:D.way W word B n t) {y:Int} (hy:y≤9223372036854775807):(D.put1 y).way W word (B+1) (n+1) (fun x=>t x+if y≤x then 1 else 0):=
 ⟨TwD.put1_fine hW h.fine hy,Nat.le_trans (TwD.put1_used (by rw [h.fine.W_eq];exact hW) h.fine.ne y) (Nat.succ_le_succ h.used),fun x=>TwD.put1_tells (by rw [h.fine.W_eq];exact hW) (by rw [h.fine.W_eq];exact h4) h.fine.ne (h.tells x) y⟩
theorem TwD.putN_way {D:TwD} {W word B n:Nat} {t:Int→Nat} (hW:4≤W) (h4:W % 4=0) (h:D.way W word B n t) {y:Int} (hy:y≤9223372036854775807) (k:Nat):(D.putN y k).way W word (B+k) (n+k) (fun x=>t x+if y≤x then k else 0):=by
 induction k with
 | zero=>simpa [TwD.putN] using h
 | succ k ih =>
   have h1:=TwD.put1_way hW h4 ih hy
   have e:(fun x=>(t x+if y≤x then k else 0)+if y≤x then 1 else 0)=fun x=>t x+if y≤x then k+1 else 0:=by
    funext x;split<;>omega
   rw [e] at h1
   exact h1
theorem TwD.rq.way {D:TwD} {W word B:Nat} {m:List Vl} (h:D.rq W word B m) (x:Int):(D.ends x x).way W word B (sumS m) (fun y=>upS y m):=by
 refine ⟨TwD.ends_fine h.fine x x,?_,fun y=>TwD.ends_tells (h.tells y) x x⟩
 obtain ⟨-,-,-,e4,e5⟩:=D.ends_same x x
 rw [e4]
 have:(D.ends x x).used=D.used:=by unfold TwD.ends;split<;>rfl
 rw [this]
 exact h.used
theorem TwD.rq.put {D:TwD} {W word B:Nat} {m:List Vl} (hW:4≤W) (h4:W % 4=0) (h:D.rq W word B m) {x:Int} (hx:x≤9223372036854775807) (n:Nat):((D.ends x x).putN x n).rq W word (B+n) (m++[⟨x,n⟩]):=by
 have h1:=TwD.putN_way hW h4 (h.way x) hx n
 have h2:=h.few
 refine ⟨?_,h1.used,?_,fun y => ?_⟩
 ·rw [sumS_app];exact h1.fine
 ·rw [sumS_app];simp only [sumS];omega
 ·rw [upS_app]
  have:=h1.tells y
  simp only [upS,Nat.add_zero] at this ⊢
  exact this
end Go.Proofs.YthoolcpcmhhkpaaGreatDoor
namespace Go.Proofs.YthoolcpcmhhkpaaGreatDoor
structure TwD.allQ (D:TwD) (Q:Int→Prop):Prop where
 rows:∀ r∈D.rows,∀ v∈r,Q v
 least:Q D.least
 most:Q D.most
namespace TwD.allQ
variable {D O:TwD} {Q:Int→Prop}
theorem ends (h:D.allQ Q) {lo hi:Int} (h1:Q lo) (h2:Q hi):(D.ends lo hi).allQ Q:=by
 unfold TwD.ends
 split
 ·exact ⟨h.rows,h1,h2⟩
 ·refine ⟨h.rows,?_,?_⟩
  ·show Q (min D.least lo)
   rcases Int.le_total D.least lo with h3|h3
   ·rw [Int.min_eq_left h3];exact h.least
   ·rw [Int.min_eq_right h3];exact h1
  ·show Q (max D.most hi)
   rcases Int.le_total D.most hi with h3|h3
   ·rw [Int.max_eq_right h3];exact h2
   ·rw [Int.max_eq_left h3];exact h.most
theorem settled (hW:4≤D.W) (h:D.allQ Q):D.settled.allQ Q:=⟨settle_all hW Q _ h.rows,h.least,h.most⟩
theorem put1 (hW:4≤D.W) (h:D.allQ Q) {x:Int} (hx:Q x):(D.put1 x).allQ Q:=by
 refine settled (D:=D.add x) hW ⟨fun r hr v hv => ?_,h.least,h.most⟩
 rcases List.mem_or_eq_of_mem_set hr with hr|rfl
 ·exact h.rows r hr v hv
 ·rcases List.mem_append.1 hv with hv|hv
  ·cases hl:D.rows with
   | nil=>rw [hl] at hv;simp at hv
   | cons r l=>rw [hl] at hv;exact h.rows r (by rw [hl];simp) v (by simpa using hv)
  ·rw [List.mem_singleton.1 hv];exact hx
theorem putN (hW:4≤D.W) (h:D.allQ Q) {x:Int} (hx:Q x) (k:Nat):(D.putN x k).allQ Q:=by
 induction k with
 | zero=>exact h
 | succ k ih=>exact put1 (by rw [(D.putN_W x k).1];exact hW) ih hx
theorem new {W word:Nat} (h:Q 0):(TwD.new W word).allQ Q:=⟨by simp [TwD.new],h,h⟩
end TwD.allQ
def rowB (l:List Int):List UInt8:=natB l.length++intsB l
structure RqL where
 W:Nat
 word:Nat
 used:Nat
 low:Int
 high:Int
 rows:List (List Int)
def TwD.lo (D:TwD):Int:=if D.total=0 then 0 else D.least
def TwD.hi (D:TwD):Int:=if D.total=0 then 0 else D.most
def putReq (D:TwD):List UInt8:=natB D.W++(natB D.word++(natB (D.used % 64)++(natB (zig D.lo)++(natB (zig D.hi)++(natB D.rows.length++D.rows.flatMap rowB)))))
def TwD.told (D:TwD):RqL:=⟨D.W,D.word,D.used % 64,D.lo,D.hi,D.rows⟩
theorem TwD.allQ.lo {D:TwD} (h:D.allQ InR):InR D.lo:=by
 unfold TwD.lo
 split
 ·constructor<;>omega
 ·exact h.least
theorem TwD.allQ.hi {D:TwD} (h:D.allQ InR):InR D.hi:=by
 unfold TwD.hi
 split
 ·constructor<;>omega
 ·exact h.most
theorem rowsB_len (l:List (List Int)) (h:∀ q∈l,q.length≤64∧∀ x∈q,InR x):(l.flatMap rowB).length≤642*l.length:=by
 induction l with
 | nil=>simp
 | cons x l ih =>
   have h1:=ih (fun y hy=>h y (by simp [hy]))
   have h2:=intsB_len x (h x (by simp)).2
   have h3:=(h x (by simp)).1
   have h4:=natB_len 1 x.length (by omega)
   simp only [List.flatMap_cons,List.length_append,List.length_cons,rowB] at h1 ⊢
   omega
theorem putReq_len {D:TwD} (h:D.allQ InR) (h1:D.W≤64) (h2:D.word<18446744073709551616) (h3:D.rows.length≤16) (h4:∀ r∈D.rows,r.length≤64):(putReq D).length≤20000:=by
 have e1:=natB_len10 (n:=D.W) (by omega)
 have e2:=natB_len10 (n:=D.word) (by omega)
 have e3:=natB_len10 (n:=D.used % 64) (by omega)
 have e4:=natB_len10 (n:=zig D.lo) (by have:=h.lo.zig;omega)
 have e5:=natB_len10 (n:=zig D.hi) (by have:=h.hi.zig;omega)
 have e6:=natB_len10 (n:=D.rows.length) (by omega)
 have e7:=rowsB_len D.rows (fun q hq=>⟨h4 q hq,h.rows q hq⟩)
 unfold putReq
 simp only [List.length_append]
 omega
end Go.Proofs.YthoolcpcmhhkpaaGreatDoor
namespace Go.Proofs.YthoolcpcmhhkpaaGreatDoor
def TwD.norm (D:TwD):TwD:={ D with used:=D.used % 64 }
theorem coinB_mod {word u v:Nat} (h:u % 64=v % 64):coinB word u=coinB word v:=by
 unfold coinB
 rw [h]
theorem stepR_mod (W word h u v:Nat) (l:List (List Int)) (e:u % 64=v % 64) :
 (stepR W (coinB word) h (u,l)).2=(stepR W (coinB word) h (v,l)).2∧(stepR W (coinB word) h (u,l)).1 % 64=(stepR W (coinB word) h (v,l)).1 % 64:=by
 unfold stepR
 simp only
 split
 ·exact ⟨rfl,e⟩
 ·refine ⟨by rw [coinB_mod e],?_⟩
  simp only
  omega
theorem settleF_mod (W word:Nat):∀ (f h u v:Nat) (l:List (List Int)),u % 64=v % 64 →
 (settleF W (coinB word) f h (u,l)).2=(settleF W (coinB word) f h (v,l)).2∧(settleF W (coinB word) f h (u,l)).1 % 64=(settleF W (coinB word) f h (v,l)).1 % 64
 | 0,_,_,_,_,e=>⟨rfl,e⟩
 | f+1,h,u,v,l,e=>by
   rw [settleF,settleF]
   simp only
   by_cases hh:h<l.length
   ·rw [if_pos hh,if_pos hh]
    obtain ⟨e1,e2⟩:=stepR_mod W word h u v l e
    have:=settleF_mod W word f (h+1) (stepR W (coinB word) h (u,l)).1 (stepR W (coinB word) h (v,l)).1 (stepR W (coinB word) h (u,l)).2 e2
    have g1:((stepR W (coinB word) h (u,l)).1,(stepR W (coinB word) h (u,l)).2)=stepR W (coinB word) h (u,l):=rfl
    have g2:((stepR W (coinB word) h (v,l)).1,(stepR W (coinB word) h (u,l)).2)=stepR W (coinB word) h (v,l):=by rw [e1]
    rw [g1,g2] at this
    exact this
   ·rw [if_neg hh,if_neg hh]
    exact ⟨rfl,e⟩
theorem settle_mod (W word u v:Nat) (l:List (List Int)) (e:u % 64=v % 64) :
 (settle W (coinB word) (u,l)).2=(settle W (coinB word) (v,l)).2∧(settle W (coinB word) (u,l)).1 % 64=(settle W (coinB word) (v,l)).1 % 64:=settleF_mod W word _ _ u v l e
theorem TwD.norm_iff {D E:TwD}:D.norm=E.norm↔D.W=E.W∧D.word=E.word∧D.used % 64=E.used % 64∧D.total=E.total∧D.rows=E.rows∧D.least=E.least∧D.most=E.most:=by
 unfold TwD.norm
 rw [TwD.mk.injEq]
theorem TwD.norm_norm (D:TwD):D.norm.norm=D.norm:=TwD.norm_iff.2 ⟨rfl,rfl,Nat.mod_mod _ _,rfl,rfl,rfl,rfl⟩
theorem TwD.settled_norm {D E:TwD} (h:D.norm=E.norm):D.settled.norm=E.settled.norm:=by
 obtain ⟨h1,h2,h3,h4,h5,h6,h7⟩:=TwD.norm_iff.1 h
 obtain ⟨e1,e2⟩:=settle_mod D.W D.word D.used E.used D.rows h3
 refine TwD.norm_iff.2 ⟨h1,h2,?_,h4,?_,h6,h7⟩
 ·show (settle D.W (coinB D.word) (D.used,D.rows)).1 % 64=(settle E.W (coinB E.word) (E.used,E.rows)).1 % 64
  rw [←h1,←h2,←h5]
  exact e2
 ·show (settle D.W (coinB D.word) (D.used,D.rows)).2=(settle E.W (coinB E.word) (E.used,E.rows)).2
  rw [←h1,←h2,←h5]
  exact e1
theorem TwD.put1_norm {D E:TwD} (h:D.norm=E.norm) (x:Int):(D.put1 x).norm=(E.put1 x).norm:=by
 obtain ⟨h1,h2,h3,h4,h5,h6,h7⟩:=TwD.norm_iff.1 h
 refine TwD.settled_norm (TwD.norm_iff.2 ⟨h1,h2,h3,?_,?_,h6,h7⟩)
 ·show D.total+1=E.total+1
  rw [h4]
 ·show D.rows.set 0 _=E.rows.set 0 _
  rw [h5]
theorem TwD.putN_norm {D E:TwD} (h:D.norm=E.norm) (x:Int) (k:Nat):(D.putN x k).norm=(E.putN x k).norm:=by
 induction k with
 | zero=>exact h
 | succ k ih=>exact TwD.put1_norm ih x
theorem TwD.ends_norm {D E:TwD} (h:D.norm=E.norm) (lo hi:Int):(D.ends lo hi).norm=(E.ends lo hi).norm:=by
 obtain ⟨h1,h2,h3,h4,h5,h6,h7⟩:=TwD.norm_iff.1 h
 unfold TwD.ends
 by_cases h0:D.total=0
 ·rw [if_pos h0,if_pos (by rw [←h4];exact h0)]
  exact TwD.norm_iff.2 ⟨h1,h2,h3,h4,h5,rfl,rfl⟩
 ·rw [if_neg h0,if_neg (by rw [←h4];exact h0)]
  refine TwD.norm_iff.2 ⟨h1,h2,h3,h4,h5,?_,?_⟩
  ·show min D.least lo=min E.least lo
   rw [h6]
  ·show max D.most hi=max E.most hi
   rw [h7]
theorem putReq_norm (D:TwD):putReq D.norm=putReq D:=by
 unfold putReq TwD.norm TwD.lo TwD.hi
 simp only [Nat.mod_mod]
structure TwD.keeps (D:TwD) (W:Int) (word:Nat):Prop where
 wd:(D.W:Int)=W
 wo:D.word=word
 w1:4≤D.W
 w2:D.W≤64
 wb:D.word<18446744073709551616
 fine:D.fine D.W D.word D.total
 used:D.used+D.rows.flatten.length≤D.total+63
 room:D.total≤D.W*1024
 inr:D.allQ InR
 none:D.total=0→D.least=0∧D.most=0
theorem TwD.keeps.rows16 {D:TwD} {W:Int} {word:Nat} (h:D.keeps W word):D.rows.length≤16:=by
 have h1:=h.fine.few
 have h2:=h.room
 have h3:=h.w2
 by_cases hl:D.rows.length≤16
 ·exact hl
 ·have h4:2^17≤2^D.rows.length:=Nat.pow_le_pow_right (by omega) (by omega)
  have h5:(2:Nat)^17=131072:=by decide
  omega
theorem rows_len_flat {l:List (List Int)} (h:∀ r∈l.tail,1≤r.length):l.length≤l.flatten.length+1:=by
 cases l with
 | nil=>simp
 | cons a t =>
   have:∀ t:List (List Int),(∀ r∈t,1≤r.length)→t.length≤t.flatten.length:=fun t=>by
    induction t with
    | nil=>simp
    | cons b t ih =>
      intro hb
      have h1:=ih (fun r hr=>hb r (by simp [hr]))
      have h2:=hb b (by simp)
      simp only [List.length_cons,List.flatten_cons,List.length_append]
      omega
   have h1:=this t h
   simp only [List.length_cons,List.flatten_cons,List.length_append]
   omega
theorem TwD.keeps.new {W word:Nat} (h1:4≤W) (h2:W≤64) (h3:word<18446744073709551616):(TwD.new W word).keeps (W:Int) word:=
 ⟨rfl,rfl,h1,h2,h3,(TwD.new_ok h1).fine,by simp [TwD.new],Nat.zero_le _,TwD.allQ.new (by constructor<;>omega),fun _=>⟨rfl,rfl⟩⟩
theorem TwD.putN_keeps {D:TwD} {W:Int} {word:Nat} (h:D.keeps W word) {x:Int} (hx:InR x) (n:Nat) :
 ∀ k,k≤n→((D.ends x x).putN x k).fine D.W D.word (D.total+k)∧((D.ends x x).putN x k).used+((D.ends x x).putN x k).rows.flatten.length≤D.total+63+k:=fun k=>by
 induction k with
 | zero =>
   intro _
   have h1:=TwD.ends_fine h.fine x x
   obtain ⟨-,-,-,e4,e5⟩:=D.ends_same x x
   refine ⟨h1,?_⟩
   show (D.ends x x).used+(D.ends x x).rows.flatten.length≤_
   rw [e4,e5]
   exact h.used
 | succ k ih =>
   intro hk
   obtain ⟨h1,h2⟩:=ih (by omega)
   have hxx:x≤9223372036854775807:=by have:=hx.2;omega
   have h3:=TwD.put1_fine h.w1 h1 hxx
   have h4:=TwD.put1_used (by rw [h1.W_eq];exact h.w1) h1.ne x
   refine ⟨h3,?_⟩
   show (((D.ends x x).putN x k).put1 x).used+_≤_
   have e:(D.ends x x).putN x (k+1)=((D.ends x x).putN x k).put1 x:=rfl
   rw [e]
   omega
theorem TwD.put_keeps {D:TwD} {W:Int} {word:Nat} (h:D.keeps W word) {x:Int} (hx:InR x) {n:Nat} (hn:1≤n) (hroom:D.total+n≤D.W*1024):((D.ends x x).putN x n).keeps W word:=by
 obtain ⟨h1,h2⟩:=TwD.putN_keeps h hx n n (Nat.le_refl _)
 have hW:=h1.W_eq
 have hw:=h1.word_eq
 have ht:=h1.tot
 refine ⟨by rw [hW];exact h.wd,by rw [hw];exact h.wo,by rw [hW];exact h.w1,by rw [hW];exact h.w2,by rw [hw];exact h.wb,by rw [hW,hw,ht];exact h1,by rw [ht];omega,by rw [ht,hW];exact hroom,(h.inr.ends hx hx).putN (by rw [(D.ends_same x x).1];exact h.w1) hx n,fun e=>by rw [ht] at e;omega⟩
end Go.Proofs.YthoolcpcmhhkpaaGreatDoor
namespace Go.Proofs.YthoolcpcmhhkpaaGreatDoor
open Go.RowKit
end Go.Proofs.YthoolcpcmhhkpaaGreatDoor
namespace Go.Proofs.YthoolcpcmhhkpaaGreatDoor
open Go.RowKit
def RqP (c:Cf) (W word:Nat) (w:World) (s:Nat) (F:List Nat) (B:Nat) (m:List Vl):Prop:=
 ∃ p tp rv vs D,Sk w s c 225 p∧Tow w p tp rv vs D∧D.rq W word B m∧sumS m≤W*1024∧F=s::fp p tp rv vs∧s∉fp p tp rv vs∧D.allQ InR
namespace RqP
variable {c:Cf} {W word s B:Nat} {w w1:World} {F:List Nat} {m:List Vl}
theorem lt (h:RqP c W word w s F B m):∀ b∈F,b<w.heap.size:=by
 obtain ⟨p,tp,rv,vs,D,h1,h2,h3,h4,rfl,h5⟩:=h
 intro b hb
 rcases List.mem_cons.1 hb with rfl|hb
 ·exact Blk.lt h1
 ·exact h2.lt b hb
theorem chg {G:List Nat} (h:RqP c W word w s F B m) (k:Chg G w w1) (hF:∀ b∈F,b∉G):RqP c W word w1 s F B m:=by
 obtain ⟨p,tp,rv,vs,D,h1,h2,h3,h4,rfl,h5⟩:=h
 exact ⟨p,tp,rv,vs,D,h1.chg k (hF s (by simp)),h2.chg k (fun b hb=>hF b (by simp [hb])),h3,h4,rfl,h5⟩
theorem mono {B':Nat} (h:RqP c W word w s F B m) (hB:B≤B'):RqP c W word w s F B' m:=by
 obtain ⟨p,tp,rv,vs,D,h1,h2,h3,h4,rfl,h5⟩:=h
 exact ⟨p,tp,rv,vs,D,h1,h2,h3.mono hB,h4,rfl,h5⟩
end RqP
set_option maxRecDepth 100000 in
set_option maxHeartbeats 4000000 in
theorem req_put_fullK (w:World) (p tp:Nat) (rv:Value) (vs:List Value) (D:TwD) (ht:Tow w p tp rv vs D) (hW2:D.W≤64) (x:Int) (n:Nat) (h1:1≤n) (h2:n≤1024) (hle:D.total≤D.W*1024) (hroom:D.W*1024<D.total+n) :
 Calls Tryz.prog 118 #[.pointer (some ⟨p,0,none⟩),.int .i64 x,.int .u64 (n:Nat)] w fun e w'=>e=.returned (.int .i64 6)∧Chg [] w w':=by
 have HMO:=Lib.hid (fun W hc=>req_most W p tp rv vs D (ht.chg (F:=[]) hc (by simp)) hW2)
 obtain ⟨c0,c1,c2,c3,c4,c5,c6⟩:=ht.cells
 have d1:((n:Int)==0)=false:=by rw [beq_eq_false_iff_ne];omega
 have d2:decide ((1024:Int)<(n:Int))=false:=decide_eq_false (by omega)
 go_enter Tryz.func118,Tryz.ntmps118
 go_wp2_with fail
 have e4:IntKind.u64.wrap (((D.W*1024:Nat):Int)-(D.total:Int))=((D.W*1024-D.total:Nat):Int):=by rw [IntKind.wrap_u64];omega
 have e5:decide (D.W*1024-D.total<n)=true:=decide_eq_true (by omega)
 have e3:decide (IntKind.u64.wrap (((D.W*1024:Nat):Int)-(D.total:Int))<(n:Int))=true:=decide_eq_true (by rw [e4];omega)
 generalize D.W*1024=Wm at *
 generalize D.total=T at *
 go_quiet (first|(go_at_call 182;exact (HMO.out _ (by with_reducible (repeat (first|exact Chg.refl _ _|apply Chg.drew|apply Chg.drewN)))).mono fun e w' ⟨he,hw⟩=>⟨he,_,hw.symm⟩))
 go_wp2
 go_ret
 exact ⟨rfl,(Chg.refl [] w).drewN nq⟩
end Go.Proofs.YthoolcpcmhhkpaaGreatDoor
