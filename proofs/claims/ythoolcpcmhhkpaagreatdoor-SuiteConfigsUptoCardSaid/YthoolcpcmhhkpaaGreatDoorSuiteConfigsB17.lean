/-
  Parts of a proof, pressed. Conditions: the form's own reach.
-/
import Derived.Test.YthoolcpcmhhkpaaGreatDoorSuiteConfigsB7
import Derived.Test.YthoolcpcmhhkpaaGreatDoorSuiteConfigsB2
import Derived.Deep.RegionLaw
import Derived.Lib.Overlaps
import Derived.Lib.AppendZerosOnto
import Derived.Test.YthoolcpcmhhkpaaGreatDoorSuiteConfigsB3
import Derived.Test.YthoolcpcmhhkpaaGreatDoorSuiteConfigsB16
import Derived.Test.YthoolcpcmhhkpaaGreatDoorSuiteConfigsB15
import Derived.Lib.Slices
namespace Go.Proofs.YthoolcpcmhhkpaaGreatDoor
open Go.RowKit
theorem size_pair:(Tryz.prog.info? 183).map (·.size)=some 2:=by kernel_rfl
theorem sizeOf_pair (w:World):(Go.sizeOf 183).run Tryz.prog w=.ok 2 w:=by
 obtain ⟨i0,hi0,_,hzs,_⟩:=info_parts info_pair
 simp [sizeOf,typeInfo,hi0,hzs]
theorem copy_blk (w:World) (g o dLen dCap:Nat) (ROW:Array Value) (hb:Blk w g ROW 183) (ad:Addr) (sLen sCap m:Nat) (cs:List Value) (hm:m=Nat.min sLen dLen) (hn:cs.length=m*2)
 (hsrc:∀ j v,cs[j]? = some v→w.cell? (ad.add j)=some v) (hfit:o+cs.length≤ROW.size) (h1:∀ v∈cs,v.oneCell'=true) :
 ∃ w',(∀ ty,(Builtin.copy_ #[92,92] ty #[.slice (some ⟨g,o,none⟩) dLen dCap,.slice (some ad) sLen sCap]).run Tryz.prog w=.ok (goInt m) w') ∧
   Blk w' g (ROW.toList.take o++cs++ROW.toList.drop (o+cs.length)).toArray 183∧Chg [g] w w':=by
 subst hm
 refine ⟨_,fun ty=>run_copy_rowK w 92 92 ty 183 2 g o dLen dCap ad sLen sCap ROW 183 cs under_pairs size_pair hb hn hsrc hfit h1,?_,?_⟩
 ·exact setRow_heap w g ROW _ _ _ hb
 ·exact (Chg.refl [g] w).setRow (.inl (by simp)) _
theorem app_zeros (w:World) (g o cap n k at_:Nat) (l:List Pr) (hn:n=l.length) (hat:at_≤n) (hr:∀ j,j<n*2→w.cell? ⟨g,o+j,none⟩=(prCells l)[j]?) (hk:at_+k=n+1) (hnc:n≤cap) (hc:cap<n+1) (hl:n≤100000) :
 ∃ (G:Nat) (ROW:Array Value) (w':World),(∀ ty x,x=(k:Int)→(Builtin.append_ #[92,3] ty #[.slice (some ⟨g,o,none⟩) at_ cap,.int .i64 x]).run Tryz.prog w=.ok (.slice (some ⟨w.heap.size,0,none⟩) (n+1) G) w') ∧
   Blk w' w.heap.size ROW 183∧ROW.toList.take (at_*2)=prCells (l.take at_)∧ROW.size=G*2∧n+1≤G∧G≤maxLen∧Chg [] w w':=by
 obtain ⟨i0,hi0,hz0,hzs,hzb⟩:=info_parts info_pair
 have htl:prCells (l.take at_)=(prCells l).take (at_*2):=by
  have e:prCells l=prCells (l.take at_)++prCells (l.drop at_):=by rw [←prCells_append,List.take_append_drop]
  have hlen:(prCells (l.take at_)).length=at_*2:=by rw [prCells_len,List.length_take,←hn,Nat.min_eq_left hat]
  rw [e,←hlen,List.take_left]
 have hold:(Builtin.firstCells i0.size at_ (.slice (some ⟨g,o,none⟩) at_ cap)).run Tryz.prog w.drew=.ok (prCells (l.take at_)).toArray w.drew:=by
  rw [hzs]
  exact run_firstCells_some w.drew 2 at_ ⟨g,o,none⟩ at_ cap _ (by rw [prCells_len,List.length_take,←hn,Nat.min_eq_left hat]) (fun j v hj=>by
   rw [htl,List.getElem?_take] at hj
   split at hj
   ·next hjl =>
    have h2:at_*2≤n*2:=Nat.mul_le_mul_right 2 hat
    have:=hr j (by omega)
    rw [Addr.add_lit]
    exact this.trans hj
   ·simp at hj)
 have hu3:Tryz.prog.underlying 3=some (.int .i64):=by kernel_rfl
 have hrz:=fun ty=>Lib.run_append_grow_zeros w 92 3 ty 183 i0 _ .i64 .i64 under_pairs hu3 hi0 hz0 (some ⟨g,o,none⟩) at_ cap _ hold k (by omega) (by omega) (by omega) (by omega) (by rw [hzb];omega) (by rw [hzb,hk];exact growslice_fits hc (by omega))
 rw [hk] at hrz
 have hG1:=grownCap_ge w (n+1) cap 183
 have hG2:=grownCap_le_maxLen w (n+1) cap 183 (by unfold maxLen;omega)
 refine ⟨grownCap w (n+1) cap 183,_,_,fun ty x hx=>by subst hx;exact hrz ty,Blk.alloc_new w.drew _ _,?_,?_,hG1,hG2,(Chg.drew (Chg.refl [] w)).alloc _⟩
 ·have hlen:(prCells (l.take at_)).length=at_*2:=by rw [prCells_len,List.length_take,←hn,Nat.min_eq_left hat]
  simp only [Array.toList_append,List.append_assoc]
  rw [←hlen]
  exact List.take_left
 ·have hlen:(prCells (l.take at_)).length=at_*2:=by rw [prCells_len,List.length_take,←hn,Nat.min_eq_left hat]
  have hz:(Value.agg #[.int .i64 0,.int .u64 0]).cells.size=2:=rfl
  simp only [Array.size_append,List.size_toArray,size_zeroCells,hz,hlen]
  omega
theorem shift_rowsP {α:Type} (C A B P:List α) (o a b cap:Nat) (hA:A.length=a) (hB:B.length=b) (hP:P.length=2) (hX:(C.drop o).take (a+b)=A++B) (hC:o+cap≤C.length) (hcap:a+b+2≤cap) :
 let R2:=C.take (o+(a+2))++B++C.drop (o+(a+2)+b)
 let R3:=R2.take (o+a)++P++R2.drop (o+a+2)
 R2.length=C.length∧R3.length=C.length∧(R3.drop o).take (a+b+2)=A++P++B:=by
 intro R2 R3
 have h1:C=C.take o++(A++(B++(C.drop o).drop (a+b))):=by
  rw [←List.append_assoc A,←hX,List.take_append_drop,List.take_append_drop]
 have hl0:(C.take o).length=o:=by rw [List.length_take];omega
 have hlR:2≤(B++(C.drop o).drop (a+b)).length:=by simp only [List.length_append,List.length_drop];omega
 generalize C.take o=C0 at *
 generalize B++(C.drop o).drop (a+b)=S at *
 have e1:C.take (o+(a+2))=C0++(A++S.take 2):=by
  rw [h1,show o+(a+2)=C0.length+(a+2) from by omega,List.take_length_add_append,show a+2=A.length+2 from by omega,List.take_length_add_append]
 have e2:R2=C0++(A++(S.take 2++(B++C.drop (o+(a+2)+b)))):=by
  show C.take (o+(a+2))++B++C.drop (o+(a+2)+b)=_
  rw [e1]
  simp only [List.append_assoc]
 have e3:R2.take (o+a)=C0++A:=by
  rw [e2,←List.append_assoc]
  exact take_len (by rw [List.length_append];omega)
 have e4:R2.drop (o+a+2)=B++C.drop (o+(a+2)+b):=by
  rw [e2,←List.append_assoc,←List.append_assoc]
  exact drop_len (by rw [List.length_append,List.length_append,List.length_take];omega)
 have e5:R3=C0++(A++(P++(B++C.drop (o+(a+2)+b)))):=by
  show R2.take (o+a)++P++R2.drop (o+a+2)=_
  rw [e3,e4]
  simp only [List.append_assoc]
 refine ⟨?_,?_,?_⟩
 ·rw [e2]
  simp only [List.length_append,List.length_take,List.length_drop]
  omega
 ·rw [e5]
  simp only [List.length_append,List.length_drop]
  omega
 ·rw [e5,drop_len hl0.symm,←List.append_assoc,←List.append_assoc]
  exact take_len (by simp only [List.length_append];omega)
theorem grow_rowsP {α:Type} (C A B P:List α) (a b:Nat) (hA:A.length=a) (hB:B.length=b) (hP:P.length=2) (hX:C.take a=A) (hC:a+b+2≤C.length) :
 let R2:=C.take a++P++C.drop (a+2)
 let R3:=R2.take (a+2)++B++R2.drop (a+2+b)
 R2.length=C.length∧R3.length=C.length∧R3.take (a+b+2)=A++P++B:=by
 intro R2 R3
 have e2:R2.length=C.length:=by
  show (C.take a++P++C.drop (a+2)).length=_
  simp only [List.length_append,List.length_take,List.length_drop]
  omega
 have e3:R2.take (a+2)=A++P:=by
  show (C.take a++P++C.drop (a+2)).take (a+2)=_
  rw [hX]
  exact take_len (by rw [List.length_append];omega)
 have e5:R3=A++P++B++R2.drop (a+2+b):=by
  show R2.take (a+2)++B++R2.drop (a+2+b)=_
  rw [e3]
 refine ⟨e2,?_,?_⟩
 ·rw [e5]
  simp only [List.length_append,List.length_drop]
  omega
 ·rw [e5]
  exact take_len (by simp only [List.length_append];omega)
set_option maxRecDepth 100000 in
set_option maxHeartbeats 1000000 in
theorem insert_pair (w:World) (ao:Option Addr) (cap:Nat) (l:List Pr) (at_:Nat) (hat:at_≤l.length) (p:Pr) (vb:Nat) (hl:l.length≤100000)
 (ho:Own w 183 2 (.slice ao l.length cap) l.length (prCells l)) (hv:Blk w vb #[.int .i64 p.i,.int .u64 p.c] 183) (hvb:vb∉abl ao) :
 Calls Tryz.prog 210 #[.slice ao l.length cap,.int .i64 at_,.slice (some ⟨vb,0,none⟩) 1 1] w fun e w'=>∃ a3 c3,e=.returned (.slice a3 (l.length+1) c3) ∧
  Own w' 183 2 (.slice a3 (l.length+1) c3) (l.length+1) (prCells (l.take at_++[p]++l.drop at_))∧Chg (abl ao) w w'∧∀ b∈abl a3,b∈abl ao∨w.heap.size≤b:=by
 have hvr:Rd w 2 (.slice (some ⟨vb,0,none⟩) 1 1) 1 (prCells [p]):=⟨rfl,_,_,rfl,.inr ⟨_,_,rfl,fun j hj=>by
  rw [Nat.zero_add,hv.cell j]
  simp [prCells,Pr.cells]⟩⟩
 go_enter Tryz.func210,Tryz.ntmps210
 have hb1:((at_:Nat):Int)≤(l.length:Int):=by omega
 have hb0:(0:Int)≤((at_:Nat):Int):=by omega
 obtain ⟨hlen,⟨hv0,h0⟩|⟨g,o,cp,cur,hv1,hg,hnc,hm,hsz,hxs⟩⟩:=id ho
 ·obtain rfl:l=[]:=List.eq_nil_of_length_eq_zero h0
  obtain rfl:at_=0:=by simpa using hat
  simp only [Value.slice.injEq] at hv0
  obtain ⟨rfl,_,rfl⟩:=hv0
  have ho':Own w 183 2 (.slice none 0 0) 0 (prCells []):=ho
  clear ho hlen
  go_wp2_with (at_builtin;go_must (refine wpList_append_src _ rfl (.tmp 23) (.tmp 24) 92 92 rfl 183 _ 2 16 under_pairs info_pair rfl (by decide) (.slice none 0 0) 0 (prCells []) rfl ho' (.slice (some ⟨vb,0,none⟩) 1 1) 1 (prCells [p]) rfl (Src.of_rd under_pairs hvr) (prCells_oneCell _) (by decide) (by decide) ?_;intro a3 c3 w7 ho7 hg7 hf7))
  go_ret
  exact ⟨a3,c3,rfl,by simpa [prCells] using ho7,by simpa using hg7,by simpa using hf7⟩
 ·simp only [Value.slice.injEq,true_and] at hv1
  obtain ⟨rfl,rfl⟩:=hv1
  by_cases hend:at_=l.length
  ·subst hend
   have hsame:prCells (l.take l.length++[p]++l.drop l.length)=prCells l++prCells [p]:=by rw [List.take_length,List.drop_length,List.append_nil,prCells_append]
   rw [hsame]
   clear hsame
   have HH:=Lib.hid (And.intro hg (And.intro hxs hsz))
   clear hg hxs hsz hlen
   by_cases hcl:cap=l.length
   ·have hcl2:=hcl
    go_wp2_with (at_builtin;go_must (refine wpList_append_src _ rfl (.tmp 23) (.tmp 24) 92 92 rfl 183 _ 2 16 under_pairs info_pair rfl (by decide) (.slice (some ⟨g,o,none⟩) l.length cap) l.length (prCells l) rfl ho (.slice (some ⟨vb,0,none⟩) 1 1) 1 (prCells [p]) rfl (Src.of_rd under_pairs hvr) (prCells_oneCell _) (by unfold maxLen;omega) (by omega) ?_;intro a3 c3 w7 ho7 hg7 hf7))
    go_ret
    exact ⟨a3,c3,rfl,ho7,by simpa using hg7,by simpa using hf7⟩
   ·go_wp2_with (at_builtin;go_must (refine wpList_append_src _ rfl (.tmp 23) (.tmp 24) 92 92 rfl 183 _ 2 16 under_pairs info_pair rfl (by decide) (.slice (some ⟨g,o,none⟩) l.length cap) l.length (prCells l) rfl ho (.slice (some ⟨vb,0,none⟩) 1 1) 1 (prCells [p]) rfl (Src.of_rd under_pairs hvr) (prCells_oneCell _) (by unfold maxLen;omega) (by omega) ?_;intro a3 c3 w7 ho7 hg7 hf7))
    go_ret
    exact ⟨a3,c3,rfl,ho7,by simpa using hg7,by simpa using hf7⟩
  ·have hlt:at_<l.length:=by omega
   have hvs:w.shape? vb=some (183,2):=by
    have h:=hv
    simp only [Blk] at h
    simp [World.shape?,h]
   have hgs:w.shape? g=some (183,cur.size):=by simp [World.shape?,hg]
   have hvg:vb≠g:=fun h=>hvb (by simp [h])
   have hov:∀ off lb cb,(callFunc 234 #[.slice (some ⟨vb,0,none⟩) 1 1,.slice (some ⟨g,off,none⟩) lb cb]).run Tryz.prog w=.ok (.value (.bool false)) w:=fun off lb cb=>by
    rw [run_callFunc_extern Tryz.func234 (by kernel_rfl) (by kernel_rfl) (by kernel_rfl) (e:=Extern.SlicesOverlaps.overlaps #[92,92] #[4]) (by kernel_rfl),
     Lib.run_overlaps_apart w 92 4 183 under_pairs 2 sizeOf_pair ⟨vb,0,none⟩ ⟨g,off,none⟩ 1 1 lb cb hvg 183 183 2 cur.size hvs hgs (by omega) (hv.free 0) (hv.free 2)]
    rfl
   have hne:(at_:Int)≠(l.length:Int):=by omega
   have hsplit:prCells l=prCells (l.take at_)++prCells (l.drop at_):=by rw [←prCells_append,List.take_append_drop]
   have hA:(prCells (l.take at_)).length=at_*2:=by rw [prCells_len,List.length_take,Nat.min_eq_left hat]
   have hB:(prCells (l.drop at_)).length=(l.length-at_)*2:=by rw [prCells_len,List.length_drop]
   have hw1:IntKind.i64.wrap ((at_:Int)+1)=(at_:Int)+1:=by rw [IntKind.wrap_i64];omega
   have htn:((at_:Int)+1).toNat=at_+1:=by omega
   have hp1:(0:Int)≤(at_:Int)+1:=by omega
   have hp2:(at_:Int)≤(l.length:Int)+1:=by omega
   have hbk:Blk w g cur 183:=hg
   have hcell0:∀ j,j<l.length*2→w.cell? ⟨g,o+j,none⟩=(prCells l)[j]?:=fun j hj=>by
    rw [hbk.cell (o+j),←hxs,List.getElem?_take,if_pos hj,List.getElem?_drop,Array.getElem?_toList]
   by_cases hroom:cap<l.length+1
   ·have hd:decide ((cap:Int)<(l.length:Int)+1)=true:=decide_eq_true (by omega)
    obtain ⟨G,ROW,w1,hrz,hb1',hR1,hR2,hG1,hG2,hch1⟩:=app_zeros w g o cap l.length (l.length+1-at_) at_ l rfl hat hcell0 (by omega) hnc hroom hl
    have hsub:(l.length:Int)+1-(at_:Int)=((l.length+1-at_:Nat):Int):=by omega
    have hc1:¬(cap=at_):=by omega
    have hc2:¬(G=at_):=by omega
    have hc3:¬(G=at_+1):=by omega
    clear hov hvs hgs
    have hgl:=hbk.lt
    have hvl:=hv.lt
    have hv1:=Blk.chg hv hch1 (by simp)
    have hpv:∀ j v,(prCells [p])[j]? = some v→w1.cell? ((⟨vb,0,none⟩:Addr).add j)=some v:=fun j v hj=>by
     rw [Addr.add_lit,Nat.zero_add,hv1.cell j,←hj]
     simp [prCells,Pr.cells]
    have hRl:ROW.toList.length=G*2:=by simpa using hR2
    have hR:=grow_rowsP ROW.toList (prCells (l.take at_)) (prCells (l.drop at_)) (prCells [p]) (at_*2) ((l.length-at_)*2) hA hB rfl hR1 (by omega)
    obtain ⟨w2,hcp1,hb2,hch2⟩:=copy_blk w1 w.heap.size (at_*2) (l.length+1-at_) (G-at_) ROW hb1' ⟨vb,0,none⟩ 1 1 1 (prCells [p]) (by show _=min _ _;omega) rfl hpv (by show _+2≤_;omega) (prCells_oneCell _)
    obtain ⟨hRa,hRb,hRc⟩:=hR
    rw [show (prCells [p]).length=2 from rfl] at hb2
    generalize (ROW.toList.take (at_*2)++prCells [p]++ROW.toList.drop (at_*2+2))=R2 at *
    have hch02:Chg [] w w2:=hch1.trans' hch2 (by simp)
    have hbk2:=Blk.chg hbk hch02 (by simp)
    have hcell:∀ j v,(prCells (l.drop at_))[j]? = some v→w2.drew.cell? ((⟨g,o+at_*2,none⟩:Addr).add j)=some v:=fun j v hj=>by
     have hjl:j<(prCells (l.drop at_)).length:=(List.getElem?_eq_some_iff.1 hj).1
     have h1:(prCells l)[at_*2+j]? = some v:=by
      rw [hsplit,List.getElem?_append_right (by omega),hA,Nat.add_sub_cancel_left]
      exact hj
     rw [←hxs,List.getElem?_take,if_pos (by omega),List.getElem?_drop] at h1
     rw [Addr.add_lit]
     have h3:=hbk2.cell (o+at_*2+j)
     rw [←Array.getElem?_toList,Nat.add_assoc] at h3
     show w2.cell? _=_
     rw [Nat.add_assoc,h3]
     exact h1
    obtain ⟨w3,hcp2,hb3,hch3⟩:=copy_blk w2.drew w.heap.size ((at_+1)*2) (l.length-at_) (G-(at_+1)) R2.toArray hb2 ⟨g,o+at_*2,none⟩ (l.length-at_) (cap-at_) (l.length-at_) (prCells (l.drop at_)) (by show _=min _ _;omega) hB hcell (by have h9:R2.toArray.size=R2.length:=List.size_toArray;omega) (prCells_oneCell _)
    have hch:Chg [] w w3:=hch02.drew.trans' hch3 (by simp)
    rw [show (at_+1)*2=at_*2+2 from by omega,hB] at hb3
    have hfin:Own w3 183 2 (.slice (some ⟨w.heap.size,0,none⟩) (l.length+1) G) (l.length+1) (prCells (l.take at_++[p]++l.drop at_)):=by
     refine ⟨by rw [prCells_len];simp;omega,.inr ⟨w.heap.size,0,G,_,rfl,hb3,by omega,hG2,?_,?_⟩⟩
     ·simp only [List.size_toArray]
      rw [hRb,hRl]
      omega
     ·simp only [List.drop_zero]
      rw [prCells_append,prCells_append,←hRc]
      congr 1
      omega
    have HF:=Lib.hid (And.intro hfin hch)
    have HZ:=Lib.hid hrz
    clear hfin hch hb3 hRa hRb hRc hb2 hsplit hA hB hcell hpv hxs hg hcell0 hR1 hR2 hb1' hbk2 hbk hrz
    go_wp2_with (first
     | (at_builtin;go_must (refine wpList_append_runK rfl _ _ 92 3 rfl _ _ rfl rfl (HZ.out _ _ rfl) ?_))
     | (at_builtin;go_must (refine wpList_copy_rowK rfl _ _ 92 92 rfl _ _ rfl rfl (hcp1 _) ?_)))
    go_region_law (refine step_copy_rowK rfl _ _ 92 92 rfl _ _ (by simp [Act.eval,Act.put]) (by simp [Act.eval,Act.put]) (hcp2 _) ?_)
    go_wp2
    go_ret
    exact ⟨_,_,rfl,HF.out.1,by simpa using HF.out.2.nil,fun b hb=>.inr (by simp at hb;omega)⟩
   ·have hd:decide ((cap:Int)<(l.length:Int)+1)=false:=decide_eq_false (by omega)
    have hc1:¬(cap=at_):=by omega
    have hc2:¬(cap=at_+1):=by omega
    go_wp2_with (simp only [hov])
    have hcell:∀ j v,(prCells (l.drop at_))[j]? = some v→w.drew.cell? ((⟨g,o+at_*2,none⟩:Addr).add j)=some v:=fun j v hj=>by
     have hjl:j<(prCells (l.drop at_)).length:=(List.getElem?_eq_some_iff.1 hj).1
     have h1:(prCells l)[at_*2+j]? = some v:=by
      rw [hsplit,List.getElem?_append_right (by omega),hA,Nat.add_sub_cancel_left]
      exact hj
     rw [←hxs,List.getElem?_take,if_pos (by omega),List.getElem?_drop] at h1
     rw [Addr.add_lit]
     have h2:Blk w g cur 183:=hg
     have h3:=h2.cell (o+at_*2+j)
     rw [←Array.getElem?_toList,Nat.add_assoc] at h3
     show w.cell? _=_
     rw [Nat.add_assoc,h3]
     exact h1
    obtain ⟨w2,hcp1,hb2,hch2⟩:=copy_blk w.drew g (o+(at_+1)*2) (l.length-at_) (cap-(at_+1)) cur hg ⟨g,o+at_*2,none⟩ (l.length+1-at_) (cap-at_) (l.length-at_) (prCells (l.drop at_)) (by show _=min _ _;omega) hB hcell (by omega) (prCells_oneCell _)
    go_region_law (refine step_copy_rowK rfl _ _ 92 92 rfl _ _ (by simp [Act.eval,Act.put]) (by simp [Act.eval,Act.put]) (hcp1 _) ?_)
    have hR:=shift_rowsP cur.toList (prCells (l.take at_)) (prCells (l.drop at_)) (prCells [p]) o (at_*2) ((l.length-at_)*2) (cap*2) hA hB rfl (by rw [←hsplit,←hxs];congr 1;omega) (by rw [Array.length_toList];exact hsz) (by omega)
    rw [show (at_+1)*2=at_*2+2 from by omega,hB] at hb2
    obtain ⟨hR2,hR3,hRX⟩:=hR
    generalize (cur.toList.take (o+(at_*2+2))++prCells (l.drop at_)++cur.toList.drop (o+(at_*2+2)+(l.length-at_)*2))=R2 at *
    have hv2:=Blk.chg (Blk.drew hv) hch2 (by simpa using hvg)
    have hpv:∀ j v,(prCells [p])[j]? = some v→w2.cell? ((⟨vb,0,none⟩:Addr).add j)=some v:=fun j v hj=>by
     rw [Addr.add_lit,Nat.zero_add,hv2.cell j,←hj]
     simp [prCells,Pr.cells]
    obtain ⟨w3,hcp2,hb3,hch3⟩:=copy_blk w2 g (o+at_*2) (l.length+1-at_) (cap-at_) R2.toArray hb2 ⟨vb,0,none⟩ 1 1 1 (prCells [p]) (by show _=min _ _;omega) rfl hpv (by simp only [List.size_toArray,hR2,Array.length_toList];show _+2≤_;omega) (prCells_oneCell _)
    have hch:Chg [g] w w3:=((Chg.drew (Chg.refl [g] w)).trans hch2).trans hch3
    have hfin:Own w3 183 2 (.slice (some ⟨g,o,none⟩) (l.length+1) cap) (l.length+1) (prCells (l.take at_++[p]++l.drop at_)):=by
     refine ⟨by rw [prCells_len];simp;omega,.inr ⟨g,o,cap,_,rfl,hb3,by omega,hm,?_,?_⟩⟩
     ·simp only [List.size_toArray]
      show _≤(R2.take (o+at_*2)++prCells [p]++R2.drop (o+at_*2+2)).length
      rw [hR3,Array.length_toList]
      exact hsz
     ·show (List.drop o (R2.take (o+at_*2)++prCells [p]++R2.drop (o+at_*2+2))).take _=_
      rw [prCells_append,prCells_append,←hRX]
      congr 1
      omega
    have HF:=Lib.hid (And.intro hfin hch)
    clear hfin hch hb3 hcp1 hR3 hRX hR2 hb2 hsplit hA hB hcell hpv hxs hg hgs hvs hov
    go_wp2_with (at_builtin;go_must (refine wpList_copy_rowK rfl _ _ 92 92 rfl _ _ rfl rfl (hcp2 _) ?_))
    go_ret
    exact ⟨_,_,rfl,HF.out.1,by simpa using HF.out.2,fun b hb=>.inl hb⟩
theorem Own.below {w:World} {e:TypeId} {size n cap:Nat} {ao:Option Addr} {xs:List Value} (h:Own w e size (.slice ao n cap) n xs):∀ b∈abl ao,b<w.heap.size:=by
 obtain ⟨_,⟨h1,_⟩|⟨g,o,cp,cur,h1,hg,_⟩⟩:=h
 ·simp only [Value.slice.injEq] at h1
  obtain ⟨rfl,_⟩:=h1
  simp
 ·simp only [Value.slice.injEq] at h1
  obtain ⟨rfl,_⟩:=h1
  intro b hb
  simp at hb
  subst hb
  exact lt_of_block hg
theorem prCells_set (l:List Pr) (n:Nat) (hn:n<l.length) (c:Nat):prCells (l.set n ⟨l[n].i,c⟩)=(prCells l).set (n*2+1) (.int .u64 c):=by
 induction l generalizing n with
 | nil=>simp at hn
 | cons p l ih =>
   cases n with
   | zero=>simp [prCells,Pr.cells]
   | succ n =>
     have:=ih n (by simpa using hn)
     simp only [prCells,jS,List.map_cons,List.flatten_cons,List.getElem_cons_succ] at this ⊢
     rw [this,show (n+1)*2+1=(n*2+1)+2 from by omega]
     simp [Pr.cells]
set_option maxRecDepth 100000 in
set_option maxHeartbeats 1000000 in
theorem runs_addL (w:World) (ao:Option Addr) (cap:Nat) (l:List Pr) (i:Int) (c:Nat) (hrs:rises l) (ho:Own w 183 2 (.slice ao l.length cap) l.length (prCells l)) (hl:l.length≤90000) (hm:∀ p∈l,p.c+c≤9223372036854775807) (hc:c≤9223372036854775807) :
 Calls Tryz.prog 161 #[.slice ao l.length cap,.int .i64 i,.int .u64 c] w fun e w'=>∃ a3 c3,e=.returned (.slice a3 (addV l i c).length c3) ∧
  Own w' 183 2 (.slice a3 (addV l i c).length c3) (addV l i c).length (prCells (addV l i c))∧Chg (abl ao) w w'∧∀ b∈abl a3,b∈abl ao∨w.heap.size≤b:=by
 obtain ⟨A,M,B,hp⟩:=parted hrs i
 have HP:=Lib.hid hp
 have HF:=Lib.hid (runs_find w ao cap l i hrs ho.rd (by omega))
 have HM:=Lib.hid hm
 clear hp hrs hm
 go_enter Tryz.func161,Tryz.ntmps161
 go_wp2_with fail
 refine HF.out.mono ?_
 rintro e w1 ⟨rfl,hc1⟩
 have ho1:=ho.chg hc1 (by simp)
 have hsz:=hc1.size
 by_cases h0:c=0
 ·subst h0
  have HE:=Lib.hid (show addV l i 0=l from if_pos rfl)
  go_wp2
  go_ret
  rw [HE.out]
  exact ⟨ao,cap,rfl,ho1,hc1.nil,fun b hb=>.inl hb⟩
 have h0b:((c:Int)==0)=false:=beq_eq_false_iff_ne.2 (by omega)
 have hn:cntLt l i=A.length:=HP.out.lt
 have hh:hasI l i=!M.isEmpty:=HP.out.has
 have hat:cntLt l i≤l.length:=by
  have:=congrArg List.length HP.out.eq
  simp only [List.length_append] at this
  omega
 rcases HP.out.mid with hM|⟨c0,hM⟩
 ·have hhf:hasI l i=false:=by rw [hh,hM];rfl
  have HE:=Lib.hid (show addV l i c=l.take (cntLt l i)++[⟨i,c⟩]++l.drop (cntLt l i) from by rw [addV,if_neg h0,hhf];rfl)
  rw [hhf]
  clear hh hn h0 hhf
  generalize cntLt l i=n at *
  have hbl:=ho1.below
  go_wp2_with fail
  refine (insert_pair (w1.alloc (.cells #[.int .i64 i,.int .u64 c] 183)) ao cap l n hat ⟨i,c⟩ w1.heap.size (by omega) (ho1.alloc _) (Blk.alloc_new w1 _ _) (fun hb=>by have:=hbl _ hb;omega)).mono ?_
  rintro e w2 ⟨a3,c3,rfl,ho2,hc2,hf2⟩
  have hlen:(addV l i c).length=l.length+1:=by rw [HE.out];simp;omega
  go_wp2
  go_ret
  refine ⟨a3,c3,by rw [hlen];rfl,by rw [hlen,HE.out];exact ho2,((hc1.alloc _).nil).trans hc2,fun b hb => ?_⟩
  rcases hf2 b hb with h|h
  ·exact .inl h
  ·right;simp at h;omega
 ·have hhf:hasI l i=true:=by rw [hh,hM];rfl
  have hnl:cntLt l i<l.length:=by
   have:=congrArg List.length HP.out.eq
   rw [hM] at this
   simp only [List.length_append,List.length_singleton] at this
   omega
  have hget:l[cntLt l i]=⟨i,c0⟩:=by
   have e:l=A++⟨i,c0⟩::B:=by rw [HP.out.eq,hM];simp
   simp only [hn]
   simp only [e]
   simp
  have hcm:=HM.out l[cntLt l i] (List.getElem_mem _)
  have HE:=Lib.hid (show addV l i c=l.set (cntLt l i) ⟨l[cntLt l i].i,l[cntLt l i].c+c⟩ from by
   rw [addV,if_neg h0,hhf,if_pos rfl,show l.getD (cntLt l i) default=l[cntLt l i] from by simp [List.getD,hnl],hget])
  have HS:=Lib.hid (prCells_set l (cntLt l i) hnl (l[cntLt l i].c+c))
  rw [hhf]
  clear hh hn h0 hhf hget
  generalize cntLt l i=n at *
  obtain ⟨b,o,rfl,hcs⟩:=ho1.rd.addr (by omega)
  obtain ⟨d0,d1⟩:=pr_at hcs hnl
  have hfz:=ho1.free (o+n*2+1)
  have hn0:(0:Int)≤(n:Int):=by omega
  have hnl2:(n:Int)<(l.length:Int):=by omega
  have HO:=Lib.hid (ho1.set (n*2+1) (.int .u64 ((l[n].c+c:Nat):Int)))
  rw [←HS.out,←HE.out] at HO
  have hlen:(addV l i c).length=l.length:=by rw [HE.out,List.length_set]
  have HL:=Lib.hid hlen
  have HC:=Lib.hid (Chg.setCell (hc1.nil (F:=abl (some ⟨b,o,none⟩))) (a:=⟨b,o+n*2+1,none⟩) (.inl (by simp)) (.int .u64 ((l[n].c+c:Nat):Int)))
  have hw:(l[n].c:Int)+(c:Int)=((l[n].c+c:Nat):Int):=by omega
  generalize l[n]=p at *
  generalize p.c+c=s at *
  go_wp2
  go_ret
  rw [HL.out]
  exact ⟨_,_,rfl,by have:=HO.out;simpa [HL.out,Nat.add_assoc] using this,HC.out,fun b hb=>.inl hb⟩
theorem runs_add (w:World) (ao:Option Addr) (cap:Nat) (l:List Pr) (i:Int) (c:Nat) (hrs:rises l) (ho:Own w 183 2 (.slice ao l.length cap) l.length (prCells l)) (hl:l.length≤1000) (hm:∀ p∈l,p.c+c≤9223372036854775807) (hc:c≤9223372036854775807) :
 Calls Tryz.prog 161 #[.slice ao l.length cap,.int .i64 i,.int .u64 c] w fun e w'=>∃ a3 c3,e=.returned (.slice a3 (addV l i c).length c3) ∧
  Own w' 183 2 (.slice a3 (addV l i c).length c3) (addV l i c).length (prCells (addV l i c))∧Chg (abl ao) w w'∧∀ b∈abl a3,b∈abl ao∨w.heap.size≤b:=
 runs_addL w ao cap l i c hrs ho (by omega) hm hc
end Go.Proofs.YthoolcpcmhhkpaaGreatDoor
namespace Go.Proofs.YthoolcpcmhhkpaaGreatDoor
open Go.RowKit
set_option maxRecDepth 100000 in
set_option maxHeartbeats 1000000 in
theorem clone_p (w:World) (ao:Option Addr) (cap n:Nat) (l:List Pr) (hrd:Rd w 2 (.slice ao n cap) n (prCells l)) (hl:n≤1000000) :
 Calls Tryz.prog 162 #[.slice ao n cap] w fun e w'=>∃ a3 c3,e=.returned (.slice a3 n c3)∧Own w' 183 2 (.slice a3 n c3) n (prCells l)∧Chg [] w w'∧∀ b∈abl a3,w.heap.size≤b:=by
 have hu:∀ (w:World) (a:Option Addr) (n c n' c':Nat),(binOp .eql 92 (.slice a n c) (.slice none n' c')).run Tryz.prog w=.ok (.bool a.isNone) w:=fun w a n c n' c'=>Lib.run_eql_slice_nil w _ _ a n c n' c' under_pairs
 cases ao with
 | none =>
   obtain ⟨hx,ao,cp,h0,h1⟩:=hrd
   simp only [Value.slice.injEq] at h0
   obtain ⟨rfl,-,-⟩:=h0
   obtain rfl:n=0:=by
    rcases h1 with h1|⟨_,_,h1,_⟩
    ·exact h1
    ·simp at h1
   have hxl:l=[]:=List.eq_nil_of_length_eq_zero (by rw [prCells_len] at hx;omega)
   subst hxl
   go_enter Tryz.func162,Tryz.ntmps162
   go_wp2
   go_ret
   exact ⟨none,0,rfl,Own.nil _ _ _,Chg.refl _ _,by simp⟩
 | some a =>
   go_enter Tryz.func162,Tryz.ntmps162
   go_wp2_with (at_builtin;go_must (refine wpList_append_src _ rfl (.tmp 5) (.tmp 6) 92 92 rfl 183 _ 2 16 under_pairs info_pair rfl (by decide) (.slice (some ⟨w.heap.size,0,none⟩) 0 0) 0 (prCells []) rfl (Own.lit w 183 2 0 #[] rfl (by unfold maxLen;omega)) (.slice (some a) n cap) n (prCells l) rfl (Src.of_rd under_pairs (hrd.alloc _)) (prCells_oneCell _) (by unfold maxLen;omega) (by omega) ?_;intro a5 c5 w2 ho2 hg2 hf2))
   go_ret
   rw [Nat.zero_add] at ho2
   refine ⟨a5,c5,by simp,by simpa [prCells] using ho2,((Chg.refl [] w).alloc _).trans' hg2 (by simp),fun b hb => ?_⟩
   rcases hf2 b hb with h|h
   ·simp at h;omega
   ·simp at h;omega
def sptCells (rv:Value) (T:Nat):Array Value:=#[.int .i64 4096,rv,.int .u64 (T:Nat)]
structure Spt (w:World) (s:Nat) (rv:Value) (r:List Pr):Prop where
 blk:Blk w s (sptCells rv (totP r)) 258
 row:Own w 183 2 rv r.length (prCells r)
def fpT (s:Nat) (rv:Value):List Nat:=s::blkOf rv
namespace Spt
variable {w w1:World} {s:Nat} {rv:Value} {r:List Pr}
theorem lt (h:Spt w s rv r):∀ b∈fpT s rv,b<w.heap.size:=by
 intro b hb
 simp only [fpT,List.mem_cons] at hb
 rcases hb with rfl|hb
 ·exact h.blk.lt
 ·exact h.row.lt b hb
theorem chg {F:List Nat} (h:Spt w s rv r) (k:Chg F w w1) (hF:∀ b∈fpT s rv,b∉F):Spt w1 s rv r:=
 ⟨h.blk.chg k (hF s (by simp [fpT])),h.row.chg k (fun b hb=>hF b (by simp [fpT,hb]))⟩
theorem s_rv (h:Spt w s rv r):s∉blkOf rv:=h.row.ne_blk h.blk (by decide)
theorem cells (h:Spt w s rv r):w.cell? ⟨s,0,none⟩=some (.int .i64 4096)∧w.cell? ⟨s,1,none⟩=some rv∧w.cell? ⟨s,2,none⟩=some (.int .u64 (totP r:Nat)):=⟨h.blk.cell 0,h.blk.cell 1,h.blk.cell 2⟩
theorem row' (h:Spt w s rv r) {rv2:Value} {r2:List Pr} (k:Chg (blkOf rv) w w1) (ho:Own w1 183 2 rv2 r2.length (prCells r2)) (hf:∀ b∈blkOf rv2,b∈blkOf rv∨w.heap.size≤b) (T:Nat) (hT:T=totP r2) :
 Spt ((w1.setCell ⟨s,1,none⟩ rv2).setCell ⟨s,2,none⟩ (.int .u64 (T:Nat))) s rv2 r2∧Mv (fpT s rv) w (fpT s rv2) ((w1.setCell ⟨s,1,none⟩ rv2).setCell ⟨s,2,none⟩ (.int .u64 (T:Nat))):=by
 subst hT
 have hb:=h.blk.chg k h.s_rv
 have k2:Chg [s] w1 ((w1.setCell ⟨s,1,none⟩ rv2).setCell ⟨s,2,none⟩ (.int .u64 (totP r2:Nat))):=((Chg.refl _ w1).setCell (a:=⟨s,1,none⟩) (.inl (by simp)) _).setCell (a:=⟨s,2,none⟩) (.inl (by simp)) _
 refine ⟨⟨?_,?_⟩,?_,?_⟩
 ·exact (hb.setCell 1 rv2).setCell 2 _
 ·exact ho.chg k2 (fun b hb2 e=>by simp at e;subst e;exact ho.ne_blk hb (by decide) hb2)
 ·exact ((k.mono (F1:=fpT s rv) (fun b hb=>.inl (by simp [fpT,hb]))).setCell (a:=⟨s,1,none⟩) (.inl (by simp [fpT])) _).setCell (a:=⟨s,2,none⟩) (.inl (by simp [fpT])) _
 ·intro b hb2
  simp only [fpT,List.mem_cons] at hb2 ⊢
  rcases hb2 with rfl|hb2
  ·exact .inl (.inl rfl)
  ·rcases hf b hb2 with h1|h1
   ·exact .inl (.inr h1)
   ·exact .inr h1
end Spt
theorem find_cnt {l:List Pr} {i:Int} (hr:rises l):(hasI l i=false∧cntI l i=0)∨(hasI l i=true∧∃ h:cntLt l i<l.length,l[cntLt l i].c=cntI l i):=by
 obtain ⟨A,M,B,hp⟩:=parted hr i
 rw [hp.has,hp.cnt]
 rcases hp.mid with hM|⟨c0,hM⟩
 ·exact .inl ⟨by rw [hM];rfl,by rw [hM];rfl⟩
 ·right
  refine ⟨by rw [hM];rfl,?_⟩
  have hn:=hp.lt
  have hnl:cntLt l i<l.length:=by
   have:=congrArg List.length hp.eq
   rw [hM] at this
   simp only [List.length_append,List.length_singleton] at this
   omega
  refine ⟨hnl,?_⟩
  have hget:l[cntLt l i]=⟨i,c0⟩:=by
   have e:l=A++⟨i,c0⟩::B:=by rw [hp.eq,hM];simp
   simp only [hn]
   simp only [e]
   simp
  rw [hget,hM]
  simp [cntI]
set_option maxRecDepth 100000 in
theorem strip_new (w:World):Calls Tryz.prog 92 #[.int .i64 4096] w fun e w'=>∃ s,e=.returned (.tuple #[.pointer (some ⟨s,0,none⟩),.int .i64 0])∧Spt w' s (.slice none 0 0) []∧Chg [] w w'∧w.heap.size≤s:=by
 go_enter Tryz.func92,Tryz.ntmps92
 go_wp2_with fail
 go_ret2
 exact ⟨w.heap.size,rfl,⟨Blk.alloc_new w _ _,Own.nil _ _ _⟩,(Chg.refl [] w).alloc _,Nat.le_refl _⟩
set_option maxRecDepth 100000 in
theorem strip_total (w:World) (s:Nat) (rv:Value) (r:List Pr) (h:Spt w s rv r):Calls Tryz.prog 100 #[.pointer (some ⟨s,0,none⟩)] w fun e w'=>e=.returned (.int .u64 (totP r:Nat))∧w=w':=by
 obtain ⟨c0,c1,c2⟩:=h.cells
 go_enter Tryz.func100,Tryz.ntmps100
 go_wp2
 go_ret
 exact ⟨rfl,rfl⟩
set_option maxRecDepth 100000 in
theorem strip_len (w:World) (s:Nat) (rv:Value) (r:List Pr) (h:Spt w s rv r) (n:Nat) (hn:n=r.length):Calls Tryz.prog 96 #[.pointer (some ⟨s,0,none⟩)] w fun e w'=>e=.returned (.int .i64 (n:Nat))∧w=w':=by
 obtain ⟨c0,c1,c2⟩:=h.cells
 obtain ⟨ro,rc,hrv⟩:=h.row.shape
 subst hrv
 rw [←hn] at c1
 clear hn h
 go_enter Tryz.func96,Tryz.ntmps96
 go_wp2
 go_ret
 exact ⟨rfl,rfl⟩
set_option maxRecDepth 100000 in
theorem strip_pairs (w:World) (s:Nat) (rv:Value) (r:List Pr) (h:Spt w s rv r) (n:Nat) (hn:n=r.length) (hl:n≤1000):Calls Tryz.prog 99 #[.pointer (some ⟨s,0,none⟩)] w fun e w'=>∃ a3 c3,e=.returned (.slice a3 n c3)∧Own w' 183 2 (.slice a3 n c3) n (prCells r)∧Chg [] w w'∧∀ b∈abl a3,w.heap.size≤b:=by
 obtain ⟨c0,c1,c2⟩:=h.cells
 obtain ⟨ro,rc,hrv⟩:=h.row.shape
 subst hrv
 have hrd:=h.row.rd
 rw [←hn] at c1 hrd
 have HCL:=Lib.hid (clone_p w ro rc n r hrd (by omega))
 clear hn h hrd
 go_enter Tryz.func99,Tryz.ntmps99
 go_wp2_with fail
 refine HCL.out.mono ?_
 rintro e w1 ⟨a3,c3,rfl,h1,h2,h3⟩
 go_wp2_with fail
 go_ret
 exact ⟨a3,c3,rfl,h1,h2,h3⟩
set_option maxRecDepth 100000 in
set_option maxHeartbeats 1000000 in
theorem strip_at (w:World) (s:Nat) (rv:Value) (r:List Pr) (h:Spt w s rv r) (hrs:rises r) (hl:r.length≤1000) (i:Int):Calls Tryz.prog 95 #[.pointer (some ⟨s,0,none⟩),.int .i64 i] w fun e w'=>e=.returned (.int .u64 (cntI r i:Nat))∧Chg [] w w':=by
 obtain ⟨c0,c1,c2⟩:=h.cells
 obtain ⟨ro,rc,hrv⟩:=h.row.shape
 subst hrv
 have HH:=Lib.hid h
 obtain ⟨n,hn⟩:∃ n,n=r.length:=⟨_,rfl⟩
 have HN:=Lib.hid hn
 have HF:=Lib.hid (runs_find w ro rc r i hrs h.row.rd (by omega))
 rw [←hn] at c1 HF
 have hfc:=find_cnt (i:=i) hrs
 obtain ⟨C,hC⟩:∃ C,C=cntI r i:=⟨_,rfl⟩
 rw [←hC] at hfc ⊢
 clear hrs hn hC h hl
 go_enter Tryz.func95,Tryz.ntmps95
 go_wp2_with fail
 refine HF.out.mono ?_
 rintro e w1 ⟨rfl,hc1⟩
 have HC1:=Lib.hid hc1
 rcases hfc with ⟨h1,rfl⟩|⟨h1,h2,h3⟩
 ·rw [h1]
  clear h1 HF hc1
  generalize cntLt r i=k at *
  go_wp2_with fail
  go_ret
  exact ⟨rfl,HC1.out⟩
 ·rw [h1]
  have HH1:=Lib.hid (HH.out.chg hc1 (by simp))
  obtain ⟨b,o,rfl,hcs⟩:=HH1.out.row.rd.addr (by have:=HN.out;omega)
  obtain ⟨d0,d1⟩:=pr_at hcs h2
  have e1:=HH1.out.cells.2.1
  rw [h3] at d1
  rw [←HN.out] at e1 h2
  clear h1 h3 HF hc1 hcs d0
  generalize cntLt r i=k at *
  have hkn:(k:Int)<(n:Int):=by omega
  have hk0:(0:Int)≤(k:Int):=by omega
  go_wp2_with fail
  go_ret
  exact ⟨rfl,HC1.out⟩
set_option maxRecDepth 100000 in
set_option maxHeartbeats 4000000 in
theorem strip_add (w:World) (s:Nat) (rv:Value) (r:List Pr) (h:Spt w s rv r) (hrs:rises r) (hpos:∀ p∈r,1≤p.c) (hl:r.length≤1000) (i:Int) (c:Nat) (hc1:1≤c) (hcm:totP r+c≤9223372036854775807) :
 Calls Tryz.prog 98 #[.pointer (some ⟨s,0,none⟩),.int .i64 i,.int .u64 (c:Nat)] w fun e w'=>e=.returned (.int .i64 0)∧∃ rv',Spt w' s rv' (refAdd r i c)∧Mv (fpT s rv) w (fpT s rv') w':=by
 obtain ⟨c0,c1,c2⟩:=h.cells
 obtain ⟨ro,rc,hrv⟩:=h.row.shape
 subst hrv
 obtain ⟨n,hn⟩:∃ n,n=r.length:=⟨_,rfl⟩
 obtain ⟨T,hT⟩:∃ T,T=totP r:=⟨_,rfl⟩
 obtain ⟨S,hS⟩:∃ S,S=T+c:=⟨_,rfl⟩
 have HPL:=Lib.hid (fun u b0 hb0=>wide_plus2 u T c (by omega) (by omega) b0 hb0)
 have e:plusV [T,c]=.tuple #[.int .u64 (S:Nat),.bool true]:=by
  have e0:[T,c].sum=S:=by simp [hS]
  unfold plusV
  rw [e0,if_pos (by omega)]
 rw [e] at HPL
 have HFI:=Lib.hid (fun u (hu:Chg [] w u)=>runs_find u ro rc r i hrs (h.row.chg hu (by simp)).rd (by omega))
 have HAD:=Lib.hid (fun u (hu:Chg [] w u)=>runs_add u ro rc r i c hrs (h.row.chg hu (by simp)) hl (fun p hp=>by have:=mem_tot hp;omega) (by omega))
 rw [←add_same hrs hpos] at HAD
 have HH:=Lib.hid h
 have HCE:=Lib.hid (fun u (hu:Chg [] w u)=>show u.cell? ⟨s,0,none⟩=some (.int .i64 4096)∧u.cell? ⟨s,1,none⟩=some (.slice ro n rc)∧u.cell? ⟨s,2,none⟩=some (.int .u64 (T:Nat)) from by
  obtain ⟨q0,q1,q2⟩:=(h.chg hu (by simp)).cells
  rw [←hn] at q1
  rw [←hT] at q2
  exact ⟨q0,q1,q2⟩)
 have HTR:=Lib.hid (show S=totP (refAdd r i c) from by rw [refAdd_tot hrs,hS,hT])
 have HN:=Lib.hid hn
 rw [←hn] at HAD HFI c1
 rw [←hT] at c2
 have hn1:n≤1000:=by omega
 have d0:((c:Int)==0)=false:=by rw [beq_eq_false_iff_ne];omega
 have d1:decide ((4096:Int)≤(n:Int))=false:=decide_eq_false (by omega)
 have d1':decide (4096≤n)=false:=decide_eq_false (by omega)
 generalize cntLt r i=k at *
 generalize hasI r i=B at *
 obtain ⟨R,hR⟩:∃ R,R=refAdd r i c:=⟨_,rfl⟩
 rw [←hR] at HAD HTR ⊢
 clear h hrs hpos hl hcm hn hT hS e hR hc1
 go_enter Tryz.func98,Tryz.ntmps98
 go_wp2_with fail
 refine (HPL.out _ _ rfl).mono ?_
 rintro e w1 ⟨rfl,rfl⟩
 have HC1:=Lib.hid ((Chg.refl [] w).alloc (.cells #[.int .u64 (T:Nat),.int .u64 (c:Nat)] 23))
 clear HPL c0 c1 c2
 generalize w.alloc (.cells #[.int .u64 (T:Nat),.int .u64 (c:Nat)] 23)=w1 at *
 obtain ⟨c0,c1,c2⟩:=HCE.out _ HC1.out
 go_wp2_with fail
 refine (HFI.out _ HC1.out).mono ?_
 rintro e w2 ⟨rfl,hc2⟩
 have HC2:=Lib.hid (HC1.out.trans hc2)
 clear hc2 HC1 HFI c0 c1 c2
 obtain ⟨c0,c1,c2⟩:=HCE.out _ HC2.out
 cases B with
 | true =>
   go_wp2
   go_quiet (fail)
   go_wp2_with fail
   have HC3:=Lib.hid (show Chg [] w (w2.drewN nq) from by with_reducible (repeat (first|exact HC2.out|apply Chg.drew|apply Chg.drewN)))
   refine (HAD.out _ HC3.out).mono ?_
   rintro e w3 ⟨a3,c3,rfl,ho3,hc3,hf3⟩
   have hk:Chg (blkOf (.slice ro r.length rc)) w w3:=(HC3.out.nil).trans (by simpa using hc3)
   have hsz:=HC3.out.size
   have hb3:=HH.out.blk.chg hk HH.out.s_rv
   have f1:=hb3.free 1
   have f2:=hb3.free 2
   have g1:w3.cell? ⟨s,1,none⟩=some (.slice ro n rc):=by rw [HN.out];exact hb3.cell 1
   have g2:w3.cell? ⟨s,2,none⟩=some (.int .u64 (totP r:Nat)):=hb3.cell 2
   have HR:=Lib.hid (HH.out.row' (w1:=w3) (rv2:=.slice a3 R.length c3) (r2:=R) hk ho3 (fun b hb=>by
    rcases hf3 b (by simpa using hb) with h|h
    ·exact .inl (by simpa using h)
    ·exact .inr (Nat.le_trans hsz h)) S HTR.out)
   clear hk hsz hb3 ho3 hc3 hf3 HAD HTR c0 c1 c2
   go_wp2_with fail
   go_ret
   exact ⟨rfl,_,HR.out.1,HR.out.2⟩
 | false =>
   go_wp2
   go_quiet (fail)
   go_wp2_with fail
   have HC3:=Lib.hid (show Chg [] w (w2.drewN nq) from by with_reducible (repeat (first|exact HC2.out|apply Chg.drew|apply Chg.drewN)))
   refine (HAD.out _ HC3.out).mono ?_
   rintro e w3 ⟨a3,c3,rfl,ho3,hc3,hf3⟩
   have hk:Chg (blkOf (.slice ro r.length rc)) w w3:=(HC3.out.nil).trans (by simpa using hc3)
   have hsz:=HC3.out.size
   have hb3:=HH.out.blk.chg hk HH.out.s_rv
   have f1:=hb3.free 1
   have f2:=hb3.free 2
   have g1:w3.cell? ⟨s,1,none⟩=some (.slice ro n rc):=by rw [HN.out];exact hb3.cell 1
   have g2:w3.cell? ⟨s,2,none⟩=some (.int .u64 (totP r:Nat)):=hb3.cell 2
   have HR:=Lib.hid (HH.out.row' (w1:=w3) (rv2:=.slice a3 R.length c3) (r2:=R) hk ho3 (fun b hb=>by
    rcases hf3 b (by simpa using hb) with h|h
    ·exact .inl (by simpa using h)
    ·exact .inr (Nat.le_trans hsz h)) S HTR.out)
   clear hk hsz hb3 ho3 hc3 hf3 HAD HTR c0 c1 c2
   go_wp2_with fail
   go_ret
   exact ⟨rfl,_,HR.out.1,HR.out.2⟩
end Go.Proofs.YthoolcpcmhhkpaaGreatDoor
