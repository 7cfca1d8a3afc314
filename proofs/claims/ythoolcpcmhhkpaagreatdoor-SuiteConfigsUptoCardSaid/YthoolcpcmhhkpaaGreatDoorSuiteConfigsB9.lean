/-
  Parts of a proof, pressed. Conditions: the form's own reach.
-/
import Derived.Test.YthoolcpcmhhkpaaGreatDoorSuiteConfigsB7
import Derived.Test.YthoolcpcmhhkpaaGreatDoorSuiteConfigsB8
import Derived.Deep.RegionLaw
import Derived.Lib.Overlaps
import Derived.Lib.AppendZerosOnto
import Derived.Test.YthoolcpcmhhkpaaGreatDoorSuiteConfigsB1
namespace Go.Proofs.YthoolcpcmhhkpaaGreatDoor
open Go.RowKit
theorem size_tuple:(Tryz.prog.info? 194).map (·.size)=some 3:=by kernel_rfl
theorem sizeOf_tuple (w:World):(Go.sizeOf 194).run Tryz.prog w=.ok 3 w:=by
 obtain ⟨i0,hi0,_,hzs,_⟩:=info_parts info_tuple
 simp [sizeOf,typeInfo,hi0,hzs]
theorem copy_blkT (w:World) (g o dLen dCap:Nat) (ROW:Array Value) (hb:Blk w g ROW 194) (ad:Addr) (sLen sCap m:Nat) (cs:List Value) (hm:m=Nat.min sLen dLen) (hn:cs.length=m*3)
 (hsrc:∀ j v,cs[j]? = some v→w.cell? (ad.add j)=some v) (hfit:o+cs.length≤ROW.size) (h1:∀ v∈cs,v.oneCell'=true) :
 ∃ w',(∀ ty,(Builtin.copy_ #[189,189] ty #[.slice (some ⟨g,o,none⟩) dLen dCap,.slice (some ad) sLen sCap]).run Tryz.prog w=.ok (goInt m) w') ∧
   Blk w' g (ROW.toList.take o++cs++ROW.toList.drop (o+cs.length)).toArray 194∧Chg [g] w w':=by
 subst hm
 refine ⟨_,fun ty=>run_copy_rowK w 189 189 ty 194 3 g o dLen dCap ad sLen sCap ROW 194 cs under_tuples size_tuple hb hn hsrc hfit h1,?_,?_⟩
 ·exact setRow_heap w g ROW _ _ _ hb
 ·exact (Chg.refl [g] w).setRow (.inl (by simp)) _
theorem app_zerosT (w:World) (g o cap n k at_:Nat) (l:List Tp) (hn:n=l.length) (hat:at_≤n) (hr:∀ j,j<n*3→w.cell? ⟨g,o+j,none⟩=(tpCells l)[j]?) (hk:at_+k=n+1) (hnc:n≤cap) (hc:cap<n+1) (hl:n≤10000000000) :
 ∃ (G:Nat) (ROW:Array Value) (w':World),(∀ ty x,x=(k:Int)→(Builtin.append_ #[189,3] ty #[.slice (some ⟨g,o,none⟩) at_ cap,.int .i64 x]).run Tryz.prog w=.ok (.slice (some ⟨w.heap.size,0,none⟩) (n+1) G) w') ∧
   Blk w' w.heap.size ROW 194∧ROW.toList.take (at_*3)=tpCells (l.take at_)∧ROW.size=G*3∧n+1≤G∧G≤maxLen∧Chg [] w w':=by
 obtain ⟨i0,hi0,hz0,hzs,hzb⟩:=info_parts info_tuple
 have htl:tpCells (l.take at_)=(tpCells l).take (at_*3):=by
  have e:tpCells l=tpCells (l.take at_)++tpCells (l.drop at_):=by rw [←tpCells_append,List.take_append_drop]
  have hlen:(tpCells (l.take at_)).length=at_*3:=by rw [tpCells_len,List.length_take,←hn,Nat.min_eq_left hat]
  rw [e,←hlen,List.take_left]
 have hold:(Builtin.firstCells i0.size at_ (.slice (some ⟨g,o,none⟩) at_ cap)).run Tryz.prog w.drew=.ok (tpCells (l.take at_)).toArray w.drew:=by
  rw [hzs]
  exact run_firstCells_some w.drew 3 at_ ⟨g,o,none⟩ at_ cap _ (by rw [tpCells_len,List.length_take,←hn,Nat.min_eq_left hat]) (fun j v hj=>by
   rw [htl,List.getElem?_take] at hj
   split at hj
   ·next hjl =>
    have h2:at_*3≤n*3:=Nat.mul_le_mul_right 3 hat
    have:=hr j (by omega)
    rw [Addr.add_lit]
    exact this.trans hj
   ·simp at hj)
 have hu3:Tryz.prog.underlying 3=some (.int .i64):=by kernel_rfl
 have hrz:=fun ty=>Lib.run_append_grow_zeros w 189 3 ty 194 i0 _ .i64 .i64 under_tuples hu3 hi0 hz0 (some ⟨g,o,none⟩) at_ cap _ hold k (by omega) (by omega) (by omega) (by omega) (by rw [hzb];omega) (by rw [hzb,hk];exact growslice_fits hc (by omega))
 rw [hk] at hrz
 have hG1:=grownCap_ge w (n+1) cap 194
 have hG2:=grownCap_le_maxLen w (n+1) cap 194 (by unfold maxLen;omega)
 refine ⟨grownCap w (n+1) cap 194,_,_,fun ty x hx=>by subst hx;exact hrz ty,Blk.alloc_new w.drew _ _,?_,?_,hG1,hG2,(Chg.drew (Chg.refl [] w)).alloc _⟩
 ·have hlen:(tpCells (l.take at_)).length=at_*3:=by rw [tpCells_len,List.length_take,←hn,Nat.min_eq_left hat]
  simp only [Array.toList_append,List.append_assoc]
  rw [←hlen]
  exact List.take_left
 ·have hlen:(tpCells (l.take at_)).length=at_*3:=by rw [tpCells_len,List.length_take,←hn,Nat.min_eq_left hat]
  have hz:(Value.agg #[.int .i64 0,.int .u64 0,.int .u64 0]).cells.size=3:=rfl
  simp only [Array.size_append,List.size_toArray,size_zeroCells,hz,hlen]
  omega
set_option maxRecDepth 100000 in
set_option maxHeartbeats 1000000 in
theorem insert_tuple (w:World) (ao:Option Addr) (cap:Nat) (l:List Tp) (at_:Nat) (hat:at_≤l.length) (p:Tp) (vb:Nat) (hl:l.length≤10000000000)
 (ho:Own w 194 3 (.slice ao l.length cap) l.length (tpCells l)) (hv:Blk w vb #[.int .i64 p.x,.int .u64 p.st,.int .u64 p.sl] 194) (hvb:vb∉abl ao) :
 Calls Tryz.prog 251 #[.slice ao l.length cap,.int .i64 at_,.slice (some ⟨vb,0,none⟩) 1 1] w fun e w'=>∃ a3 c3,e=.returned (.slice a3 (l.length+1) c3) ∧
  Own w' 194 3 (.slice a3 (l.length+1) c3) (l.length+1) (tpCells (l.take at_++[p]++l.drop at_))∧Chg (abl ao) w w'∧∀ b∈abl a3,b∈abl ao∨w.heap.size≤b:=by
 have hvr:Rd w 3 (.slice (some ⟨vb,0,none⟩) 1 1) 1 (tpCells [p]):=⟨rfl,_,_,rfl,.inr ⟨_,_,rfl,fun j hj=>by
  rw [Nat.zero_add,hv.cell j]
  simp [tpCells,Tp.cells]⟩⟩
 go_enter Tryz.func251,Tryz.ntmps251
 have hb1:((at_:Nat):Int)≤(l.length:Int):=by omega
 have hb0:(0:Int)≤((at_:Nat):Int):=by omega
 obtain ⟨hlen,⟨hv0,h0⟩|⟨g,o,cp,cur,hv1,hg,hnc,hm,hsz,hxs⟩⟩:=id ho
 ·obtain rfl:l=[]:=List.eq_nil_of_length_eq_zero h0
  obtain rfl:at_=0:=by simpa using hat
  simp only [Value.slice.injEq] at hv0
  obtain ⟨rfl,_,rfl⟩:=hv0
  have ho':Own w 194 3 (.slice none 0 0) 0 (tpCells []):=ho
  clear ho hlen
  go_wp2_with (at_builtin;go_must (refine wpList_append_src _ rfl (.tmp 23) (.tmp 24) 189 189 rfl 194 _ 3 24 under_tuples info_tuple rfl (by decide) (.slice none 0 0) 0 (tpCells []) rfl ho' (.slice (some ⟨vb,0,none⟩) 1 1) 1 (tpCells [p]) rfl (Src.of_rd under_tuples hvr) (tpCells_oneCell _) (by decide) (by decide) ?_;intro a3 c3 w7 ho7 hg7 hf7))
  go_ret
  exact ⟨a3,c3,rfl,by simpa [tpCells] using ho7,by simpa using hg7,by simpa using hf7⟩
 ·simp only [Value.slice.injEq,true_and] at hv1
  obtain ⟨rfl,rfl⟩:=hv1
  by_cases hend:at_=l.length
  ·subst hend
   have hsame:tpCells (l.take l.length++[p]++l.drop l.length)=tpCells l++tpCells [p]:=by rw [List.take_length,List.drop_length,List.append_nil,tpCells_append]
   rw [hsame]
   clear hsame
   have HH:=Lib.hid (And.intro hg (And.intro hxs hsz))
   clear hg hxs hsz hlen
   by_cases hcl:cap=l.length
   ·have hcl2:=hcl
    go_wp2_with (at_builtin;go_must (refine wpList_append_src _ rfl (.tmp 23) (.tmp 24) 189 189 rfl 194 _ 3 24 under_tuples info_tuple rfl (by decide) (.slice (some ⟨g,o,none⟩) l.length cap) l.length (tpCells l) rfl ho (.slice (some ⟨vb,0,none⟩) 1 1) 1 (tpCells [p]) rfl (Src.of_rd under_tuples hvr) (tpCells_oneCell _) (by unfold maxLen;omega) (by omega) ?_;intro a3 c3 w7 ho7 hg7 hf7))
    go_ret
    exact ⟨a3,c3,rfl,ho7,by simpa using hg7,by simpa using hf7⟩
   ·go_wp2_with (at_builtin;go_must (refine wpList_append_src _ rfl (.tmp 23) (.tmp 24) 189 189 rfl 194 _ 3 24 under_tuples info_tuple rfl (by decide) (.slice (some ⟨g,o,none⟩) l.length cap) l.length (tpCells l) rfl ho (.slice (some ⟨vb,0,none⟩) 1 1) 1 (tpCells [p]) rfl (Src.of_rd under_tuples hvr) (tpCells_oneCell _) (by unfold maxLen;omega) (by omega) ?_;intro a3 c3 w7 ho7 hg7 hf7))
    go_ret
    exact ⟨a3,c3,rfl,ho7,by simpa using hg7,by simpa using hf7⟩
  ·have hlt:at_<l.length:=by omega
   have hvs:w.shape? vb=some (194,3):=by
    have h:=hv
    simp only [Blk] at h
    simp [World.shape?,h]
   have hgs:w.shape? g=some (194,cur.size):=by simp [World.shape?,hg]
   have hvg:vb≠g:=fun h=>hvb (by simp [h])
   have hov:∀ off lb cb,(callFunc 289 #[.slice (some ⟨vb,0,none⟩) 1 1,.slice (some ⟨g,off,none⟩) lb cb]).run Tryz.prog w=.ok (.value (.bool false)) w:=fun off lb cb=>by
    rw [run_callFunc_extern Tryz.func289 (by kernel_rfl) (by kernel_rfl) (by kernel_rfl) (e:=Extern.SlicesOverlaps.overlaps #[189,189] #[4]) (by kernel_rfl),
     Lib.run_overlaps_apart w 189 4 194 under_tuples 3 sizeOf_tuple ⟨vb,0,none⟩ ⟨g,off,none⟩ 1 1 lb cb hvg 194 194 3 cur.size hvs hgs (by omega) (hv.free 0) (hv.free 3)]
    rfl
   have hne:(at_:Int)≠(l.length:Int):=by omega
   have hsplit:tpCells l=tpCells (l.take at_)++tpCells (l.drop at_):=by rw [←tpCells_append,List.take_append_drop]
   have hA:(tpCells (l.take at_)).length=at_*3:=by rw [tpCells_len,List.length_take,Nat.min_eq_left hat]
   have hB:(tpCells (l.drop at_)).length=(l.length-at_)*3:=by rw [tpCells_len,List.length_drop]
   have hw1:IntKind.i64.wrap ((at_:Int)+1)=(at_:Int)+1:=by rw [IntKind.wrap_i64];omega
   have htn:((at_:Int)+1).toNat=at_+1:=by omega
   have hp1:(0:Int)≤(at_:Int)+1:=by omega
   have hp2:(at_:Int)≤(l.length:Int)+1:=by omega
   have hbk:Blk w g cur 194:=hg
   have hcell0:∀ j,j<l.length*3→w.cell? ⟨g,o+j,none⟩=(tpCells l)[j]?:=fun j hj=>by
    rw [hbk.cell (o+j),←hxs,List.getElem?_take,if_pos hj,List.getElem?_drop,Array.getElem?_toList]
   by_cases hroom:cap<l.length+1
   ·have hd:decide ((cap:Int)<(l.length:Int)+1)=true:=decide_eq_true (by omega)
    obtain ⟨G,ROW,w1,hrz,hb1',hR1,hR2,hG1,hG2,hch1⟩:=app_zerosT w g o cap l.length (l.length+1-at_) at_ l rfl hat hcell0 (by omega) hnc hroom hl
    have hsub:(l.length:Int)+1-(at_:Int)=((l.length+1-at_:Nat):Int):=by omega
    have hc1:¬(cap=at_):=by omega
    have hc2:¬(G=at_):=by omega
    have hc3:¬(G=at_+1):=by omega
    clear hov hvs hgs
    have hgl:=hbk.lt
    have hvl:=hv.lt
    have hv1:=Blk.chg hv hch1 (by simp)
    have hpv:∀ j v,(tpCells [p])[j]? = some v→w1.cell? ((⟨vb,0,none⟩:Addr).add j)=some v:=fun j v hj=>by
     rw [Addr.add_lit,Nat.zero_add,hv1.cell j,←hj]
     simp [tpCells,Tp.cells]
    have hRl:ROW.toList.length=G*3:=by simpa using hR2
    have hR:=grow_rows 3 ROW.toList (tpCells (l.take at_)) (tpCells (l.drop at_)) (tpCells [p]) (at_*3) ((l.length-at_)*3) hA hB rfl hR1 (by omega)
    obtain ⟨w2,hcp1,hb2,hch2⟩:=copy_blkT w1 w.heap.size (at_*3) (l.length+1-at_) (G-at_) ROW hb1' ⟨vb,0,none⟩ 1 1 1 (tpCells [p]) (by show _=min _ _;omega) rfl hpv (by show _+3≤_;omega) (tpCells_oneCell _)
    obtain ⟨hRa,hRb,hRc⟩:=hR
    rw [show (tpCells [p]).length=3 from rfl] at hb2
    generalize (ROW.toList.take (at_*3)++tpCells [p]++ROW.toList.drop (at_*3+3))=R2 at *
    have hch02:Chg [] w w2:=hch1.trans' hch2 (by simp)
    have hbk2:=Blk.chg hbk hch02 (by simp)
    have hcell:∀ j v,(tpCells (l.drop at_))[j]? = some v→w2.drew.cell? ((⟨g,o+at_*3,none⟩:Addr).add j)=some v:=fun j v hj=>by
     have hjl:j<(tpCells (l.drop at_)).length:=(List.getElem?_eq_some_iff.1 hj).1
     have h1:(tpCells l)[at_*3+j]? = some v:=by
      rw [hsplit,List.getElem?_append_right (by omega),hA,Nat.add_sub_cancel_left]
      exact hj
     rw [←hxs,List.getElem?_take,if_pos (by omega),List.getElem?_drop] at h1
     rw [Addr.add_lit]
     have h3:=hbk2.cell (o+at_*3+j)
     rw [←Array.getElem?_toList,Nat.add_assoc] at h3
     show w2.cell? _=_
     rw [Nat.add_assoc,h3]
     exact h1
    obtain ⟨w3,hcp2,hb3,hch3⟩:=copy_blkT w2.drew w.heap.size ((at_+1)*3) (l.length-at_) (G-(at_+1)) R2.toArray hb2 ⟨g,o+at_*3,none⟩ (l.length-at_) (cap-at_) (l.length-at_) (tpCells (l.drop at_)) (by show _=min _ _;omega) hB hcell (by have h9:R2.toArray.size=R2.length:=List.size_toArray;omega) (tpCells_oneCell _)
    have hch:Chg [] w w3:=hch02.drew.trans' hch3 (by simp)
    rw [show (at_+1)*3=at_*3+3 from by omega,hB] at hb3
    have hfin:Own w3 194 3 (.slice (some ⟨w.heap.size,0,none⟩) (l.length+1) G) (l.length+1) (tpCells (l.take at_++[p]++l.drop at_)):=by
     refine ⟨by rw [tpCells_len];simp;omega,.inr ⟨w.heap.size,0,G,_,rfl,hb3,by omega,hG2,?_,?_⟩⟩
     ·simp only [List.size_toArray]
      rw [hRb,hRl]
      omega
     ·simp only [List.drop_zero]
      rw [tpCells_append,tpCells_append,←hRc]
      congr 1
      omega
    have HF:=Lib.hid (And.intro hfin hch)
    have HZ:=Lib.hid hrz
    clear hfin hch hb3 hRa hRb hRc hb2 hsplit hA hB hcell hpv hxs hg hcell0 hR1 hR2 hb1' hbk2 hbk hrz
    go_wp2_with (first
     | (at_builtin;go_must (refine wpList_append_runK rfl _ _ 189 3 rfl _ _ rfl rfl (HZ.out _ _ rfl) ?_))
     | (at_builtin;go_must (refine wpList_copy_rowK rfl _ _ 189 189 rfl _ _ rfl rfl (hcp1 _) ?_)))
    go_region_law (refine step_copy_rowK rfl _ _ 189 189 rfl _ _ (by simp [Act.eval,Act.put]) (by simp [Act.eval,Act.put]) (hcp2 _) ?_)
    go_wp2
    go_ret
    exact ⟨_,_,rfl,HF.out.1,by simpa using HF.out.2.nil,fun b hb=>.inr (by simp at hb;omega)⟩
   ·have hd:decide ((cap:Int)<(l.length:Int)+1)=false:=decide_eq_false (by omega)
    have hc1:¬(cap=at_):=by omega
    have hc2:¬(cap=at_+1):=by omega
    go_wp2_with (simp only [hov])
    have hcell:∀ j v,(tpCells (l.drop at_))[j]? = some v→w.drew.cell? ((⟨g,o+at_*3,none⟩:Addr).add j)=some v:=fun j v hj=>by
     have hjl:j<(tpCells (l.drop at_)).length:=(List.getElem?_eq_some_iff.1 hj).1
     have h1:(tpCells l)[at_*3+j]? = some v:=by
      rw [hsplit,List.getElem?_append_right (by omega),hA,Nat.add_sub_cancel_left]
      exact hj
     rw [←hxs,List.getElem?_take,if_pos (by omega),List.getElem?_drop] at h1
     rw [Addr.add_lit]
     have h2:Blk w g cur 194:=hg
     have h3:=h2.cell (o+at_*3+j)
     rw [←Array.getElem?_toList,Nat.add_assoc] at h3
     show w.cell? _=_
     rw [Nat.add_assoc,h3]
     exact h1
    obtain ⟨w2,hcp1,hb2,hch2⟩:=copy_blkT w.drew g (o+(at_+1)*3) (l.length-at_) (cap-(at_+1)) cur hg ⟨g,o+at_*3,none⟩ (l.length+1-at_) (cap-at_) (l.length-at_) (tpCells (l.drop at_)) (by show _=min _ _;omega) hB hcell (by omega) (tpCells_oneCell _)
    go_region_law (refine step_copy_rowK rfl _ _ 189 189 rfl _ _ (by simp [Act.eval,Act.put]) (by simp [Act.eval,Act.put]) (hcp1 _) ?_)
    have hR:=shift_rows 3 cur.toList (tpCells (l.take at_)) (tpCells (l.drop at_)) (tpCells [p]) o (at_*3) ((l.length-at_)*3) (cap*3) hA hB rfl (by rw [←hsplit,←hxs];congr 1;omega) (by rw [Array.length_toList];exact hsz) (by omega)
    rw [show (at_+1)*3=at_*3+3 from by omega,hB] at hb2
    obtain ⟨hR2,hR3,hRX⟩:=hR
    generalize (cur.toList.take (o+(at_*3+3))++tpCells (l.drop at_)++cur.toList.drop (o+(at_*3+3)+(l.length-at_)*3))=R2 at *
    have hv2:=Blk.chg (Blk.drew hv) hch2 (by simpa using hvg)
    have hpv:∀ j v,(tpCells [p])[j]? = some v→w2.cell? ((⟨vb,0,none⟩:Addr).add j)=some v:=fun j v hj=>by
     rw [Addr.add_lit,Nat.zero_add,hv2.cell j,←hj]
     simp [tpCells,Tp.cells]
    obtain ⟨w3,hcp2,hb3,hch3⟩:=copy_blkT w2 g (o+at_*3) (l.length+1-at_) (cap-at_) R2.toArray hb2 ⟨vb,0,none⟩ 1 1 1 (tpCells [p]) (by show _=min _ _;omega) rfl hpv (by simp only [List.size_toArray,hR2,Array.length_toList];show _+3≤_;omega) (tpCells_oneCell _)
    have hch:Chg [g] w w3:=((Chg.drew (Chg.refl [g] w)).trans hch2).trans hch3
    have hfin:Own w3 194 3 (.slice (some ⟨g,o,none⟩) (l.length+1) cap) (l.length+1) (tpCells (l.take at_++[p]++l.drop at_)):=by
     refine ⟨by rw [tpCells_len];simp;omega,.inr ⟨g,o,cap,_,rfl,hb3,by omega,hm,?_,?_⟩⟩
     ·simp only [List.size_toArray]
      show _≤(R2.take (o+at_*3)++tpCells [p]++R2.drop (o+at_*3+3)).length
      rw [hR3,Array.length_toList]
      exact hsz
     ·show (List.drop o (R2.take (o+at_*3)++tpCells [p]++R2.drop (o+at_*3+3))).take _=_
      rw [tpCells_append,tpCells_append,←hRX]
      congr 1
      omega
    have HF:=Lib.hid (And.intro hfin hch)
    clear hfin hch hb3 hcp1 hR3 hRX hR2 hb2 hsplit hA hB hcell hpv hxs hg hgs hvs hov
    go_wp2_with (at_builtin;go_must (refine wpList_copy_rowK rfl _ _ 189 189 rfl _ _ rfl rfl (hcp2 _) ?_))
    go_ret
    exact ⟨_,_,rfl,HF.out.1,by simpa using HF.out.2,fun b hb=>.inl hb⟩
theorem step_append_runK {P:Program} {ops:Array Oper} {o:Oper} {a:Act} {w:World} {K:Act→World→Prop} {Q:Exit→Act→World→Prop} {E:Prop}
 (hg:o.guard=none) (d x:Operand) (dT sT:TypeId) (hop:o.op=Op.call { callee:=Callee.builtin Builtin.append,args:=#[d,x],argTypes:=#[dT,sT] })
 (v u:Value) (hd:a.eval d=v) (hx:a.eval x=u) {v':Value} {w':World} (hr:(Builtin.append_ #[dT,sT] o.type #[v,u]).run P w=.ok v' w') (hK:K (a.put o.dst v') w') :
 if Region.wanted o (yielded ops a.tmps)=true then Oper.wp P o a w K Q else E:=by
 have hw:Region.wanted o (yielded ops a.tmps)=true:=by simp [Region.wanted,hg]
 rw [if_pos hw]
 unfold Oper.wp
 simp [execOp,hop,resolve,invoke,builtin,hd,hx,hr,Result.andThen]
 exact hK
theorem wpList_clear_runK {P:Program} {w:World} {ops:Array Oper} {rest:List Oper} {o:Oper} {a:Act} {Q:Exit→Act→World→Prop} (hgd:o.guard=none) (d:Operand) (dT:TypeId)
 (ho:o.op=.call { callee:=.builtin .clear,args:=#[d],argTypes:=#[dT] }) (v:Value) (hd:a.eval d=v) {v':Value} {w':World}
 (hr:(Builtin.clear_ #[dT] o.type #[v]).run P w=.ok v' w') (h:wpList P ops Q rest (a.put o.dst v') w'):wpList P ops Q (o::rest) a w:=by
 refine wpList_plain hgd fun K hK => ?_
 unfold Oper.wp
 simp [execOp,ho,resolve,invoke,builtin,hd,hr,Result.andThen]
 exact hK _ _ h
theorem run_append_fit {P:Program} (w:World) (t u ty e:TypeId) (i:TypeInfo) (size:Nat) (ht:P.underlying t=some (.slice e)) (hi:P.info? e=some i) (hsize:i.size=size)
 (g o n cap:Nat) (cur:Array Value) (hg:w.heap[g]? = some (.cells cur e (0,0))) (x:Value) (m:Nat) (news:List Value) (hsrc:Src P w u size x m news) (h1:∀ y∈news,y.oneCell'=true)
 (hfit:n+m≤cap) (hroom:o+cap*size≤cur.size) :
 (Builtin.append_ #[t,u] ty #[.slice (some ⟨g,o,none⟩) n cap,x]).run P w =
   .ok (.slice (some ⟨g,o,none⟩) (n+m) cap) (w.setRow g (cur.toList.take (o+n*size)++news++cur.toList.drop (o+n*size+news.length)).toArray):=by
 subst hsize
 obtain ⟨hu,hlen,hl,hf,hfd⟩:=hsrc
 have hfit':o+n*i.size+0+news.length≤cur.size:=by
  have:=Nat.mul_le_mul_right i.size hfit
  rw [Nat.add_mul] at this
  omega
 have hst:=run_storeCells_at P g (o+n*i.size) e news 0 cur w hg hfit' h1
 simp only [Nat.add_zero] at hst
 have hadd:(⟨g,o,none⟩:Addr).add (n*i.size)=⟨g,o+n*i.size,none⟩:=by
  unfold Addr.add;split
  ·simp_all
  ·rfl
 rcases hu with ⟨e',hu⟩|hu<;>simp [Builtin.append_,run_underlying ht,run_underlying hu,sizeOf,typeInfo,hi,hlen,hfit,hf,hadd,hst]
def z3:List Value:=[Value.int .i64 0,Value.int .u64 0,Value.int .u64 0]
theorem run_clear_tuple (w:World) (ty:TypeId) (g o c:Nat) (cur:Array Value) (hg:w.heap[g]? = some (.cells cur 194 (0,0))) (hs:o+3≤cur.size) :
 (Builtin.clear_ #[189] ty #[.slice (some ⟨g,o,none⟩) 1 c]).run Tryz.prog w =
   .ok (.tuple #[]) (w.setRow g (cur.toList.take o++z3++cur.toList.drop (o+3)).toArray):=by
 obtain ⟨i0,hi0,hz0,hzs,hzb⟩:=info_parts info_tuple
 have hst:=run_storeCells_at Tryz.prog g o 194 z3 0 cur w hg (by simpa [z3] using hs) (by simp [z3,Value.oneCell'])
 have hzc:(Builtin.zeroCells (Value.agg #[.int .i64 0,.int .u64 0,.int .u64 0]).cells 1).toList=z3:=by first|rfl|kernel_rfl|(simp [Builtin.zeroCells,z3,Value.cells];rfl)
 simp only [Nat.add_zero] at hst
 have hz3:z3.length=3:=rfl
 rw [hz3] at hst
 simp [Builtin.clear_,run_underlying under_tuples,zeroValue,typeInfo,hi0,hz0,hzc,hst]
theorem cut_rows {α:Type} (C A P B:List α) (o a e b:Nat) (hA:A.length=a) (hB:B.length=b) (hP:P.length=e) (hX:(C.drop o).take (a+e+b)=A++P++B) (hC:o+(a+e+b)≤C.length) :
 let R:=C.take (o+a)++B++C.drop (o+a+b)
 R.length=C.length∧(R.drop o).take (a+b)=A++B:=by
 intro R
 have hl0:(C.take o).length=o:=by rw [List.length_take];omega
 have e0:(C.drop o).take a=A:=by
  have h:((C.drop o).take (a+e+b)).take a=A:=by
   rw [hX,List.append_assoc,←hA]
   exact List.take_left
  rw [List.take_take,Nat.min_eq_left (by omega)] at h
  exact h
 have e1:C.take (o+a)=C.take o++A:=by rw [List.take_add,e0]
 have e2:R=C.take o++(A++B++C.drop (o+a+b)):=by
  show C.take (o+a)++B++C.drop (o+a+b)=_
  rw [e1]
  simp only [List.append_assoc]
 refine ⟨?_,?_⟩
 ·show (C.take (o+a)++B++C.drop (o+a+b)).length=_
  simp only [List.length_append,List.length_take,List.length_drop]
  omega
 ·rw [e2,drop_len hl0.symm]
  exact take_len (by simp only [List.length_append];omega)
theorem pad_rows {α:Type} (C X Z:List α) (o n z:Nat) (hz:Z.length=z) (hX:(C.drop o).take n=X) (hC:o+n+z≤C.length) :
 let R:=C.take (o+n)++Z++C.drop (o+n+z)
 R.length=C.length∧(R.drop o).take n=X:=by
 intro R
 have hl0:(C.take o).length=o:=by rw [List.length_take];omega
 have hXl:X.length=n:=by rw [←hX,List.length_take,List.length_drop];omega
 have e1:C.take (o+n)=C.take o++X:=by rw [List.take_add,hX]
 have e2:R=C.take o++(X++(Z++C.drop (o+n+z))):=by
  show C.take (o+n)++Z++C.drop (o+n+z)=_
  rw [e1]
  simp only [List.append_assoc]
 refine ⟨?_,?_⟩
 ·show (C.take (o+n)++Z++C.drop (o+n+z)).length=_
  simp only [List.length_append,List.length_take,List.length_drop]
  omega
 ·rw [e2,drop_len hl0.symm]
  exact take_len hXl.symm
set_option maxRecDepth 100000 in
set_option maxHeartbeats 1000000 in
theorem delete_tuple (w:World) (g o cap:Nat) (l:List Tp) (k:Nat) (hk:k<l.length) (hl:l.length≤10000000000) (ho:Own w 194 3 (.slice (some ⟨g,o,none⟩) l.length cap) l.length (tpCells l)) :
 Calls Tryz.prog 252 #[.slice (some ⟨g,o,none⟩) l.length cap,.int .i64 (k:Nat),.int .i64 ((k:Int)+1)] w fun e w' =>
  e=.returned (.slice (some ⟨g,o,none⟩) (l.length-1) cap) ∧
  Own w' 194 3 (.slice (some ⟨g,o,none⟩) (l.length-1) cap) (l.length-1) (tpCells (l.take k++l.drop (k+1)))∧Chg [g] w w':=by
 obtain ⟨hlen,⟨hv0,_⟩|⟨g',o',cp,cur,hv1,hg,hnc,hm,hsz,hxs⟩⟩:=id ho
 ·simp at hv0
 simp only [Value.slice.injEq,Option.some.injEq,Addr.mk.injEq,true_and,and_true] at hv1
 obtain ⟨⟨rfl,rfl⟩,rfl⟩:=hv1
 obtain ⟨oa,hoa⟩:∃ oa,oa=if k+1=cap then o else o+(k+1)*3:=⟨_,rfl⟩
 have hrest0:Rd w 3 (.slice (some ⟨g,o+(k+1)*3,none⟩) (l.length-(k+1)) (cap-(k+1))) (l.length-(k+1)) (tpCells (l.drop (k+1))):=by
  refine ⟨by rw [tpCells_len,List.length_drop],_,_,rfl,.inr ⟨g,o+(k+1)*3,rfl,fun j hj => ?_⟩⟩
  have hb:Blk w g cur 194:=hg
  rw [hb.cell,Nat.add_assoc]
  have e:tpCells l=tpCells (l.take (k+1))++tpCells (l.drop (k+1)):=by rw [←tpCells_append,List.take_append_drop]
  have hlk:(tpCells (l.take (k+1))).length=(k+1)*3:=by rw [tpCells_len,List.length_take,Nat.min_eq_left (by omega)]
  have h1:(tpCells l)[(k+1)*3+j]? = (tpCells (l.drop (k+1)))[j]?:=by
   rw [e,List.getElem?_append_right (by omega),hlk,Nat.add_sub_cancel_left]
  rw [←h1,←hxs,List.getElem?_take,if_pos (by omega),List.getElem?_drop,Array.getElem?_toList]
 have hrest:Rd w 3 (.slice (some ⟨g,oa,none⟩) (l.length-(k+1)) (cap-(k+1))) (l.length-(k+1)) (tpCells (l.drop (k+1))):=by
  by_cases hkc:k+1=cap
  ·refine ⟨by rw [tpCells_len,List.length_drop],_,_,rfl,.inl (by omega)⟩
  ·rw [hoa,if_neg hkc]
   exact hrest0
 have hsplit:tpCells l=tpCells (l.take k)++tpCells [l[k]]++tpCells (l.drop (k+1)):=by
  rw [←tpCells_append,←tpCells_append]
  congr 1
  rw [List.append_assoc,List.singleton_append,←List.drop_eq_getElem_cons hk,List.take_append_drop]
 have hA:(tpCells (l.take k)).length=k*3:=by rw [tpCells_len,List.length_take,Nat.min_eq_left (by omega)]
 have hB:(tpCells (l.drop (k+1))).length=(l.length-(k+1))*3:=by rw [tpCells_len,List.length_drop]
 obtain ⟨i0,hi0,_,hzs,_⟩:=info_parts info_tuple
 have happ:∀ ty,(Builtin.append_ #[189,189] ty #[.slice (some ⟨g,o,none⟩) k cap,.slice (some ⟨g,oa,none⟩) (l.length-(k+1)) (cap-(k+1))]).run Tryz.prog w.drew=_:=fun ty =>
  run_append_fit w.drew 189 189 ty 194 i0 3 under_tuples hi0 hzs g o k cap cur hg _ _ _ (Src.of_rd under_tuples (show Rd w.drew 3 _ _ _ from hrest)) (tpCells_oneCell _) (by omega) hsz
 obtain ⟨C,hC⟩:∃ C,C=cur.toList:=⟨_,rfl⟩
 have hCl:C.length=cur.size:=by rw [hC,Array.length_toList]
 have hcut:=cut_rows C (tpCells (l.take k)) (tpCells [l[k]]) (tpCells (l.drop (k+1))) o (k*3) 3 ((l.length-(k+1))*3) hA hB rfl (by rw [←hsplit,←hxs,hC];congr 1;omega) (by omega)
 rw [hB,←hC] at happ
 obtain ⟨hR1,hR2⟩:=hcut
 have hbR:=setRow_heap w.drew g cur (C.take (o+k*3)++tpCells (l.drop (k+1))++C.drop (o+k*3+(l.length-(k+1))*3)).toArray 194 (0,0) hg
 have hcR:Chg [g] w (w.drew.setRow g (C.take (o+k*3)++tpCells (l.drop (k+1))++C.drop (o+k*3+(l.length-(k+1))*3)).toArray):=(Chg.drew (Chg.refl [g] w)).setRow (.inl (by simp)) _
 generalize hRR:(C.take (o+k*3)++tpCells (l.drop (k+1))++C.drop (o+k*3+(l.length-(k+1))*3))=R at *
 generalize w.drew.setRow g R.toArray=w1 at *
 have hpad:=pad_rows R _ z3 o (k*3+(l.length-(k+1))*3) 3 rfl hR2 (by have:z3.length=3:=rfl;omega)
 obtain ⟨hP1,hP2⟩:=hpad
 have hclr:=fun ty c=>run_clear_tuple w1 ty g (o+(k*3+(l.length-(k+1))*3)) c R.toArray hbR (by simp only [List.size_toArray];omega)
 have hbP:=setRow_heap w1 g R.toArray (R.take (o+(k*3+(l.length-(k+1))*3))++z3++R.drop (o+(k*3+(l.length-(k+1))*3)+3)).toArray 194 (0,0) hbR
 have hcP:Chg [g] w (w1.setRow g (R.take (o+(k*3+(l.length-(k+1))*3))++z3++R.drop (o+(k*3+(l.length-(k+1))*3)+3)).toArray):=hcR.setRow (.inl (by simp)) _
 generalize hPP:(R.take (o+(k*3+(l.length-(k+1))*3))++z3++R.drop (o+(k*3+(l.length-(k+1))*3)+3))=PP at *
 have hfin:Own (w1.setRow g PP.toArray) 194 3 (.slice (some ⟨g,o,none⟩) (l.length-1) cap) (l.length-1) (tpCells (l.take k++l.drop (k+1))):=by
  refine ⟨by rw [tpCells_len];simp;omega,.inr ⟨g,o,cap,_,rfl,hbP,by omega,hm,by simp only [List.size_toArray];omega,?_⟩⟩
  rw [tpCells_append,←hP2]
  congr 1
  omega
 generalize w1.setRow g PP.toArray=w2 at *
 have HF:=Lib.hid (And.intro hfin hcP)
 have HA:=Lib.hid happ
 have HC:=Lib.hid hclr
 have hk0:(0:Int)≤(k:Int):=by omega
 have hk1:(0:Int)≤(k:Int)+1:=by omega
 have hk2:(k:Int)+1≤(l.length:Int):=by omega
 have hk3:(k:Int)≤(l.length:Int):=by omega
 have hk4:(k:Int)≤(k:Int)+1:=by omega
 have hkne:((k:Int)==(k:Int)+1)=false:=by simp;omega
 have htn:((k:Int)+1).toNat=k+1:=by omega
 have hln:((k+(l.length-(k+1)):Nat):Int)=((l.length-1:Nat):Int):=by omega
 clear hfin hcP happ hclr hsplit hA hB hR1 hR2 hbR hcR hRR hP1 hP2 hbP hPP hxs hCl hrest hrest0 hg hm hlen hi0 hzs
 go_enter Tryz.func252,Tryz.ntmps252
 by_cases hkc:k+1=cap
 ·rw [if_pos hkc] at hoa
  subst hkc
  subst hoa
  have hll:l.length=k+1:=by omega
  have HA1:=Lib.hid (show ∀ ty,(Builtin.append_ #[189,189] ty #[.slice (some ⟨g,oa,none⟩) k (k+1),.slice (some ⟨g,oa,none⟩) 0 0]).run Tryz.prog w.drew=.ok (.slice (some ⟨g,oa,none⟩) k (k+1)) w1 from fun ty=>by
   have h:=HA.out ty
   rw [show l.length-(k+1)=0 from by omega,show k+1-(k+1)=0 from by omega,Nat.add_zero] at h
   exact h)
  have HC1:=Lib.hid (show ∀ ty c,(Builtin.clear_ #[189] ty #[.slice (some ⟨g,oa+k*3,none⟩) (l.length-k) c]).run Tryz.prog w1=.ok (.tuple #[]) w2 from fun ty c=>by
   have h:=HC.out ty c
   rw [show l.length-(k+1)=0 from by omega,Nat.zero_mul,Nat.add_zero] at h
   rw [show l.length-k=1 from by omega]
   exact h)
  rw [show l.length-1=k from by omega] at HF ⊢
  clear HA HC hll
  have hz:¬(k+1=k):=by omega
  have hz0:k+1-(k+1)=0:=by omega
  have hz1:l.length-(k+1)=0:=by omega
  have hkl2:k≤l.length:=by omega
  go_wp2
  go_region_law (refine step_append_runK rfl _ _ 189 189 rfl _ _ (by simp [Act.eval,Act.put]) (by simp [Act.eval,Act.put]) (HA1.out _) ?_)
  go_wp2_with (with_reducible refine wpList_clear_runK rfl (.tmp 31) 189 rfl _ rfl (HC1.out _ _) ?_)
  go_ret
  exact ⟨rfl,HF.out.1,HF.out.2⟩
 ·rw [if_neg hkc] at hoa
  subst hoa
  have hkc2:¬(cap=k+1):=fun h=>hkc h.symm
  have hkc3:k≤cap:=by omega
  have HA1:=Lib.hid (show ∀ ty,(Builtin.append_ #[189,189] ty #[.slice (some ⟨g,o,none⟩) k cap,.slice (some ⟨g,o+(k+1)*3,none⟩) (l.length-(k+1)) (cap-(k+1))]).run Tryz.prog w.drew=.ok (.slice (some ⟨g,o,none⟩) (l.length-1) cap) w1 from fun ty=>by
   have h:=HA.out ty
   rw [show k+(l.length-(k+1))=l.length-1 from by omega] at h
   exact h)
  have HC1:=Lib.hid (show ∀ ty c,(Builtin.clear_ #[189] ty #[.slice (some ⟨g,o+(l.length-1)*3,none⟩) (l.length-(l.length-1)) c]).run Tryz.prog w1=.ok (.tuple #[]) w2 from fun ty c=>by
   have h:=HC.out ty c
   rw [show k*3+(l.length-(k+1))*3=(l.length-1)*3 from by omega] at h
   rw [show l.length-(l.length-1)=1 from by omega]
   exact h)
  clear HA HC
  have hm1:¬(cap=l.length-1):=by omega
  have hm2:l.length-1≤l.length:=by omega
  have hm3:l.length-1≤cap:=by omega
  go_wp2
  go_region_law (refine step_append_runK rfl _ _ 189 189 rfl _ _ (by simp [Act.eval,Act.put]) (by simp [Act.eval,Act.put]) (HA1.out _) ?_)
  go_wp2_with (with_reducible refine wpList_clear_runK rfl (.tmp 31) 189 rfl _ rfl (HC1.out _ _) ?_)
  go_ret
  exact ⟨rfl,HF.out.1,HF.out.2⟩
def z6:List Value:=[Value.int .u64 0,Value.int .i64 0,Value.int .i64 0,Value.int .u64 0,Value.int .i64 0,Value.int .i64 0]
theorem run_clear_lumps (w:World) (ty:TypeId) (g o c:Nat) (cur:Array Value) (hg:w.heap[g]? = some (.cells cur 213 (0,0))) (hs:o+6≤cur.size) :
 (Builtin.clear_ #[210] ty #[.slice (some ⟨g,o,none⟩) 2 c]).run Tryz.prog w =
   .ok (.tuple #[]) (w.setRow g (cur.toList.take o++z6++cur.toList.drop (o+6)).toArray):=by
 obtain ⟨i0,hi0,hz0,hzs,hzb⟩:=info_parts info_lump
 have hst:=run_storeCells_at Tryz.prog g o 213 z6 0 cur w hg (by simpa [z6] using hs) (by simp [z6,Value.oneCell'])
 have hzc:(Builtin.zeroCells (Value.agg #[.int .u64 0,.int .i64 0,.int .i64 0]).cells 2).toList=z6:=by first|rfl|kernel_rfl|(simp [Builtin.zeroCells,z6,Value.cells];rfl)
 simp only [Nat.add_zero] at hst
 have hz6:z6.length=6:=rfl
 rw [hz6] at hst
 simp [Builtin.clear_,run_underlying under_lumps,zeroValue,typeInfo,hi0,hz0,hzc,hst]
set_option maxRecDepth 100000 in
set_option maxHeartbeats 1000000 in
theorem delete_lumps (w:World) (g o cap:Nat) (l:List Lp) (k:Nat) (hk:k+1<l.length) (hl:l.length≤100000) (ho:Own w 213 3 (.slice (some ⟨g,o,none⟩) l.length cap) l.length (lpCells l)) :
 Calls Tryz.prog 227 #[.slice (some ⟨g,o,none⟩) l.length cap,.int .i64 (k:Nat),.int .i64 ((k:Int)+2)] w fun e w' =>
  e=.returned (.slice (some ⟨g,o,none⟩) (l.length-2) cap) ∧
  Own w' 213 3 (.slice (some ⟨g,o,none⟩) (l.length-2) cap) (l.length-2) (lpCells (l.take k++l.drop (k+2)))∧Chg [g] w w':=by
 obtain ⟨hlen,⟨hv0,_⟩|⟨g',o',cp,cur,hv1,hg,hnc,hm,hsz,hxs⟩⟩:=id ho
 ·simp at hv0
 simp only [Value.slice.injEq,Option.some.injEq,Addr.mk.injEq,true_and,and_true] at hv1
 obtain ⟨⟨rfl,rfl⟩,rfl⟩:=hv1
 obtain ⟨oa,hoa⟩:∃ oa,oa=if k+2=cap then o else o+(k+2)*3:=⟨_,rfl⟩
 have hrest0:Rd w 3 (.slice (some ⟨g,o+(k+2)*3,none⟩) (l.length-(k+2)) (cap-(k+2))) (l.length-(k+2)) (lpCells (l.drop (k+2))):=by
  refine ⟨by rw [lpCells_len,List.length_drop],_,_,rfl,.inr ⟨g,o+(k+2)*3,rfl,fun j hj => ?_⟩⟩
  have hb:Blk w g cur 213:=hg
  rw [hb.cell,Nat.add_assoc]
  have e:lpCells l=lpCells (l.take (k+2))++lpCells (l.drop (k+2)):=by rw [←lpCells_append,List.take_append_drop]
  have hlk:(lpCells (l.take (k+2))).length=(k+2)*3:=by rw [lpCells_len,List.length_take,Nat.min_eq_left (by omega)]
  have h1:(lpCells l)[(k+2)*3+j]? = (lpCells (l.drop (k+2)))[j]?:=by
   rw [e,List.getElem?_append_right (by omega),hlk,Nat.add_sub_cancel_left]
  rw [←h1,←hxs,List.getElem?_take,if_pos (by omega),List.getElem?_drop,Array.getElem?_toList]
 have hrest:Rd w 3 (.slice (some ⟨g,oa,none⟩) (l.length-(k+2)) (cap-(k+2))) (l.length-(k+2)) (lpCells (l.drop (k+2))):=by
  by_cases hkc:k+2=cap
  ·refine ⟨by rw [lpCells_len,List.length_drop],_,_,rfl,.inl (by omega)⟩
  ·rw [hoa,if_neg hkc]
   exact hrest0
 have hsplit:lpCells l=lpCells (l.take k)++lpCells [l[k],l[k+1]]++lpCells (l.drop (k+2)):=by
  rw [←lpCells_append,←lpCells_append]
  congr 1
  rw [List.append_assoc,List.cons_append,List.singleton_append,←List.drop_eq_getElem_cons hk,←List.drop_eq_getElem_cons (show k<l.length by omega),List.take_append_drop]
 have hA:(lpCells (l.take k)).length=k*3:=by rw [lpCells_len,List.length_take,Nat.min_eq_left (by omega)]
 have hB:(lpCells (l.drop (k+2))).length=(l.length-(k+2))*3:=by rw [lpCells_len,List.length_drop]
 obtain ⟨i0,hi0,_,hzs,_⟩:=info_parts info_lump
 have happ:∀ ty,(Builtin.append_ #[210,210] ty #[.slice (some ⟨g,o,none⟩) k cap,.slice (some ⟨g,oa,none⟩) (l.length-(k+2)) (cap-(k+2))]).run Tryz.prog w.drew=_:=fun ty =>
  run_append_fit w.drew 210 210 ty 213 i0 3 under_lumps hi0 hzs g o k cap cur hg _ _ _ (Src.of_rd under_lumps (show Rd w.drew 3 _ _ _ from hrest)) (lpCells_oneCell _) (by omega) hsz
 obtain ⟨C,hC⟩:∃ C,C=cur.toList:=⟨_,rfl⟩
 have hCl:C.length=cur.size:=by rw [hC,Array.length_toList]
 have hcut:=cut_rows C (lpCells (l.take k)) (lpCells [l[k],l[k+1]]) (lpCells (l.drop (k+2))) o (k*3) 6 ((l.length-(k+2))*3) hA hB rfl (by rw [←hsplit,←hxs,hC];congr 1;omega) (by omega)
 rw [hB,←hC] at happ
 obtain ⟨hR1,hR2⟩:=hcut
 have hbR:=setRow_heap w.drew g cur (C.take (o+k*3)++lpCells (l.drop (k+2))++C.drop (o+k*3+(l.length-(k+2))*3)).toArray 213 (0,0) hg
 have hcR:Chg [g] w (w.drew.setRow g (C.take (o+k*3)++lpCells (l.drop (k+2))++C.drop (o+k*3+(l.length-(k+2))*3)).toArray):=(Chg.drew (Chg.refl [g] w)).setRow (.inl (by simp)) _
 generalize hRR:(C.take (o+k*3)++lpCells (l.drop (k+2))++C.drop (o+k*3+(l.length-(k+2))*3))=R at *
 generalize w.drew.setRow g R.toArray=w1 at *
 have hpad:=pad_rows R _ z6 o (k*3+(l.length-(k+2))*3) 6 rfl hR2 (by have:z6.length=6:=rfl;omega)
 obtain ⟨hP1,hP2⟩:=hpad
 have hclr:=fun ty c=>run_clear_lumps w1 ty g (o+(k*3+(l.length-(k+2))*3)) c R.toArray hbR (by simp only [List.size_toArray];omega)
 have hbP:=setRow_heap w1 g R.toArray (R.take (o+(k*3+(l.length-(k+2))*3))++z6++R.drop (o+(k*3+(l.length-(k+2))*3)+6)).toArray 213 (0,0) hbR
 have hcP:Chg [g] w (w1.setRow g (R.take (o+(k*3+(l.length-(k+2))*3))++z6++R.drop (o+(k*3+(l.length-(k+2))*3)+6)).toArray):=hcR.setRow (.inl (by simp)) _
 generalize hPP:(R.take (o+(k*3+(l.length-(k+2))*3))++z6++R.drop (o+(k*3+(l.length-(k+2))*3)+6))=PP at *
 have hfin:Own (w1.setRow g PP.toArray) 213 3 (.slice (some ⟨g,o,none⟩) (l.length-2) cap) (l.length-2) (lpCells (l.take k++l.drop (k+2))):=by
  refine ⟨by rw [lpCells_len];simp;omega,.inr ⟨g,o,cap,_,rfl,hbP,by omega,hm,by simp only [List.size_toArray];omega,?_⟩⟩
  rw [lpCells_append,←hP2]
  congr 1
  omega
 generalize w1.setRow g PP.toArray=w2 at *
 have HF:=Lib.hid (And.intro hfin hcP)
 have HA:=Lib.hid happ
 have HC:=Lib.hid hclr
 have hk0:(0:Int)≤(k:Int):=by omega
 have hk1:(0:Int)≤(k:Int)+2:=by omega
 have hk2:(k:Int)+2≤(l.length:Int):=by omega
 have hk3:(k:Int)≤(l.length:Int):=by omega
 have hk4:(k:Int)≤(k:Int)+2:=by omega
 have hkne:((k:Int)==(k:Int)+2)=false:=by simp;omega
 have htn:((k:Int)+2).toNat=k+2:=by omega
 have hln:((k+(l.length-(k+2)):Nat):Int)=((l.length-2:Nat):Int):=by omega
 clear hfin hcP happ hclr hsplit hA hB hR1 hR2 hbR hcR hRR hP1 hP2 hbP hPP hxs hCl hrest hrest0 hg hm hlen hi0 hzs
 go_enter Tryz.func227,Tryz.ntmps227
 by_cases hkc:k+2=cap
 ·rw [if_pos hkc] at hoa
  subst hkc
  subst hoa
  have hll:l.length=k+2:=by omega
  have HA1:=Lib.hid (show ∀ ty,(Builtin.append_ #[210,210] ty #[.slice (some ⟨g,oa,none⟩) k (k+2),.slice (some ⟨g,oa,none⟩) 0 0]).run Tryz.prog w.drew=.ok (.slice (some ⟨g,oa,none⟩) k (k+2)) w1 from fun ty=>by
   have h:=HA.out ty
   rw [show l.length-(k+2)=0 from by omega,show k+2-(k+2)=0 from by omega,Nat.add_zero] at h
   exact h)
  have HC1:=Lib.hid (show ∀ ty c,(Builtin.clear_ #[210] ty #[.slice (some ⟨g,oa+k*3,none⟩) (l.length-k) c]).run Tryz.prog w1=.ok (.tuple #[]) w2 from fun ty c=>by
   have h:=HC.out ty c
   rw [show l.length-(k+2)=0 from by omega,Nat.zero_mul,Nat.add_zero] at h
   rw [show l.length-k=2 from by omega]
   exact h)
  rw [show l.length-2=k from by omega] at HF ⊢
  clear HA HC hll
  have hz:¬(k+2=k):=by omega
  have hz0:k+2-(k+2)=0:=by omega
  have hz1:l.length-(k+2)=0:=by omega
  have hkl2:k≤l.length:=by omega
  go_wp2
  go_region_law (refine step_append_runK rfl _ _ 210 210 rfl _ _ (by simp [Act.eval,Act.put]) (by simp [Act.eval,Act.put]) (HA1.out _) ?_)
  go_wp2_with (with_reducible refine wpList_clear_runK rfl (.tmp 31) 210 rfl _ rfl (HC1.out _ _) ?_)
  go_ret
  exact ⟨rfl,HF.out.1,HF.out.2⟩
 ·rw [if_neg hkc] at hoa
  subst hoa
  have hkc2:¬(cap=k+2):=fun h=>hkc h.symm
  have hkc3:k≤cap:=by omega
  have HA1:=Lib.hid (show ∀ ty,(Builtin.append_ #[210,210] ty #[.slice (some ⟨g,o,none⟩) k cap,.slice (some ⟨g,o+(k+2)*3,none⟩) (l.length-(k+2)) (cap-(k+2))]).run Tryz.prog w.drew=.ok (.slice (some ⟨g,o,none⟩) (l.length-2) cap) w1 from fun ty=>by
   have h:=HA.out ty
   rw [show k+(l.length-(k+2))=l.length-2 from by omega] at h
   exact h)
  have HC1:=Lib.hid (show ∀ ty c,(Builtin.clear_ #[210] ty #[.slice (some ⟨g,o+(l.length-2)*3,none⟩) (l.length-(l.length-2)) c]).run Tryz.prog w1=.ok (.tuple #[]) w2 from fun ty c=>by
   have h:=HC.out ty c
   rw [show k*3+(l.length-(k+2))*3=(l.length-2)*3 from by omega] at h
   rw [show l.length-(l.length-2)=2 from by omega]
   exact h)
  clear HA HC
  have hm1:¬(cap=l.length-2):=by omega
  have hm2:l.length-2≤l.length:=by omega
  have hm3:l.length-2≤cap:=by omega
  go_wp2
  go_region_law (refine step_append_runK rfl _ _ 210 210 rfl _ _ (by simp [Act.eval,Act.put]) (by simp [Act.eval,Act.put]) (HA1.out _) ?_)
  go_wp2_with (with_reducible refine wpList_clear_runK rfl (.tmp 31) 210 rfl _ rfl (HC1.out _ _) ?_)
  go_ret
  exact ⟨rfl,HF.out.1,HF.out.2⟩
theorem Own.apart {w:World} {e1 e2:TypeId} {s1 s2 n1 n2:Nat} {v1 v2:Value} {x1 x2:List Value} (h1:Own w e1 s1 v1 n1 x1) (h2:Own w e2 s2 v2 n2 x2) (hne:e1≠e2):∀ b∈blkOf v1,b∉blkOf v2:=by
 intro b hb hb2
 obtain ⟨_,⟨rfl,_⟩|⟨g,o,cap,cur,rfl,hg,_⟩⟩:=h1
 ·simp at hb
 obtain ⟨_,⟨rfl,_⟩|⟨g2,o2,cap2,cur2,rfl,hg2,_⟩⟩:=h2
 ·simp at hb2
 simp only [blkOf_some,List.mem_singleton] at hb hb2
 subst hb
 subst hb2
 rw [hg] at hg2
 simp only [Option.some.injEq,Obj.cells.injEq] at hg2
 exact hne hg2.2.1
theorem Mv.low {F F':List Nat} {w w':World} (h:Mv F w F' w') {L:Nat} (hL:L≤w.heap.size) (hF:∀ b∈F,L≤b):∀ b∈F',L≤b:=fun b hb=>by
 rcases h.fr b hb with h1|h1
 ·exact hF b h1
 ·omega
end Go.Proofs.YthoolcpcmhhkpaaGreatDoor
