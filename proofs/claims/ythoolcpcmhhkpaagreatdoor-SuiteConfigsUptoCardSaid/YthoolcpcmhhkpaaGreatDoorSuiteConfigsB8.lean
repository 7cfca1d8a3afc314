/-
  Parts of a proof, pressed. Conditions: the form's own reach.
-/
import Derived.Test.YthoolcpcmhhkpaaGreatDoorSuiteConfigsB7
import Derived.Test.YthoolcpcmhhkpaaGreatDoorSuiteConfigsB6
import Derived.Deep.RegionLaw
import Derived.Lib.Overlaps
import Derived.Lib.AppendZerosOnto
import Derived.Test.YthoolcpcmhhkpaaGreatDoorProg
import Derived.Test.YthoolcpcmhhkpaaGreatDoorSuiteConfigsB1
namespace Go.Proofs.YthoolcpcmhhkpaaGreatDoor
open Go.RowKit
theorem size_lump:(Tryz.prog.info? 213).map (·.size)=some 3:=by kernel_rfl
theorem sizeOf_lump (w:World):(Go.sizeOf 213).run Tryz.prog w=.ok 3 w:=by
 obtain ⟨i0,hi0,_,hzs,_⟩:=info_parts info_lump
 simp [sizeOf,typeInfo,hi0,hzs]
theorem copy_blkL (w:World) (g o dLen dCap:Nat) (ROW:Array Value) (hb:Blk w g ROW 213) (ad:Addr) (sLen sCap m:Nat) (cs:List Value) (hm:m=Nat.min sLen dLen) (hn:cs.length=m*3)
 (hsrc:∀ j v,cs[j]? = some v→w.cell? (ad.add j)=some v) (hfit:o+cs.length≤ROW.size) (h1:∀ v∈cs,v.oneCell'=true) :
 ∃ w',(∀ ty,(Builtin.copy_ #[210,210] ty #[.slice (some ⟨g,o,none⟩) dLen dCap,.slice (some ad) sLen sCap]).run Tryz.prog w=.ok (goInt m) w') ∧
   Blk w' g (ROW.toList.take o++cs++ROW.toList.drop (o+cs.length)).toArray 213∧Chg [g] w w':=by
 subst hm
 refine ⟨_,fun ty=>run_copy_rowK w 210 210 ty 213 3 g o dLen dCap ad sLen sCap ROW 213 cs under_lumps size_lump hb hn hsrc hfit h1,?_,?_⟩
 ·exact setRow_heap w g ROW _ _ _ hb
 ·exact (Chg.refl [g] w).setRow (.inl (by simp)) _
theorem app_zerosL (w:World) (g o cap n k at_:Nat) (l:List Lp) (hn:n=l.length) (hat:at_≤n) (hr:∀ j,j<n*3→w.cell? ⟨g,o+j,none⟩=(lpCells l)[j]?) (hk:at_+k=n+1) (hnc:n≤cap) (hc:cap<n+1) (hl:n≤100000) :
 ∃ (G:Nat) (ROW:Array Value) (w':World),(∀ ty x,x=(k:Int)→(Builtin.append_ #[210,3] ty #[.slice (some ⟨g,o,none⟩) at_ cap,.int .i64 x]).run Tryz.prog w=.ok (.slice (some ⟨w.heap.size,0,none⟩) (n+1) G) w') ∧
   Blk w' w.heap.size ROW 213∧ROW.toList.take (at_*3)=lpCells (l.take at_)∧ROW.size=G*3∧n+1≤G∧G≤maxLen∧Chg [] w w':=by
 obtain ⟨i0,hi0,hz0,hzs,hzb⟩:=info_parts info_lump
 have htl:lpCells (l.take at_)=(lpCells l).take (at_*3):=by
  have e:lpCells l=lpCells (l.take at_)++lpCells (l.drop at_):=by rw [←lpCells_append,List.take_append_drop]
  have hlen:(lpCells (l.take at_)).length=at_*3:=by rw [lpCells_len,List.length_take,←hn,Nat.min_eq_left hat]
  rw [e,←hlen,List.take_left]
 have hold:(Builtin.firstCells i0.size at_ (.slice (some ⟨g,o,none⟩) at_ cap)).run Tryz.prog w.drew=.ok (lpCells (l.take at_)).toArray w.drew:=by
  rw [hzs]
  exact run_firstCells_some w.drew 3 at_ ⟨g,o,none⟩ at_ cap _ (by rw [lpCells_len,List.length_take,←hn,Nat.min_eq_left hat]) (fun j v hj=>by
   rw [htl,List.getElem?_take] at hj
   split at hj
   ·next hjl =>
    have h2:at_*3≤n*3:=Nat.mul_le_mul_right 3 hat
    have:=hr j (by omega)
    rw [Addr.add_lit]
    exact this.trans hj
   ·simp at hj)
 have hu3:Tryz.prog.underlying 3=some (.int .i64):=by kernel_rfl
 have hrz:=fun ty=>Lib.run_append_grow_zeros w 210 3 ty 213 i0 _ .i64 .i64 under_lumps hu3 hi0 hz0 (some ⟨g,o,none⟩) at_ cap _ hold k (by omega) (by omega) (by omega) (by omega) (by rw [hzb];omega) (by rw [hzb,hk];exact growslice_fits hc (by omega))
 rw [hk] at hrz
 have hG1:=grownCap_ge w (n+1) cap 213
 have hG2:=grownCap_le_maxLen w (n+1) cap 213 (by unfold maxLen;omega)
 refine ⟨grownCap w (n+1) cap 213,_,_,fun ty x hx=>by subst hx;exact hrz ty,Blk.alloc_new w.drew _ _,?_,?_,hG1,hG2,(Chg.drew (Chg.refl [] w)).alloc _⟩
 ·have hlen:(lpCells (l.take at_)).length=at_*3:=by rw [lpCells_len,List.length_take,←hn,Nat.min_eq_left hat]
  simp only [Array.toList_append,List.append_assoc]
  rw [←hlen]
  exact List.take_left
 ·have hlen:(lpCells (l.take at_)).length=at_*3:=by rw [lpCells_len,List.length_take,←hn,Nat.min_eq_left hat]
  have hz:(Value.agg #[.int .u64 0,.int .i64 0,.int .i64 0]).cells.size=3:=rfl
  simp only [Array.size_append,List.size_toArray,size_zeroCells,hz,hlen]
  omega
set_option maxRecDepth 100000 in
set_option maxHeartbeats 1000000 in
theorem insert_lump (w:World) (ao:Option Addr) (cap:Nat) (l:List Lp) (at_:Nat) (hat:at_≤l.length) (p:Lp) (vb:Nat) (hl:l.length≤100000)
 (ho:Own w 213 3 (.slice ao l.length cap) l.length (lpCells l)) (hv:Blk w vb #[.int .u64 p.n,.int .i64 p.lo,.int .i64 p.hi] 213) (hvb:vb∉abl ao) :
 Calls Tryz.prog 224 #[.slice ao l.length cap,.int .i64 at_,.slice (some ⟨vb,0,none⟩) 1 1] w fun e w'=>∃ a3 c3,e=.returned (.slice a3 (l.length+1) c3) ∧
  Own w' 213 3 (.slice a3 (l.length+1) c3) (l.length+1) (lpCells (l.take at_++[p]++l.drop at_))∧Chg (abl ao) w w'∧∀ b∈abl a3,b∈abl ao∨w.heap.size≤b:=by
 have hvr:Rd w 3 (.slice (some ⟨vb,0,none⟩) 1 1) 1 (lpCells [p]):=⟨rfl,_,_,rfl,.inr ⟨_,_,rfl,fun j hj=>by
  rw [Nat.zero_add,hv.cell j]
  simp [lpCells,Lp.cells]⟩⟩
 go_enter Tryz.func224,Tryz.ntmps224
 have hb1:((at_:Nat):Int)≤(l.length:Int):=by omega
 have hb0:(0:Int)≤((at_:Nat):Int):=by omega
 obtain ⟨hlen,⟨hv0,h0⟩|⟨g,o,cp,cur,hv1,hg,hnc,hm,hsz,hxs⟩⟩:=id ho
 ·obtain rfl:l=[]:=List.eq_nil_of_length_eq_zero h0
  obtain rfl:at_=0:=by simpa using hat
  simp only [Value.slice.injEq] at hv0
  obtain ⟨rfl,_,rfl⟩:=hv0
  have ho':Own w 213 3 (.slice none 0 0) 0 (lpCells []):=ho
  clear ho hlen
  go_wp2_with (at_builtin;go_must (refine wpList_append_src _ rfl (.tmp 23) (.tmp 24) 210 210 rfl 213 _ 3 24 under_lumps info_lump rfl (by decide) (.slice none 0 0) 0 (lpCells []) rfl ho' (.slice (some ⟨vb,0,none⟩) 1 1) 1 (lpCells [p]) rfl (Src.of_rd under_lumps hvr) (lpCells_oneCell _) (by decide) (by decide) ?_;intro a3 c3 w7 ho7 hg7 hf7))
  go_ret
  exact ⟨a3,c3,rfl,by simpa [lpCells] using ho7,by simpa using hg7,by simpa using hf7⟩
 ·simp only [Value.slice.injEq,true_and] at hv1
  obtain ⟨rfl,rfl⟩:=hv1
  by_cases hend:at_=l.length
  ·subst hend
   have hsame:lpCells (l.take l.length++[p]++l.drop l.length)=lpCells l++lpCells [p]:=by rw [List.take_length,List.drop_length,List.append_nil,lpCells_append]
   rw [hsame]
   clear hsame
   have HH:=Lib.hid (And.intro hg (And.intro hxs hsz))
   clear hg hxs hsz hlen
   by_cases hcl:cap=l.length
   ·have hcl2:=hcl
    go_wp2_with (at_builtin;go_must (refine wpList_append_src _ rfl (.tmp 23) (.tmp 24) 210 210 rfl 213 _ 3 24 under_lumps info_lump rfl (by decide) (.slice (some ⟨g,o,none⟩) l.length cap) l.length (lpCells l) rfl ho (.slice (some ⟨vb,0,none⟩) 1 1) 1 (lpCells [p]) rfl (Src.of_rd under_lumps hvr) (lpCells_oneCell _) (by unfold maxLen;omega) (by omega) ?_;intro a3 c3 w7 ho7 hg7 hf7))
    go_ret
    exact ⟨a3,c3,rfl,ho7,by simpa using hg7,by simpa using hf7⟩
   ·go_wp2_with (at_builtin;go_must (refine wpList_append_src _ rfl (.tmp 23) (.tmp 24) 210 210 rfl 213 _ 3 24 under_lumps info_lump rfl (by decide) (.slice (some ⟨g,o,none⟩) l.length cap) l.length (lpCells l) rfl ho (.slice (some ⟨vb,0,none⟩) 1 1) 1 (lpCells [p]) rfl (Src.of_rd under_lumps hvr) (lpCells_oneCell _) (by unfold maxLen;omega) (by omega) ?_;intro a3 c3 w7 ho7 hg7 hf7))
    go_ret
    exact ⟨a3,c3,rfl,ho7,by simpa using hg7,by simpa using hf7⟩
  ·have hlt:at_<l.length:=by omega
   have hvs:w.shape? vb=some (213,3):=by
    have h:=hv
    simp only [Blk] at h
    simp [World.shape?,h]
   have hgs:w.shape? g=some (213,cur.size):=by simp [World.shape?,hg]
   have hvg:vb≠g:=fun h=>hvb (by simp [h])
   have hov:∀ off lb cb,(callFunc 263 #[.slice (some ⟨vb,0,none⟩) 1 1,.slice (some ⟨g,off,none⟩) lb cb]).run Tryz.prog w=.ok (.value (.bool false)) w:=fun off lb cb=>by
    rw [run_callFunc_extern Tryz.func263 (by kernel_rfl) (by kernel_rfl) (by kernel_rfl) (e:=Extern.SlicesOverlaps.overlaps #[210,210] #[4]) (by kernel_rfl),
     Lib.run_overlaps_apart w 210 4 213 under_lumps 3 sizeOf_lump ⟨vb,0,none⟩ ⟨g,off,none⟩ 1 1 lb cb hvg 213 213 3 cur.size hvs hgs (by omega) (hv.free 0) (hv.free 3)]
    rfl
   have hne:(at_:Int)≠(l.length:Int):=by omega
   have hsplit:lpCells l=lpCells (l.take at_)++lpCells (l.drop at_):=by rw [←lpCells_append,List.take_append_drop]
   have hA:(lpCells (l.take at_)).length=at_*3:=by rw [lpCells_len,List.length_take,Nat.min_eq_left hat]
   have hB:(lpCells (l.drop at_)).length=(l.length-at_)*3:=by rw [lpCells_len,List.length_drop]
   have hw1:IntKind.i64.wrap ((at_:Int)+1)=(at_:Int)+1:=by rw [IntKind.wrap_i64];omega
   have htn:((at_:Int)+1).toNat=at_+1:=by omega
   have hp1:(0:Int)≤(at_:Int)+1:=by omega
   have hp2:(at_:Int)≤(l.length:Int)+1:=by omega
   have hbk:Blk w g cur 213:=hg
   have hcell0:∀ j,j<l.length*3→w.cell? ⟨g,o+j,none⟩=(lpCells l)[j]?:=fun j hj=>by
    rw [hbk.cell (o+j),←hxs,List.getElem?_take,if_pos hj,List.getElem?_drop,Array.getElem?_toList]
   by_cases hroom:cap<l.length+1
   ·have hd:decide ((cap:Int)<(l.length:Int)+1)=true:=decide_eq_true (by omega)
    obtain ⟨G,ROW,w1,hrz,hb1',hR1,hR2,hG1,hG2,hch1⟩:=app_zerosL w g o cap l.length (l.length+1-at_) at_ l rfl hat hcell0 (by omega) hnc hroom hl
    have hsub:(l.length:Int)+1-(at_:Int)=((l.length+1-at_:Nat):Int):=by omega
    have hc1:¬(cap=at_):=by omega
    have hc2:¬(G=at_):=by omega
    have hc3:¬(G=at_+1):=by omega
    clear hov hvs hgs
    have hgl:=hbk.lt
    have hvl:=hv.lt
    have hv1:=Blk.chg hv hch1 (by simp)
    have hpv:∀ j v,(lpCells [p])[j]? = some v→w1.cell? ((⟨vb,0,none⟩:Addr).add j)=some v:=fun j v hj=>by
     rw [Addr.add_lit,Nat.zero_add,hv1.cell j,←hj]
     simp [lpCells,Lp.cells]
    have hRl:ROW.toList.length=G*3:=by simpa using hR2
    have hR:=grow_rows 3 ROW.toList (lpCells (l.take at_)) (lpCells (l.drop at_)) (lpCells [p]) (at_*3) ((l.length-at_)*3) hA hB rfl hR1 (by omega)
    obtain ⟨w2,hcp1,hb2,hch2⟩:=copy_blkL w1 w.heap.size (at_*3) (l.length+1-at_) (G-at_) ROW hb1' ⟨vb,0,none⟩ 1 1 1 (lpCells [p]) (by show _=min _ _;omega) rfl hpv (by show _+3≤_;omega) (lpCells_oneCell _)
    obtain ⟨hRa,hRb,hRc⟩:=hR
    rw [show (lpCells [p]).length=3 from rfl] at hb2
    generalize (ROW.toList.take (at_*3)++lpCells [p]++ROW.toList.drop (at_*3+3))=R2 at *
    have hch02:Chg [] w w2:=hch1.trans' hch2 (by simp)
    have hbk2:=Blk.chg hbk hch02 (by simp)
    have hcell:∀ j v,(lpCells (l.drop at_))[j]? = some v→w2.drew.cell? ((⟨g,o+at_*3,none⟩:Addr).add j)=some v:=fun j v hj=>by
     have hjl:j<(lpCells (l.drop at_)).length:=(List.getElem?_eq_some_iff.1 hj).1
     have h1:(lpCells l)[at_*3+j]? = some v:=by
      rw [hsplit,List.getElem?_append_right (by omega),hA,Nat.add_sub_cancel_left]
      exact hj
     rw [←hxs,List.getElem?_take,if_pos (by omega),List.getElem?_drop] at h1
     rw [Addr.add_lit]
     have h3:=hbk2.cell (o+at_*3+j)
     rw [←Array.getElem?_toList,Nat.add_assoc] at h3
     show w2.cell? _=_
     rw [Nat.add_assoc,h3]
     exact h1
    obtain ⟨w3,hcp2,hb3,hch3⟩:=copy_blkL w2.drew w.heap.size ((at_+1)*3) (l.length-at_) (G-(at_+1)) R2.toArray hb2 ⟨g,o+at_*3,none⟩ (l.length-at_) (cap-at_) (l.length-at_) (lpCells (l.drop at_)) (by show _=min _ _;omega) hB hcell (by have h9:R2.toArray.size=R2.length:=List.size_toArray;omega) (lpCells_oneCell _)
    have hch:Chg [] w w3:=hch02.drew.trans' hch3 (by simp)
    rw [show (at_+1)*3=at_*3+3 from by omega,hB] at hb3
    have hfin:Own w3 213 3 (.slice (some ⟨w.heap.size,0,none⟩) (l.length+1) G) (l.length+1) (lpCells (l.take at_++[p]++l.drop at_)):=by
     refine ⟨by rw [lpCells_len];simp;omega,.inr ⟨w.heap.size,0,G,_,rfl,hb3,by omega,hG2,?_,?_⟩⟩
     ·simp only [List.size_toArray]
      rw [hRb,hRl]
      omega
     ·simp only [List.drop_zero]
      rw [lpCells_append,lpCells_append,←hRc]
      congr 1
      omega
    have HF:=Lib.hid (And.intro hfin hch)
    have HZ:=Lib.hid hrz
    clear hfin hch hb3 hRa hRb hRc hb2 hsplit hA hB hcell hpv hxs hg hcell0 hR1 hR2 hb1' hbk2 hbk hrz
    go_wp2_with (first
     | (at_builtin;go_must (refine wpList_append_runK rfl _ _ 210 3 rfl _ _ rfl rfl (HZ.out _ _ rfl) ?_))
     | (at_builtin;go_must (refine wpList_copy_rowK rfl _ _ 210 210 rfl _ _ rfl rfl (hcp1 _) ?_)))
    go_region_law (refine step_copy_rowK rfl _ _ 210 210 rfl _ _ (by simp [Act.eval,Act.put]) (by simp [Act.eval,Act.put]) (hcp2 _) ?_)
    go_wp2
    go_ret
    exact ⟨_,_,rfl,HF.out.1,by simpa using HF.out.2.nil,fun b hb=>.inr (by simp at hb;omega)⟩
   ·have hd:decide ((cap:Int)<(l.length:Int)+1)=false:=decide_eq_false (by omega)
    have hc1:¬(cap=at_):=by omega
    have hc2:¬(cap=at_+1):=by omega
    go_wp2_with (simp only [hov])
    have hcell:∀ j v,(lpCells (l.drop at_))[j]? = some v→w.drew.cell? ((⟨g,o+at_*3,none⟩:Addr).add j)=some v:=fun j v hj=>by
     have hjl:j<(lpCells (l.drop at_)).length:=(List.getElem?_eq_some_iff.1 hj).1
     have h1:(lpCells l)[at_*3+j]? = some v:=by
      rw [hsplit,List.getElem?_append_right (by omega),hA,Nat.add_sub_cancel_left]
      exact hj
     rw [←hxs,List.getElem?_take,if_pos (by omega),List.getElem?_drop] at h1
     rw [Addr.add_lit]
     have h2:Blk w g cur 213:=hg
     have h3:=h2.cell (o+at_*3+j)
     rw [←Array.getElem?_toList,Nat.add_assoc] at h3
     show w.cell? _=_
     rw [Nat.add_assoc,h3]
     exact h1
    obtain ⟨w2,hcp1,hb2,hch2⟩:=copy_blkL w.drew g (o+(at_+1)*3) (l.length-at_) (cap-(at_+1)) cur hg ⟨g,o+at_*3,none⟩ (l.length+1-at_) (cap-at_) (l.length-at_) (lpCells (l.drop at_)) (by show _=min _ _;omega) hB hcell (by omega) (lpCells_oneCell _)
    go_region_law (refine step_copy_rowK rfl _ _ 210 210 rfl _ _ (by simp [Act.eval,Act.put]) (by simp [Act.eval,Act.put]) (hcp1 _) ?_)
    have hR:=shift_rows 3 cur.toList (lpCells (l.take at_)) (lpCells (l.drop at_)) (lpCells [p]) o (at_*3) ((l.length-at_)*3) (cap*3) hA hB rfl (by rw [←hsplit,←hxs];congr 1;omega) (by rw [Array.length_toList];exact hsz) (by omega)
    rw [show (at_+1)*3=at_*3+3 from by omega,hB] at hb2
    obtain ⟨hR2,hR3,hRX⟩:=hR
    generalize (cur.toList.take (o+(at_*3+3))++lpCells (l.drop at_)++cur.toList.drop (o+(at_*3+3)+(l.length-at_)*3))=R2 at *
    have hv2:=Blk.chg (Blk.drew hv) hch2 (by simpa using hvg)
    have hpv:∀ j v,(lpCells [p])[j]? = some v→w2.cell? ((⟨vb,0,none⟩:Addr).add j)=some v:=fun j v hj=>by
     rw [Addr.add_lit,Nat.zero_add,hv2.cell j,←hj]
     simp [lpCells,Lp.cells]
    obtain ⟨w3,hcp2,hb3,hch3⟩:=copy_blkL w2 g (o+at_*3) (l.length+1-at_) (cap-at_) R2.toArray hb2 ⟨vb,0,none⟩ 1 1 1 (lpCells [p]) (by show _=min _ _;omega) rfl hpv (by simp only [List.size_toArray,hR2,Array.length_toList];show _+3≤_;omega) (lpCells_oneCell _)
    have hch:Chg [g] w w3:=((Chg.drew (Chg.refl [g] w)).trans hch2).trans hch3
    have hfin:Own w3 213 3 (.slice (some ⟨g,o,none⟩) (l.length+1) cap) (l.length+1) (lpCells (l.take at_++[p]++l.drop at_)):=by
     refine ⟨by rw [lpCells_len];simp;omega,.inr ⟨g,o,cap,_,rfl,hb3,by omega,hm,?_,?_⟩⟩
     ·simp only [List.size_toArray]
      show _≤(R2.take (o+at_*3)++lpCells [p]++R2.drop (o+at_*3+3)).length
      rw [hR3,Array.length_toList]
      exact hsz
     ·show (List.drop o (R2.take (o+at_*3)++lpCells [p]++R2.drop (o+at_*3+3))).take _=_
      rw [lpCells_append,lpCells_append,←hRX]
      congr 1
      omega
    have HF:=Lib.hid (And.intro hfin hch)
    clear hfin hch hb3 hcp1 hR3 hRX hR2 hb2 hsplit hA hB hcell hpv hxs hg hgs hvs hov
    go_wp2_with (at_builtin;go_must (refine wpList_copy_rowK rfl _ _ 210 210 rfl _ _ rfl rfl (hcp2 _) ?_))
    go_ret
    exact ⟨_,_,rfl,HF.out.1,by simpa using HF.out.2,fun b hb=>.inl hb⟩
end Go.Proofs.YthoolcpcmhhkpaaGreatDoor
namespace Go.Proofs.YthoolcpcmhhkpaaGreatDoor
structure Tp where
 x:Int
 st:Nat
 sl:Nat
structure Sp where
 x:Int
 lo:Nat
 hi:Nat
instance:Inhabited Tp:=⟨⟨0,0,0⟩⟩
instance:Inhabited Sp:=⟨⟨0,0,0⟩⟩
def spF:Nat→List Tp→List Sp
 | _,[]=>[]
 | n,p::r=>⟨p.x,n+p.st,n+p.st+p.sl⟩::spF (n+p.st) r
def tot (row:List Tp):Nat:=(row.map Tp.st).sum
theorem tot_cons (p:Tp) (r:List Tp):tot (p::r)=p.st+tot r:=by simp [tot]
theorem tot_app (a b:List Tp):tot (a++b)=tot a+tot b:=by simp [tot]
theorem spF_app (n:Nat) (a b:List Tp):spF n (a++b)=spF n a++spF (n+tot a) b:=by
 induction a generalizing n with
 | nil=>simp [spF,tot]
 | cons p a ih =>
   rw [List.cons_append,spF,ih,spF,tot_cons,List.cons_append]
   simp only [Nat.add_assoc]
theorem spF_len (n:Nat) (a:List Tp):(spF n a).length=a.length:=by
 induction a generalizing n with
 | nil=>rfl
 | cons p a ih=>simp [spF,ih]
def totS (l:List Sp):Nat:=match l.getLast? with
 | some s=>s.lo
 | none=>0
theorem totS_spF (n:Nat) (a:List Tp) (h:a≠[]):totS (spF n a)=n+tot a:=by
 induction a generalizing n with
 | nil=>exact absurd rfl h
 | cons p a ih =>
   cases a with
   | nil=>simp [spF,totS,tot]
   | cons q a =>
     have:=ih (n+p.st) (by simp)
     rw [spF,tot_cons,←Nat.add_assoc,←this]
     simp [totS,spF]
theorem totS_spF0 (a:List Tp):totS (spF 0 a)=tot a:=by
 cases a with
 | nil=>rfl
 | cons p a=>rw [totS_spF 0 _ (by simp),Nat.zero_add]
def insT (row:List Tp) (x:Int) (k:Nat):List Tp:=
 row.take k++[⟨x,1,if 0<k∧k<row.length then (row.getD k default).st+(row.getD k default).sl-1 else 0⟩]++row.drop k
def moveUp (l:List Sp):List Sp:=l.map fun s=>⟨s.x,s.lo+1,s.hi+1⟩
def insS (l:List Sp) (x:Int) (k:Nat):List Sp:=
 l.take k++[⟨x,if k=l.length then totS l+1 else if 0<k then (l.getD (k-1) default).lo+1 else 1,
  if k=l.length then totS l+1 else if 0<k then (l.getD k default).hi else 1⟩]++moveUp (l.drop k)
theorem spF_up (n:Nat) (a:List Tp):spF (n+1) a=moveUp (spF n a):=by
 induction a generalizing n with
 | nil=>rfl
 | cons p a ih =>
   have h:=ih (n+p.st)
   simp only [spF,moveUp,List.map_cons] at h ⊢
   rw [show n+1+p.st=n+p.st+1 from by omega,h]
   congr 2
   omega
theorem insert_same (row:List Tp) (x:Int) (k:Nat) (hk:k≤row.length) (hs:∀ p∈row,1≤p.st):spF 0 (insT row x k)=insS (spF 0 row) x k:=by
 have hsplit:=List.take_append_drop k row
 have hA:(row.take k).length=k:=by rw [List.length_take];omega
 have e:spF 0 row=spF 0 (row.take k)++spF (tot (row.take k)) (row.drop k):=by
  rw [←hsplit,spF_app,Nat.zero_add,hsplit]
 have hl:(spF 0 (row.take k)).length=k:=by rw [spF_len,hA]
 have h1:(spF 0 row).take k=spF 0 (row.take k):=by rw [e];exact List.take_left' hl
 have h2:(spF 0 row).drop k=spF (tot (row.take k)) (row.drop k):=by rw [e];exact List.drop_left' hl
 have hlast:0<k→((spF 0 row).getD (k-1) default).lo=tot (row.take k):=fun hk0=>by
  have:(spF 0 row).getD (k-1) default=(spF 0 (row.take k)).getD (k-1) default:=by
   rw [e]
   simp only [List.getD]
   rw [List.getElem?_append_left (by rw [hl];omega)]
  rw [this]
  have ht:=totS_spF0 (row.take k)
  rw [totS,List.getLast?_eq_getElem?,hl] at ht
  simp only [List.getD]
  have hlt:k-1<(spF 0 (row.take k)).length:=by rw [hl];omega
  rw [List.getElem?_eq_getElem hlt] at ht ⊢
  exact ht
 rw [insT,insS,h1,h2,spF_app,spF_app,Nat.zero_add,spF_len,totS_spF0,List.append_assoc,List.append_assoc]
 congr 1
 simp only [spF,List.singleton_append,List.cons.injEq]
 have hup:spF (tot (row.take k++[⟨x,1,if 0<k∧k<row.length then (row.getD k default).st+(row.getD k default).sl-1 else 0⟩])) (row.drop k)=moveUp (spF (tot (row.take k)) (row.drop k)):=by
  rw [tot_app,←spF_up]
  rfl
 refine ⟨?_,by first|exact hup|(rw [Nat.zero_add];exact hup)⟩
 by_cases hend:k=row.length
 ·rw [if_pos hend,if_pos hend,if_neg (by omega),hend,List.take_length]
 ·rw [if_neg hend,if_neg hend]
  by_cases h0:0<k
  ·rw [if_pos h0,if_pos h0,if_pos ⟨h0,by omega⟩,hlast h0]
   have hkl:k<row.length:=by omega
   have hd:row.drop k=row[k]::row.drop (k+1):=List.drop_eq_getElem_cons hkl
   have hget:(spF 0 row).getD k default=⟨row[k].x,tot (row.take k)+row[k].st,tot (row.take k)+row[k].st+row[k].sl⟩:=by
    rw [e,hd]
    simp only [List.getD,spF]
    rw [List.getElem?_append_right (by rw [hl];exact Nat.le_refl _),hl,Nat.sub_self]
    rfl
   have hg:row.getD k default=row[k]:=by simp [List.getD,hkl]
   have hst:=hs row[k] (List.getElem_mem _)
   rw [hget,hg]
   simp only [Sp.mk.injEq,true_and]
   omega
  ·have hk0:k=0:=by omega
   subst hk0
   rw [if_neg (by omega),if_neg (by omega),if_neg (by omega)]
   rfl
def sqStep (m i:Nat) (row:List Tp):List Tp:=
 if (row.getD i default).st+(row.getD (i+1) default).st+(row.getD (i+1) default).sl≤m then
  row.take i++[⟨(row.getD (i+1) default).x,(row.getD (i+1) default).st+(row.getD i default).st,(row.getD (i+1) default).sl⟩]++row.drop (i+2)
 else row
def sqTo (m:Nat):Nat→List Tp→List Tp
 | 0,row=>row
 | i+1,row=>sqTo m i (sqStep m (i+1) row)
def sqT (m:Nat) (row:List Tp):List Tp:=sqTo m (row.length-2) row
def sqStepS (m i:Nat) (l:List Sp):List Sp:=
 if (l.getD (i+1) default).hi-(l.getD (i-1) default).lo≤m then l.take i++l.drop (i+1) else l
def sqToS (m:Nat):Nat→List Sp→List Sp
 | 0,l=>l
 | i+1,l=>sqToS m i (sqStepS m (i+1) l)
def sqS (m:Nat) (l:List Sp):List Sp:=sqToS m (l.length-2) l
theorem step_parts (row:List Tp) (i:Nat) (h0:0<i) (h:i+1<row.length) :
 ∃ A o p q B,row=A++o::p::q::B∧A.length+1=i:=by
 have e1:=List.take_append_drop (i-1) row
 have hl:(row.drop (i-1)).length=row.length-(i-1):=List.length_drop
 match hd:row.drop (i-1),hl with
 | o::p::q::B,_=>exact ⟨row.take (i-1),o,p,q,B,by rw [hd] at e1;exact e1.symm,by rw [List.length_take];omega⟩
 | [],hl=>simp at hl;omega
 | [_],hl=>simp at hl;omega
 | [_,_],hl=>simp at hl;omega
theorem step_same (m:Nat) (row:List Tp) (i:Nat) (h0:0<i) (h:i+1<row.length):spF 0 (sqStep m i row)=sqStepS m i (spF 0 row):=by
 obtain ⟨A,o,p,q,B,rfl,hA⟩:=step_parts row i h0 h
 obtain rfl:i=A.length+1:=hA.symm
 have g1:(A++o::p::q::B).getD (A.length+1) default=p:=by
  simp [List.getD]
 have g2:(A++o::p::q::B).getD (A.length+1+1) default=q:=by
  simp only [List.getD]
  rw [List.getElem?_append_right (by omega),show A.length+1+1-A.length=2 from by omega]
  rfl
 have t1:(A++o::p::q::B).take (A.length+1)=A++[o]:=by
  rw [List.take_length_add_append]
  rfl
 have t2:(A++o::p::q::B).drop (A.length+1+2)=B:=by
  rw [Nat.add_assoc,List.drop_length_add_append]
  rfl
 have hs:spF 0 (A++o::p::q::B)=spF 0 A++spF (tot A) (o::p::q::B):=by rw [spF_app,Nat.zero_add]
 have hlA:=spF_len 0 A
 have s1:((spF 0 (A++o::p::q::B)).getD (A.length+1+1) default)=⟨q.x,tot A+o.st+p.st+q.st,tot A+o.st+p.st+q.st+q.sl⟩:=by
  rw [hs]
  simp only [List.getD,spF]
  rw [List.getElem?_append_right (by omega),hlA,show A.length+1+1-A.length=2 from by omega]
  rfl
 have s2:((spF 0 (A++o::p::q::B)).getD (A.length+1-1) default)=⟨o.x,tot A+o.st,tot A+o.st+o.sl⟩:=by
  rw [hs]
  simp only [List.getD,spF]
  rw [List.getElem?_append_right (by omega),hlA,show A.length+1-1-A.length=0 from by omega]
  rfl
 rw [sqStep,sqStepS,g1,g2,t1,t2,s1,s2]
 simp only
 by_cases hle:p.st+q.st+q.sl≤m
 ·rw [if_pos hle,if_pos (by omega)]
  rw [List.append_assoc,List.append_assoc,spF_app,Nat.zero_add,hs]
  have u1:(spF 0 A++spF (tot A) (o::p::q::B)).take (A.length+1)=spF 0 A++[⟨o.x,tot A+o.st,tot A+o.st+o.sl⟩]:=by
   rw [←hlA,List.take_length_add_append]
   rfl
  have u2:(spF 0 A++spF (tot A) (o::p::q::B)).drop (A.length+1+1)=spF (tot A+o.st+p.st) (q::B):=by
   rw [←hlA,Nat.add_assoc,List.drop_length_add_append]
   rfl
  rw [u1,u2,List.append_assoc]
  congr 1
  simp only [spF,List.cons_append,List.cons.injEq,true_and,Sp.mk.injEq,List.nil_append]
  have e:tot A+o.st+(q.st+p.st)=tot A+o.st+p.st+q.st:=by omega
  rw [e]
  exact ⟨⟨rfl,rfl⟩,rfl⟩
 ·rw [if_neg hle,if_neg (by omega)]
theorem sqStep_len (m i:Nat) (row:List Tp) (h:i+1<row.length):(sqStep m i row).length=row.length∨(sqStep m i row).length+1=row.length:=by
 unfold sqStep
 split
 ·right
  simp
  omega
 ·exact .inl rfl
theorem sqTo_same (m:Nat) (i:Nat):∀ row:List Tp,(0<i→i+1<row.length)→spF 0 (sqTo m i row)=sqToS m i (spF 0 row):=by
 induction i with
 | zero=>intro row _;rfl
 | succ i ih =>
   intro row h
   have h1:=h (by omega)
   rw [sqTo,sqToS,←step_same m row (i+1) (by omega) h1]
   refine ih _ (fun hi => ?_)
   rcases sqStep_len m (i+1) row h1 with h2|h2<;>omega
theorem squeeze_same (m:Nat) (row:List Tp):spF 0 (sqT m row)=sqS m (spF 0 row):=by
 rw [sqT,sqS,spF_len]
 exact sqTo_same m _ row (fun h=>by omega)
structure FineT (row:List Tp) (n:Nat):Prop where
 total:tot row=n
 pos:∀ p∈row,1≤p.st
 first:∀ p,row.head? = some p→p.st=1∧p.sl=0
 high:∀ s∈spF 0 row,s.hi≤n
 up:row.Pairwise fun a b=>a.x≤b.x
theorem FineT.nil:FineT [] 0:=⟨rfl,by simp,by simp,by simp [spF],List.Pairwise.nil⟩
theorem FineT.insert {row:List Tp} {n:Nat} (h:FineT row n) (x:Int) (k:Nat) (hk:k≤row.length) (hlo:∀ p∈row.take k,p.x≤x) (hhi:∀ p∈row.drop k,x<p.x):FineT (insT row x k) (n+1):=by
 have hsplit:=List.take_append_drop k row
 refine ⟨?_,?_,?_,?_,?_⟩
 ·have ht:=h.total
  rw [←hsplit,tot_app] at ht
  rw [insT,tot_app,tot_app]
  have:∀ s,tot [⟨x,1,s⟩]=1:=fun s=>rfl
  rw [this]
  omega
 ·intro p hp
  rw [insT] at hp
  simp only [List.mem_append,List.mem_singleton] at hp
  rcases hp with (hp|hp)|hp
  ·exact h.pos p (List.mem_of_mem_take hp)
  ·subst hp;simp
  ·exact h.pos p (List.mem_of_mem_drop hp)
 ·intro p hp
  by_cases h0:k=0
  ·subst h0
   rw [insT] at hp
   simp only [List.take_zero,List.nil_append,List.singleton_append,List.head?_cons,Option.some.injEq] at hp
   subst hp
   simp
  ·have hA:row.take k≠[]:=by
    intro he
    have:=congrArg List.length he
    rw [List.length_take,List.length_nil] at this
    cases row with
    | nil=>simp at hk;omega
    | cons a r=>simp at this;omega
   refine h.first p ?_
   rw [insT,List.append_assoc] at hp
   rw [←hsplit]
   cases hc:row.take k with
   | nil=>exact absurd hc hA
   | cons a A =>
     rw [hc] at hp
     simpa using hp
 ·intro s hs
  rw [insert_same row x k hk h.pos,insS] at hs
  simp only [List.mem_append,List.mem_singleton] at hs
  rcases hs with (hs|hs)|hs
  ·have:=h.high s (List.mem_of_mem_take hs);omega
  ·subst hs
   simp only
   rw [totS_spF0,h.total]
   split
   ·exact Nat.le_refl _
   ·next hne =>
    split
    ·rw [spF_len] at hne
     have hlt:k<(spF 0 row).length:=by rw [spF_len];omega
     have hm:(spF 0 row).getD k default∈spF 0 row:=by
      simp only [List.getD,List.getElem?_eq_getElem hlt,Option.getD_some]
      exact List.getElem_mem _
     have:=h.high _ hm
     omega
    ·omega
  ·simp only [moveUp,List.mem_map] at hs
   obtain ⟨s0,hs0,rfl⟩:=hs
   have:=h.high s0 (List.mem_of_mem_drop hs0)
   simp only
   omega
 ·have hu:=h.up
  rw [←hsplit,List.pairwise_append] at hu
  obtain ⟨u1,u2,u3⟩:=hu
  rw [insT,List.append_assoc,List.pairwise_append]
  refine ⟨u1,?_,?_⟩
  ·rw [List.singleton_append,List.pairwise_cons]
   exact ⟨fun p hp=>by have:=hhi p hp;simp only;omega,u2⟩
  ·intro p hp q hq
   rw [List.singleton_append] at hq
   rcases List.mem_cons.1 hq with rfl|hq
   ·exact hlo p hp
   ·exact u3 p hp q hq
theorem FineT.step {row:List Tp} {n:Nat} (h:FineT row n) (m i:Nat) (h0:0<i) (hi:i+1<row.length):FineT (sqStep m i row) n:=by
 have hsame:=step_same m row i h0 hi
 obtain ⟨A,o,p,q,B,rfl,hA⟩:=step_parts row i h0 hi
 by_cases hle:((A++o::p::q::B).getD i default).st+((A++o::p::q::B).getD (i+1) default).st+((A++o::p::q::B).getD (i+1) default).sl≤m
 ·have g1:(A++o::p::q::B).getD i default=p:=by
   subst hA
   simp [List.getD]
  have g2:(A++o::p::q::B).getD (i+1) default=q:=by
   subst hA
   simp only [List.getD]
   rw [List.getElem?_append_right (by omega),show A.length+1+1-A.length=2 from by omega]
   rfl
  have e:sqStep m i (A++o::p::q::B)=A++o::⟨q.x,q.st+p.st,q.sl⟩::B:=by
   rw [sqStep,if_pos hle,g1,g2]
   subst hA
   rw [List.take_length_add_append,Nat.add_assoc,List.drop_length_add_append]
   simp
  have hp:=h.pos p (by simp)
  refine ⟨?_,?_,?_,?_,?_⟩
  ·have:=h.total
   rw [e]
   simp only [tot_app,tot_cons] at this ⊢
   omega
  ·intro r hr
   rw [e] at hr
   simp only [List.mem_append,List.mem_cons] at hr
   rcases hr with hr|hr|hr|hr
   ·exact h.pos r (by simp [hr])
   ·exact h.pos r (by simp [hr])
   ·subst hr;simp only;omega
   ·exact h.pos r (by simp [hr])
  ·intro r hr
   refine h.first r ?_
   rw [e] at hr
   cases A with
   | nil=>simpa using hr
   | cons a A=>simpa using hr
  ·intro s hs
   rw [hsame,sqStepS] at hs
   refine h.high s ?_
   split at hs
   ·rcases List.mem_append.1 hs with hs|hs
    ·exact List.mem_of_mem_take hs
    ·exact List.mem_of_mem_drop hs
   ·exact hs
  ·have hu:=h.up
   rw [e]
   rw [List.pairwise_append] at hu ⊢
   obtain ⟨u1,u2,u3⟩:=hu
   simp only [List.pairwise_cons,List.mem_cons,forall_eq_or_imp] at u2 u3 ⊢
   obtain ⟨⟨a1,a2,a3⟩,⟨b1,b2⟩,c1,c2⟩:=u2
   exact ⟨u1,⟨⟨a2,a3⟩,c1,c2⟩,fun r hr=>⟨(u3 r hr).1,(u3 r hr).2.2.1,(u3 r hr).2.2.2⟩⟩
 ·rw [sqStep,if_neg hle]
  exact h
theorem FineT.squeeze {row:List Tp} {n:Nat} (h:FineT row n) (m:Nat):FineT (sqT m row) n:=by
 have gen:∀ (i:Nat) (row:List Tp),FineT row n→(0<i→i+1<row.length)→FineT (sqTo m i row) n:=by
  intro i
  induction i with
  | zero=>intro row h _;exact h
  | succ i ih =>
    intro row h hi
    have h1:=hi (by omega)
    refine ih _ (h.step m (i+1) (by omega) h1) (fun h2 => ?_)
    rcases sqStep_len m (i+1) row h1 with h3|h3<;>omega
 exact gen _ row h (fun _=>by omega)
end Go.Proofs.YthoolcpcmhhkpaaGreatDoor
namespace Go.Proofs.YthoolcpcmhhkpaaGreatDoor
open Go.RowKit
def Tp.cells (p:Tp):List Value:=[.int .i64 p.x,.int .u64 p.st,.int .u64 p.sl]
def Tp.ok (p:Tp):Prop:=-9223372036854775808≤p.x∧p.x<9223372036854775808∧p.st<18446744073709551616∧p.sl<18446744073709551616
def tpCells (l:List Tp):List Value:=(l.map Tp.cells).flatten
theorem tpCells_len (l:List Tp):(tpCells l).length=l.length*3:=by
 induction l with
 | nil=>rfl
 | cons a r ih=>simp only [tpCells,List.map_cons,List.flatten_cons,List.length_append,List.length_cons] at *;rw [ih];simp [Tp.cells];omega
theorem tpCells_append (a b:List Tp):tpCells (a++b)=tpCells a++tpCells b:=by simp [tpCells]
theorem tpCells_get (l:List Tp) (k j:Nat) (hk:k<l.length) (hj:j<3):(tpCells l)[k*3+j]? = (l[k].cells)[j]?:=by
 induction l generalizing k with
 | nil=>simp at hk
 | cons a r ih =>
   cases k with
   | zero =>
     simp only [tpCells,List.map_cons,List.flatten_cons,Nat.zero_mul,Nat.zero_add,List.getElem_cons_zero]
     rw [List.getElem?_append_left (by simpa [Tp.cells] using hj)]
   | succ k =>
     have:=ih k (by simpa using hk)
     simp only [tpCells,List.map_cons,List.flatten_cons,List.getElem_cons_succ] at *
     rw [List.getElem?_append_right (by simp [Tp.cells];omega),←this]
     congr 1
     simp [Tp.cells]
     omega
theorem tp_at {w:World} {b o k:Nat} {l:List Tp} (hc:∀ j,j<l.length*3→w.cell? ⟨b,o+j,none⟩=(tpCells l)[j]?) (h:k<l.length) :
 w.cell? ⟨b,o+k*3,none⟩=some (.int .i64 l[k].x)∧w.cell? ⟨b,o+k*3+1,none⟩=some (.int .u64 l[k].st)∧w.cell? ⟨b,o+k*3+2,none⟩=some (.int .u64 l[k].sl):=by
 have g:∀ j,j<3→w.cell? ⟨b,o+k*3+j,none⟩=(l[k].cells)[j]?:=fun j hj=>by
  rw [←tpCells_get l k j h hj,←hc (k*3+j) (by omega),Nat.add_assoc]
 exact ⟨g 0 (by omega),g 1 (by omega),g 2 (by omega)⟩
theorem tpCells_oneCell (l:List Tp):∀ y∈tpCells l,y.oneCell'=true:=by
 intro y hy
 simp only [tpCells,List.mem_flatten,List.mem_map] at hy
 obtain ⟨x,⟨i,_,rfl⟩,hy⟩:=hy
 simp only [Tp.cells,List.mem_cons,List.not_mem_nil,or_false] at hy
 rcases hy with rfl|rfl|rfl<;>rfl
theorem under_tuples:Tryz.prog.underlying 189=some (.slice 194):=by kernel_rfl
theorem info_tuple:(Tryz.prog.info? 194).map (fun i=>(i.zero,i.size,i.bytes))=some (some (.agg #[.int .i64 0,.int .u64 0,.int .u64 0]),3,24):=by kernel_rfl
end Go.Proofs.YthoolcpcmhhkpaaGreatDoor
