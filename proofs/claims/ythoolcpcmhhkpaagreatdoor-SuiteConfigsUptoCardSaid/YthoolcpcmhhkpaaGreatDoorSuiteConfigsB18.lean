/-
  Parts of a proof, pressed. Conditions: the form's own reach.
-/
import Derived.Test.YthoolcpcmhhkpaaGreatDoorSuiteConfigsB16
import Derived.Test.YthoolcpcmhhkpaaGreatDoorSuiteConfigsB17
import Derived.Test.YthoolcpcmhhkpaaGreatDoorSuiteConfigsB5
import Derived.Shelf.Abstract
import Derived.Test.YthoolcpcmhhkpaaGreatDoorSuiteConfigsB2
import Derived.Test.YthoolcpcmhhkpaaGreatDoorSuiteConfigsB9
namespace Go.Proofs.YthoolcpcmhhkpaaGreatDoor
open Go.RowKit
structure DgD where
 depth:Nat
 factor:Nat
 row:List Pr
 least:Int
 most:Int
def DgD.top (D:DgD):Int:=2*((2^D.depth:Nat):Int)
def dgCells (s:Nat) (D:DgD):Array Value:=#[.int .i64 (D.depth:Nat),.int .i64 (D.factor:Nat),.int .i64 (D.depth:Nat),.pointer (some ⟨s,0,none⟩),.int .i64 D.least,.int .i64 D.most]
structure DgD.ok (D:DgD):Prop where
 d1:1≤D.depth
 d2:D.depth≤24
 f1:1≤D.factor
 f2:D.factor≤64
 nodes:Nodes D.row D.top
 tot:totP D.row≤9223372036854775807
 len:D.row.length≤1000
structure Dg (w:World) (p s:Nat) (rv:Value) (D:DgD):Prop where
 blk:Blk w p (dgCells s D) 180
 strip:Spt w s rv D.row
 ne:p≠s
def fpD (p s:Nat) (rv:Value):List Nat:=p::fpT s rv
namespace Dg
variable {w w1:World} {p s:Nat} {rv:Value} {D:DgD}
theorem p_fp (h:Dg w p s rv D):p∉fpT s rv:=by
 intro hb
 simp only [fpT,List.mem_cons] at hb
 rcases hb with hb|hb
 ·exact h.ne hb
 ·exact h.strip.row.ne_blk h.blk (by decide) hb
theorem lt (h:Dg w p s rv D):∀ b∈fpD p s rv,b<w.heap.size:=by
 intro b hb
 simp only [fpD,List.mem_cons] at hb
 rcases hb with rfl|hb
 ·exact h.blk.lt
 ·exact h.strip.lt b hb
theorem chg {F:List Nat} (h:Dg w p s rv D) (k:Chg F w w1) (hF:∀ b∈fpD p s rv,b∉F):Dg w1 p s rv D:=
 ⟨h.blk.chg k (hF p (by simp [fpD])),h.strip.chg k (fun b hb=>hF b (by simp [fpD,hb])),h.ne⟩
theorem cells (h:Dg w p s rv D):w.cell? ⟨p,0,none⟩=some (.int .i64 (D.depth:Nat))∧w.cell? ⟨p,1,none⟩=some (.int .i64 (D.factor:Nat))∧w.cell? ⟨p,2,none⟩=some (.int .i64 (D.depth:Nat))∧w.cell? ⟨p,3,none⟩=some (.pointer (some ⟨s,0,none⟩))∧w.cell? ⟨p,4,none⟩=some (.int .i64 D.least)∧w.cell? ⟨p,5,none⟩=some (.int .i64 D.most):=
 ⟨h.blk.cell 0,h.blk.cell 1,h.blk.cell 2,h.blk.cell 3,h.blk.cell 4,h.blk.cell 5⟩
theorem set (h:Dg w p s rv D) {s2:Nat} {rv2:Value} {r2:List Pr} (k:Chg [] w w1) (ho:Spt w1 s2 rv2 r2) (hf:∀ b∈fpT s2 rv2,w.heap.size≤b) :
 Dg (w1.setCell ⟨p,3,none⟩ (.pointer (some ⟨s2,0,none⟩))) p s2 rv2 { D with row:=r2 }∧Mv (fpD p s rv) w (fpD p s2 rv2) (w1.setCell ⟨p,3,none⟩ (.pointer (some ⟨s2,0,none⟩))):=by
 have hb:=h.blk.chg k (by simp)
 have hlt:=h.blk.lt
 have k2:Chg [p] w1 (w1.setCell ⟨p,3,none⟩ (.pointer (some ⟨s2,0,none⟩))):=(Chg.refl _ w1).setCell (a:=⟨p,3,none⟩) (.inl (by simp)) _
 refine ⟨⟨hb.setCell 3 _,ho.chg k2 (fun b hb2 e=>by simp at e;subst e;have:=hf _ hb2;omega),fun e=>by have:=hf s2 (by simp [fpT]);omega⟩,?_,?_⟩
 ·exact ((k.nil (F:=fpD p s rv)).setCell (a:=⟨p,3,none⟩) (.inl (by simp [fpD])) _)
 ·intro b hb2
  simp only [fpD,List.mem_cons] at hb2 ⊢
  rcases hb2 with rfl|hb2
  ·exact .inl (.inl rfl)
  ·exact .inr (hf b hb2)
theorem go (h:Dg w p s rv D) {rv2:Value} {r2:List Pr} (ho:Spt w1 s rv2 r2) (k:Mv (fpT s rv) w (fpT s rv2) w1):Dg w1 p s rv2 { D with row:=r2 }∧Mv (fpD p s rv) w (fpD p s rv2) w1:=by
 refine ⟨⟨h.blk.chg k.chg h.p_fp,ho,h.ne⟩,k.chg.mono (fun b hb=>.inl (by simp [fpD,hb])),fun b hb => ?_⟩
 simp only [fpD,List.mem_cons] at hb ⊢
 rcases hb with rfl|hb
 ·exact .inl (.inl rfl)
 ·rcases k.fr b hb with h1|h1
  ·exact .inl (.inr h1)
  ·exact .inr h1
end Dg
set_option maxRecDepth 100000 in
theorem dg_total (w:World) (p s:Nat) (rv:Value) (D:DgD) (h:Dg w p s rv D):Calls Tryz.prog 60 #[.pointer (some ⟨p,0,none⟩)] w fun e w'=>e=.returned (.int .u64 (totP D.row:Nat))∧w=w':=by
 obtain ⟨-,-,-,c3,-,-⟩:=h.cells
 have HT:=Lib.hid (strip_total w s rv D.row h.strip)
 clear h
 go_enter Tryz.func60,Tryz.ntmps60
 go_wp2_with fail
 refine HT.out.mono ?_
 rintro e w1 ⟨rfl,rfl⟩
 go_wp2_with fail
 go_ret
 exact ⟨rfl,rfl⟩
set_option maxRecDepth 100000 in
theorem dg_most (w:World) (p s:Nat) (rv:Value) (D:DgD) (h:Dg w p s rv D) (hf:D.factor≤64):Calls Tryz.prog 167 #[.pointer (some ⟨p,0,none⟩)] w fun e w'=>e=.returned (.int .i64 ((4*D.factor:Nat):Int))∧w=w':=by
 obtain ⟨-,c1,-,-,-,-⟩:=h.cells
 have hw:IntKind.i64.wrap (4*(D.factor:Int))=((4*D.factor:Nat):Int):=by rw [IntKind.wrap_i64];omega
 go_enter Tryz.func167,Tryz.ntmps167
 go_wp2_with fail
 go_ret
 exact ⟨rfl,rfl⟩
set_option maxRecDepth 100000 in
set_option maxHeartbeats 1000000 in
theorem dg_limit (w:World) (p s:Nat) (rv:Value) (D:DgD) (h:Dg w p s rv D) (hok:D.ok) (L:Nat) (hL:L=totP D.row / D.factor):Calls Tryz.prog 194 #[.pointer (some ⟨p,0,none⟩)] w fun e w'=>e=.returned (.int .u64 (L:Nat))∧Chg [] w w':=by
 obtain ⟨-,c1,-,-,-,-⟩:=h.cells
 have hf1:=hok.f1
 have hf2:=hok.f2
 have htt:=hok.tot
 have HT:=Lib.hid (fun u (hu:Chg [] w u)=>dg_total u p s rv D (h.chg hu (by simp)))
 obtain ⟨T,hT⟩:∃ T,T=totP D.row:=⟨_,rfl⟩
 obtain ⟨f,hf⟩:∃ f,f=D.factor:=⟨_,rfl⟩
 rw [←hT] at HT htt hL
 rw [←hf] at c1 hL hf1 hf2
 have hw:IntKind.u64.wrap (f:Int)=(f:Int):=IntWalk.u64_in _ (by omega)
 have hq:(T:Int).tdiv (f:Int)=(L:Int):=by rw [Int.tdiv_eq_ediv_of_nonneg (by omega),hL];rfl
 have hl:L≤T:=by rw [hL];exact Nat.div_le_self _ _
 have hwl:IntKind.u64.wrap (L:Int)=(L:Int):=IntWalk.u64_in _ (by omega)
 have hq2:(T:Int) / (f:Int)=(L:Int):=by rw [hL];rfl
 have hz:((f:Int)==0)=false:=by rw [beq_eq_false_iff_ne];omega
 clear h hok hL hT hf
 go_enter Tryz.func194,Tryz.ntmps194
 go_wp2_with fail
 go_region_with (first|(go_at_call 60;refine (HT.out _ (by with_reducible (repeat (first|exact Chg.refl _ _|apply Chg.drew)))).mono ?_;rintro e w1 ⟨rfl,rfl⟩))
 all_goals
  go_wp2_with fail
  go_ret
  exact ⟨rfl,by with_reducible (repeat (first|exact Chg.refl _ _|apply Chg.drew|apply Chg.drewN))⟩
set_option maxRecDepth 100000 in
theorem dg_nodes (w:World) (p s:Nat) (rv:Value) (D:DgD) (h:Dg w p s rv D) (n:Nat) (hn:n=D.row.length) (hl:n≤1000):Calls Tryz.prog 59 #[.pointer (some ⟨p,0,none⟩)] w fun e w'=>∃ a3 c3,e=.returned (.slice a3 n c3)∧Own w' 183 2 (.slice a3 n c3) n (prCells D.row)∧Chg [] w w'∧∀ b∈abl a3,w.heap.size≤b:=by
 obtain ⟨-,-,-,c3,-,-⟩:=h.cells
 have HP:=Lib.hid (strip_pairs w s rv D.row h.strip n hn hl)
 clear h hn
 go_enter Tryz.func59,Tryz.ntmps59
 go_wp2_with fail
 refine HP.out.mono ?_
 rintro e w1 ⟨a3,c3',rfl,h1,h2,h3⟩
 go_wp2_with fail
 go_ret
 exact ⟨a3,c3',rfl,h1,h2,h3⟩
def goodC (d f:Int):Bool:=decide ((1≤d∧d≤24)∧1≤f∧f≤64)
def DgD.new (d f:Nat):DgD:=⟨d,f,[],0,0⟩
set_option maxRecDepth 100000 in
set_option maxHeartbeats 1000000 in
theorem dg_new (w:World) (d f:Int) :
 Calls Tryz.prog 55 #[.agg #[.int .i64 d,.int .i64 f]] w fun e w'=>(goodC d f=false∧e=.returned (.tuple #[.pointer none,.int .i64 1])∧Chg [] w w') ∨
  (goodC d f=true∧∃ p s,e=.returned (.tuple #[.pointer (some ⟨p,0,none⟩),.int .i64 0])∧Dg w' p s (.slice none 0 0) (DgD.new d.toNat f.toNat)∧Chg [] w w'∧∀ b∈fpD p s (.slice none 0 0),w.heap.size≤b):=by
 have HB:=Lib.hid (Blk.alloc_new w #[.int .i64 d,.int .i64 f] 110)
 have HC:=Lib.hid ((Chg.refl [] w).alloc (.cells #[.int .i64 d,.int .i64 f] 110))
 have HT:=Lib.hid (fun u=>tree_new u d)
 have b0:=HB.out.cell 0
 have b1:=HB.out.cell 1
 by_cases hd:1≤d∧d≤24
 case neg =>
  have HG:=Lib.hid (show goodC d f=false from decide_eq_false (fun h=>hd h.1))
  rw [if_neg hd,if_neg hd] at HT
  clear hd
  go_enter Tryz.func55,Tryz.ntmps55
  go_wp2_with fail
  refine (HT.out _).mono ?_
  rintro e w1 ⟨rfl,hc1⟩
  go_wp2_with fail
  go_ret2
  exact .inl ⟨HG.out,rfl,(HC.out.trans hc1).alloc _⟩
 rw [if_pos hd,if_pos hd] at HT
 by_cases h1:1≤f
 case neg =>
  have HG:=Lib.hid (show goodC d f=false from decide_eq_false (fun h=>h1 h.2.1))
  have d1:decide (f<1)=true:=decide_eq_true (by omega)
  clear hd
  go_enter Tryz.func55,Tryz.ntmps55
  go_wp2_with fail
  refine (HT.out _).mono ?_
  rintro e w1 ⟨rfl,hc1⟩
  have b1':=(HB.out.chg hc1 (by simp)).cell 1
  have q1:=((HB.out.chg hc1 (by simp)).alloc (.cells #[.int .i64 d] 176)).cell 1
  simp only [List.getElem?_toArray,List.getElem?_cons_zero,List.getElem?_cons_succ] at b1' q1
  go_wp2_with fail
  go_ret2
  exact .inl ⟨HG.out,rfl,(HC.out.trans hc1).alloc _⟩
 have d1:decide (f<1)=false:=decide_eq_false (by omega)
 by_cases h2:f≤64
 case neg =>
  have HG:=Lib.hid (show goodC d f=false from decide_eq_false (fun h=>h2 h.2.2))
  have d2:decide (64<f)=true:=decide_eq_true (by omega)
  clear hd
  go_enter Tryz.func55,Tryz.ntmps55
  go_wp2_with fail
  refine (HT.out _).mono ?_
  rintro e w1 ⟨rfl,hc1⟩
  have b1':=(HB.out.chg hc1 (by simp)).cell 1
  have q1:=((HB.out.chg hc1 (by simp)).alloc (.cells #[.int .i64 d] 176)).cell 1
  simp only [List.getElem?_toArray,List.getElem?_cons_zero,List.getElem?_cons_succ] at b1' q1
  go_wp2_with fail
  go_ret2
  exact .inl ⟨HG.out,rfl,(HC.out.trans hc1).alloc _⟩
 have d2:decide (64<f)=false:=decide_eq_false (by omega)
 have HG:=Lib.hid (show goodC d f=true from decide_eq_true ⟨hd,h1,h2⟩)
 have HDF:=Lib.hid (show ((d.toNat:Nat):Int)=d∧((f.toNat:Nat):Int)=f from by omega)
 clear hd
 go_enter Tryz.func55,Tryz.ntmps55
 go_wp2_with fail
 refine (HT.out _).mono ?_
 rintro e w1 ⟨rfl,hc1⟩
 have HB1:=Lib.hid (HB.out.chg hc1 (by simp))
 have b0':=HB1.out.cell 0
 have b1':=HB1.out.cell 1
 have q1:=(HB1.out.alloc (.cells #[.int .i64 d] 176)).cell 1
 simp only [List.getElem?_toArray,List.getElem?_cons_zero,List.getElem?_cons_succ] at b0' b1' q1
 have HC1:=Lib.hid (HC.out.trans hc1)
 clear b0 b1 hc1
 go_wp2_with fail
 have HCT:=Lib.hid (HC1.out.alloc (.cells #[.int .i64 d] 176))
 have HBT:=Lib.hid (Blk.alloc_new w1 #[.int .i64 d] 176)
 have HB2:=Lib.hid (HB1.out.alloc (.cells #[.int .i64 d] 176))
 obtain ⟨bt,hbt⟩:∃ z,z=w1.heap.size:=⟨_,rfl⟩
 rw [←hbt] at HBT ⊢
 clear hbt b0' b1' q1
 generalize w1.alloc (.cells #[.int .i64 d] 176)=w2 at *
 refine (strip_new w2).mono ?_
 rintro e w3 ⟨s,rfl,hs3,hc3,hf3⟩
 have HS3:=Lib.hid hs3
 have HC3:=Lib.hid (HCT.out.trans hc3)
 have HF3:=Lib.hid (show w.heap.size≤s from Nat.le_trans HCT.out.size hf3)
 have t0:=(HBT.out.chg hc3 (by simp)).cell 0
 have x0:=(HB2.out.chg hc3 (by simp)).cell 0
 have x1:=(HB2.out.chg hc3 (by simp)).cell 1
 simp only [List.getElem?_toArray,List.getElem?_cons_zero,List.getElem?_cons_succ] at t0 x0 x1
 clear hs3 hc3 hf3 HB1 HBT HB2
 go_wp2_with fail
 go_ret2
 have hlt:=HS3.out.blk.lt
 have hbl:=Blk.alloc_new w3 #[.int .i64 d,.int .i64 f,.int .i64 d,.pointer (some ⟨s,0,none⟩),.int .i64 0,.int .i64 0] 180
 refine .inr ⟨HG.out,w3.heap.size,s,rfl,⟨?_,HS3.out.chg ((Chg.refl [] w3).alloc _) (by simp),by omega⟩,HC3.out.alloc _,fun b hb => ?_⟩
 ·rw [dgCells,DgD.new]
  simp only
  rw [HDF.out.1,HDF.out.2]
  exact hbl
 ·simp only [fpD,fpT,List.mem_cons] at hb
  rcases hb with rfl|rfl|hb
  ·exact HC3.out.size
  ·exact HF3.out
  ·simp at hb
end Go.Proofs.YthoolcpcmhhkpaaGreatDoor
namespace Go.Proofs.YthoolcpcmhhkpaaGreatDoor
open Go.RowKit
end Go.Proofs.YthoolcpcmhhkpaaGreatDoor
namespace Go.Proofs.YthoolcpcmhhkpaaGreatDoor
open Go.RowKit
namespace RD
variable {w w1:World} {q:Nat} {sv:Value} {D:DgD}
end RD
end Go.Proofs.YthoolcpcmhhkpaaGreatDoor
namespace Go.Proofs.YthoolcpcmhhkpaaGreatDoor
open Go.RowKit
theorem enters_lat:∀ (args:Array Value) (w:World),(callFunc 95 args).run Tryz.prog w=.ok (.enter 95 args) w:=enters_of Tryz.func95 (by kernel_rfl) rfl
theorem enters_lbes:∀ (args:Array Value) (w:World),(callFunc 237 args).run Tryz.prog w=.ok (.enter 237 args) w:=enters_of Tryz.func237 (by kernel_rfl) rfl
theorem enters_lup:∀ (args:Array Value) (w:World),(callFunc 238 args).run Tryz.prog w=.ok (.enter 238 args) w:=enters_of Tryz.func238 (by kernel_rfl) rfl
theorem filter_stepP (l:List Pr) (f:Pr→Bool) (k:Nat) (h:k<l.length):(l.take (k+1)).filter f=(l.take k).filter f++if f l[k] then [l[k]] else []:=by
 rw [List.take_succ_eq_append_getElem h,List.filter_append]
 congr 1
 simp [List.filter_cons]
theorem refAdd_snoc {l:List Pr} {p:Pr} (h:∀ q∈l,q.i<p.i) (hp:1≤p.c):refAdd l p.i p.c=l++[p]:=by
 have e1:l.filter (fun q=>decide (q.i<p.i))=l:=List.filter_eq_self.2 (fun q hq=>by simpa using h q hq)
 have e2:l.filter (fun q=>decide (p.i<q.i))=[]:=List.filter_eq_nil_iff.2 (fun q hq=>by have:=h q hq;simp;omega)
 have e3:cntI l p.i=0:=cntI_none (fun q hq=>by have:=h q hq;omega)
 rw [refAdd,e1,e2,e3,Nat.zero_add,if_pos (by omega),List.append_nil]
theorem take_less {l:List Pr} (h:rises l) {k:Nat} (hk:k<l.length):∀ q∈l.take k,q.i<l[k].i:=fun q hq=>by
 obtain ⟨j,hj,rfl⟩:=List.getElem_of_mem hq
 rw [List.length_take] at hj
 rw [List.getElem_take]
 exact h j k (by omega) hk
theorem rises_take {l:List Pr} (h:rises l) (k:Nat):rises (l.take k):=by
 have e:=List.take_append_drop k l
 rw [←e] at h
 exact rises_left h
theorem upSum_le (r:List Pr) {v:Int} (h:2≤v):upSum r v≤totP r:=by have:=rest_tot r h;omega
theorem liftV_stays {f:Nat} {r:List Pr} {v:Int} (h:stays f r v=true):liftV f r v=(false,r):=if_pos h
theorem liftV_goes {f:Nat} {r:List Pr} {v:Int} (h:stays f r v=false):liftV f r v=(true,refAdd (rest r v) (v / 2) (upSum r v)):=by
 unfold liftV
 rw [h]
 rfl
set_option maxRecDepth 100000 in
set_option maxHeartbeats 16000000 in
theorem dg_lift (w:World) (p s:Nat) (rv:Value) (D:DgD) (h:Dg w p s rv D) (hok:D.ok) (v:Int) (hv1:1≤v) (hv2:v<D.top) :
 Calls Tryz.prog 212 #[.pointer (some ⟨p,0,none⟩),.int .i64 v] w fun e w'=>e=.returned (.bool (liftV D.factor D.row v).1)∧∃ s' rv',Dg w' p s' rv' { D with row:=(liftV D.factor D.row v).2 }∧Mv (fpD p s rv) w (fpD p s' rv') w':=by
 obtain ⟨P,hP⟩:∃ P,P=2^D.depth:=⟨_,rfl⟩
 obtain ⟨p1,p2,p3⟩:=two_d hok.d1 hok.d2
 rw [←hP] at p1 p2 p3
 have htop:D.top=2*(P:Int):=by rw [DgD.top,hP]
 rw [htop] at hv2
 have HNO:=Lib.hid hok.nodes
 have hlen:=hok.len
 have htot:=hok.tot
 obtain ⟨bv,hbv⟩:∃ bv:Int,bv=if v=1 then 0 else bes v:=⟨_,rfl⟩
 have HBE:=Lib.hid (fun u=>show Calls Tryz.prog 237 #[.agg #[.int .i64 (D.depth:Nat)],.int .i64 v] u fun e w'=>e=.returned (.int .i64 bv)∧Chg [] u w' from by
  by_cases h1:v=1
  ·rw [hbv,if_pos h1,h1]
   exact tree_beside1 u D.depth P hok.d1 hok.d2 hP
  ·rw [hbv,if_neg h1]
   exact tree_beside u D.depth P hok.d1 hok.d2 hP v (by omega) hv2)
 have HUP:=Lib.hid (fun u=>tree_up u D.depth P hok.d1 hok.d2 hP v hv1 hv2)
 have HAT:=Lib.hid (fun u (hu:Chg [] w u) (i:Int)=>strip_at u s rv D.row (h.chg hu (by simp)).strip hok.nodes.up hok.len i)
 have HLI:=Lib.hid (fun u (hu:Chg [] w u)=>dg_limit u p s rv D (h.chg hu (by simp)) hok (totP D.row / D.factor) rfl)
 obtain ⟨n,hn⟩:∃ n,n=D.row.length:=⟨_,rfl⟩
 have HPA:=Lib.hid (fun u (hu:Chg [] w u)=>strip_pairs u s rv D.row (h.chg hu (by simp)).strip n hn (by omega))
 have HH:=Lib.hid h
 have HN:=Lib.hid hn
 have HBV:=Lib.hid hbv
 have HS:=Lib.hid (fun wx (hu:Chg [] w wx)=>show Chg [] w wx∧wx.cell? ⟨p,2,none⟩=some (.int .i64 (D.depth:Nat))∧wx.cell? ⟨p,3,none⟩=some (.pointer (some ⟨s,0,none⟩)) from by
  obtain ⟨-,-,q2,q3,-,-⟩:=(h.chg hu (by simp)).cells
  exact ⟨hu,q2,q3⟩)
 obtain ⟨A,hA⟩:∃ A,A=cntI D.row v:=⟨_,rfl⟩
 obtain ⟨B,hB⟩:∃ A,A=cntI D.row bv:=⟨_,rfl⟩
 obtain ⟨C,hC⟩:∃ A,A=cntI D.row (v / 2):=⟨_,rfl⟩
 have HA:=Lib.hid hA
 have HB:=Lib.hid hB
 have HC:=Lib.hid hC
 have HAB:=Lib.hid (show 2≤v→A+B+C=upSum D.row v from fun h=>by rw [hA,hB,hC,hbv,if_neg (by omega)];rfl)
 obtain ⟨L,hL⟩:∃ L,L=totP D.row / D.factor:=⟨_,rfl⟩
 rw [←hL] at HLI
 have HL:=Lib.hid hL
 obtain ⟨X,hX⟩:∃ X,X=liftV D.factor D.row v:=⟨_,rfl⟩
 rw [←hX]
 have HX:=Lib.hid hX
 have HTT:=Lib.hid htot
 have hn1:n≤1000:=by omega
 clear h hok hn hbv hA hB hC hL hX hP htop htot hlen
 go_enter Tryz.func212,Tryz.ntmps212
 go_upto_region 1 with (fail)
 have hSS:=HS.out w.drew (Chg.refl [] w).drew
 refine startG (S:=fun wx=>Chg [] w wx∧wx.cell? ⟨p,2,none⟩=some (.int .i64 (D.depth:Nat))∧wx.cell? ⟨p,3,none⟩=some (.pointer (some ⟨s,0,none⟩))) (st:=30) (by kernel_rfl) hSS (fun hHeld => ?_)
 refine takeP (i:=0) (v:=?va0) rfl (by kernel_rfl) (by kernel_rfl) (by kernel_rfl) (by decide) (fun _ _ _ h=>h) (Or.inl ⟨by rfl,?ya0⟩) hSS ?ra0
 case ya0=>(intro w _;go_simp;first|done|with_reducible rfl)
 try simp only [Act.put,jI,jZ,jS]
 refine takeP (i:=1) (v:=?va1) rfl (by kernel_rfl) (by kernel_rfl) (by kernel_rfl) (by decide) (fun _ _ _ h=>h) (Or.inl ⟨by rfl,?ya1⟩) hSS ?ra1
 case ya1=>(intro w _;go_simp;first|done|with_reducible rfl)
 try simp only [Act.put,jI,jZ,jS]
 refine takeP (i:=2) (v:=?va2) rfl (by kernel_rfl) (by kernel_rfl) (by kernel_rfl) (by decide) (fun _ _ _ h=>h) (Or.inl ⟨by rfl,?ya2⟩) hSS ?ra2
 case ya2=>(intro w _;go_simp;first|done|with_reducible rfl)
 try simp only [Act.put,jI,jZ,jS]
 refine takeG (i:=3) (v:=?va3) rfl (by kernel_rfl) (by kernel_rfl) (by kernel_rfl) (by decide) (by kernel_rfl) (by kernel_rfl) (fun _ _ _ h=>h) (Or.inl ⟨by rfl,?ya3⟩) hSS ?ra3
 case ya3=>(intro w hSw;(try dsimp only at hSw);go_simp;first|done|with_reducible rfl)
 try simp only [Act.put,jI,jZ,jS]
 refine takeP (i:=4) (v:=?va4) rfl (by kernel_rfl) (by kernel_rfl) (by kernel_rfl) (by decide) (fun _ _ _ h=>h) (Or.inl ⟨by rfl,?ya4⟩) hSS ?ra4
 case ya4=>(intro w _;go_simp;first|done|with_reducible rfl)
 try simp only [Act.put,jI,jZ,jS]
 refine takeP (i:=6) (v:=?va6) rfl (by kernel_rfl) (by kernel_rfl) (by kernel_rfl) (by decide) (fun _ _ _ h=>h) (Or.inl ⟨by rfl,?ya6⟩) hSS ?ra6
 case ya6=>(intro w _;go_simp;first|done|with_reducible rfl)
 try simp only [Act.put,jI,jZ,jS]
 refine takeP (i:=7) (v:=?va7) rfl (by kernel_rfl) (by kernel_rfl) (by kernel_rfl) (by decide) (fun _ _ _ h=>h) (Or.inl ⟨by rfl,?ya7⟩) hSS ?ra7
 case ya7=>(intro w _;go_simp;first|done|with_reducible rfl)
 try simp only [Act.put,jI,jZ,jS]
 refine takeP (i:=8) (v:=?va8) rfl (by kernel_rfl) (by kernel_rfl) (by kernel_rfl) (by decide) (fun _ _ _ h=>h) (Or.inl ⟨by rfl,?ya8⟩) hSS ?ra8
 case ya8=>(intro w _;go_simp;first|done|with_reducible rfl)
 try simp only [Act.put,jI,jZ,jS]
 refine takeG (i:=9) (v:=?va9) rfl (by kernel_rfl) (by kernel_rfl) (by kernel_rfl) (by decide) (by kernel_rfl) (by kernel_rfl) (fun _ _ _ h=>h) (Or.inl ⟨by rfl,?ya9⟩) hSS ?ra9
 case ya9=>(intro w hSw;(try dsimp only at hSw);go_simp;first|done|with_reducible rfl)
 try simp only [Act.put,jI,jZ,jS]
 refine takeP (i:=10) (v:=?va10) rfl (by kernel_rfl) (by kernel_rfl) (by kernel_rfl) (by decide) (fun _ _ _ h=>h) (Or.inl ⟨by rfl,?ya10⟩) hSS ?ra10
 case ya10=>(intro w _;go_simp;first|done|with_reducible rfl)
 try simp only [Act.put,jI,jZ,jS]
 refine takeP (i:=11) (v:=?va11) rfl (by kernel_rfl) (by kernel_rfl) (by kernel_rfl) (by decide) (fun _ _ _ h=>h) (Or.inl ⟨by rfl,?ya11⟩) hSS ?ra11
 case ya11=>(intro w _;go_simp;first|done|with_reducible rfl)
 try simp only [Act.put,jI,jZ,jS]
 refine takeP (i:=12) (v:=?va12) rfl (by kernel_rfl) (by kernel_rfl) (by kernel_rfl) (by decide) (fun _ _ _ h=>h) (Or.inl ⟨by rfl,?ya12⟩) hSS ?ra12
 case ya12=>(intro w _;go_simp;first|done|with_reducible rfl)
 try simp only [Act.put,jI,jZ,jS]
 refine takeG (i:=13) (v:=?va13) rfl (by kernel_rfl) (by kernel_rfl) (by kernel_rfl) (by decide) (by kernel_rfl) (by kernel_rfl) (fun _ _ _ h=>h) (Or.inl ⟨by rfl,?ya13⟩) hSS ?ra13
 case ya13=>(intro w hSw;(try dsimp only at hSw);go_simp;first|done|with_reducible rfl)
 try simp only [Act.put,jI,jZ,jS]
 refine takeP (i:=14) (v:=?va14) rfl (by kernel_rfl) (by kernel_rfl) (by kernel_rfl) (by decide) (fun _ _ _ h=>h) (Or.inl ⟨by rfl,?ya14⟩) hSS ?ra14
 case ya14=>(intro w _;go_simp;first|done|with_reducible rfl)
 try simp only [Act.put,jI,jZ,jS]
 refine takeP (i:=17) (v:=?va17) rfl (by kernel_rfl) (by kernel_rfl) (by kernel_rfl) (by decide) (fun _ _ _ h=>h) (Or.inl ⟨by rfl,?ya17⟩) hSS ?ra17
 case ya17=>(intro w _;go_simp;first|done|with_reducible rfl)
 try simp only [Act.put,jI,jZ,jS]
 refine takeP (i:=18) (v:=?va18) rfl (by kernel_rfl) (by kernel_rfl) (by kernel_rfl) (by decide) (fun _ _ _ h=>h) (Or.inl ⟨by rfl,?ya18⟩) hSS ?ra18
 case ya18=>(intro w _;go_simp;first|done|with_reducible rfl)
 try simp only [Act.put,jI,jZ,jS]
 refine takeP (i:=19) (v:=?va19) rfl (by kernel_rfl) (by kernel_rfl) (by kernel_rfl) (by decide) (fun _ _ _ h=>h) (Or.inl ⟨by rfl,?ya19⟩) hSS ?ra19
 case ya19=>(intro w _;go_simp;first|done|with_reducible rfl)
 try simp only [Act.put,jI,jZ,jS]
 refine takeG (i:=20) (v:=?va20) rfl (by kernel_rfl) (by kernel_rfl) (by kernel_rfl) (by decide) (by kernel_rfl) (by kernel_rfl) (fun _ _ _ h=>h) (Or.inl ⟨by rfl,?ya20⟩) hSS ?ra20
 case ya20=>(intro w hSw;(try dsimp only at hSw);go_simp;first|done|with_reducible rfl)
 try simp only [Act.put,jI,jZ,jS]
 refine takeP (i:=21) (v:=?va21) rfl (by kernel_rfl) (by kernel_rfl) (by kernel_rfl) (by decide) (fun _ _ _ h=>h) (Or.inl ⟨by rfl,?ya21⟩) hSS ?ra21
 case ya21=>(intro w _;go_simp;first|done|with_reducible rfl)
 try simp only [Act.put,jI,jZ,jS]
 refine takeP (i:=22) (v:=?va22) rfl (by kernel_rfl) (by kernel_rfl) (by kernel_rfl) (by decide) (fun _ _ _ h=>h) (Or.inl ⟨by rfl,?ya22⟩) hSS ?ra22
 case ya22=>(intro w _;go_simp;first|done|with_reducible rfl)
 try simp only [Act.put,jI,jZ,jS]
 refine takeP (i:=23) (v:=?va23) rfl (by kernel_rfl) (by kernel_rfl) (by kernel_rfl) (by decide) (fun _ _ _ h=>h) (Or.inl ⟨by rfl,?ya23⟩) hSS ?ra23
 case ya23=>(intro w _;go_simp;first|done|with_reducible rfl)
 try simp only [Act.put,jI,jZ,jS]
 refine takeG (i:=24) (v:=?va24) rfl (by kernel_rfl) (by kernel_rfl) (by kernel_rfl) (by decide) (by kernel_rfl) (by kernel_rfl) (fun _ _ _ h=>h) (Or.inl ⟨by rfl,?ya24⟩) hSS ?ra24
 case ya24=>(intro w hSw;(try dsimp only at hSw);go_simp;first|done|with_reducible rfl)
 try simp only [Act.put,jI,jZ,jS]
 refine takeP (i:=25) (v:=?va25) rfl (by kernel_rfl) (by kernel_rfl) (by kernel_rfl) (by decide) (fun _ _ _ h=>h) (Or.inl ⟨by rfl,?ya25⟩) hSS ?ra25
 case ya25=>(intro w _;go_simp;first|done|with_reducible rfl)
 try simp only [Act.put,jI,jZ,jS]
 refine readyG (rs:=[5]) (by kernel_rfl) (by simp) (consG rfl (fun K hK => ?_) nilG)
 refine step_calls rfl 95 _ _ rfl enters_lat _ #[.pointer (some ⟨s,0,none⟩),.int .i64 v] (by simp [Act.eval]) (HAT.out _ hSS.1 v) ?_;rintro e w2 ⟨rfl,hcq⟩;refine ⟨_,rfl,?_⟩
 rw [←HA.out]
 have hS1:=HS.out _ (hSS.1.trans hcq)
 clear hcq
 refine hK.out _ _ (fun _ _=>hS1) (fun hHeld => ?_)
 clear hK K hHeld
 try simp only [Act.put,jI,jZ,jS]
 refine readyG (rs:=[15]) (by kernel_rfl) (by simp) (consG rfl (fun K hK => ?_) nilG)
 refine step_calls rfl 237 _ _ rfl enters_lbes _ #[.agg #[.int .i64 (D.depth:Nat)],.int .i64 v] (by simp [Act.eval]) (HBE.out _) ?_;rintro e w3 ⟨rfl,hcq⟩;refine ⟨_,rfl,?_⟩
 have hS2:=HS.out _ (hS1.1.trans hcq)
 clear hcq
 refine hK.out _ _ (fun _ _=>hS2) (fun hHeld => ?_)
 clear hK K hHeld
 try simp only [Act.put,jI,jZ,jS]
 refine readyG (rs:=[16]) (by kernel_rfl) (by simp) (consG rfl (fun K hK => ?_) nilG)
 refine step_calls rfl 95 _ _ rfl enters_lat _ #[.pointer (some ⟨s,0,none⟩),.int .i64 bv] (by simp [Act.eval]) (HAT.out _ hS2.1 bv) ?_;rintro e w4 ⟨rfl,hcq⟩;refine ⟨_,rfl,?_⟩
 rw [←HB.out]
 have hS3:=HS.out _ (hS2.1.trans hcq)
 clear hcq
 refine hK.out _ _ (fun _ _=>hS3) (fun hHeld => ?_)
 clear hK K hHeld
 try simp only [Act.put,jI,jZ,jS]
 refine readyG (rs:=[26]) (by kernel_rfl) (by simp) (consG rfl (fun K hK => ?_) nilG)
 refine step_calls rfl 238 _ _ rfl enters_lup _ #[.agg #[.int .i64 (D.depth:Nat)],.int .i64 v] (by simp [Act.eval]) (HUP.out _) ?_;rintro e w5 ⟨rfl,hcq⟩;refine ⟨_,rfl,?_⟩
 have hS4:=HS.out _ (hS3.1.trans hcq)
 clear hcq
 refine hK.out _ _ (fun _ _=>hS4) (fun hHeld => ?_)
 clear hK K hHeld
 try simp only [Act.put,jI,jZ,jS]
 refine readyG (rs:=[27]) (by kernel_rfl) (by simp) (consG rfl (fun K hK => ?_) nilG)
 refine step_calls rfl 95 _ _ rfl enters_lat _ #[.pointer (some ⟨s,0,none⟩),.int .i64 (v / 2)] (by simp [Act.eval]) (HAT.out _ hS4.1 (v / 2)) ?_;rintro e w6 ⟨rfl,hcq⟩;refine ⟨_,rfl,?_⟩
 rw [←HC.out]
 have hS5:=HS.out _ (hS4.1.trans hcq)
 clear hcq
 refine hK.out _ _ (fun _ _=>hS5) (fun hHeld => ?_)
 clear hK K hHeld
 try simp only [Act.put,jI,jZ,jS]
 refine takeP (i:=28) (v:=?va28) rfl (by kernel_rfl) (by kernel_rfl) (by kernel_rfl) (by decide) (fun _ _ _ h=>h) (Or.inl ⟨by rfl,?ya28⟩) hS5 ?ra28
 case ya28=>(intro w _;go_simp;first|done|with_reducible rfl)
 try simp only [Act.put,jI,jZ,jS]
 refine takeP (i:=29) (v:=?va29) rfl (by kernel_rfl) (by kernel_rfl) (by kernel_rfl) (by decide) (fun _ _ _ h=>h) (Or.inl ⟨by rfl,?ya29⟩) hS5 ?ra29
 case ya29=>(intro w _;go_simp;first|done|with_reducible rfl)
 try simp only [Act.put,jI,jZ,jS]
 refine readyG (rs:=[30]) (by kernel_rfl) (by simp) (consG rfl (fun K hK => ?_) nilG)
 go_simp
 refine hK.out _ _ (fun h=>absurd rfl h) (fun hHeld => ?_)
 clear hK K hHeld
 try simp only [Act.put,jI,jZ,jS]
 refine doneG (by kernel_rfl) ?_ _
 have HC6:=Lib.hid hS5.1
 have HH6:=Lib.hid (HH.out.chg hS5.1 (by simp))
 clear hSS hS1 hS2 hS3 hS4 hS5 HAT
 have HSAME:=Lib.hid (show stays D.factor D.row v=true→X=(false,D.row) from fun e=>by rw [HX.out];exact liftV_stays e)
 by_cases h1:v=1
 ·have d1:(v==1)=true:=by rw [beq_iff_eq];exact h1
  have HE:=Lib.hid (HSAME.out (by rw [stays,decide_eq_true h1];rfl))
  clear h1
  go_wp2_with fail
  go_ret
  rw [HE.out]
  exact ⟨rfl,s,rv,HH6.out,Mv.of_chg HC6.out.nil⟩
 have d1:(v==1)=false:=by rw [beq_eq_false_iff_ne];exact h1
 by_cases h0:A=0
 ·have d2:((A:Int)==0)=true:=by rw [beq_iff_eq];omega
  have HE:=Lib.hid (HSAME.out (by rw [stays,←HA.out,decide_eq_true h0,Bool.or_true];rfl))
  clear h0
  go_wp2_with fail
  go_ret
  rw [HE.out]
  exact ⟨rfl,s,rv,HH6.out,Mv.of_chg HC6.out.nil⟩
 have d2:((A:Int)==0)=false:=by rw [beq_eq_false_iff_ne];omega
 have h2v:2≤v:=by omega
 have hsm:=HAB.out h2v
 have hus:=upSum_le D.row h2v
 have htt:=HTT.out
 obtain ⟨U,hU⟩:∃ U,U=upSum D.row v:=⟨_,rfl⟩
 rw [←hU] at hsm hus
 have HU:=Lib.hid hU
 have hw1:IntKind.u64.wrap ((A:Int)+(B:Int))=((A+B:Nat):Int):=by rw [IntKind.wrap_u64];omega
 have hw2:IntKind.u64.wrap (((A+B:Nat):Int)+(C:Int))=(U:Int):=by rw [IntKind.wrap_u64];omega
 obtain ⟨AB,hAB⟩:∃ z,z=A+B:=⟨_,rfl⟩
 rw [←hAB] at hw1 hw2
 have HABE:=Lib.hid hAB
 have HABL:=Lib.hid (show 1≤AB∧AB+totP (rest2 D.row v)≤9223372036854775807 from by
  refine ⟨by omega,?_⟩
  have e1:=rest2_tot D.row v
  have e2:=HA.out
  have e3:=HB.out
  rw [HBV.out,if_neg h1] at e3
  omega)
 clear hsm hus htt hU hAB
 by_cases hgt:L<U
 ·have d3:decide ((L:Int)<(U:Int))=true:=decide_eq_true (by omega)
  have d3':decide (L<U)=true:=decide_eq_true hgt
  have HE:=Lib.hid (HSAME.out (by rw [stays,←HL.out,←HU.out,decide_eq_true hgt,Bool.or_true]))
  clear hgt
  go_wp2_with fail
  refine (HLI.out _ HC6.out).mono ?_
  rintro e w7 ⟨rfl,hc7⟩
  go_wp2_with fail
  go_ret
  rw [HE.out]
  exact ⟨rfl,s,rv,HH6.out.chg hc7 (by simp),Mv.of_chg (HC6.out.trans hc7).nil⟩
 have d3:decide ((L:Int)<(U:Int))=false:=decide_eq_false (by omega)
 have d3':decide (L<U)=false:=decide_eq_false hgt
 have HE:=Lib.hid (show X=(true,refAdd (rest2 D.row v) (v / 2) AB) from by
  rw [HX.out,liftV_goes (by rw [stays,←HA.out,←HL.out,←HU.out,decide_eq_false h1,decide_eq_false h0,decide_eq_false hgt];rfl),←lift_same D.row h2v,HABE.out,HA.out,HB.out,HBV.out,if_neg h1])
 have HV1:=Lib.hid h1
 clear hgt h0 h1 HSAME HX HAB
 go_wp2_with fail
 refine (HLI.out _ HC6.out).mono ?_
 rintro e w7 ⟨rfl,hc7⟩
 have HC7:=Lib.hid (HC6.out.trans hc7)
 clear hc7 HLI HC6 HH6
 go_wp2_with fail
 refine (strip_new _).mono ?_
 rintro e w8 ⟨s2,rfl,hs8,hc8,hf8⟩
 have HS8:=Lib.hid hs8
 have HC8:=Lib.hid (HC7.out.trans hc8)
 have HF8:=Lib.hid (show w.heap.size≤s2 from Nat.le_trans HC7.out.size hf8)
 obtain ⟨-,q2,q3⟩:=HS.out _ HC8.out
 clear hs8 hc8 hf8 HC7
 go_wp2_with fail
 refine (HPA.out _ HC8.out).mono ?_
 rintro e w9 ⟨a9,c9,rfl,ho9,hc9,hf9⟩
 have HC9:=Lib.hid (HC8.out.trans hc9)
 have HO9:=Lib.hid ho9
 have HS9:=Lib.hid (HS8.out.chg hc9 (by simp))
 have HNS:=Lib.hid (show s2∉blkOf (.slice a9 n c9) from HO9.out.ne_blk HS9.out.blk (by decide))
 have HLO:=Lib.hid (show ∀ b,b∈fpT s2 (.slice none 0 0)→w.heap.size≤b from fun b hb=>by simp [fpT] at hb;subst hb;exact HF8.out)
 clear ho9 hc9 hf9 HS8 HC8 q2 q3 HPA
 go_wp2
 go_loopw [66] (fun i wx=>∃ (k:Nat) (rv2:Value),k≤n∧i=.int .i64 (k:Nat)∧Spt wx s2 rv2 (rest2 (D.row.take k) v)∧Mv (fpT s2 (.slice none 0 0)) w9 (fpT s2 rv2) wx) (fun i _=>n-(intOf i).toNat)
 case atStart=>exact ⟨0,_,Nat.zero_le _,rfl,HS9.out,Mv.of_chg (Chg.refl _ _)⟩
 case round =>
  obtain ⟨k,rv2,hk,rfl,hsp,hmv⟩:=hrel
  have HSP:=Lib.hid hsp
  have HMV:=Lib.hid hmv
  have HCW:=Lib.hid (HC9.out.trans' hmv.chg (fun b hb=>.inr (HLO.out b hb)))
  have hnr:n=D.row.length:=HN.out
  by_cases hlt:k<n
  ·have hkl:k<D.row.length:=by omega
   obtain ⟨b,o,rfl,hcc⟩:=(HO9.out.chg hmv.chg (fun b hb e=>by simp [fpT] at e;subst e;exact HNS.out hb)).rd.addr (by omega)
   rw [hnr] at hcc
   obtain ⟨e0,e1⟩:=pr_at hcc hkl
   have hqx:=HNO.out.ix _ (List.getElem_mem hkl)
   have hqc:=HNO.out.pos _ (List.getElem_mem hkl)
   have HFS:=Lib.hid (filter_stepP D.row (fun p=>decide (p.i≠v)&&decide (p.i≠bes v)) k hkl)
   have HLS:=Lib.hid (take_less HNO.out.up hkl)
   have HTB:=Lib.hid (show totP (rest2 (D.row.take (k+1)) v)≤9223372036854775807 from by
    have t1:=rest2_tot (D.row.take (k+1)) v
    have t2:=take_tot D.row (k+1)
    have t3:=HTT.out
    omega)
   generalize D.row[k]=q at *
   obtain ⟨Q,hQ⟩:∃ Q,Q=(decide (q.i≠v)&&decide (q.i≠bes v)):=⟨_,rfl⟩
   have HQ:=Lib.hid hQ
   have hbq:=Blk.alloc_new wr #[.int .i64 q.i,.int .u64 q.c] 183
   have HW:=Lib.hid (HCW.out.alloc (.cells #[.int .i64 q.i,.int .u64 q.c] 183))
   have HSW:=Lib.hid (hsp.chg ((Chg.refl [] wr).alloc (.cells #[.int .i64 q.i,.int .u64 q.c] 183)) (by simp))
   have HBQ:=Lib.hid hbq
   have HQB:=Lib.hid (And.intro hqx hqc)
   clear hcc hsp hmv hQ hqx hqc hnr hbq
   go_upto_if 84 with (fail)
   obtain ⟨g,hg⟩:∃ z,z=wr.heap.size:=⟨_,rfl⟩
   rw [←hg] at HBQ
   have HMW:=Lib.hid (HMV.out.trans (Mv.of_chg (F:=fpT s2 rv2) ((Chg.refl [] wr).alloc (.cells #[.int .i64 q.i,.int .u64 q.c] 183)).nil))
   rw [←hg]
   clear hg HSP HMV HCW e0 e1
   generalize wr.alloc (.cells #[.int .i64 q.i,.int .u64 q.c] 183)=wq at *
   go_cut [84] (fun a wx=>a=.bool Q∧Chg [] wq wx)
   case first =>
    have y0:=HBQ.out.cell 0
    simp only [List.getElem?_toArray,List.getElem?_cons_zero] at y0
    by_cases hqv:q.i=v
    ·have d5:(q.i != v)=false:=by rw [hqv];simp
     obtain rfl:Q=false:=by rw [HQ.out,decide_eq_false (fun e=>e hqv)];rfl
     go_wp2_with fail
     go_quiet (fail)
     go_wp2_with fail
     go_meet
     exact ⟨rfl,by with_reducible (repeat (first|exact Chg.refl _ _|apply Chg.drew|apply Chg.drewN))⟩
    ·have d5:(q.i != v)=true:=by rw [bne_iff_ne];exact hqv
     have d6:(q.i != bes v)=Q:=by
      rw [HQ.out,decide_eq_true hqv,Bool.true_and]
      by_cases hqb:q.i=bes v<;>simp [hqb]
     obtain ⟨-,q2,-⟩:=HS.out _ HW.out
     have HCE:=Lib.hid (fun u (hu:Chg [] wq u)=>show u.cell? ⟨g,0,none⟩=some (.int .i64 q.i)∧u.cell? ⟨p,2,none⟩=some (.int .i64 (D.depth:Nat)) from ⟨(HBQ.out.chg hu (by simp)).cell 0,(HS.out _ (HW.out.trans hu)).2.1⟩)
     have hbve:bv=bes v:=by rw [HBV.out,if_neg HV1.out]
     rw [←hbve] at d6
     clear hqv hbve
     go_wp2_with fail
     go_region_with (first|(go_at_call 237;refine (HBE.out _).mono ?_;rintro e wb ⟨rfl,hcb⟩;(have hb:Chg [] wq wb:=Chg.trans (by with_reducible (repeat (first|exact Chg.refl _ _|apply Chg.drew))) hcb);obtain ⟨z0,z2⟩:=HCE.out _ hb))
     all_goals
      go_wp2_with fail
      go_meet
      exact ⟨rfl,by with_reducible (repeat (first|exact hb|exact Chg.refl _ _|apply Chg.drew|apply Chg.drewN))⟩
   case rest =>
    rename World=>wz
    obtain ⟨rfl,hcz⟩:=hcut
    have HSZ:=Lib.hid (HSW.out.chg hcz (by simp))
    have HMZ:=Lib.hid (HMW.out.trans (Mv.of_chg (F:=fpT s2 rv2) hcz.nil))
    have hbz:=HBQ.out.chg hcz (by simp)
    have y0:=hbz.cell 0
    have y1:=hbz.cell 1
    simp only [List.getElem?_toArray,List.getElem?_cons_zero,List.getElem?_cons_succ] at y0 y1
    clear hcz hbz HSW HMW HBQ HW
    cases Q with
    | false =>
      have HEQ:=Lib.hid (show rest2 (D.row.take (k+1)) v=rest2 (D.row.take k) v from by
       have h:=HFS.out
       rw [←HQ.out,if_neg (by simp),List.append_nil] at h
       exact h)
      go_wp2
      exact ⟨⟨k+1,rv2,by omega,by go_num,by rw [HEQ.out];exact HSZ.out,HMZ.out⟩,by simp [intOf];omega⟩
    | true =>
      have HEQ:=Lib.hid (show rest2 (D.row.take (k+1)) v=rest2 (D.row.take k) v++[q] from by
       have h:=HFS.out
       rw [←HQ.out,if_pos rfl] at h
       exact h)
      have HADD:=Lib.hid (strip_add wz s2 rv2 (rest2 (D.row.take k) v) HSZ.out (rises_filter (rises_take HNO.out.up k) _) (fun x hx=>HNO.out.pos x (List.mem_of_mem_take (List.mem_filter.1 hx).1)) (Nat.le_trans (List.length_filter_le _ _) (by rw [List.length_take];omega)) q.i q.c HQB.out.2 (by
       have h:=HTB.out
       rw [HEQ.out,totP_app] at h
       simpa [totP] using h))
      rw [refAdd_snoc (l:=rest2 (D.row.take k) v) (p:=q) (fun x hx=>HLS.out x (List.mem_filter.1 hx).1) HQB.out.2,←HEQ.out] at HADD
      go_wp2_with fail
      refine HADD.out.mono ?_
      rintro e wy ⟨rfl,rv3,hs3,hm3⟩
      have HS3:=Lib.hid hs3
      have HM3:=Lib.hid (HMZ.out.trans hm3)
      clear hs3 hm3 HADD
      go_wp2_with fail
      exact ⟨⟨k+1,rv3,by omega,by go_num,HS3.out,HM3.out⟩,by simp [intOf];omega⟩
  ·obtain rfl:k=n:=by omega
   rw [List.take_of_length_le (by omega)] at HSP
   obtain ⟨-,q2,q3⟩:=HS.out _ HCW.out
   clear hsp hmv hnr
   go_wp2_with fail
   refine (HUP.out _).mono ?_
   rintro e wu ⟨rfl,hcu⟩
   have HSU:=Lib.hid (HSP.out.chg hcu (by simp))
   have HCU:=Lib.hid (HCW.out.trans hcu)
   have HLO2:=Lib.hid (show ∀ b∈fpT s2 rv2,w.heap.size≤b from fun b hb=>by
    rcases HMV.out.fr b hb with h|h
    ·exact HLO.out b h
    ·exact Nat.le_trans HC9.out.size h)
   have HADD:=Lib.hid (strip_add wu s2 rv2 (rest2 D.row v) HSU.out (rises_filter HNO.out.up _) (fun x hx=>HNO.out.pos x (List.mem_filter.1 hx).1) (Nat.le_trans (List.length_filter_le _ _) (by have:=HN.out;omega)) (v / 2) AB HABL.out.1 (by have:=HABL.out.2;omega))
   obtain ⟨-,q2',q3'⟩:=HS.out _ HCU.out
   clear hcu q2 q3 HUP HSP HMV
   go_wp2_with fail
   refine HADD.out.mono ?_
   rintro e wv ⟨rfl,rv3,hs3,hm3⟩
   have HS3:=Lib.hid hs3
   have HCV:=Lib.hid (HCU.out.trans' hm3.chg (fun b hb=>.inr (HLO2.out b hb)))
   have HF3:=Lib.hid (hm3.low HCU.out.size HLO2.out)
   have hbv2:=(HH.out.chg HCV.out (by simp)).blk
   have f3:=hbv2.free 3
   have g3:wv.cell? ⟨p,3,none⟩=some (.pointer (some ⟨s,0,none⟩)):=hbv2.cell 3
   have HSET:=Lib.hid (HH.out.set HCV.out HS3.out HF3.out)
   clear hs3 hm3 HADD hbv2 q2' q3' HCU HSU HLO2
   go_wp2_with fail
   go_ret
   rw [HE.out]
   exact ⟨rfl,s2,rv3,HSET.out.1,HSET.out.2⟩
end Go.Proofs.YthoolcpcmhhkpaaGreatDoor
