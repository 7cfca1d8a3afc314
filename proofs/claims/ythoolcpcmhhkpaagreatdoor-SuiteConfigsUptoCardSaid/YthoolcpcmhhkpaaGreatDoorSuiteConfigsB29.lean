/-
  Parts of a proof, pressed. Conditions: the form's own reach.
-/
import Derived.Test.YthoolcpcmhhkpaaGreatDoorSuiteConfigsB28
import Derived.Test.YthoolcpcmhhkpaaGreatDoorSuiteConfigsB5
import Derived.Test.YthoolcpcmhhkpaaGreatDoorSuiteConfigsB2
import Derived.Shelf.Abstract
import Derived.Test.YthoolcpcmhhkpaaGreatDoorSuiteConfigsB12
namespace Go.Proofs.YthoolcpcmhhkpaaGreatDoor
open Go.RowKit
def TakeP (w w':World) (s:Nat) (most:Int) (rv:Value) (r:List Pr) (p:Pr) (k:Nat) (e:Ending):Prop:=
 e=.returned (.tuple #[.agg #[.int .i64 p.i,.int .u64 (p.c:Nat)],.bool true])∧∃ rv',StM w' s most rv' (r.take k++r.drop (k+1))∧Mv (fpT s rv) w (fpT s rv') w'
theorem tot_cut {r:List Pr} {k:Nat} (hk:k<r.length):totP r=totP (r.take k++r.drop (k+1))+r[k].c:=by
 have e:r=r.take k++(r[k]::r.drop (k+1)):=by
  rw [←List.drop_eq_getElem_cons hk,List.take_append_drop]
 conv=>lhs;rw [e]
 rw [totP_app,totP_app,totP_cons]
 omega
theorem enters_sdel:∀ (args:Array Value) (w:World),(callFunc 321 args).run Tryz.prog w=.ok (.enter 321 args) w:=enters_of Tryz.func321 (by kernel_rfl) rfl
set_option maxRecDepth 100000 in
set_option maxHeartbeats 4000000 in
theorem stm_take (w:World) (s:Nat) (most:Int) (rv:Value) (r:List Pr) (h:StM w s most rv r) (hl:r.length≤5000) (ht:totP r≤9223372036854775807) (k:Nat) (hk:k<r.length) (p:Pr) (hp:p=r[k]) :
 Calls Tryz.prog 320 #[.pointer (some ⟨s,0,none⟩),.int .i64 (k:Nat)] w fun e w'=>TakeP w w' s most rv r p k e:=by
 have htc:=tot_cut hk
 rw [←hp] at htc
 obtain ⟨n,hn⟩:∃ n,n=r.length:=⟨_,rfl⟩
 obtain ⟨T,hT⟩:∃ T,T=totP r:=⟨_,rfl⟩
 obtain ⟨S,hS⟩:∃ S,S=totP (r.take k++r.drop (k+1)):=⟨_,rfl⟩
 rw [←hS,←hT] at htc
 have HS:=Lib.hid hS
 have HH:=Lib.hid h
 obtain ⟨ro,rc,rfl⟩:=h.row.shape
 obtain ⟨g,o,rfl,hcl⟩:=h.row.rd.addr (by omega)
 obtain ⟨e0,e1⟩:=pr_at hcl hk
 rw [←hp] at e0 e1
 obtain ⟨c0,c1,c2⟩:=h.cells
 rw [←hT] at c2
 rw [←hn] at c1
 have HDL:=Lib.hid (fun u (hu:Chg [] w u)=>delete_pair u g o rc r k hk (by omega) (h.row.chg hu (by simp)))
 have hrl:(r.take k++r.drop (k+1)).length=n-1:=by
  rw [List.length_append,List.length_take,List.length_drop,Nat.min_eq_left (by omega)];omega
 have HRL:=Lib.hid hrl
 rw [←hn] at HDL
 have hsg:=h.s_rv
 simp only [blkOf_some,List.mem_singleton] at hsg
 have HSG:=Lib.hid hsg
 have hn0:((n:Int)==0)=false:=by rw [beq_eq_false_iff_ne];omega
 have hn0':(n==0)=false:=by rw [beq_eq_false_iff_ne];omega
 have hkn:(k:Int)<(n:Int):=by omega
 have hk0:(0:Int)≤(k:Int):=by omega
 have hw1:IntKind.i64.wrap ((k:Int)+1)=(k:Int)+1:=by rw [IntKind.wrap_i64];omega
 have hw2:IntKind.u64.wrap ((T:Int)-(p.c:Int))=(S:Int):=by rw [IntKind.wrap_u64];omega
 have HNN:=Lib.hid hn
 have HLE:=Lib.hid (show n≤5000 from by omega)
 clear h hl ht hp hcl htc hT hS hrl hsg hn hk
 go_enter Tryz.func320,Tryz.ntmps320
 go_upto_region 1 with (fail)
 obtain ⟨b4,hb4⟩:∃ z,z=w.heap.size:=⟨_,rfl⟩
 have HB4:=Lib.hid (show Blk (w.alloc (.cells #[.int .i64 0,.int .u64 0] 183)) b4 #[.int .i64 0,.int .u64 0] 183 from by rw [hb4];exact Blk.alloc_new _ _ _)
 have HC4:=Lib.hid ((Chg.refl [] w).alloc (.cells #[.int .i64 0,.int .u64 0] 183))
 have HN5:=Lib.hid (show w.heap.size≤b4 from by omega)
 have HN4:=Lib.hid (show ¬b4=g∧¬b4=s from by
  have h1:=World.block_lt_of_cell? w _ c1
  have h2:=World.block_lt_of_cell? w _ e0
  simp only at h1 h2
  omega)
 rw [←hb4]
 clear hb4
 have HCE:=Lib.hid (fun u (hu:Chg [] w u)=>show u.cell? ⟨s,1,none⟩=some (.slice (some ⟨g,o,none⟩) n rc)∧u.cell? ⟨s,2,none⟩=some (.int .u64 (T:Nat))∧u.cell? ⟨g,o+k*2,none⟩=some (.int .i64 p.i)∧u.cell? ⟨g,o+k*2+1,none⟩=some (.int .u64 (p.c:Nat)) from
  ⟨hu.cell c1 (by simp),hu.cell c2 (by simp),hu.cell e0 (by simp),hu.cell e1 (by simp)⟩)
 clear c0 c1 c2 e0 e1
 generalize w.alloc (.cells #[.int .i64 0,.int .u64 0] 183)=w4 at *
 obtain ⟨c1,c2,e0,e1⟩:=HCE.out w4 HC4.out
 go_upto_region 4 with (fail)
 obtain ⟨b6,hb6⟩:∃ z,z=w4.heap.size:=⟨_,rfl⟩
 have HB6:=Lib.hid (show Blk (w4.alloc (.cells #[.int .i64 p.i,.int .u64 (p.c:Nat)] 183)) b6 #[.int .i64 p.i,.int .u64 (p.c:Nat)] 183 from by rw [hb6];exact Blk.alloc_new _ _ _)
 have HC6:=Lib.hid (HC4.out.alloc (.cells #[.int .i64 p.i,.int .u64 (p.c:Nat)] 183))
 have hne6:g≠b6:=by have:=HCE.out w4 HC4.out;have h1:=World.block_lt_of_cell? w4 _ this.2.2.1;simp only at h1;omega
 have hs6:s≠b6:=by have:=HCE.out w4 HC4.out;have h1:=World.block_lt_of_cell? w4 _ this.1;simp only at h1;omega
 have HNE:=Lib.hid (And.intro hne6 hs6)
 have HC64:=Lib.hid ((Chg.refl [] w4).alloc (.cells #[.int .i64 p.i,.int .u64 (p.c:Nat)] 183))
 rw [←hb6]
 clear hb6 c1 c2 e0 e1 hne6 hs6
 generalize w4.alloc (.cells #[.int .i64 p.i,.int .u64 (p.c:Nat)] 183)=w6 at *
 obtain ⟨c1,c2,-,-⟩:=HCE.out w6.drew HC6.out.drew
 have f0:w6.drew.cell? ⟨b6,1,none⟩=some (.int .u64 (p.c:Nat)):=HB6.out.drew.cell 1
 have hSS:Chg [g] w6 w6.drew∧w6.drew.cell? ⟨s,1,none⟩=some (.slice (some ⟨g,o,none⟩) n rc)∧w6.drew.cell? ⟨s,2,none⟩=some (.int .u64 (T:Nat))∧w6.drew.cell? ⟨b6,1,none⟩=some (.int .u64 (p.c:Nat)):=⟨(Chg.refl _ _).drew,c1,c2,f0⟩
 refine startG (S:=fun wx=>Chg [g] w6 wx∧wx.cell? ⟨s,1,none⟩=some (.slice (some ⟨g,o,none⟩) n rc)∧wx.cell? ⟨s,2,none⟩=some (.int .u64 (T:Nat))∧wx.cell? ⟨b6,1,none⟩=some (.int .u64 (p.c:Nat))) (st:=19) (by kernel_rfl) hSS (fun hHeld => ?_)
 refine takeP (i:=0) (v:=?va0) rfl (by kernel_rfl) (by kernel_rfl) (by kernel_rfl) (by decide) (fun _ _ _ h=>h) (Or.inl ⟨by rfl,?ya0⟩) hSS ?ra0
 case ya0=>(intro w _;go_simp;first|done|with_reducible rfl)
 try simp only [Act.put,jI,jZ,jS]
 refine takeP (i:=1) (v:=?va1) rfl (by kernel_rfl) (by kernel_rfl) (by kernel_rfl) (by decide) (fun _ _ _ h=>h) (Or.inl ⟨by rfl,?ya1⟩) hSS ?ra1
 case ya1=>(intro w _;go_simp;first|done|with_reducible rfl)
 try simp only [Act.put,jI,jZ,jS]
 refine takeP (i:=2) (v:=?va2) rfl (by kernel_rfl) (by kernel_rfl) (by kernel_rfl) (by decide) (fun _ _ _ h=>h) (Or.inl ⟨by rfl,?ya2⟩) hSS ?ra2
 case ya2=>(intro w _;go_simp;first|done|with_reducible rfl)
 try simp only [Act.put,jI,jZ,jS]
 refine takeP (i:=3) (v:=?va3) rfl (by kernel_rfl) (by kernel_rfl) (by kernel_rfl) (by decide) (fun _ _ _ h=>h) (Or.inl ⟨by rfl,?ya3⟩) hSS ?ra3
 case ya3=>(intro w _;go_simp;first|done|with_reducible rfl)
 try simp only [Act.put,jI,jZ,jS]
 refine takeP (i:=4) (v:=?va4) rfl (by kernel_rfl) (by kernel_rfl) (by kernel_rfl) (by decide) (fun _ _ _ h=>h) (Or.inl ⟨by rfl,?ya4⟩) hSS ?ra4
 case ya4=>(intro w _;go_simp;first|done|with_reducible rfl)
 try simp only [Act.put,jI,jZ,jS]
 refine takeG (i:=5) (v:=?va5) rfl (by kernel_rfl) (by kernel_rfl) (by kernel_rfl) (by decide) (by kernel_rfl) (by kernel_rfl) (fun _ _ _ h=>h) (Or.inl ⟨by rfl,?ya5⟩) hSS ?ra5
 case ya5=>(intro w hSw;(try dsimp only at hSw);go_simp;first|done|with_reducible rfl)
 try simp only [Act.put,jI,jZ,jS]
 refine takeP (i:=6) (v:=?va6) rfl (by kernel_rfl) (by kernel_rfl) (by kernel_rfl) (by decide) (fun _ _ _ h=>h) (Or.inl ⟨by rfl,?ya6⟩) hSS ?ra6
 case ya6=>(intro w _;go_simp;first|done|with_reducible rfl)
 try simp only [Act.put,jI,jZ,jS]
 refine takeP (i:=7) (v:=?va7) rfl (by kernel_rfl) (by kernel_rfl) (by kernel_rfl) (by decide) (fun _ _ _ h=>h) (Or.inl ⟨by rfl,?ya7⟩) hSS ?ra7
 case ya7=>(intro w _;go_simp;first|done|with_reducible rfl)
 try simp only [Act.put,jI,jZ,jS]
 refine takeP (i:=8) (v:=?va8) rfl (by kernel_rfl) (by kernel_rfl) (by kernel_rfl) (by decide) (fun _ _ _ h=>h) (Or.inl ⟨by rfl,?ya8⟩) hSS ?ra8
 case ya8=>(intro w _;go_simp;first|done|with_reducible rfl)
 try simp only [Act.put,jI,jZ,jS]
 refine takeP (i:=10) (v:=?va10) rfl (by kernel_rfl) (by kernel_rfl) (by kernel_rfl) (by decide) (fun _ _ _ h=>h) (Or.inl ⟨by rfl,?ya10⟩) hSS ?ra10
 case ya10=>(intro w _;go_simp;first|done|with_reducible rfl)
 try simp only [Act.put,jI,jZ,jS]
 refine takeP (i:=11) (v:=?va11) rfl (by kernel_rfl) (by kernel_rfl) (by kernel_rfl) (by decide) (fun _ _ _ h=>h) (Or.inl ⟨by rfl,?ya11⟩) hSS ?ra11
 case ya11=>(intro w _;go_simp;first|done|with_reducible rfl)
 try simp only [Act.put,jI,jZ,jS]
 refine takeP (i:=12) (v:=?va12) rfl (by kernel_rfl) (by kernel_rfl) (by kernel_rfl) (by decide) (fun _ _ _ h=>h) (Or.inl ⟨by rfl,?ya12⟩) hSS ?ra12
 case ya12=>(intro w _;go_simp;first|done|with_reducible rfl)
 try simp only [Act.put,jI,jZ,jS]
 refine takeG (i:=13) (v:=?va13) rfl (by kernel_rfl) (by kernel_rfl) (by kernel_rfl) (by decide) (by kernel_rfl) (by kernel_rfl) (fun _ _ _ h=>h) (Or.inl ⟨by rfl,?ya13⟩) hSS ?ra13
 case ya13=>(intro w hSw;(try dsimp only at hSw);go_simp;first|done|with_reducible rfl)
 try simp only [Act.put,jI,jZ,jS]
 refine takeP (i:=14) (v:=?va14) rfl (by kernel_rfl) (by kernel_rfl) (by kernel_rfl) (by decide) (fun _ _ _ h=>h) (Or.inl ⟨by rfl,?ya14⟩) hSS ?ra14
 case ya14=>(intro w _;go_simp;first|done|with_reducible rfl)
 try simp only [Act.put,jI,jZ,jS]
 refine readyG (rs:=[9,15]) (by kernel_rfl) (by simp) (consG rfl (fun K hK => ?_) (consG rfl (fun K hK => ?_) nilG))
 ·
  refine step_callsG (by rfl) 321 _ _ rfl enters_sdel _ #[.slice (some ⟨g,o,none⟩) n rc,.int .i64 (k:Nat),.int .i64 ((k:Int)+1)] (by simp [Act.eval]) (HDL.out _ HC6.out.drew) ?_;rintro e w7 ⟨rfl,ho7,hc7⟩;refine ⟨_,rfl,?_⟩
  have hS7:Chg [g] w6 w7∧w7.cell? ⟨s,1,none⟩=some (.slice (some ⟨g,o,none⟩) n rc)∧w7.cell? ⟨s,2,none⟩=some (.int .u64 (T:Nat))∧w7.cell? ⟨b6,1,none⟩=some (.int .u64 (p.c:Nat)):=⟨hSS.1.trans hc7,hc7.cell c1 (by simpa using HSG.out),hc7.cell c2 (by simpa using HSG.out),hc7.cell f0 (by simpa using fun h=>HNE.out.1 h.symm)⟩
  have HO7:=Lib.hid ho7
  have HC7:=Lib.hid (show Chg [g] w w7 from (HC6.out.drew.nil).trans hc7)
  clear ho7 hc7
  refine hK.out _ _ (fun _ _=>hS7) (fun hHeld => ?_)
  clear hK K hHeld
  try simp only [Act.put,jI,jZ,jS]
  refine takeP (i:=17) (v:=?vaa17) rfl (by kernel_rfl) (by kernel_rfl) (by kernel_rfl) (by decide) (fun _ _ _ h=>h) (Or.inl ⟨by rfl,?yaa17⟩) hS7 ?raa17
  case yaa17=>(intro w _;go_simp;first|done|with_reducible rfl)
  try simp only [Act.put,jI,jZ,jS]
  refine takeP (i:=18) (v:=?vaa18) rfl (by kernel_rfl) (by kernel_rfl) (by kernel_rfl) (by decide) (fun _ _ _ h=>h) (Or.inl ⟨by rfl,?yaa18⟩) hS7 ?raa18
  case yaa18=>(intro w _;go_simp;first|done|with_reducible rfl)
  try simp only [Act.put,jI,jZ,jS]
  refine readyG (rs:=[15,19]) (by kernel_rfl) (by simp) (consG rfl (fun K hK => ?_) (consG rfl (fun K hK => ?_) nilG))
  ·
   have d0:=(by assumption:Chg [g] w6 _∧_∧_∧_).2.2.2
   have x1:=HNE.out.2
   have x2:¬b6=s:=fun e=>x1 e.symm
   go_simp
   refine hK.out _ _ (fun _ _=>hS7) (fun hHeld => ?_)
   clear hK K hHeld
   try simp only [Act.put,jI,jZ,jS]
   refine takeP (i:=16) (v:=?vaaa16) rfl (by kernel_rfl) (by kernel_rfl) (by kernel_rfl) (by decide) (fun _ _ _ h=>h) (Or.inl ⟨by rfl,?yaaa16⟩) hS7 ?raaa16
   case yaaa16=>(intro w _;go_simp;first|done|with_reducible rfl)
   try simp only [Act.put,jI,jZ,jS]
   refine readyG (rs:=[19]) (by kernel_rfl) (by simp) (consG rfl (fun K hK => ?_) nilG)
   have hb7:=HH.out.blk.chg HC7.out (by simpa using HSG.out)
   have k1:=hb7.free 1
   have d1:=hS7.2.1
   clear hb7
   go_simp
   refine hK.out _ _ (fun h=>absurd rfl h) (fun hHeld => ?_)
   clear hK K hHeld
   try simp only [Act.put,jI,jZ,jS]
   refine readyG (rs:=[20]) (by kernel_rfl) (by simp) (consG rfl (fun K hK => ?_) nilG)
   go_simp
   refine hK.out _ _ (fun _ h=>absurd h (by decide)) (fun hHeld => ?_)
   clear hK K hHeld
   try simp only [Act.put,jI,jZ,jS]
   refine readyG (rs:=[21]) (by kernel_rfl) (by simp) (consG rfl (fun K hK => ?_) nilG)
   go_simp
   refine hK.out _ _ (fun _ h=>absurd h (by decide)) (fun hHeld => ?_)
   clear hK K hHeld
   try simp only [Act.put,jI,jZ,jS]
   refine readyG (rs:=[22]) (by kernel_rfl) (by simp) (consG rfl (fun K hK => ?_) nilG)
   have hb7:=HH.out.blk.chg HC7.out (by simpa using HSG.out)
   have k2:=hb7.free 2
   have d2:=hS7.2.2.1
   clear hb7
   go_simp
   refine hK.out _ _ (fun _ h=>absurd h (by decide)) (fun hHeld => ?_)
   clear hK K hHeld
   try simp only [Act.put,jI,jZ,jS]
   refine doneG (by kernel_rfl) ?_ _
   have HR:=Lib.hid (HH.out.row' (w1:=w7) (rv2:=.slice (some ⟨g,o,none⟩) (n-1) rc) (r2:=r.take k++r.drop (k+1)) (by simpa using HC7.out) (by rw [HRL.out];exact HO7.out) (fun b hb=>.inl (by simpa using hb)) S HS.out)
   have HW:=Lib.hid (show Chg [g,s] w6 ((w7.setCell ⟨s,1,none⟩ (.slice (some ⟨g,o,none⟩) (n-1) rc)).setCell ⟨s,2,none⟩ (.int .u64 (S:Nat))) from ((hS7.1.mono (by simp)).setCell (by simp) _).setCell (by simp) _)
   clear d0 d1 d2 k1 k2 x1 x2 hS7 hSS HO7 c1 c2 f0
   generalize (w7.setCell ⟨s,1,none⟩ (.slice (some ⟨g,o,none⟩) (n-1) rc)).setCell ⟨s,2,none⟩ (.int .u64 (S:Nat))=W at *
   have b6W:=HB6.out.chg HW.out (by simpa using ⟨fun e=>HNE.out.1 e.symm,fun e=>HNE.out.2 e.symm⟩)
   have b4W:=(HB4.out.chg HC64.out (by simp)).chg HW.out (by simpa using HN4.out)
   have l0:=b6W.cell 0
   have l1:=b6W.cell 1
   have m0:=b4W.cell 0
   have m1:=b4W.cell 1
   have f0:=b4W.free 0
   have f1:=b4W.free 1
   simp only [List.getElem?_toArray,List.getElem?_cons_zero,List.getElem?_cons_succ] at l0 l1 m0 m1
   have HX:=Lib.hid (show StM ((W.setCell ⟨b4,0,none⟩ (.int .i64 p.i)).setCell ⟨b4,1,none⟩ (.int .u64 (p.c:Nat))) s most (.slice (some ⟨g,o,none⟩) (n-1) rc) (r.take k++r.drop (k+1))∧Mv (fpT s (.slice (some ⟨g,o,none⟩) r.length rc)) w (fpT s (.slice (some ⟨g,o,none⟩) (n-1) rc)) ((W.setCell ⟨b4,0,none⟩ (.int .i64 p.i)).setCell ⟨b4,1,none⟩ (.int .u64 (p.c:Nat))) from ⟨HR.out.1.chg (((Chg.refl [b4] W).setCell (by simp) _).setCell (by simp) _) (by have:=HN4.out;simp [fpT];omega),(HR.out.2.chg.setCell (.inr HN5.out) _).setCell (.inr HN5.out) _,HR.out.2.fr⟩)
   clear b6W b4W HR HB6 HB4
   go_wp2
   refine bodyPost_ret (v:=.tuple #[.agg #[.int .i64 p.i,.int .u64 (p.c:Nat)],.bool true]) (by simp [results,Tryz.results320,go_sem,m0,m1]) rfl ?_
   exact ⟨rfl,_,HX.out.1,HX.out.2⟩
  ·
   have hb7:=HH.out.blk.chg HC7.out (by simpa using HSG.out)
   have k1:=hb7.free 1
   have d1:=hS7.2.1
   clear hb7
   go_simp
   refine hK.out _ _ (fun h=>absurd rfl h) (fun hHeld => ?_)
   clear hK K hHeld
   try simp only [Act.put,jI,jZ,jS]
   refine readyG (rs:=[15]) (by kernel_rfl) (by simp) (consG rfl (fun K hK => ?_) nilG)
   have d0:=(by assumption:Chg [g] w6 _∧_∧_∧_).2.2.2
   have x1:=HNE.out.2
   have x2:¬b6=s:=fun e=>x1 e.symm
   go_simp
   refine hK.out _ _ (fun _ h=>absurd h (by decide)) (fun hHeld => ?_)
   clear hK K hHeld
   try simp only [Act.put,jI,jZ,jS]
   refine readyG (rs:=[16]) (by kernel_rfl) (by simp) (consG rfl (fun K hK => ?_) nilG)
   go_simp
   refine hK.out _ _ (fun _ h=>absurd h (by decide)) (fun hHeld => ?_)
   clear hK K hHeld
   try simp only [Act.put,jI,jZ,jS]
   refine readyG (rs:=[20]) (by kernel_rfl) (by simp) (consG rfl (fun K hK => ?_) nilG)
   go_simp
   refine hK.out _ _ (fun _ h=>absurd h (by decide)) (fun hHeld => ?_)
   clear hK K hHeld
   try simp only [Act.put,jI,jZ,jS]
   refine readyG (rs:=[21]) (by kernel_rfl) (by simp) (consG rfl (fun K hK => ?_) nilG)
   go_simp
   refine hK.out _ _ (fun _ h=>absurd h (by decide)) (fun hHeld => ?_)
   clear hK K hHeld
   try simp only [Act.put,jI,jZ,jS]
   refine readyG (rs:=[22]) (by kernel_rfl) (by simp) (consG rfl (fun K hK => ?_) nilG)
   have hb7:=HH.out.blk.chg HC7.out (by simpa using HSG.out)
   have k2:=hb7.free 2
   have d2:=hS7.2.2.1
   clear hb7
   go_simp
   refine hK.out _ _ (fun _ h=>absurd h (by decide)) (fun hHeld => ?_)
   clear hK K hHeld
   try simp only [Act.put,jI,jZ,jS]
   refine doneG (by kernel_rfl) ?_ _
   have HR:=Lib.hid (HH.out.row' (w1:=w7) (rv2:=.slice (some ⟨g,o,none⟩) (n-1) rc) (r2:=r.take k++r.drop (k+1)) (by simpa using HC7.out) (by rw [HRL.out];exact HO7.out) (fun b hb=>.inl (by simpa using hb)) S HS.out)
   have HW:=Lib.hid (show Chg [g,s] w6 ((w7.setCell ⟨s,1,none⟩ (.slice (some ⟨g,o,none⟩) (n-1) rc)).setCell ⟨s,2,none⟩ (.int .u64 (S:Nat))) from ((hS7.1.mono (by simp)).setCell (by simp) _).setCell (by simp) _)
   clear d0 d1 d2 k1 k2 x1 x2 hS7 hSS HO7 c1 c2 f0
   generalize (w7.setCell ⟨s,1,none⟩ (.slice (some ⟨g,o,none⟩) (n-1) rc)).setCell ⟨s,2,none⟩ (.int .u64 (S:Nat))=W at *
   have b6W:=HB6.out.chg HW.out (by simpa using ⟨fun e=>HNE.out.1 e.symm,fun e=>HNE.out.2 e.symm⟩)
   have b4W:=(HB4.out.chg HC64.out (by simp)).chg HW.out (by simpa using HN4.out)
   have l0:=b6W.cell 0
   have l1:=b6W.cell 1
   have m0:=b4W.cell 0
   have m1:=b4W.cell 1
   have f0:=b4W.free 0
   have f1:=b4W.free 1
   simp only [List.getElem?_toArray,List.getElem?_cons_zero,List.getElem?_cons_succ] at l0 l1 m0 m1
   have HX:=Lib.hid (show StM ((W.setCell ⟨b4,0,none⟩ (.int .i64 p.i)).setCell ⟨b4,1,none⟩ (.int .u64 (p.c:Nat))) s most (.slice (some ⟨g,o,none⟩) (n-1) rc) (r.take k++r.drop (k+1))∧Mv (fpT s (.slice (some ⟨g,o,none⟩) r.length rc)) w (fpT s (.slice (some ⟨g,o,none⟩) (n-1) rc)) ((W.setCell ⟨b4,0,none⟩ (.int .i64 p.i)).setCell ⟨b4,1,none⟩ (.int .u64 (p.c:Nat))) from ⟨HR.out.1.chg (((Chg.refl [b4] W).setCell (by simp) _).setCell (by simp) _) (by have:=HN4.out;simp [fpT];omega),(HR.out.2.chg.setCell (.inr HN5.out) _).setCell (.inr HN5.out) _,HR.out.2.fr⟩)
   clear b6W b4W HR HB6 HB4
   go_wp2
   refine bodyPost_ret (v:=.tuple #[.agg #[.int .i64 p.i,.int .u64 (p.c:Nat)],.bool true]) (by simp [results,Tryz.results320,go_sem,m0,m1]) rfl ?_
   exact ⟨rfl,_,HX.out.1,HX.out.2⟩
 ·
  have d0:=(by assumption:Chg [g] w6 _∧_∧_∧_).2.2.2
  have x1:=HNE.out.2
  have x2:¬b6=s:=fun e=>x1 e.symm
  go_simp
  refine hK.out _ _ (fun _ _=>hSS) (fun hHeld => ?_)
  clear hK K hHeld
  try simp only [Act.put,jI,jZ,jS]
  refine takeP (i:=16) (v:=?vab16) rfl (by kernel_rfl) (by kernel_rfl) (by kernel_rfl) (by decide) (fun _ _ _ h=>h) (Or.inl ⟨by rfl,?yab16⟩) hSS ?rab16
  case yab16=>(intro w _;go_simp;first|done|with_reducible rfl)
  try simp only [Act.put,jI,jZ,jS]
  refine readyG (rs:=[9]) (by kernel_rfl) (by simp) (consG rfl (fun K hK => ?_) nilG)
  refine step_callsG (by rfl) 321 _ _ rfl enters_sdel _ #[.slice (some ⟨g,o,none⟩) n rc,.int .i64 (k:Nat),.int .i64 ((k:Int)+1)] (by simp [Act.eval]) (HDL.out _ HC6.out.drew) ?_;rintro e w7 ⟨rfl,ho7,hc7⟩;refine ⟨_,rfl,?_⟩
  have hS7:Chg [g] w6 w7∧w7.cell? ⟨s,1,none⟩=some (.slice (some ⟨g,o,none⟩) n rc)∧w7.cell? ⟨s,2,none⟩=some (.int .u64 (T:Nat))∧w7.cell? ⟨b6,1,none⟩=some (.int .u64 (p.c:Nat)):=⟨hSS.1.trans hc7,hc7.cell c1 (by simpa using HSG.out),hc7.cell c2 (by simpa using HSG.out),hc7.cell f0 (by simpa using fun h=>HNE.out.1 h.symm)⟩
  have HO7:=Lib.hid ho7
  have HC7:=Lib.hid (show Chg [g] w w7 from (HC6.out.drew.nil).trans hc7)
  clear ho7 hc7
  refine hK.out _ _ (fun _ _=>hS7) (fun hHeld => ?_)
  clear hK K hHeld
  try simp only [Act.put,jI,jZ,jS]
  refine takeP (i:=17) (v:=?vab17) rfl (by kernel_rfl) (by kernel_rfl) (by kernel_rfl) (by decide) (fun _ _ _ h=>h) (Or.inl ⟨by rfl,?yab17⟩) hS7 ?rab17
  case yab17=>(intro w _;go_simp;first|done|with_reducible rfl)
  try simp only [Act.put,jI,jZ,jS]
  refine takeP (i:=18) (v:=?vab18) rfl (by kernel_rfl) (by kernel_rfl) (by kernel_rfl) (by decide) (fun _ _ _ h=>h) (Or.inl ⟨by rfl,?yab18⟩) hS7 ?rab18
  case yab18=>(intro w _;go_simp;first|done|with_reducible rfl)
  try simp only [Act.put,jI,jZ,jS]
  refine readyG (rs:=[19]) (by kernel_rfl) (by simp) (consG rfl (fun K hK => ?_) nilG)
  have hb7:=HH.out.blk.chg HC7.out (by simpa using HSG.out)
  have k1:=hb7.free 1
  have d1:=hS7.2.1
  clear hb7
  go_simp
  refine hK.out _ _ (fun h=>absurd rfl h) (fun hHeld => ?_)
  clear hK K hHeld
  try simp only [Act.put,jI,jZ,jS]
  refine readyG (rs:=[20]) (by kernel_rfl) (by simp) (consG rfl (fun K hK => ?_) nilG)
  go_simp
  refine hK.out _ _ (fun _ h=>absurd h (by decide)) (fun hHeld => ?_)
  clear hK K hHeld
  try simp only [Act.put,jI,jZ,jS]
  refine readyG (rs:=[21]) (by kernel_rfl) (by simp) (consG rfl (fun K hK => ?_) nilG)
  go_simp
  refine hK.out _ _ (fun _ h=>absurd h (by decide)) (fun hHeld => ?_)
  clear hK K hHeld
  try simp only [Act.put,jI,jZ,jS]
  refine readyG (rs:=[22]) (by kernel_rfl) (by simp) (consG rfl (fun K hK => ?_) nilG)
  have hb7:=HH.out.blk.chg HC7.out (by simpa using HSG.out)
  have k2:=hb7.free 2
  have d2:=hS7.2.2.1
  clear hb7
  go_simp
  refine hK.out _ _ (fun _ h=>absurd h (by decide)) (fun hHeld => ?_)
  clear hK K hHeld
  try simp only [Act.put,jI,jZ,jS]
  refine doneG (by kernel_rfl) ?_ _
  have HR:=Lib.hid (HH.out.row' (w1:=w7) (rv2:=.slice (some ⟨g,o,none⟩) (n-1) rc) (r2:=r.take k++r.drop (k+1)) (by simpa using HC7.out) (by rw [HRL.out];exact HO7.out) (fun b hb=>.inl (by simpa using hb)) S HS.out)
  have HW:=Lib.hid (show Chg [g,s] w6 ((w7.setCell ⟨s,1,none⟩ (.slice (some ⟨g,o,none⟩) (n-1) rc)).setCell ⟨s,2,none⟩ (.int .u64 (S:Nat))) from ((hS7.1.mono (by simp)).setCell (by simp) _).setCell (by simp) _)
  clear d0 d1 d2 k1 k2 x1 x2 hS7 hSS HO7 c1 c2 f0
  generalize (w7.setCell ⟨s,1,none⟩ (.slice (some ⟨g,o,none⟩) (n-1) rc)).setCell ⟨s,2,none⟩ (.int .u64 (S:Nat))=W at *
  have b6W:=HB6.out.chg HW.out (by simpa using ⟨fun e=>HNE.out.1 e.symm,fun e=>HNE.out.2 e.symm⟩)
  have b4W:=(HB4.out.chg HC64.out (by simp)).chg HW.out (by simpa using HN4.out)
  have l0:=b6W.cell 0
  have l1:=b6W.cell 1
  have m0:=b4W.cell 0
  have m1:=b4W.cell 1
  have f0:=b4W.free 0
  have f1:=b4W.free 1
  simp only [List.getElem?_toArray,List.getElem?_cons_zero,List.getElem?_cons_succ] at l0 l1 m0 m1
  have HX:=Lib.hid (show StM ((W.setCell ⟨b4,0,none⟩ (.int .i64 p.i)).setCell ⟨b4,1,none⟩ (.int .u64 (p.c:Nat))) s most (.slice (some ⟨g,o,none⟩) (n-1) rc) (r.take k++r.drop (k+1))∧Mv (fpT s (.slice (some ⟨g,o,none⟩) r.length rc)) w (fpT s (.slice (some ⟨g,o,none⟩) (n-1) rc)) ((W.setCell ⟨b4,0,none⟩ (.int .i64 p.i)).setCell ⟨b4,1,none⟩ (.int .u64 (p.c:Nat))) from ⟨HR.out.1.chg (((Chg.refl [b4] W).setCell (by simp) _).setCell (by simp) _) (by have:=HN4.out;simp [fpT];omega),(HR.out.2.chg.setCell (.inr HN5.out) _).setCell (.inr HN5.out) _,HR.out.2.fr⟩)
  clear b6W b4W HR HB6 HB4
  go_wp2
  refine bodyPost_ret (v:=.tuple #[.agg #[.int .i64 p.i,.int .u64 (p.c:Nat)],.bool true]) (by simp [results,Tryz.results320,go_sem,m0,m1]) rfl ?_
  exact ⟨rfl,_,HX.out.1,HX.out.2⟩
set_option maxRecDepth 100000 in
set_option maxHeartbeats 2000000 in
theorem stm_ends (w:World) (s:Nat) (most:Int) (rv:Value) (r:List Pr) (h:StM w s most rv r) (hl:r.length≤5000) (h0:r≠[]) (lo hi:Int) (hlo:lo=(r.getD 0 default).i) (hhi:hi=(r.getD (r.length-1) default).i) :
 Calls Tryz.prog 317 #[.pointer (some ⟨s,0,none⟩)] w fun e w'=>e=.returned (.tuple #[.int .i64 lo,.int .i64 hi,.bool true])∧Chg [] w w':=by
 obtain ⟨n,hn⟩:∃ n,n=r.length:=⟨_,rfl⟩
 have hn1:1≤n:=by have:=List.length_pos_iff.2 h0;omega
 have HLN:=Lib.hid (stm_len w s most rv r h n hn)
 obtain ⟨ro,rc,rfl⟩:=h.row.shape
 obtain ⟨g,o,rfl,hcl⟩:=h.row.rd.addr (by omega)
 obtain ⟨e0,-⟩:=pr_at hcl (show 0<r.length by omega)
 obtain ⟨e1,-⟩:=pr_at hcl (show r.length-1<r.length by omega)
 have q0:(r[0]'(by omega)).i=lo:=by rw [hlo];simp [List.getD,show 0<r.length by omega]
 have q1:(r[r.length-1]'(by omega)).i=hi:=by rw [hhi];simp [List.getD,show r.length-1<r.length by omega]
 rw [q0,Nat.zero_mul,Nat.add_zero] at e0
 rw [q1,←hn] at e1
 obtain ⟨c0,c1,c2⟩:=h.cells
 rw [←hn] at c1
 have hn0:((n:Int)==0)=false:=by rw [beq_eq_false_iff_ne];omega
 have hw1:IntKind.i64.wrap ((n:Int)-1)=((n-1:Nat):Int):=by rw [IntKind.wrap_i64];omega
 have hlt:((n-1:Nat):Int)<(n:Int):=by omega
 have hlt0:(0:Int)<(n:Int):=by omega
 have hlt1:0<n:=by omega
 have hlt2:n-1<n:=by omega
 have hge:(0:Int)≤((n-1:Nat):Int):=by omega
 have hn5:n≤5000:=by omega
 clear h hcl hn h0 hlo hhi q0 q1 hl
 go_enter Tryz.func317,Tryz.ntmps317
 go_wp2_with fail
 refine HLN.out.mono ?_
 rintro e w1 ⟨rfl,rfl⟩
 go_wp2_with fail
 go_quiet (fail)
 go_wp2
 refine bodyPost_ret (v:=.tuple #[.int .i64 lo,.int .i64 hi,.bool true]) (by simp [results,Tryz.results317,go_sem]) rfl ?_
 exact ⟨rfl,(Chg.refl [] w).drewN _⟩
set_option maxRecDepth 100000 in
theorem stm_ends0 (w:World) (s:Nat) (most:Int) (rv:Value) (h:StM w s most rv []) :
 Calls Tryz.prog 317 #[.pointer (some ⟨s,0,none⟩)] w fun e w'=>e=.returned (.tuple #[.int .i64 0,.int .i64 0,.bool false])∧Chg [] w w':=by
 have HLN:=Lib.hid (stm_len w s most rv [] h 0 rfl)
 clear h
 go_enter Tryz.func317,Tryz.ntmps317
 go_wp2_with fail
 refine HLN.out.mono ?_
 rintro e w1 ⟨rfl,rfl⟩
 go_wp2
 refine bodyPost_ret (v:=.tuple #[.int .i64 0,.int .i64 0,.bool false]) (by simp [results,Tryz.results317,go_sem]) rfl ?_
 exact ⟨rfl,Chg.refl _ _⟩
set_option maxRecDepth 100000 in
set_option maxHeartbeats 2000000 in
theorem stm_first (w:World) (s:Nat) (most:Int) (rv:Value) (r:List Pr) (h:StM w s most rv r) (hl:r.length≤5000) (ht:totP r≤9223372036854775807) (hk:0<r.length) (p:Pr) (hp:p=r[0]) :
 Calls Tryz.prog 319 #[.pointer (some ⟨s,0,none⟩)] w fun e w'=>TakeP w w' s most rv r p 0 e:=by
 have HC0:=Lib.hid ((Chg.refl [] w).alloc (.cells #[.int .i64 0,.int .u64 0] 183))
 obtain ⟨b,hb⟩:∃ z,z=w.heap.size:=⟨_,rfl⟩
 have HB:=Lib.hid (show Blk (w.alloc (.cells #[.int .i64 0,.int .u64 0] 183)) b #[.int .i64 0,.int .u64 0] 183 from by rw [hb];exact Blk.alloc_new _ _ _)
 have HBW:=Lib.hid (show w.heap.size≤b from by omega)
 have HBF:=Lib.hid (show ∀ x∈fpT s rv,x≠b from fun x hx=>by have:=h.lt x hx;omega)
 have HT:=Lib.hid (stm_take _ s most rv r (h.chg HC0.out (by simp)) hl ht 0 hk p hp)
 clear h hp hk ht hl
 simp only [Int.ofNat_zero] at HT
 go_enter Tryz.func319,Tryz.ntmps319
 go_wp2_with fail
 rw [←hb]
 clear hb
 generalize w.alloc (.cells #[.int .i64 0,.int .u64 0] 183)=w0 at *
 refine HT.out.mono ?_
 rintro e w1 ⟨rfl,rv',hs,hm⟩
 have HB1:=Lib.hid (HB.out.chg hm.chg (fun e=>HBF.out b e rfl))
 have l0:=HB1.out.cell 0
 have l1:=HB1.out.cell 1
 have f0:=HB1.out.free 0
 have f1:=HB1.out.free 1
 simp only [List.getElem?_toArray,List.getElem?_cons_zero,List.getElem?_cons_succ] at l0 l1
 have hbn:b∉fpT s rv':=fun hx=>by
  rcases hm.fr b hx with h1|h1
  ·exact HBF.out b h1 rfl
  ·have:=HB.out.lt;omega
 have HX:=Lib.hid (show StM ((w1.setCell ⟨b,0,none⟩ (.int .i64 p.i)).setCell ⟨b,1,none⟩ (.int .u64 (p.c:Nat))) s most rv' (r.take 0++r.drop (0+1))∧Mv (fpT s rv) w (fpT s rv') ((w1.setCell ⟨b,0,none⟩ (.int .i64 p.i)).setCell ⟨b,1,none⟩ (.int .u64 (p.c:Nat))) from ⟨hs.chg (((Chg.refl [b] w1).setCell (by simp) _).setCell (by simp) _) (fun x hx e=>hbn (by simp at e;rw [←e];exact hx)),((HC0.out.nil.trans hm.chg).setCell (.inr HBW.out) _).setCell (.inr HBW.out) _,fun x hx=>by
  rcases hm.fr x hx with h1|h1
  ·exact .inl h1
  ·exact .inr (Nat.le_trans HC0.out.size h1)⟩)
 clear hs hm hbn HT HB HC0
 go_wp2
 refine bodyPost_ret (v:=.tuple #[.agg #[.int .i64 p.i,.int .u64 (p.c:Nat)],.bool true]) (by simp [results,Tryz.results319,go_sem,l0,l1]) rfl ?_
 exact ⟨rfl,_,HX.out.1,HX.out.2⟩
set_option maxRecDepth 100000 in
set_option maxHeartbeats 2000000 in
theorem stm_last (w:World) (s:Nat) (most:Int) (rv:Value) (r:List Pr) (h:StM w s most rv r) (hl:r.length≤5000) (ht:totP r≤9223372036854775807) (k:Nat) (hk:k+1=r.length) (p:Pr) (hp:p=r[k]) :
 Calls Tryz.prog 318 #[.pointer (some ⟨s,0,none⟩)] w fun e w'=>TakeP w w' s most rv r p k e:=by
 have HC0:=Lib.hid ((Chg.refl [] w).alloc (.cells #[.int .i64 0,.int .u64 0] 183))
 obtain ⟨b,hb⟩:∃ z,z=w.heap.size:=⟨_,rfl⟩
 have HB:=Lib.hid (show Blk (w.alloc (.cells #[.int .i64 0,.int .u64 0] 183)) b #[.int .i64 0,.int .u64 0] 183 from by rw [hb];exact Blk.alloc_new _ _ _)
 have HBW:=Lib.hid (show w.heap.size≤b from by omega)
 have HBF:=Lib.hid (show ∀ x∈fpT s rv,x≠b from fun x hx=>by have:=h.lt x hx;omega)
 have HT:=Lib.hid (stm_take _ s most rv r (h.chg HC0.out (by simp)) hl ht k (by omega) p hp)
 obtain ⟨ro,rc,hrv⟩:=h.row.shape
 have c1:=(h.chg HC0.out (by simp)).cells.2.1
 rw [hrv,←hk] at c1
 have hw1:IntKind.i64.wrap (((k+1:Nat):Int)-1)=(k:Int):=by rw [IntKind.wrap_i64];omega
 have hk5:k+1≤5000:=by omega
 clear h hp hk ht hl hrv
 go_enter Tryz.func318,Tryz.ntmps318
 go_upto_region 2 with (fail)
 rw [←hb]
 clear hb
 generalize w.alloc (.cells #[.int .i64 0,.int .u64 0] 183)=w0 at *
 go_wp2_with fail
 refine HT.out.mono ?_
 rintro e w1 ⟨rfl,rv',hs,hm⟩
 have HB1:=Lib.hid (HB.out.chg hm.chg (fun e=>HBF.out b e rfl))
 have l0:=HB1.out.cell 0
 have l1:=HB1.out.cell 1
 have f0:=HB1.out.free 0
 have f1:=HB1.out.free 1
 simp only [List.getElem?_toArray,List.getElem?_cons_zero,List.getElem?_cons_succ] at l0 l1
 have hbn:b∉fpT s rv':=fun hx=>by
  rcases hm.fr b hx with h1|h1
  ·exact HBF.out b h1 rfl
  ·have:=HB.out.lt;omega
 have HX:=Lib.hid (show StM ((w1.setCell ⟨b,0,none⟩ (.int .i64 p.i)).setCell ⟨b,1,none⟩ (.int .u64 (p.c:Nat))) s most rv' (r.take k++r.drop (k+1))∧Mv (fpT s rv) w (fpT s rv') ((w1.setCell ⟨b,0,none⟩ (.int .i64 p.i)).setCell ⟨b,1,none⟩ (.int .u64 (p.c:Nat))) from ⟨hs.chg (((Chg.refl [b] w1).setCell (by simp) _).setCell (by simp) _) (fun x hx e=>hbn (by simp at e;rw [←e];exact hx)),((HC0.out.nil.trans hm.chg).setCell (.inr HBW.out) _).setCell (.inr HBW.out) _,fun x hx=>by
  rcases hm.fr x hx with h1|h1
  ·exact .inl h1
  ·exact .inr (Nat.le_trans HC0.out.size h1)⟩)
 clear hs hm hbn HT HB HC0 c1
 go_wp2
 refine bodyPost_ret (v:=.tuple #[.agg #[.int .i64 p.i,.int .u64 (p.c:Nat)],.bool true]) (by simp [results,Tryz.results318,go_sem,l0,l1]) rfl ?_
 exact ⟨rfl,_,HX.out.1,HX.out.2⟩
def floorV (n y:Nat):Value:=if n<y*18446744073709551616 then .tuple #[.int .u64 (n / y:Nat),.bool true] else .tuple #[.int .u64 0,.bool false]
set_option maxRecDepth 100000 in
set_option maxHeartbeats 1000000 in
theorem wide_floor (w:World) (a b y n:Nat) (hn:a*b=n) (ha:a<18446744073709551616) (hb:b<18446744073709551616) (hy:y<18446744073709551616) :
 Calls Tryz.prog 200 #[.int .u64 a,.int .u64 b,.int .u64 y] w fun e w'=>e=.returned (floorV n y)∧Chg [] w w':=by
 have hh:n / 18446744073709551616<18446744073709551616:=by
  rw [←hn,Nat.div_lt_iff_lt_mul (by decide)]
  exact Nat.mul_lt_mul'' ha hb
 have hl:n % 18446744073709551616<18446744073709551616:=Nat.mod_lt _ (by decide)
 have HT:=Lib.hid (wide_times w a b (n / 18446744073709551616) (n % 18446744073709551616) ha hb (by rw [hn]) (by rw [hn]))
 have HO:=Lib.hid (fun W=>wide_over W (n / 18446744073709551616) (n % 18446744073709551616) y n (by omega) hh hl hy)
 generalize n / 18446744073709551616=h at *
 generalize n % 18446744073709551616=l at *
 by_cases hf:n<y*18446744073709551616
 ·have HV:=Lib.hid (show floorV n y=.tuple #[.int .u64 (n / y:Nat),.bool true] from if_pos hf)
  have HV2:=Lib.hid (show overV n y=.tuple #[.int .u64 (n / y:Nat),.int .u64 (n % y:Nat),.bool true] from if_pos hf)
  clear hn hf
  generalize n / y=q at *
  generalize n % y=r at *
  go_enter Tryz.func200,Tryz.ntmps200
  go_wp2_with fail
  refine HT.out.mono ?_
  rintro e w1 ⟨rfl,hc1⟩
  go_wp2_with fail
  refine (HO.out w1).mono ?_
  rintro e w2 ⟨rfl,hc2⟩
  rw [HV2.out]
  go_wp2
  go_ret2
  rw [HV.out]
  exact ⟨rfl,hc1.trans hc2⟩
 ·have HV:=Lib.hid (show floorV n y=.tuple #[.int .u64 0,.bool false] from if_neg hf)
  have HV2:=Lib.hid (show overV n y=.tuple #[.int .u64 0,.int .u64 0,.bool false] from if_neg hf)
  clear hn hf
  go_enter Tryz.func200,Tryz.ntmps200
  go_wp2_with fail
  refine HT.out.mono ?_
  rintro e w1 ⟨rfl,hc1⟩
  go_wp2_with fail
  refine (HO.out w1).mono ?_
  rintro e w2 ⟨rfl,hc2⟩
  rw [HV2.out]
  go_wp2
  go_ret2
  rw [HV.out]
  exact ⟨rfl,hc1.trans hc2⟩
def limT (num n den:Nat):Nat:=if 2*num*n<den*18446744073709551616 then max (2*num*n / den) 1 else n
set_option maxRecDepth 100000 in
set_option maxHeartbeats 1000000 in
theorem tup_limit (w:World) (num den n:Nat) (hN:2*num<18446744073709551616) (hd:den<18446744073709551616) (hn:n<18446744073709551616) :
 Calls Tryz.prog 197 #[.agg #[.int .u64 num,.int .u64 den],.int .u64 n] w fun e w'=>e=.returned (.int .u64 (limT num n den:Nat))∧Chg [] w w':=by
 have hc:=(Chg.refl [] w).alloc (.cells #[.int .u64 num,.int .u64 den] 25)
 have hbx:=Blk.alloc_new w #[.int .u64 num,.int .u64 den] 25
 have c0:=hbx.cell 0
 have c1:=hbx.cell 1
 have HF:=Lib.hid (wide_floor (w.alloc (.cells #[.int .u64 num,.int .u64 den] 25)) (2*num) n den (2*num*n) rfl hN hn hd)
 have e2:IntKind.u64.wrap (2*(num:Int))=((2*num:Nat):Int):=by rw [IntKind.wrap_u64];omega
 by_cases hf:2*num*n<den*18446744073709551616
 ·have HL:=Lib.hid (show limT num n den=max (2*num*n / den) 1 from if_pos hf)
  have HF2:=Lib.hid (show floorV (2*num*n) den=.tuple #[.int .u64 (2*num*n / den:Nat),.bool true] from if_pos hf)
  clear hf
  generalize 2*num*n / den=q at *
  generalize 2*num=m at *
  go_enter Tryz.func197,Tryz.ntmps197
  go_wp2_with fail
  refine HF.out.mono ?_
  rintro e w1 ⟨rfl,hc1⟩
  rw [HF2.out]
  have hcc:=hc.trans hc1
  clear HF
  go_wp2
  go_ret
  rw [HL.out]
  refine ⟨?_,hcc⟩
  rw [show ((max q 1:Nat):Int)=max (q:Int) 1 from by omega]
  rfl
 ·have HL:=Lib.hid (show limT num n den=n from if_neg hf)
  have HF2:=Lib.hid (show floorV (2*num*n) den=.tuple #[.int .u64 0,.bool false] from if_neg hf)
  clear hf
  generalize 2*num=m at *
  go_enter Tryz.func197,Tryz.ntmps197
  go_wp2_with fail
  refine HF.out.mono ?_
  rintro e w1 ⟨rfl,hc1⟩
  rw [HF2.out]
  go_wp2
  go_ret
  rw [HL.out]
  exact ⟨rfl,hc.trans hc1⟩
end Go.Proofs.YthoolcpcmhhkpaaGreatDoor
