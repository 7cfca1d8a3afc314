/-
  Parts of a proof, pressed. Conditions: the form's own reach.
-/
import Derived.Test.YthoolcpcmhhkpaaGreatDoorSuiteConfigsB6
import Derived.Test.YthoolcpcmhhkpaaGreatDoorSuiteConfigsB16
import Derived.Test.YthoolcpcmhhkpaaGreatDoorSuiteConfigsB21
import Derived.Test.YthoolcpcmhhkpaaGreatDoorSuiteConfigsB27
import Derived.Test.YthoolcpcmhhkpaaGreatDoorSuiteConfigsB41
import Derived.Test.YthoolcpcmhhkpaaGreatDoorSuiteConfigsB43
import Derived.Test.YthoolcpcmhhkpaaGreatDoorSuiteConfigsB44
import Derived.Test.YthoolcpcmhhkpaaGreatDoorSuiteConfigsB5
import Derived.Test.YthoolcpcmhhkpaaGreatDoorSuiteConfigsB4
import Derived.Test.YthoolcpcmhhkpaaGreatDoorSuiteConfigsB3
import Derived.Test.YthoolcpcmhhkpaaGreatDoorSuiteConfigsB19
import Derived.Lib.SmallJoins
namespace Go.Proofs.YthoolcpcmhhkpaaGreatDoor
open Go.RowKit
def alC:Cf:={ Cf.none 6 with most:=2 }
theorem al_put:LmD.putV ⟨2,[]⟩ 1 1=⟨2,[⟨1,1,1⟩]⟩:=by
 unfold LmD.putV
 rw [if_pos (by rfl)]
 unfold LmD.put
 have e:layL [] ⟨1,1,1⟩=[⟨1,1,1⟩]:=rfl
 simp only [e]
 rw [pressL_few (by simp)]
theorem al_enc:putLm 2 [⟨1,1,1⟩]=[2,1,2,2,1]:=by
 have z:zig 1=2:=by decide
 simp [putLm,lumpB,z,natB_lt]
set_option maxRecDepth 100000 in
set_option maxHeartbeats 2000000 in
theorem alive_K (w:World) (ht:Tens4 w) (K:Kb alC) (hok:K.ok=true) (hp:K.putE K.init 1 1=0) (hto:K.tot (K.put K.init 1 1)=1) (hen:K.enc (K.put K.init 1 1)=[2,1,2,2,1]) (hkk:K.kk=6) :
 Calls Tryz.prog 9 #[] w fun e w'=>e=.returned (.bool true)∧Chg [] w w':=by
 have HN:=Lib.hid (K.new w ht)
 rw [hok] at HN
 simp only [alC,Cf.val,Cf.cells,Cf.none] at HN
 have HPU:=Lib.hid (fun u s F (h:K.P u s F K.init)=>K.putC h (by rw [K.sz0];omega) 1 1 ⟨by omega,by omega⟩ (by omega))
 rw [hp] at HPU
 have hsz:K.sz (K.put K.init 1 1)≤40000:=by have:=(K.szp K.init 1 1).1;rw [K.sz0] at this;omega
 have HEN:=Lib.hid (fun u s F (h:K.P u s F (K.put K.init 1 1))=>K.encC h hsz)
 rw [hen,hkk] at HEN
 have e1:encS 6 [2,1,2,2,1]=closeB 6 [2,1,2,2,1]:=by unfold encS;rw [if_pos (by simp)]
 have e2:encE [2,1,2,2,1]=0:=by unfold encE;rw [if_pos (by simp)]
 rw [e1,e2] at HEN
 have HRC:=Lib.hid (fun u=>ref_close u 6 [2,1,2,2,1] (by simp))
 have HTO:=Lib.hid (fun u s F (h:K.P u s F (K.put K.init 1 1))=>K.totC h)
 rw [hto] at HTO
 generalize closeB 6 [2,1,2,2,1]=C at *
 generalize K.put K.init 1 1=st at *
 clear hok hp hto hen hkk hsz e1 e2 ht
 go_enter Tryz.func9,Tryz.ntmps9
 go_wp2_with fail
 refine HN.out.mono ?_
 rintro e w1 (⟨h,-⟩|⟨-,s,F,rfl,hP,hc1,hF⟩)
 ·exact absurd h (by decide)
 have HP:=Lib.hid hP
 have HF:=Lib.hid (And.intro hF hc1)
 clear hP hc1 hF HN
 go_wp2_with fail
 refine (HPU.out _ _ _ HP.out).mono ?_
 rintro e w2 ⟨rfl,F2,hP2,hm2⟩
 have HP2:=Lib.hid hP2
 have HC2:=Lib.hid (HF.out.2.trans' hm2.chg (fun b hb=>.inr (HF.out.1 b hb)))
 clear hP2 hm2 HPU
 go_wp2_with fail
 refine (HEN.out _ _ _ HP2.out).mono ?_
 rintro e w3 ⟨rfl,hc3⟩
 have HC3:=Lib.hid (HC2.out.trans hc3)
 have HP3:=Lib.hid (K.chg HP2.out hc3 (by simp))
 clear hc3 HEN
 go_wp2_with fail
 refine (HTO.out _ _ _ HP3.out).mono ?_
 rintro e w4 ⟨rfl,hc4⟩
 have HC4:=Lib.hid (HC3.out.trans hc4)
 clear hc4 HTO
 go_wp2_with fail
 refine (show Calls Tryz.prog 16 #[.int .u8 6,.string ⟨#[2,1,2,2,1]⟩] w4 _ from HRC.out w4).mono ?_
 rintro e w5 ⟨rfl,hc5⟩
 have HC5:=Lib.hid (HC4.out.trans hc5)
 clear hc5 HRC
 go_wp2
 go_ret
 exact ⟨by simp,HC5.out⟩
theorem law23_alive (w:World) (ht:Tens4 w):Calls Tryz.prog 9 #[] w fun e w'=>e=.returned (.bool true)∧Chg [] w w':=by
 refine alive_K w ht (kbLump alC rfl) ?_ ?_ ?_ ?_ rfl
 ·rfl
 ·rfl
 ·show totL (LmD.putV ⟨2,[]⟩ 1 1).l=1
  rw [al_put]
  rfl
 ·show putLm (LmD.putV ⟨2,[]⟩ 1 1).most (LmD.putV ⟨2,[]⟩ 1 1).l=_
  rw [al_put]
  exact al_enc
theorem kinds (c:Cf) (hw:c.word<18446744073709551616):Nonempty (Kb c)∨NoKind c.kind:=by
 by_cases h1:c.kind=1
 ·exact .inl ⟨kbLog c h1⟩
 by_cases h2:c.kind=2
 ·exact .inl ⟨kbHdr c h2⟩
 by_cases h3:c.kind=3
 ·exact .inl ⟨kbDig c h3⟩
 by_cases h4:c.kind=4
 ·exact .inl ⟨kbGreen c h4⟩
 by_cases h5:c.kind=5
 ·exact .inl ⟨kbReq c h5 hw⟩
 by_cases h6:c.kind=6
 ·exact .inl ⟨kbLump c h6⟩
 exact .inr ⟨h1,h2,h3,h4,h5,h6⟩
set_option maxRecDepth 100000 in
set_option maxHeartbeats 2000000 in
theorem law23_build_none (w:World) (c:Cf) (hk:NoKind c.kind) (v:Value) :
 Calls Tryz.prog 10 #[c.val,v] w fun e w'=>e=.returned (.tuple #[.pointer none,.bool false])∧Chg [] w w':=by
 have HN:=Lib.hid (fun u=>suite_newU u c _ (fun u=>bare_other u c hk) (fun u=>fresh_other u c hk))
 simp only [Cf.val,Cf.cells] at HN ⊢
 have HC0:=Lib.hid ((Chg.refl [] w).alloc (.cells #[.int .i64 c.kind,.int .u64 c.num,.int .u64 c.den,.int .i64 c.side,.int .i64 c.most,.int .i64 c.digits,.int .u64 c.limit,.int .i64 c.depth,.int .i64 c.factor,.int .i64 c.width,.int .u64 c.word] 28))
 clear hk
 go_enter Tryz.func10,Tryz.ntmps10
 go_wp2_with fail
 generalize w.alloc (.cells #[.int .i64 c.kind,.int .u64 c.num,.int .u64 c.den,.int .i64 c.side,.int .i64 c.most,.int .i64 c.digits,.int .u64 c.limit,.int .i64 c.depth,.int .i64 c.factor,.int .i64 c.width,.int .u64 c.word] 28)=w0 at *
 refine (HN.out _).mono ?_
 rintro e w1 ⟨rfl,hc⟩
 have HC:=Lib.hid (HC0.out.trans hc)
 clear hc HN
 go_wp2
 go_ret2
 exact ⟨rfl,HC.out⟩
end Go.Proofs.YthoolcpcmhhkpaaGreatDoor
namespace Go.Proofs.YthoolcpcmhhkpaaGreatDoor
open Go.RowKit
attribute [local go_sem] ByteArray.extract_mk
end Go.Proofs.YthoolcpcmhhkpaaGreatDoor
namespace Go.Proofs.YthoolcpcmhhkpaaGreatDoor
open Go.RowKit
def Bys (w:World) (g:Nat) (l:List UInt8) (z:Nat):Prop:=∃ cs,w.heap[g]? = some (.cells cs 5 (z,z+1))∧l.length≤z∧∀ j (h:j<l.length),cs[j]? = some (.int .u8 (l[j].toNat:Nat))
theorem Bys.cell {w:World} {g z:Nat} {l:List UInt8} (h:Bys w g l z) (j:Nat) (hj:j<l.length):w.cell? ⟨g,j,none⟩=some (.int .u8 (l[j].toNat:Nat)):=by
 obtain ⟨cs,h1,_,h3⟩:=h
 rw [cell_of_row w g j cs _ _ h1,h3 j hj]
theorem Bys.free {w:World} {g z:Nat} {l:List UInt8} (h:Bys w g l z) (j:Nat) (hj:j<l.length):w.frozen? ⟨g,j,none⟩=false:=by
 obtain ⟨cs,h1,h2,_⟩:=h
 simp [World.frozen?,h1]
 omega
theorem Bys.chg {w w1:World} {g z:Nat} {l:List UInt8} {F:List Nat} (h:Bys w g l z) (k:Chg F w w1) (hn:g∉F):Bys w1 g l z:=by
 obtain ⟨cs,h1,h2,h3⟩:=h
 exact ⟨cs,k.heap h1 hn,h2,h3⟩
theorem Bys.set {w:World} {g z:Nat} {l:List UInt8} (h:Bys w g l z) (j:Nat) (b:UInt8) (hj:j<l.length):Bys (w.setCell ⟨g,j,none⟩ (.int .u8 (b.toNat:Nat))) g (l.set j b) z:=by
 obtain ⟨cs,h1,h2,h3⟩:=h
 refine ⟨cs.setIfInBounds j (.int .u8 (b.toNat:Nat)),?_,by rw [List.length_set];exact h2,?_⟩
 ·have hlt:=lt_of_block h1
  simp only [World.setCell,Array.getElem?_modify,if_true,h1,Option.map_some]
  rfl
 ·intro i hi
  rw [List.length_set] at hi
  have hs:j<cs.size:=(Array.getElem?_eq_some_iff.1 (h3 j hj)).1
  by_cases hij:j=i
  ·subst hij
   simp [hs]
  ·simp [hij,h3 i hi]
theorem Bys.rd {w:World} {g z:Nat} {l:List UInt8} (h:Bys w g l z) (cap n:Nat) (hn:n=l.length):Rd w 1 (.slice (some ⟨g,0,none⟩) n cap) n (u8s l):=by
 subst hn
 refine ⟨by simp,_,_,rfl,.inr ⟨_,_,rfl,fun j hj => ?_⟩⟩
 rw [Nat.zero_add,h.cell j (by omega)]
 have hjl:j<l.length:=by omega
 simp [u8s,hjl]
end Go.Proofs.YthoolcpcmhhkpaaGreatDoor
namespace Go.Proofs.YthoolcpcmhhkpaaGreatDoor
open Go.ChangeShapes Go.WideShapes Go.ChangeAt Go.RowKit
structure Cf.okR (c:Cf):Prop where
 kind:-9223372036854775808≤c.kind∧c.kind<9223372036854775808
 num:c.num<18446744073709551616
 den:c.den<18446744073709551616
 side:-9223372036854775808≤c.side∧c.side<9223372036854775808
 most:-9223372036854775808≤c.most∧c.most<9223372036854775808
 digits:-9223372036854775808≤c.digits∧c.digits<9223372036854775808
 limit:c.limit<18446744073709551616
 depth:-9223372036854775808≤c.depth∧c.depth<9223372036854775808
 factor:-9223372036854775808≤c.factor∧c.factor<9223372036854775808
 width:-9223372036854775808≤c.width∧c.width<9223372036854775808
 word:c.word<18446744073709551616
theorem cells_scfg:Tryz.prog.cellsOf 28=11:=by kernel_rfl
theorem cells_ratio0:Tryz.prog.cellsOf 25=2:=by kernel_rfl
theorem cells_kind0:Tryz.prog.cellsOf 22=1:=by kernel_rfl
theorem cells_side0:Tryz.prog.cellsOf 26=1:=by kernel_rfl
theorem cells_int0:Tryz.prog.cellsOf 3=1:=by kernel_rfl
theorem cells_u64_0:Tryz.prog.cellsOf 23=1:=by kernel_rfl
theorem list11 {α:Type} {l:List α} (h:l.length=11):∃ a b c d e f g i j k m,l=[a,b,c,d,e,f,g,i,j,k,m]:=by
 match l,h with
 | [a,b,c,d,e,f,g,i,j,k,m],_=>exact ⟨a,b,c,d,e,f,g,i,j,k,m,rfl⟩
section
variable {H:Type} {enc:TypeId × Value→H} {W:World}
set_option maxRecDepth 100000 in
theorem scfg_openL {cs:List Value} (hl:cs.length=11) {fuel:Nat} {y:DataW H × List MemPlace} (hf:DataW.trod enc Tryz.prog W 0 (fun _=>true) true fuel 28 cs=some y):∃ c:Cf,cs=c.cells.toList∧c.okR:=by
 obtain ⟨c0,c1,c2,c3,c4,c5,c6,c7,c8,c9,c10,rfl⟩:=list11 hl
 obtain ⟨xs,m,_,_,_,hlen,hel⟩:=DataW.trod_struct Tryz.underlying28 hf
 have h0:=hel 0 _ rfl
 have h1:=hel 1 _ rfl
 have h2:=hel 2 _ rfl
 have h3:=hel 3 _ rfl
 have h4:=hel 4 _ rfl
 have h5:=hel 5 _ rfl
 have h6:=hel 6 _ rfl
 have h7:=hel 7 _ rfl
 have h8:=hel 8 _ rfl
 have h9:=hel 9 _ rfl
 clear hel
 have hx:∀ k,k<10→∃ z,xs[k]? = some z:=fun k hk=>⟨xs[k]'(by rw [hlen];exact hk),List.getElem?_eq_getElem _⟩
 obtain ⟨y0,e0⟩:=hx 0 (by omega)
 obtain ⟨y1,e1⟩:=hx 1 (by omega)
 obtain ⟨y2,e2⟩:=hx 2 (by omega)
 obtain ⟨y3,e3⟩:=hx 3 (by omega)
 obtain ⟨y4,e4⟩:=hx 4 (by omega)
 obtain ⟨y5,e5⟩:=hx 5 (by omega)
 obtain ⟨y6,e6⟩:=hx 6 (by omega)
 obtain ⟨y7,e7⟩:=hx 7 (by omega)
 obtain ⟨y8,e8⟩:=hx 8 (by omega)
 obtain ⟨y9,e9⟩:=hx 9 (by omega)
 rw [e0] at h0
 rw [e1] at h1
 rw [e2] at h2
 rw [e3] at h3
 rw [e4] at h4
 rw [e5] at h5
 rw [e6] at h6
 rw [e7] at h7
 rw [e8] at h8
 rw [e9] at h9
 simp only [List.getElem_toArray,List.getElem_cons_zero,List.getElem_cons_succ] at h0 h1 h2 h3 h4 h5 h6 h7 h8 h9
 simp only [cells_kind0,cells_ratio0,cells_side0,cells_int0,cells_u64_0,List.drop_zero,List.drop_succ_cons,List.take_succ_cons,List.take_zero] at h0 h1 h2 h3 h4 h5 h6 h7 h8 h9
 obtain ⟨n0,f0,_,w0⟩:=DataW.trod_int Tryz.underlying22 h0
 obtain ⟨z0,z1,m',_,_,k0,k1⟩:=trod_struct2 Tryz.underlying25 h1
 simp only [cells_u64_0,List.drop_zero,List.drop_succ_cons,List.take_succ_cons,List.take_zero] at k0 k1
 obtain ⟨n1,f1,_,w1⟩:=DataW.trod_int Tryz.underlying23 k0
 obtain ⟨n2,f2,_,w2⟩:=DataW.trod_int Tryz.underlying23 k1
 obtain ⟨n3,f3,_,w3⟩:=DataW.trod_int Tryz.underlying26 h2
 obtain ⟨n4,f4,_,w4⟩:=DataW.trod_int Tryz.underlying3 h3
 obtain ⟨n5,f5,_,w5⟩:=DataW.trod_int Tryz.underlying3 h4
 obtain ⟨n6,f6,_,w6⟩:=DataW.trod_int Tryz.underlying23 h5
 obtain ⟨n7,f7,_,w7⟩:=DataW.trod_int Tryz.underlying3 h6
 obtain ⟨n8,f8,_,w8⟩:=DataW.trod_int Tryz.underlying3 h7
 obtain ⟨n9,f9,_,w9⟩:=DataW.trod_int Tryz.underlying3 h8
 obtain ⟨n10,f10,_,w10⟩:=DataW.trod_int Tryz.underlying23 h9
 simp only [List.cons.injEq,and_true] at f0 f1 f2 f3 f4 f5 f6 f7 f8 f9 f10
 have r0:=i64_range w0
 have r1:=u64_range w1
 have r2:=u64_range w2
 have r3:=i64_range w3
 have r4:=i64_range w4
 have r5:=i64_range w5
 have r6:=u64_range w6
 have r7:=i64_range w7
 have r8:=i64_range w8
 have r9:=i64_range w9
 have r10:=u64_range w10
 obtain ⟨n1,rfl⟩:=Int.eq_ofNat_of_zero_le r1.1
 obtain ⟨n2,rfl⟩:=Int.eq_ofNat_of_zero_le r2.1
 obtain ⟨n6,rfl⟩:=Int.eq_ofNat_of_zero_le r6.1
 obtain ⟨n10,rfl⟩:=Int.eq_ofNat_of_zero_le r10.1
 refine ⟨⟨n0,n1,n2,n3,n4,n5,n6,n7,n8,n9,n10⟩,?_,⟨r0,by simp only;omega,by simp only;omega,r3,r4,r5,by simp only;omega,r7,r8,r9,by simp only;omega⟩⟩
 rw [f0,f1,f2,f3,f4,f5,f6,f7,f8,f9,f10]
 rfl
set_option maxRecDepth 100000 in
theorem scfg_open {v:Value} {d:DataW H} {ps:List MemPlace} {r:Reach} {b0:Nat} (hval:Value.okWide Tryz.prog W r b0 28 v)
 (hd:DataW.Trod enc Tryz.prog W 0 (fun _=>true) true 28 v d ps):∃ c:Cf,v=c.val∧c.okR:=by
 obtain ⟨cs,rfl,hsz⟩:=okWide_struct Tryz.underlying28 hval
 obtain ⟨fuel,hf⟩:=hd
 obtain ⟨c,h1,h2⟩:=scfg_openL (cs:=cs.toList) (by rw [Array.length_toList,hsz];exact cells_scfg) (by simpa [Value.cells] using hf)
 refine ⟨c,?_,h2⟩
 rw [Cf.val,Array.ext' h1]
end
end Go.Proofs.YthoolcpcmhhkpaaGreatDoor
namespace Go.Proofs.YthoolcpcmhhkpaaGreatDoor
open Go.RowKit
theorem Kb.few {c:Cf} (K:Kb c) {l:List Vl} (h:greatV l=false):K.sz (K.all l)≤9000:=by
 obtain ⟨h1,h2⟩:=greatV_not h
 have h3:=K.all_sum l
 have h4:=sumS_le h2
 omega
set_option maxRecDepth 100000 in
set_option maxHeartbeats 1000000 in
theorem nil_reset (w:World):Calls Tryz.prog 22 #[.pointer none] w fun e w'=>e=.returned (.tuple #[])∧Chg [] w w':=by
 go_enter Tryz.func22,Tryz.ntmps22
 go_wp2
 go_end0
 exact ⟨rfl,by with_reducible (repeat (first|exact Chg.refl _ _|apply Chg.alloc|apply Chg.drew|apply Chg.drewN|(apply Chg.setCell;simp)))⟩
set_option maxRecDepth 100000 in
set_option maxHeartbeats 1000000 in
theorem nil_encode (w:World):Calls Tryz.prog 23 #[.pointer none] w fun e w'=>e=.returned (.tuple #[.string ⟨#[]⟩,.int .i64 2])∧Chg [] w w':=by
 go_enter Tryz.func23,Tryz.ntmps23
 go_wp2
 go_ret2
 exact ⟨rfl,by with_reducible (repeat (first|exact Chg.refl _ _|apply Chg.alloc|apply Chg.drew|apply Chg.drewN|(apply Chg.setCell;simp)))⟩
set_option maxRecDepth 100000 in
set_option maxHeartbeats 1000000 in
theorem nil_copy (w:World):Calls Tryz.prog 19 #[.pointer none] w fun e w'=>e=.returned (.tuple #[.pointer none,.int .i64 2])∧Chg [] w w':=by
 have HE:=Lib.hid (fun u=>nil_encode u)
 go_enter Tryz.func19,Tryz.ntmps19
 go_wp2_with fail
 refine (HE.out _).mono ?_
 rintro e w1 ⟨rfl,hc⟩
 have HC:=Lib.hid hc
 clear hc
 go_wp2
 go_ret2
 exact ⟨rfl,HC.out⟩
set_option maxRecDepth 100000 in
set_option maxHeartbeats 1000000 in
theorem nil_quantile (w:World) (num den:Int):Calls Tryz.prog 24 #[.pointer none,.agg #[.int .u64 num,.int .u64 den]] w fun e w'=>e=.returned (.tuple #[.int .i64 0,.int .i64 2])∧Chg [] w w':=by
 go_enter Tryz.func24,Tryz.ntmps24
 go_wp2
 go_ret2
 exact ⟨rfl,by with_reducible (repeat (first|exact Chg.refl _ _|apply Chg.alloc|apply Chg.drew|apply Chg.drewN|(apply Chg.setCell;simp)))⟩
set_option maxRecDepth 100000 in
set_option maxHeartbeats 1000000 in
theorem nil_rank (w:World) (x:Int):Calls Tryz.prog 25 #[.pointer none,.int .i64 x] w fun e w'=>e=.returned (.tuple #[.int .u64 0,.int .u64 0])∧Chg [] w w':=by
 go_enter Tryz.func25,Tryz.ntmps25
 go_wp2
 go_ret2
 exact ⟨rfl,by with_reducible (repeat (first|exact Chg.refl _ _|apply Chg.alloc|apply Chg.drew|apply Chg.drewN|(apply Chg.setCell;simp)))⟩
set_option maxRecDepth 100000 in
set_option maxHeartbeats 1000000 in
theorem nil_ends (w:World):Calls Tryz.prog 26 #[.pointer none] w fun e w'=>e=.returned (.tuple #[.int .i64 0,.int .i64 0,.bool false])∧Chg [] w w':=by
 go_enter Tryz.func26,Tryz.ntmps26
 go_wp2
 refine bodyPost_ret (v:=.tuple #[.int .i64 0,.int .i64 0,.bool false]) (by simp [results,Tryz.results26,go_sem]) rfl ?_
 exact ⟨rfl,by with_reducible (repeat (first|exact Chg.refl _ _|apply Chg.alloc|apply Chg.drew|apply Chg.drewN|(apply Chg.setCell;simp)))⟩
set_option maxRecDepth 100000 in
set_option maxHeartbeats 1000000 in
theorem nil_total (w:World):Calls Tryz.prog 20 #[.pointer none] w fun e w'=>e=.returned (.int .u64 0)∧Chg [] w w':=by
 go_enter Tryz.func20,Tryz.ntmps20
 go_wp2
 go_ret
 exact ⟨rfl,by with_reducible (repeat (first|exact Chg.refl _ _|apply Chg.alloc|apply Chg.drew|apply Chg.drewN|(apply Chg.setCell;simp)))⟩
set_option maxRecDepth 100000 in
set_option maxHeartbeats 1000000 in
theorem nil_put (w:World) (x n:Int):Calls Tryz.prog 21 #[.pointer none,.int .i64 x,.int .u64 n] w fun e w'=>e=.returned (.int .i64 2)∧Chg [] w w':=by
 go_enter Tryz.func21,Tryz.ntmps21
 go_wp2
 go_ret
 exact ⟨rfl,by with_reducible (repeat (first|exact Chg.refl _ _|apply Chg.alloc|apply Chg.drew|apply Chg.drewN|(apply Chg.setCell;simp)))⟩
set_option maxRecDepth 100000 in
set_option maxHeartbeats 1000000 in
theorem nil_join (w:World) (v:Value):Calls Tryz.prog 18 #[.pointer none,v] w fun e w'=>e=.returned (.int .i64 2)∧Chg [] w w':=by
 go_enter Tryz.func18,Tryz.ntmps18
 go_wp2
 go_ret
 exact ⟨rfl,by with_reducible (repeat (first|exact Chg.refl _ _|apply Chg.alloc|apply Chg.drew|apply Chg.drewN|(apply Chg.setCell;simp)))⟩
set_option maxRecDepth 100000 in
theorem cfg_nil (w:World):Calls Tryz.prog 15 #[.pointer none] w fun e w'=>e=.returned (Cf.none 0).val∧Chg [] w w':=by
 simp only [Cf.val,Cf.cells,Cf.none]
 go_enter Tryz.func15,Tryz.ntmps15
 go_wp2
 refine bodyPost_ret (v:=.agg #[.int .i64 0,.int .u64 0,.int .u64 0,.int .i64 0,.int .i64 0,.int .i64 0,.int .u64 0,.int .i64 0,.int .i64 0,.int .i64 0,.int .u64 0]) (by simp [results,Tryz.results15,go_sem]) rfl ?_
 exact ⟨rfl,by with_reducible (repeat (first|exact Chg.refl _ _|apply Chg.alloc|apply Chg.drew|(apply Chg.setCell;simp)))⟩
def Cf.mix (c d:Cf):Cf:={ c with limit:=d.limit,factor:=d.factor,word:=d.word }
def extraV (c d:Cf):Bool:=(c.kind != 2&&d.limit != 0) || (c.kind != 3&&d.factor != 0) || (c.kind != 5&&d.word != 0)
theorem refuse {w:World} {c b:Cf} (hs:c.same b=false) (HB:∀ u,Calls Tryz.prog 69 #[c.val] u fun e w'=>e=.returned b.val∧Chg [] u w') (HF:∀ u,Chg [] w u→Calls Tryz.prog 66 #[c.val] u fun e w'=>FrA u w' e) :
 Calls Tryz.prog 27 #[c.val] w fun e w'=>e=.returned (.tuple #[.pointer none,.int .i64 1])∧Chg [] w w':=by
 refine (suite_newK w c b HB (fun _ _ _ _=>True) (fun u hu=>(HF u hu).mono ?_)).mono ?_
 ·rintro e w' ⟨T,d,k,rfl,hc⟩
  exact ⟨T,d,k,rfl,trivial,hc⟩
 ·rintro e w' (⟨-,rfl,hc⟩|⟨h,-⟩)
  ·exact ⟨rfl,hc⟩
  ·rw [hs] at h
   exact absurd h (by decide)
theorem neq_same {a b:Cf} (h:a≠b):a.same b=false:=by
 cases hs:a.same b with
 | false=>rfl
 | true=>exact absurd (Cf.same_eq hs) h
theorem new_extra (w:World) (ht:Tens4 w) (c d:Cf) (h1:1≤c.kind) (h6:c.kind≤6) (hx:extraV c d=true) :
 Calls Tryz.prog 27 #[(c.mix d).val] w fun e w'=>e=.returned (.tuple #[.pointer none,.int .i64 1])∧Chg [] w w':=by
 have hx':(c.kind≠2∧d.limit≠0)∨(c.kind≠3∧d.factor≠0)∨(c.kind≠5∧d.word≠0):=by
  simp only [extraV,Bool.or_eq_true,Bool.and_eq_true,bne_iff_ne] at hx
  rcases hx with (h|h)|h
  ·exact .inl h
  ·exact .inr (.inl h)
  ·exact .inr (.inr h)
 have hk:(c.mix d).kind=c.kind:=rfl
 by_cases k1:c.kind=1
 ·exact refuse (neq_same (fun e=>by have:=congrArg Cf.limit e;have h2:=congrArg Cf.factor e;have h3:=congrArg Cf.word e;simp [Cf.mix,Cf.none] at this h2 h3;omega)) (fun u=>bare_log u _ k1) (fun u _=>fresha_log u _ k1)
 by_cases k2:c.kind=2
 ·exact refuse (neq_same (fun e=>by have:=congrArg Cf.limit e;have h2:=congrArg Cf.factor e;have h3:=congrArg Cf.word e;simp [Cf.mix,Cf.none] at this h2 h3;omega)) (fun u=>bare_hdr u _ k2) (fun u hu=>fresha_hdr u (ht.chg hu) _ k2)
 by_cases k3:c.kind=3
 ·exact refuse (neq_same (fun e=>by have:=congrArg Cf.limit e;have h2:=congrArg Cf.factor e;have h3:=congrArg Cf.word e;simp [Cf.mix,Cf.none] at this h2 h3;omega)) (fun u=>bare_digest u _ k3) (fun u _=>fresha_digest u _ k3)
 by_cases k4:c.kind=4
 ·exact refuse (neq_same (fun e=>by have:=congrArg Cf.limit e;have h2:=congrArg Cf.factor e;have h3:=congrArg Cf.word e;simp [Cf.mix,Cf.none] at this h2 h3;omega)) (fun u=>bare_green u _ k4) (fun u _=>fresha_green u _ k4)
 by_cases k5:c.kind=5
 ·exact refuse (neq_same (fun e=>by have:=congrArg Cf.limit e;have h2:=congrArg Cf.factor e;have h3:=congrArg Cf.word e;simp [Cf.mix,Cf.none] at this h2 h3;omega)) (fun u=>bare_req u _ k5) (fun u _=>fresha_req u _ k5)
 by_cases k6:c.kind=6
 ·exact refuse (neq_same (fun e=>by have:=congrArg Cf.limit e;have h2:=congrArg Cf.factor e;have h3:=congrArg Cf.word e;simp [Cf.mix,Cf.none] at this h2 h3;omega)) (fun u=>bare_lump u _ k6) (fun u _=>fresha_lump u _ k6)
 ·omega
def NilK:Prop:=
 (∀ w,Calls Tryz.prog 22 #[.pointer none] w fun e w'=>e=.returned (.tuple #[])∧Chg [] w w') ∧
 (∀ w,Calls Tryz.prog 23 #[.pointer none] w fun e w'=>e=.returned (.tuple #[.string ⟨#[]⟩,.int .i64 2])∧Chg [] w w') ∧
 (∀ w,Calls Tryz.prog 19 #[.pointer none] w fun e w'=>e=.returned (.tuple #[.pointer none,.int .i64 2])∧Chg [] w w') ∧
 (∀ w,Calls Tryz.prog 24 #[.pointer none,.agg #[.int .u64 0,.int .u64 1]] w fun e w'=>e=.returned (.tuple #[.int .i64 0,.int .i64 2])∧Chg [] w w') ∧
 (∀ w,Calls Tryz.prog 25 #[.pointer none,.int .i64 1] w fun e w'=>e=.returned (.tuple #[.int .u64 0,.int .u64 0])∧Chg [] w w') ∧
 (∀ w,Calls Tryz.prog 26 #[.pointer none] w fun e w'=>e=.returned (.tuple #[.int .i64 0,.int .i64 0,.bool false])∧Chg [] w w') ∧
 (∀ w,Calls Tryz.prog 20 #[.pointer none] w fun e w'=>e=.returned (.int .u64 0)∧Chg [] w w') ∧
 (∀ w,Calls Tryz.prog 21 #[.pointer none,.int .i64 1,.int .u64 1] w fun e w'=>e=.returned (.int .i64 2)∧Chg [] w w') ∧
 (∀ w,Calls Tryz.prog 18 #[.pointer none,.pointer none] w fun e w'=>e=.returned (.int .i64 2)∧Chg [] w w') ∧
 (∀ w,Calls Tryz.prog 15 #[.pointer none] w fun e w'=>e=.returned (.agg #[.int .i64 0,.int .u64 0,.int .u64 0,.int .i64 0,.int .i64 0,.int .i64 0,.int .u64 0,.int .i64 0,.int .i64 0,.int .i64 0,.int .u64 0])∧Chg [] w w')
theorem nil_all:NilK:=⟨fun w=>nil_reset w,fun w=>nil_encode w,fun w=>nil_copy w,fun w=>nil_quantile w 0 1,fun w=>nil_rank w 1,fun w=>nil_ends w,fun w=>nil_total w,fun w=>nil_put w 1 1,fun w=>nil_join w _,fun w=>cfg_nil w⟩
set_option maxRecDepth 100000 in
set_option maxHeartbeats 8000000 in
theorem configs_K (w:World) (ht:Tens4 w) (c:Cf) (K:Kb c) (hk1:1≤c.kind) (hk6:c.kind≤6) (ao:Option Addr) (cap n:Nat) (l:List Vl) (hn:n=l.length) (hl:n≤1048576) (hr:Rd w 2 (.slice ao n cap) n (vlCells l)) (hok:∀ v∈l,v.ok) (d:Cf) :
 Calls Tryz.prog 7 #[c.val,.slice ao n cap,d.val] w fun e w'=>e=.returned (.bool true)∧Chg [] w w':=by
 obtain ⟨G,hG⟩:∃ G,G=greatV l:=⟨_,rfl⟩
 have HAL:=Lib.hid (fun u (hu:Chg [] w u)=>law23_alive u (ht.chg hu))
 have HBU:=Lib.hid (fun u (hu:Chg [] w u)=>law23_build u (ht.chg hu) c K ao cap n l hn hl (hr.chg hu (by simp)) hok)
 have HGR:=Lib.hid (fun u (hu:Chg [] w u)=>law23_great u ao cap n l hn (hr.chg hu (by simp)) (by omega) G hG)
 have HGV:=Lib.hid hG
 have HNI:=Lib.hid nil_all
 have HT:=Lib.hid ht
 have HKB:=Lib.hid (And.intro hk1 hk6)
 obtain ⟨X,hX⟩:∃ X,X=extraV c d:=⟨_,rfl⟩
 have HNX:=Lib.hid (show ∀ u,Chg [] w u→Calls Tryz.prog 27 #[(c.mix d).val] u fun e w'=>∃ v k,e=.returned (.tuple #[.pointer v,.int .i64 k])∧Chg [] u w'∧(X=true→k=1) from fun u hu=>by
  cases X with
  | true =>
    refine (new_extra u (ht.chg hu) c d hk1 hk6 hX.symm).mono ?_
    rintro e w' ⟨rfl,hc⟩
    exact ⟨_,_,rfl,hc,fun _=>rfl⟩
  | false =>
    refine (suite_new_any u (ht.chg hu) (c.mix d)).mono ?_
    rintro e w' ⟨v,k,rfl,hc⟩
    exact ⟨_,_,rfl,hc,fun h=>absurd h (by decide)⟩)
 have HXV:=Lib.hid hX
 have HNW:=Lib.hid (fun u (hu:Chg [] w u)=>K.new u (ht.chg hu))
 have HRS:=Lib.hid (show K.ok=true→∀ u,Chg [] w u→∀ s F st,K.P u s F st→_ from fun hko u hu s F st h=>K.reset h hko (ht.chg hu))
 obtain ⟨S,hS⟩:∃ S,S=encS K.kk (K.enc K.init):=⟨_,rfl⟩
 have HBYI:=Lib.hid (fun u s F (h:K.P u s F K.init)=>law23_bytes u c K s F K.init h (by rw [K.sz0];omega))
 have HTOI:=Lib.hid (fun u s F (h:K.P u s F K.init)=>K.totC h)
 rw [K.tot0] at HTOI
 rw [←hS] at HBYI
 have HSC:=Lib.hid hS
 clear hS
 clear hX
 have hb0:=(Blk.alloc_new w c.cells 28).chg ((Chg.refl [] _).alloc (.cells d.cells 28)) (by simp)
 have hb1:=Blk.alloc_new (w.alloc (.cells c.cells 28)) d.cells 28
 have HC0:=Lib.hid (((Chg.refl [] w).alloc (.cells c.cells 28)).alloc (.cells d.cells 28))
 obtain ⟨b0,hb0b⟩:∃ z,z=w.heap.size:=⟨_,rfl⟩
 obtain ⟨b1,hb1b⟩:∃ z,z=(w.alloc (.cells c.cells 28)).heap.size:=⟨_,rfl⟩
 rw [←hb0b] at hb0
 rw [←hb1b] at hb1
 obtain ⟨w0,hw0⟩:∃ z,z=(w.alloc (.cells c.cells 28)).alloc (.cells d.cells 28):=⟨_,rfl⟩
 rw [←hw0] at hb0 hb1 HC0
 have HB1C:=Lib.hid (show w.heap.size+1=b1 from by rw [hb1b];exact (Array.size_push ..).symm)
 have hne:b0≠b1:=by have:=HB1C.out;omega
 have HBW:=Lib.hid (show w.heap.size≤b0∧w.heap.size≤b1 from ⟨by omega,by have:=HB1C.out;omega⟩)
 have HB01:=Lib.hid (And.intro hb0 hb1)
 simp only [Cf.val,Cf.cells] at HBU hw0 ⊢
 simp only [Cf.val,Cf.cells,Cf.mix] at HNX
 simp only [Cf.val,Cf.cells] at HNW
 have HB0B:=Lib.hid hb0b
 have HW0:=Lib.hid hw0
 clear hb0b hw0 hb0 hb1 hb1b hr hok hn hG ht
 go_enter Tryz.func7,Tryz.ntmps7
 go_wp2_with fail
 rw [HB1C.out,←HB0B.out,←HW0.out]
 clear HB1C HB0B HW0
 refine (HAL.out _ HC0.out).mono ?_
 rintro e w1 ⟨rfl,hc1⟩
 have HC1:=Lib.hid (HC0.out.trans hc1)
 have HB1:=Lib.hid (And.intro (HB01.out.1.chg hc1 (by simp)) (HB01.out.2.chg hc1 (by simp)))
 clear hc1 HC0 HB01 HAL
 go_wp2_with fail
 refine (HNI.out.1 _).mono ?_
 rintro e w2 ⟨rfl,hc2⟩
 go_wp2_with fail
 refine (HNI.out.2.1 _).mono ?_
 rintro e w3 ⟨rfl,hc3⟩
 go_wp2_with fail
 refine (HNI.out.2.2.1 _).mono ?_
 rintro e w4 ⟨rfl,hc4⟩
 go_wp2_with fail
 refine (HNI.out.2.2.2.1 _).mono ?_
 rintro e w5 ⟨rfl,hc5⟩
 go_wp2_with fail
 refine (HNI.out.2.2.2.2.1 _).mono ?_
 rintro e w6 ⟨rfl,hc6⟩
 go_wp2_with fail
 refine (HNI.out.2.2.2.2.2.1 _).mono ?_
 rintro e w7 ⟨rfl,hc7⟩
 go_wp2_with fail
 refine (HNI.out.2.2.2.2.2.2.1 _).mono ?_
 rintro e w8 ⟨rfl,hc8⟩
 go_wp2_with fail
 refine (HNI.out.2.2.2.2.2.2.2.1 _).mono ?_
 rintro e w9 ⟨rfl,hc9⟩
 go_wp2_with fail
 refine (HNI.out.2.2.2.2.2.2.2.2.1 _).mono ?_
 rintro e w10 ⟨rfl,hc10⟩
 go_wp2_with fail
 refine (HNI.out.2.2.2.2.2.2.2.2.2 _).mono ?_
 rintro e w11 ⟨rfl,hc11⟩
 have hcc:=((((((((hc2.trans hc3).trans hc4).trans hc5).trans hc6).trans hc7).trans hc8).trans hc9).trans hc10).trans hc11
 have HC11:=Lib.hid (HC1.out.trans hcc)
 have HB11:=Lib.hid (And.intro (HB1.out.1.chg hcc (by simp)) (HB1.out.2.chg hcc (by simp)))
 clear hc2 hc3 hc4 hc5 hc6 hc7 hc8 hc9 hc10 hc11 hcc HC1 HB1 HNI
 obtain ⟨c0,c1,c2,c3,c4,c5,c6,c7,c8,c9,c10⟩:=cf_cells HB11.out.1
 go_wp2_with fail
 refine (HBU.out _ HC11.out).mono ?_
 clear c0 c1 c2 c3 c4 c5 c6 c7 c8 c9 c10
 have d1:decide (c.kind<1)=false:=decide_eq_false (by have:=HKB.out.1;omega)
 have d2:decide (6<c.kind)=false:=decide_eq_false (by have:=HKB.out.2;omega)
 rintro e w12 (⟨-,rfl,hc⟩|⟨hko,s,F,rfl,hP,hc,hF⟩)
 ·have HC12:=Lib.hid (HC11.out.trans hc)
  obtain ⟨c0,-⟩:=cf_cells (HB11.out.1.chg hc (by simp))
  clear hc HBU HGR HC11 HB11
  go_wp2
  go_ret
  exact ⟨rfl,HC12.out⟩
 have HC12:=Lib.hid (HC11.out.trans hc)
 have HB12:=Lib.hid (And.intro (HB11.out.1.chg hc (by simp)) (HB11.out.2.chg hc (by simp)))
 have HP12:=Lib.hid hP
 have HKO:=Lib.hid hko
 have HFW:=Lib.hid (show ∀ b∈F,w.heap.size≤b from fun b hb=>Nat.le_trans HC11.out.size (hF b hb))
 have HFB:=Lib.hid (show b0∉F∧b1∉F from ⟨fun h=>by have:=hF _ h;have:=HB11.out.1.lt;omega,fun h=>by have:=hF _ h;have:=HB11.out.2.lt;omega⟩)
 obtain ⟨c0,-⟩:=cf_cells HB12.out.1
 clear hc hP hF hko HBU HC11 HB11
 go_wp2_with fail
 refine (HGR.out _ HC12.out).mono ?_
 clear c0
 rintro e w13 ⟨rfl,hc⟩
 have HC13:=Lib.hid (HC12.out.trans hc)
 have HB13:=Lib.hid (And.intro (HB12.out.1.chg hc (by simp)) (HB12.out.2.chg hc (by simp)))
 have HP13:=Lib.hid (K.chg HP12.out hc (by simp))
 clear hc HGR HC12 HB12 HP12
 cases G with
 | true =>
   go_wp2
   go_ret
   exact ⟨rfl,HC13.out⟩
 | false =>
 go_upto_region 17 with (fail)
 obtain ⟨c0,c1,c2,c3,c4,c5,c6,c7,c8,c9,c10⟩:=cf_cells HB13.out.1
 have hz2:=Blk.alloc_new w13 c.cells 28
 have HC14:=Lib.hid (HC13.out.alloc (.cells c.cells 28))
 have hca:=(Chg.refl [] w13).alloc (.cells c.cells 28)
 have HB14:=Lib.hid (And.intro (HB13.out.1.chg hca (by simp)) (HB13.out.2.chg hca (by simp)))
 have HP14:=Lib.hid (K.chg HP13.out hca (by simp))
 obtain ⟨b2,hb2⟩:∃ z,z=w13.heap.size:=⟨_,rfl⟩
 have hn02:b0≠b2:=by have:=HB13.out.1.lt;omega
 have hn12:b1≠b2:=by have:=HB13.out.2.lt;omega
 have hnF:b2∉F:=fun e=>by have:=K.lt HP13.out _ e;omega
 have HBW2:=Lib.hid (show w.heap.size≤b2∧b2∉F from ⟨by rw [hb2];exact HC13.out.size,hnF⟩)
 rw [←hb2] at hz2
 have HB2:=Lib.hid hb2
 clear hb2 hca hnF HP13
 simp only [Cf.cells] at HC14 hz2 HB14 HP14
 go_upto_region 18 with (fail)
 rw [←HB2.out]
 clear c0 c1 c2 c3 c4 c5 c6 c7 c8 c9 c10 HB2 HC13 HB13
 generalize w13.alloc (.cells #[.int .i64 c.kind,.int .u64 c.num,.int .u64 c.den,.int .i64 c.side,.int .i64 c.most,.int .i64 c.digits,.int .u64 c.limit,.int .i64 c.depth,.int .i64 c.factor,.int .i64 c.width,.int .u64 c.word] 28)=w14 at *
 have HW8:=Lib.hid (show ∀ wx:World,wx=((w14.setCell ⟨b2,6,none⟩ (.int .u64 d.limit)).setCell ⟨b2,8,none⟩ (.int .i64 d.factor)).setCell ⟨b2,10,none⟩ (.int .u64 d.word)→Blk wx b2 (c.mix d).cells 28∧Chg [b2] w14 wx from fun wx hx=>by
  rw [hx]
  refine ⟨?_,(((Chg.refl [b2] w14).setCell (.inl (by simp)) _).setCell (.inl (by simp)) _).setCell (.inl (by simp)) _⟩
  have h':=((hz2.setCell 6 (.int .u64 d.limit)).setCell 8 (.int .i64 d.factor)).setCell 10 (.int .u64 d.word)
  have e:(c.mix d).cells=(((#[.int .i64 c.kind,.int .u64 c.num,.int .u64 c.den,.int .i64 c.side,.int .i64 c.most,.int .i64 c.digits,.int .u64 c.limit,.int .i64 c.depth,.int .i64 c.factor,.int .i64 c.width,.int .u64 c.word]:Array Value).setIfInBounds 6 (.int .u64 d.limit)).setIfInBounds 8 (.int .i64 d.factor)).setIfInBounds 10 (.int .u64 d.word):=by
   simp only [Cf.cells,Cf.mix,jI,jZ,jS]
  rw [e]
  exact h')
 obtain ⟨-,-,-,-,-,-,q6,-,q8,-,q10⟩:=cf_cells HB14.out.2
 have y8:=(HB14.out.2.chg ((Chg.refl [b2] w14).setCell (.inl (by simp)) (a:=⟨b2,6,none⟩) (.int .u64 d.limit)) (by simpa using hn12)).cell 8
 have y10:=(HB14.out.2.chg (((Chg.refl [b2] w14).setCell (.inl (by simp)) (a:=⟨b2,6,none⟩) (.int .u64 d.limit)).setCell (.inl (by simp)) (a:=⟨b2,8,none⟩) (.int .i64 d.factor)) (by simpa using hn12)).cell 10
 have z6:=hz2.free 6
 have z8:=(hz2.setCell 6 (.int .u64 d.limit)).free 8
 have z10:=((hz2.setCell 6 (.int .u64 d.limit)).setCell 8 (.int .i64 d.factor)).free 10
 have r6:=hz2.cell 6
 have r8:=(hz2.setCell 6 (.int .u64 d.limit)).cell 8
 have r10:=((hz2.setCell 6 (.int .u64 d.limit)).setCell 8 (.int .i64 d.factor)).cell 10
 simp only [List.getElem?_toArray,List.getElem?_cons_zero,List.getElem?_cons_succ,jI,jZ,jS] at r6 r8 r10
 clear hz2
 go_upto_region 21 with (fail)
 clear q6 q8 q10 y8 y10 z6 z8 z10 r6 r8 r10
 have HX:=Lib.hid (HW8.out _ rfl)
 clear HW8
 generalize ((w14.setCell ⟨b2,6,none⟩ (.int .u64 d.limit)).setCell ⟨b2,8,none⟩ (.int .i64 d.factor)).setCell ⟨b2,10,none⟩ (.int .u64 d.word)=w15 at *
 have HC15:=Lib.hid (HC14.out.trans' HX.out.2 (fun b hb=>by rw [List.mem_singleton.1 hb];exact .inr HBW2.out.1))
 have HP15:=Lib.hid (K.chg HP14.out HX.out.2 (fun b hb e=>by rw [List.mem_singleton.1 e] at hb;exact HBW2.out.2 hb))
 have HB15:=Lib.hid (And.intro (HB14.out.1.chg HX.out.2 (by simpa using hn02)) HX.out.1)
 clear HC14 HP14 HB14 HX hn02 hn12
 obtain ⟨m0,m1,m2,m3,m4,m5,m6,m7,m8,m9,m10⟩:=cf_cells HB15.out.2
 simp only [Cf.mix] at m0 m1 m2 m3 m4 m5 m6 m7 m8 m9 m10
 go_wp2_with fail
 refine (HNX.out _ HC15.out).mono ?_
 clear m0 m1 m2 m3 m4 m5 m6 m7 m8 m9 m10
 rintro e w16 ⟨v,kx,rfl,hc,hkx⟩
 have HC16:=Lib.hid (HC15.out.trans hc)
 have HP16:=Lib.hid (K.chg HP15.out hc (by simp))
 have HB16:=Lib.hid (And.intro (HB15.out.1.chg hc (by simp)) (HB15.out.2.chg hc (by simp)))
 have HKX:=Lib.hid hkx
 clear hc hkx HNX HC15 HP15 HB15
 go_upto_region 22 with (fail)
 obtain ⟨m0,m1,m2,m3,m4,m5,m6,m7,m8,m9,m10⟩:=cf_cells HB16.out.2
 simp only [Cf.mix] at m6 m8 m10
 obtain ⟨c0,c1,c2,c3,c4,c5,c6,c7,c8,c9,c10⟩:=cf_cells HB16.out.1
 clear m0 m1 m2 m3 m4 m5 m7 m9 c1 c2 c3 c4 c5 c6 c7 c8 c9 c10
 go_cut [24] (fun v wx=>v=.bool X∧wx=w16)
 case first =>
  have hxv:=HXV.out
  unfold extraV at hxv
  clear HP16 HB16 HKX HBW2 HFB HFW HKB HGV HT HC16 HNW HRS HBYI HTOI HSC
  have q1:(((c.kind:Int) != 2)=true∧(c.kind≠2))∨(((c.kind:Int) != 2)=false∧c.kind=2):=by by_cases h:c.kind=2<;>simp [h]
  have q2:(((d.limit:Int) != 0)=true∧(d.limit != 0)=true)∨(((d.limit:Int) != 0)=false∧(d.limit != 0)=false):=by by_cases h:d.limit=0<;>simp [h]
  have q3:(((c.kind:Int) != 3)=true∧(c.kind≠3))∨(((c.kind:Int) != 3)=false∧c.kind=3):=by by_cases h:c.kind=3<;>simp [h]
  have q4:(((d.factor:Int) != 0)=true)∨(((d.factor:Int) != 0)=false):=by by_cases h:d.factor=0<;>simp [h]
  have q5:(((c.kind:Int) != 5)=true∧(c.kind≠5))∨(((c.kind:Int) != 5)=false∧c.kind=5):=by by_cases h:c.kind=5<;>simp [h]
  have q6:(((d.word:Int) != 0)=true∧(d.word != 0)=true)∨(((d.word:Int) != 0)=false∧(d.word != 0)=false):=by by_cases h:d.word=0<;>simp [h]
  rcases q1 with ⟨q1,-⟩|⟨q1,-⟩<;>rcases q2 with ⟨q2,q2'⟩|⟨q2,q2'⟩<;>rcases q3 with ⟨q3,-⟩|⟨q3,-⟩<;>rcases q4 with q4|q4<;>rcases q5 with ⟨q5,-⟩|⟨q5,-⟩<;>rcases q6 with ⟨q6,q6'⟩|⟨q6,q6'⟩ <;>
   (rw [q1,q2',q3,q4,q5,q6'] at hxv;have HXV:=Lib.hid hxv;clear hxv;go_wp2_with fail;go_meet;exact ⟨by rw [HXV.out];rfl,rfl⟩)
 rename World=>wb
 obtain ⟨rfl,hcb⟩:=hcut
 subst hcb
 clear c0 m6 m8 m10
 obtain ⟨c0,c1,c2,c3,c4,c5,c6,c7,c8,c9,c10⟩:=cf_cells HB16.out.1
 go_wp2_with fail
 refine (HNW.out _ HC16.out).mono ?_
 clear c0 c1 c2 c3 c4 c5 c6 c7 c8 c9 c10
 rintro e w17 (⟨h,-⟩|⟨-,s2,F2,rfl,hP,hc,hF⟩)
 ·exact absurd (HKO.out.symm.trans h) (by decide)
 have HC17:=Lib.hid (HC16.out.trans hc)
 have HP17:=Lib.hid (K.chg HP16.out hc (by simp))
 have HQ17:=Lib.hid hP
 have HFF:=Lib.hid (show ∀ b∈F2,b∉F from fun b hb e=>by have h1:=hF b hb;have h2:=K.lt HP16.out b e;omega)
 clear hc hP hF HNW HC16 HP16 HB16
 go_wp2_with fail
 refine (HRS.out HKO.out _ HC17.out _ _ _ HP17.out).mono ?_
 rintro e w18 ⟨rfl,F3,hP,hm⟩
 have HC18:=Lib.hid (HC17.out.trans' hm.chg (fun b hb=>.inr (HFW.out b hb)))
 have HP18:=Lib.hid hP
 have HQ18:=Lib.hid (K.chg HQ17.out hm.chg (fun b hb=>HFF.out b hb))
 clear hP hm HRS HC17 HP17 HQ17 HFF
 cases X with
 | true =>
   obtain rfl:=HKX.out rfl
   clear HKX
   go_wp2_with fail
   refine (HBYI.out _ _ _ HP18.out).mono ?_
   rintro e w19 ⟨rfl,hc⟩
   have HC19:=Lib.hid (HC18.out.trans hc)
   have HP19:=Lib.hid (K.chg HP18.out hc (by simp))
   have HQ19:=Lib.hid (K.chg HQ18.out hc (by simp))
   clear hc HC18 HP18 HQ18
   go_wp2_with fail
   refine (HBYI.out _ _ _ HQ19.out).mono ?_
   rintro e w20 ⟨rfl,hc⟩
   have HC20:=Lib.hid (HC19.out.trans hc)
   have HP20:=Lib.hid (K.chg HP19.out hc (by simp))
   clear hc HC19 HP19 HQ19 HBYI
   go_wp2_with fail
   refine (HTOI.out _ _ _ HP20.out).mono ?_
   rintro e w21 ⟨rfl,hc⟩
   have HC21:=Lib.hid (HC20.out.trans hc)
   clear hc HC20 HP20 HTOI
   go_wp2
   go_ret
   exact ⟨rfl,HC21.out⟩
 | false =>
   clear HKX
   go_wp2_with fail
   refine (HBYI.out _ _ _ HP18.out).mono ?_
   rintro e w19 ⟨rfl,hc⟩
   have HC19:=Lib.hid (HC18.out.trans hc)
   have HP19:=Lib.hid (K.chg HP18.out hc (by simp))
   have HQ19:=Lib.hid (K.chg HQ18.out hc (by simp))
   clear hc HC18 HP18 HQ18
   go_wp2_with fail
   refine (HBYI.out _ _ _ HQ19.out).mono ?_
   rintro e w20 ⟨rfl,hc⟩
   have HC20:=Lib.hid (HC19.out.trans hc)
   have HP20:=Lib.hid (K.chg HP19.out hc (by simp))
   clear hc HC19 HP19 HQ19 HBYI
   go_wp2_with fail
   refine (HTOI.out _ _ _ HP20.out).mono ?_
   rintro e w21 ⟨rfl,hc⟩
   have HC21:=Lib.hid (HC20.out.trans hc)
   clear hc HC20 HP20 HTOI
   go_wp2
   go_ret
   exact ⟨rfl,HC21.out⟩
end Go.Proofs.YthoolcpcmhhkpaaGreatDoor
