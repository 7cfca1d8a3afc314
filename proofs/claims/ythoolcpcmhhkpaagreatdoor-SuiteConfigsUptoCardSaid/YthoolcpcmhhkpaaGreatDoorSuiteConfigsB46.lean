/-
  Parts of a proof, pressed. Conditions: the form's own reach.
-/
import Derived.Test.YthoolcpcmhhkpaaGreatDoorSuiteConfigsB45
namespace Go.Proofs.YthoolcpcmhhkpaaGreatDoor
open Go.RowKit
set_option maxRecDepth 100000 in
set_option maxHeartbeats 8000000 in
theorem configs_none (w:World) (ht:Tens4 w) (c:Cf) (hk:NoKind c.kind) (v:Value) (d:Cf) :
 Calls Tryz.prog 7 #[c.val,v,d.val] w fun e w'=>e=.returned (.bool true)∧Chg [] w w':=by
 have HAL:=Lib.hid (fun u (hu:Chg [] w u)=>law23_alive u (ht.chg hu))
 have HBU:=Lib.hid (fun u=>law23_build_none u c hk v)
 have HKB:=Lib.hid hk
 have HNI:=Lib.hid nil_all
 have HT:=Lib.hid ht
 have hb0:=(Blk.alloc_new w c.cells 28).chg ((Chg.refl [] _).alloc (.cells d.cells 28)) (by simp)
 have hb1:=Blk.alloc_new (w.alloc (.cells c.cells 28)) d.cells 28
 have HC0:=Lib.hid (((Chg.refl [] w).alloc (.cells c.cells 28)).alloc (.cells d.cells 28))
 obtain ⟨b0,hb0b⟩:∃ z,z=w.heap.size:=⟨_,rfl⟩
 obtain ⟨b1,hb1b⟩:∃ z,z=(w.alloc (.cells c.cells 28)).heap.size:=⟨_,rfl⟩
 rw [←hb0b] at hb0
 rw [←hb1b] at hb1
 obtain ⟨w0,hw0⟩:∃ z,z=(w.alloc (.cells c.cells 28)).alloc (.cells d.cells 28):=⟨_,rfl⟩
 rw [←hw0] at hb0 hb1 HC0
 have HB1C:=Lib.hid (show w.heap.size+1=b1 from by rw [hb1b];exact (Array.size_push ..).symm)
 have hne:b0≠b1:=by have:=HB1C.out;omega
 have HBW:=Lib.hid (show w.heap.size≤b0∧w.heap.size≤b1 from ⟨by omega,by have:=HB1C.out;omega⟩)
 have HB01:=Lib.hid (And.intro hb0 hb1)
 simp only [Cf.val,Cf.cells] at HBU hw0 ⊢
 have HB0B:=Lib.hid hb0b
 have HW0:=Lib.hid hw0
 clear hb0b hw0 hb0 hb1 hb1b ht hk
 go_enter Tryz.func7,Tryz.ntmps7
 go_wp2_with fail
 rw [HB1C.out,←HB0B.out,←HW0.out]
 clear HB1C HB0B HW0
 refine (HAL.out _ HC0.out).mono ?_
 rintro e w1 ⟨rfl,hc1⟩
 have HC1:=Lib.hid (HC0.out.trans hc1)
 have HB1:=Lib.hid (And.intro (HB01.out.1.chg hc1 (by simp)) (HB01.out.2.chg hc1 (by simp)))
 clear hc1 HC0 HB01 HAL
 go_wp2_with fail
 refine (HNI.out.1 _).mono ?_
 rintro e w2 ⟨rfl,hc2⟩
 go_wp2_with fail
 refine (HNI.out.2.1 _).mono ?_
 rintro e w3 ⟨rfl,hc3⟩
 go_wp2_with fail
 refine (HNI.out.2.2.1 _).mono ?_
 rintro e w4 ⟨rfl,hc4⟩
 go_wp2_with fail
 refine (HNI.out.2.2.2.1 _).mono ?_
 rintro e w5 ⟨rfl,hc5⟩
 go_wp2_with fail
 refine (HNI.out.2.2.2.2.1 _).mono ?_
 rintro e w6 ⟨rfl,hc6⟩
 go_wp2_with fail
 refine (HNI.out.2.2.2.2.2.1 _).mono ?_
 rintro e w7 ⟨rfl,hc7⟩
 go_wp2_with fail
 refine (HNI.out.2.2.2.2.2.2.1 _).mono ?_
 rintro e w8 ⟨rfl,hc8⟩
 go_wp2_with fail
 refine (HNI.out.2.2.2.2.2.2.2.1 _).mono ?_
 rintro e w9 ⟨rfl,hc9⟩
 go_wp2_with fail
 refine (HNI.out.2.2.2.2.2.2.2.2.1 _).mono ?_
 rintro e w10 ⟨rfl,hc10⟩
 go_wp2_with fail
 refine (HNI.out.2.2.2.2.2.2.2.2.2 _).mono ?_
 rintro e w11 ⟨rfl,hc11⟩
 have hcc:=((((((((hc2.trans hc3).trans hc4).trans hc5).trans hc6).trans hc7).trans hc8).trans hc9).trans hc10).trans hc11
 have HC11:=Lib.hid (HC1.out.trans hcc)
 have HB11:=Lib.hid (And.intro (HB1.out.1.chg hcc (by simp)) (HB1.out.2.chg hcc (by simp)))
 clear hc2 hc3 hc4 hc5 hc6 hc7 hc8 hc9 hc10 hc11 hcc HC1 HB1 HNI
 obtain ⟨c0,c1,c2,c3,c4,c5,c6,c7,c8,c9,c10⟩:=cf_cells HB11.out.1
 go_wp2_with fail
 refine (HBU.out _).mono ?_
 clear c0 c1 c2 c3 c4 c5 c6 c7 c8 c9 c10
 rintro e w12 ⟨rfl,hc⟩
 have HC12:=Lib.hid (HC11.out.trans hc)
 obtain ⟨c0,-⟩:=cf_cells (HB11.out.1.chg hc (by simp))
 clear hc HBU HC11 HB11
 by_cases h1:c.kind<1
 ·have d1:decide (c.kind<1)=true:=decide_eq_true h1
  clear h1
  go_wp2
  go_ret
  exact ⟨rfl,HC12.out⟩
 ·have d1:decide (c.kind<1)=false:=decide_eq_false h1
  have d2:decide (6<c.kind)=true:=decide_eq_true (by obtain ⟨a1,a2,a3,a4,a5,a6⟩:=HKB.out;omega)
  clear h1
  go_wp2
  go_ret
  exact ⟨rfl,HC12.out⟩
theorem law_SuiteConfigs (w:World) (ht:Tens4 w) (c:Cf) (hc:c.okR) (ao:Option Addr) (cap:Nat) (l:List Vl) (hr:Rd w 2 (.slice ao l.length cap) l.length (vlCells l)) (hl:l.length≤1048576) (hok:∀ v∈l,v.ok) (d:Cf) (_hd:d.okR) :
 Calls Tryz.prog 7 #[c.val,.slice ao l.length cap,d.val] w fun e w'=>e=.returned (.bool true)∧Chg [] w w':=by
 by_cases hk:NoKind c.kind
 ·exact configs_none w ht c hk _ d
 ·rcases kinds c hc.word with ⟨⟨K⟩⟩|h
  ·have hb:1≤c.kind∧c.kind≤6:=by
    unfold NoKind at hk
    omega
   exact configs_K w ht c K hb.1 hb.2 ao cap _ l rfl hl hr hok d
  ·exact absurd h hk
end Go.Proofs.YthoolcpcmhhkpaaGreatDoor
