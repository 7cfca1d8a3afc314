/-
  Parts of a proof, pressed. Conditions: the form's own reach.
-/
import Derived.Test.YthoolcpcmhhkpaaGreatDoorSuiteConfigsB2
import Derived.Test.YthoolcpcmhhkpaaGreatDoorSuiteConfigsB29
import Derived.Test.YthoolcpcmhhkpaaGreatDoorSuiteConfigsB15
import Derived.Test.YthoolcpcmhhkpaaGreatDoorSuiteConfigsB5
import Derived.Test.YthoolcpcmhhkpaaGreatDoorSuiteConfigsB6
namespace Go.Proofs.YthoolcpcmhhkpaaGreatDoor
open Go.RowKit
set_option maxRecDepth 100000 in
theorem cells_good (w:World) (num den:Nat) :
 Calls Tryz.prog 152 #[.agg #[.int .u64 (num:Nat),.int .u64 (den:Nat)]] w fun e w'=>e=.returned (.bool (goodC11 num den))∧Chg [] w w':=by
 have HG:=Lib.hid (show goodC11 num den=(decide (0<num)&&(decide (num<den)&&decide (den≤2147483648))) from rfl)
 generalize goodC11 num den=G at *
 have hc:=(Chg.refl [] w).alloc (.cells #[.int .u64 num,.int .u64 den] 25)
 have hbx:=Blk.alloc_new w #[.int .u64 num,.int .u64 den] 25
 have c0:=hbx.cell 0
 have c1:=hbx.cell 1
 by_cases h1:0<num
 case neg =>
  have d1:decide ((0:Int)<(num:Int))=false:=decide_eq_false (by omega)
  have d1':decide (0<num)=false:=decide_eq_false h1
  have e1:G=false:=by rw [HG.out,d1'];rfl
  subst e1
  clear HG h1
  go_enter Tryz.func152,Tryz.ntmps152
  go_wp2
  go_ret
  exact ⟨rfl,hc⟩
 case pos =>
 have d1:decide ((0:Int)<(num:Int))=true:=decide_eq_true (by omega)
 have d1':decide (0<num)=true:=decide_eq_true h1
 rw [d1',Bool.true_and] at HG
 by_cases h2:num<den
 case neg =>
  have d2:decide (num<den)=false:=decide_eq_false h2
  have e1:G=false:=by rw [HG.out,d2];rfl
  subst e1
  clear HG h1 h2
  go_enter Tryz.func152,Tryz.ntmps152
  go_wp2
  go_ret
  exact ⟨rfl,hc⟩
 case pos =>
 have d2:decide (num<den)=true:=decide_eq_true h2
 rw [d2,Bool.true_and] at HG
 clear h1 h2
 by_cases h3:den≤2147483648
 case neg =>
  have d3:decide ((den:Int)≤2147483648)=false:=decide_eq_false (by omega)
  have e1:G=false:=by rw [HG.out];exact decide_eq_false h3
  subst e1
  clear HG h3
  go_enter Tryz.func152,Tryz.ntmps152
  go_wp2
  go_ret
  exact ⟨rfl,hc⟩
 case pos =>
 have d3:decide ((den:Int)≤2147483648)=true:=decide_eq_true (by omega)
 have e1:G=true:=by rw [HG.out];exact decide_eq_true h3
 subst e1
 clear HG h3
 go_enter Tryz.func152,Tryz.ntmps152
 go_wp2
 go_ret
 exact ⟨rfl,hc⟩
theorem floor_in {low den num:Nat} (h1:num<den) (hl:low≤9223372036854775808):low*(den+num)<den*18446744073709551616:=by
 have a:=Nat.mul_le_mul_right (den+num) hl
 omega
set_option maxRecDepth 100000 in
set_option maxHeartbeats 4000000 in
theorem cells_next (w:World) (num den low:Nat) (h0:0<num) (h1:num<den) (h2:den≤2147483648) (hl:low≤9223372036854775808) (A B:Nat) (hA:A=(nextC num den low).1) (hB:B=(nextC num den low).2) :
 Calls Tryz.prog 153 #[.agg #[.int .u64 (num:Nat),.int .u64 (den:Nat)],.int .u64 (low:Nat)] w fun e w'=>e=.returned (.tuple #[.int .u64 (A:Nat),.int .u64 (B:Nat)])∧Chg [] w w':=by
 obtain ⟨r,hr⟩:∃ r,r=low*(den+num) / den:=⟨_,rfl⟩
 obtain ⟨s,hs⟩:∃ s,s=den+num:=⟨_,rfl⟩
 obtain ⟨d,hd⟩:∃ d,d=den-num:=⟨_,rfl⟩
 have hf:=floor_in h1 hl
 have HF1:=Lib.hid (fun u=>wide_floor u low s den (low*(den+num)) (by rw [hs]) (by omega) (by omega) (by omega))
 have e1:floorV (low*(den+num)) den=.tuple #[.int .u64 (r:Nat),.bool true]:=by unfold floorV;rw [if_pos hf,hr]
 rw [e1] at HF1
 have hrb:r<18446744073709551616:=by rw [hr];exact Nat.div_lt_of_lt_mul hf
 have HF2:=Lib.hid (fun u=>wide_floor u r den d (r*den) rfl hrb (by omega) (by omega))
 have HA:=Lib.hid (show A=(if 9223372036854775808<r then 9223372036854775807 else min r 9223372036854775807)∧B=(if 9223372036854775808<r then 9223372036854775808 else min (r*den / d) 9223372036854775808) from by
  rw [hA,hB,hd]
  unfold nextC
  simp only [two63,←hr]
  split<;>simp)
 have HDB:=Lib.hid (show 1≤d∧d≤2147483648 from by omega)
 have hbx:=Blk.alloc_new w #[.int .u64 num,.int .u64 den] 25
 have HC0:=Lib.hid ((Chg.refl [] w).alloc (.cells #[.int .u64 num,.int .u64 den] 25))
 have hw1:IntKind.u64.wrap ((den:Int)+(num:Int))=(s:Int):=by rw [IntKind.wrap_u64];omega
 have hw2:IntKind.u64.wrap ((den:Int)-(num:Int))=(d:Int):=by rw [IntKind.wrap_u64];omega
 obtain ⟨b2,hb2⟩:∃ z,z=w.heap.size:=⟨_,rfl⟩
 rw [←hb2] at hbx
 have HBX:=Lib.hid hbx
 clear e1 hf hA hB hr hs hd hbx h0 h1 h2 hl
 go_enter Tryz.func153,Tryz.ntmps153
 go_wp2_with fail
 rw [←hb2]
 clear hb2
 generalize w.alloc (.cells #[.int .u64 num,.int .u64 den] 25)=w0 at *
 have c0:=HBX.out.cell 0
 have c1:=HBX.out.cell 1
 simp only [List.getElem?_toArray,List.getElem?_cons_zero,List.getElem?_cons_succ] at c0 c1
 go_wp2_with fail
 refine (HF1.out w0).mono ?_
 rintro e w1 ⟨rfl,hc1⟩
 have HC1:=Lib.hid (HC0.out.trans hc1)
 have HB1:=Lib.hid (HBX.out.chg hc1 (by simp))
 clear c0 c1 hc1 HF1 HC0 HBX hw1
 by_cases hbig:9223372036854775808<r
 ·have db:decide (9223372036854775808<(r:Int))=true:=decide_eq_true (by omega)
  have db':decide (9223372036854775808<r)=true:=decide_eq_true hbig
  have HAB:=Lib.hid (show A=9223372036854775807∧B=9223372036854775808 from by have:=HA.out;rw [if_pos hbig,if_pos hbig] at this;exact this)
  clear hbig HA HF2
  go_wp2
  go_ret2
  rw [HAB.out.1,HAB.out.2]
  exact ⟨rfl,HC1.out⟩
 ·have db:decide (9223372036854775808<(r:Int))=false:=decide_eq_false (by omega)
  have db':decide (9223372036854775808<r)=false:=decide_eq_false hbig
  have HAB:=Lib.hid (show A=min r 9223372036854775807∧B=min (r*den / d) 9223372036854775808 from by have:=HA.out;rw [if_neg hbig,if_neg hbig] at this;exact this)
  have c0:=HB1.out.cell 0
  have c1:=HB1.out.cell 1
  simp only [List.getElem?_toArray,List.getElem?_cons_zero,List.getElem?_cons_succ] at c0 c1
  have HRB:=Lib.hid (show r≤9223372036854775808 from by omega)
  clear hbig HA
  obtain ⟨Q,hQ⟩:∃ Q,Q=r*den / d:=⟨_,rfl⟩
  rw [←hQ] at HAB
  by_cases hok:r*den<d*18446744073709551616
  ·have e2:floorV (r*den) d=.tuple #[.int .u64 (Q:Nat),.bool true]:=by unfold floorV;rw [if_pos hok,hQ]
   rw [e2] at HF2
   have HQB:=Lib.hid (show Q<18446744073709551616 from by rw [hQ];exact Nat.div_lt_of_lt_mul hok)
   clear e2 hok hQ
   go_wp2_with fail
   refine (HF2.out w1).mono ?_
   rintro e w2 ⟨rfl,hc2⟩
   have HC2:=Lib.hid (HC1.out.trans hc2)
   clear hc2 HF2 c0 c1
   by_cases hq:9223372036854775808<Q
   ·have dq:decide (9223372036854775808<(Q:Int))=true:=decide_eq_true (by omega)
    have dq':decide (9223372036854775808<Q)=true:=decide_eq_true hq
    have HE:=Lib.hid (show B=9223372036854775808 from by rw [HAB.out.2];omega)
    clear hq
    go_wp2
    go_ret2
    have hA:(A:Int)=min (r:Int) 9223372036854775807:=by have:=HAB.out.1;omega
    have hB:(B:Int)=9223372036854775808:=by have:=HE.out;omega
    rw [hA,hB]
    exact ⟨rfl,HC2.out⟩
   ·have dq:decide (9223372036854775808<(Q:Int))=false:=decide_eq_false (by omega)
    have dq':decide (9223372036854775808<Q)=false:=decide_eq_false hq
    have HE:=Lib.hid (show B=Q from by rw [HAB.out.2];omega)
    clear hq
    go_wp2
    go_ret2
    have hA:(A:Int)=min (r:Int) 9223372036854775807:=by have:=HAB.out.1;omega
    have hB:(B:Int)=(Q:Int):=by have:=HE.out;omega
    rw [hA,hB]
    exact ⟨rfl,HC2.out⟩
  ·have e2:floorV (r*den) d=.tuple #[.int .u64 0,.bool false]:=by unfold floorV;rw [if_neg hok]
   rw [e2] at HF2
   have HE:=Lib.hid (show B=9223372036854775808 from by
    have:18446744073709551616≤Q:=by rw [hQ,Nat.le_div_iff_mul_le (by have:=HDB.out;omega),Nat.mul_comm];omega
    rw [HAB.out.2];omega)
   clear e2 hok hQ
   go_wp2_with fail
   refine (HF2.out w1).mono ?_
   rintro e w2 ⟨rfl,hc2⟩
   have HC2:=Lib.hid (HC1.out.trans hc2)
   clear hc2 HF2 c0 c1
   go_wp2
   go_ret2
   have hA:(A:Int)=min (r:Int) 9223372036854775807:=by have:=HAB.out.1;omega
   have hB:(B:Int)=9223372036854775808:=by have:=HE.out;omega
   rw [hA,hB]
   exact ⟨rfl,HC2.out⟩
end Go.Proofs.YthoolcpcmhhkpaaGreatDoor
