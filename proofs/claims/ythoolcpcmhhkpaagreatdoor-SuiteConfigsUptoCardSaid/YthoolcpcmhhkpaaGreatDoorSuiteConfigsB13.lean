/-
  Parts of a proof, pressed. Conditions: the form's own reach.
-/
import Derived.Test.YthoolcpcmhhkpaaGreatDoorSuiteConfigsB12
import Derived.Test.YthoolcpcmhhkpaaGreatDoorSuiteConfigsB5
import Derived.Test.YthoolcpcmhhkpaaGreatDoorSuiteConfigsB6
import Derived.Laws.StructEq
namespace Go.Proofs.YthoolcpcmhhkpaaGreatDoor
open Go.RowKit
theorem wd_under:Tryz.prog.underlying 302=some (.struct (Tryz.prog.fieldsOf 302)):=by kernel_rfl
theorem wd_stood:Tryz.prog.stoodInHeld 302=false:=by kernel_rfl
theorem wide_eql (a b:Int) (m n:Int) (w:World):(binOp .eql 302 (.agg #[.int .u64 a,.int .u64 m]) (.agg #[.int .u64 b,.int .u64 n])).run Tryz.prog w=.ok (.bool (a==b&&m==n)) w:=by
 have u4:=Tryz.underlying23
 have a4:=Tryz.isAgg23
 have z4:=Tryz.sizeOf23
 rw [run_eql_struct,show (10000:Nat)=9999+1 from rfl,run_equalIn_agg w 9999 302 _ _ wd_under wd_stood]
 simp only [Program.fieldsOf,Tryz.underlying302]
 go_simp
 by_cases h1:a=b<;>by_cases h2:m=n<;>simp [h1,h2]
set_option maxRecDepth 100000 in
set_option maxHeartbeats 2000000 in
theorem wide_compare (w:World) (h1 l1 h2 l2:Nat) (V:Int) (hV:V=if h1=h2∧l1=l2 then 0 else if h1<h2∨h1=h2∧l1<l2 then -1 else 1) :
 Calls Tryz.prog 265 #[.agg #[.int .u64 (h1:Nat),.int .u64 (l1:Nat)],.agg #[.int .u64 (h2:Nat),.int .u64 (l2:Nat)]] w fun e w'=>e=.returned (.int .i64 V)∧Chg [] w w':=by
 have hc:=((Chg.refl [] w).alloc (.cells #[.int .u64 (h1:Nat),.int .u64 (l1:Nat)] 302)).alloc (.cells #[.int .u64 (h2:Nat),.int .u64 (l2:Nat)] 302)
 have HV:=Lib.hid hV
 clear hV
 have he:=wide_eql (h1:Nat) (h2:Nat) (l1:Nat) (l2:Nat)
 go_enter Tryz.func265,Tryz.ntmps265
 by_cases e0:h1=h2∧l1=l2
 ·have hb:(((h1:Nat):Int)==((h2:Nat):Int)&&((l1:Nat):Int)==((l2:Nat):Int))=true:=by rw [Bool.and_eq_true,beq_iff_eq,beq_iff_eq];omega
  rw [hb] at he
  obtain rfl:V=0:=by rw [HV.out,if_pos e0]
  clear hb e0
  go_wp2
  go_ret
  exact ⟨rfl,hc⟩
 have hb:(((h1:Nat):Int)==((h2:Nat):Int)&&((l1:Nat):Int)==((l2:Nat):Int))=false:=by rw [Bool.and_eq_false_iff,beq_eq_false_iff_ne,beq_eq_false_iff_ne];omega
 rw [hb] at he
 clear hb
 by_cases e1:h1<h2
 ·have d1:decide (h1<h2)=true:=decide_eq_true e1
  obtain rfl:V=-1:=by rw [HV.out,if_neg e0,if_pos (.inl e1)]
  clear e0 e1
  go_wp2
  go_ret
  exact ⟨rfl,hc⟩
 have d1:decide (h1<h2)=false:=decide_eq_false e1
 by_cases e2:h1=h2
 ·have d2:((h1:Int)==(h2:Int))=true:=by rw [beq_iff_eq];omega
  by_cases e3:l1<l2
  ·have d3:decide (l1<l2)=true:=decide_eq_true e3
   obtain rfl:V=-1:=by rw [HV.out,if_neg e0,if_pos (.inr ⟨e2,e3⟩)]
   clear e0 e1 e2 e3
   go_wp2
   go_ret
   exact ⟨rfl,hc⟩
  ·have d3:decide (l1<l2)=false:=decide_eq_false e3
   obtain rfl:V=1:=by rw [HV.out,if_neg e0,if_neg (by omega)]
   clear e0 e1 e2 e3
   go_wp2
   go_ret
   exact ⟨rfl,hc⟩
 ·have d2:((h1:Int)==(h2:Int))=false:=by rw [beq_eq_false_iff_ne];omega
  obtain rfl:V=1:=by rw [HV.out,if_neg e0,if_neg (by omega)]
  clear e0 e1 e2
  go_wp2
  go_ret
  exact ⟨rfl,hc⟩
theorem pair_lt (X Y:Nat) (V:Int) (hV:V=if X / 18446744073709551616=Y / 18446744073709551616∧X % 18446744073709551616=Y % 18446744073709551616 then 0 else if X / 18446744073709551616<Y / 18446744073709551616∨X / 18446744073709551616=Y / 18446744073709551616∧X % 18446744073709551616<Y % 18446744073709551616 then -1 else 1):decide (V<0)=decide (X<Y):=by
 have h1:X=Y↔X / 18446744073709551616=Y / 18446744073709551616∧X % 18446744073709551616=Y % 18446744073709551616:=by omega
 have h2:X<Y↔X / 18446744073709551616<Y / 18446744073709551616∨X / 18446744073709551616=Y / 18446744073709551616∧X % 18446744073709551616<Y % 18446744073709551616:=by omega
 rw [decide_eq_decide,h2,hV]
 split
 ·rename_i h;omega
 ·split
  ·rename_i h;simp [h]
  ·rename_i h;simp [h]
theorem enters_times:∀ (args:Array Value) (w:World),(callFunc 205 args).run Tryz.prog w=.ok (.enter 205 args) w:=enters_of Tryz.func205 (by kernel_rfl) rfl
theorem enters_compare:∀ (args:Array Value) (w:World),(callFunc 265 args).run Tryz.prog w=.ok (.enter 265 args) w:=enters_of Tryz.func265 (by kernel_rfl) rfl
set_option maxRecDepth 100000 in
set_option maxHeartbeats 2000000 in
theorem wide_less (w:World) (a b c d:Nat) (ha:a<18446744073709551616) (hb:b<18446744073709551616) (hc:c<18446744073709551616) (hd:d<18446744073709551616) (hb0:0<b) (hd0:0<d) (B:Bool) (hB:B=decide (a*d<c*b)) :
 Calls Tryz.prog 226 #[.agg #[.int .u64 (a:Nat),.int .u64 (b:Nat)],.agg #[.int .u64 (c:Nat),.int .u64 (d:Nat)]] w fun e w'=>e=.returned (.bool B)∧Chg [] w w':=by
 obtain ⟨X,hX⟩:∃ X,X=a*d:=⟨_,rfl⟩
 obtain ⟨Y,hY⟩:∃ Y,Y=c*b:=⟨_,rfl⟩
 rw [←hX,←hY] at hB
 obtain ⟨h1,eh1⟩:∃ z,z=X / 18446744073709551616:=⟨_,rfl⟩
 obtain ⟨l1,el1⟩:∃ z,z=X % 18446744073709551616:=⟨_,rfl⟩
 obtain ⟨h2,eh2⟩:∃ z,z=Y / 18446744073709551616:=⟨_,rfl⟩
 obtain ⟨l2,el2⟩:∃ z,z=Y % 18446744073709551616:=⟨_,rfl⟩
 obtain ⟨V,hV⟩:∃ V:Int,V=if h1=h2∧l1=l2 then 0 else if h1<h2∨h1=h2∧l1<l2 then -1 else 1:=⟨_,rfl⟩
 have HT1:=Lib.hid (fun u=>wide_times u a d h1 l1 ha hd (by rw [←hX,eh1]) (by rw [←hX,el1]))
 have HT2:=Lib.hid (fun u=>wide_times u c b h2 l2 hc hb (by rw [←hY,eh2]) (by rw [←hY,el2]))
 have HCM:=Lib.hid (fun u=>wide_compare u h1 l1 h2 l2 V hV)
 have hVB:decide (V<0)=B:=by rw [hB];exact pair_lt X Y V (by rw [hV,eh1,el1,eh2,el2])
 have hb1:((b:Int)==0)=false:=by rw [beq_eq_false_iff_ne];omega
 have hd1:((d:Int)==0)=false:=by rw [beq_eq_false_iff_ne];omega
 obtain ⟨b2,hb2⟩:∃ z,z=w.heap.size:=⟨_,rfl⟩
 obtain ⟨b3,hb3⟩:∃ z,z=w.heap.size+1:=⟨_,rfl⟩
 have HB2:=Lib.hid (show Blk ((w.alloc (.cells #[.int .u64 (a:Nat),.int .u64 (b:Nat)] 25)).alloc (.cells #[.int .u64 (c:Nat),.int .u64 (d:Nat)] 25)) b2 #[.int .u64 (a:Nat),.int .u64 (b:Nat)] 25 from by rw [hb2];exact (Blk.alloc_new w _ _).alloc _)
 have HB3:=Lib.hid (show Blk ((w.alloc (.cells #[.int .u64 (a:Nat),.int .u64 (b:Nat)] 25)).alloc (.cells #[.int .u64 (c:Nat),.int .u64 (d:Nat)] 25)) b3 #[.int .u64 (c:Nat),.int .u64 (d:Nat)] 25 from by rw [hb3,←World.size_alloc w (.cells #[.int .u64 (a:Nat),.int .u64 (b:Nat)] 25)];exact Blk.alloc_new _ _ _)
 have HC0:=Lib.hid (((Chg.refl [] w).alloc (.cells #[.int .u64 (a:Nat),.int .u64 (b:Nat)] 25)).alloc (.cells #[.int .u64 (c:Nat),.int .u64 (d:Nat)] 25))
 clear hX hY hB eh1 el1 eh2 el2 hV ha hb hc hd hb0 hd0
 go_enter Tryz.func226,Tryz.ntmps226
 go_wp2_with fail
 rw [←hb3,←hb2]
 clear hb2 hb3
 generalize ((w.alloc (.cells #[.int .u64 (a:Nat),.int .u64 (b:Nat)] 25)).alloc (.cells #[.int .u64 (c:Nat),.int .u64 (d:Nat)] 25))=w0 at *
 have HS:=Lib.hid (fun wx (hu:Chg [] w0 wx)=>show wx.cell? ⟨b2,0,none⟩=some (.int .u64 (a:Nat))∧wx.cell? ⟨b2,1,none⟩=some (.int .u64 (b:Nat))∧wx.cell? ⟨b3,0,none⟩=some (.int .u64 (c:Nat))∧wx.cell? ⟨b3,1,none⟩=some (.int .u64 (d:Nat)) from ⟨(HB2.out.chg hu (by simp)).cell 0,(HB2.out.chg hu (by simp)).cell 1,(HB3.out.chg hu (by simp)).cell 0,(HB3.out.chg hu (by simp)).cell 1⟩)
 obtain ⟨z0,z1,z2,z3⟩:=HS.out w0 (Chg.refl [] w0)
 go_wp2_with fail
 clear z0 z1 z2 z3
 have hSS:=HS.out w0.drew (Chg.refl [] w0).drew
 refine startN (S:=fun wx=>wx.cell? ⟨b2,0,none⟩=some (.int .u64 (a:Nat))∧wx.cell? ⟨b2,1,none⟩=some (.int .u64 (b:Nat))∧wx.cell? ⟨b3,0,none⟩=some (.int .u64 (c:Nat))∧wx.cell? ⟨b3,1,none⟩=some (.int .u64 (d:Nat))) (by kernel_rfl) hSS (fun hHeld => ?_)
 refine takeN (i:=0) (v:=?va0) rfl (by kernel_rfl) (by kernel_rfl) (by kernel_rfl) (fun _ _ _ h=>h) (Or.inl ⟨by rfl,?ya0⟩) hSS ?ra0
 case ya0=>(intro w hSw;(try dsimp only at hSw);go_simp;first|done|with_reducible rfl)
 try simp only [Act.put,jI,jZ,jS]
 refine takeN (i:=1) (v:=?va1) rfl (by kernel_rfl) (by kernel_rfl) (by kernel_rfl) (fun _ _ _ h=>h) (Or.inl ⟨by rfl,?ya1⟩) hSS ?ra1
 case ya1=>(intro w hSw;(try dsimp only at hSw);go_simp;first|done|with_reducible rfl)
 try simp only [Act.put,jI,jZ,jS]
 refine takeN (i:=2) (v:=?va2) rfl (by kernel_rfl) (by kernel_rfl) (by kernel_rfl) (fun _ _ _ h=>h) (Or.inl ⟨by rfl,?ya2⟩) hSS ?ra2
 case ya2=>(intro w hSw;(try dsimp only at hSw);go_simp;first|done|with_reducible rfl)
 try simp only [Act.put,jI,jZ,jS]
 refine takeN (i:=3) (v:=?va3) rfl (by kernel_rfl) (by kernel_rfl) (by kernel_rfl) (fun _ _ _ h=>h) (Or.inl ⟨by rfl,?ya3⟩) hSS ?ra3
 case ya3=>(intro w hSw;(try dsimp only at hSw);go_simp;first|done|with_reducible rfl)
 try simp only [Act.put,jI,jZ,jS]
 refine takeN (i:=5) (v:=?va5) rfl (by kernel_rfl) (by kernel_rfl) (by kernel_rfl) (fun _ _ _ h=>h) (Or.inl ⟨by rfl,?ya5⟩) hSS ?ra5
 case ya5=>(intro w hSw;(try dsimp only at hSw);go_simp;first|done|with_reducible rfl)
 try simp only [Act.put,jI,jZ,jS]
 refine takeN (i:=6) (v:=?va6) rfl (by kernel_rfl) (by kernel_rfl) (by kernel_rfl) (fun _ _ _ h=>h) (Or.inl ⟨by rfl,?ya6⟩) hSS ?ra6
 case ya6=>(intro w hSw;(try dsimp only at hSw);go_simp;first|done|with_reducible rfl)
 try simp only [Act.put,jI,jZ,jS]
 refine takeN (i:=7) (v:=?va7) rfl (by kernel_rfl) (by kernel_rfl) (by kernel_rfl) (fun _ _ _ h=>h) (Or.inl ⟨by rfl,?ya7⟩) hSS ?ra7
 case ya7=>(intro w hSw;(try dsimp only at hSw);go_simp;first|done|with_reducible rfl)
 try simp only [Act.put,jI,jZ,jS]
 refine takeN (i:=8) (v:=?va8) rfl (by kernel_rfl) (by kernel_rfl) (by kernel_rfl) (fun _ _ _ h=>h) (Or.inl ⟨by rfl,?ya8⟩) hSS ?ra8
 case ya8=>(intro w hSw;(try dsimp only at hSw);go_simp;first|done|with_reducible rfl)
 try simp only [Act.put,jI,jZ,jS]
 refine readyN (rs:=[4]) (by kernel_rfl) (by simp) (consN rfl (fun K hK => ?_) nilN)
 refine step_callsG (by rfl) 205 _ _ rfl enters_times _ #[.int .u64 (a:Nat),.int .u64 (d:Nat)] (by simp [Act.eval]) (HT1.out _) ?_;rintro e wa1 ⟨rfl,hca1⟩;refine ⟨_,rfl,?_⟩
 have HCa1:=Lib.hid ((Chg.refl [] w0).drew.trans hca1)
 have hSa1:=HS.out wa1 HCa1.out
 clear hca1
 refine hK.out _ _ hSa1 (fun hHeld => ?_)
 clear hK K hHeld
 try simp only [Act.put,jI,jZ,jS]
 refine readyN (rs:=[9]) (by kernel_rfl) (by simp) (consN rfl (fun K hK => ?_) nilN)
 refine step_callsG (by rfl) 205 _ _ rfl enters_times _ #[.int .u64 (c:Nat),.int .u64 (b:Nat)] (by simp [Act.eval]) (HT2.out _) ?_;rintro e wa2 ⟨rfl,hca2⟩;refine ⟨_,rfl,?_⟩
 have HCa2:=Lib.hid (HCa1.out.trans hca2)
 have hSa2:=HS.out wa2 HCa2.out
 clear hca2
 refine hK.out _ _ hSa2 (fun hHeld => ?_)
 clear hK K hHeld
 try simp only [Act.put,jI,jZ,jS]
 refine readyN (rs:=[10]) (by kernel_rfl) (by simp) (consN rfl (fun K hK => ?_) nilN)
 refine step_callsG (by rfl) 265 _ _ rfl enters_compare _ #[.agg #[.int .u64 (h1:Nat),.int .u64 (l1:Nat)],.agg #[.int .u64 (h2:Nat),.int .u64 (l2:Nat)]] (by simp [Act.eval]) (HCM.out _) ?_;rintro e wa3 ⟨rfl,hca3⟩;refine ⟨_,rfl,?_⟩
 have HCa3:=Lib.hid (HCa2.out.trans hca3)
 have hSa3:=HS.out wa3 HCa3.out
 clear hca3
 refine hK.out _ _ hSa3 (fun hHeld => ?_)
 clear hK K hHeld
 try simp only [Act.put,jI,jZ,jS]
 refine takeN (i:=11) (v:=?va11) rfl (by kernel_rfl) (by kernel_rfl) (by kernel_rfl) (fun _ _ _ h=>h) (Or.inl ⟨by rfl,?ya11⟩) hSa3 ?ra11
 case ya11=>(intro w hSw;(try dsimp only at hSw);go_simp;first|done|with_reducible rfl)
 try simp only [Act.put,jI,jZ,jS]
 refine takeN (i:=12) (v:=?va12) rfl (by kernel_rfl) (by kernel_rfl) (by kernel_rfl) (fun _ _ _ h=>h) (Or.inl ⟨by rfl,?ya12⟩) hSa3 ?ra12
 case ya12=>(intro w hSw;(try dsimp only at hSw);go_simp;first|done|with_reducible rfl)
 try simp only [Act.put,jI,jZ,jS]
 refine doneN (by kernel_rfl) ?_ _
 have HCE:=Lib.hid (HC0.out.trans HCa3.out)
 clear HT1 HT2 HCM HS
 go_wp2
 go_ret
 exact ⟨by first|rfl|(rw [←hVB])|simp [hVB],HCE.out⟩
end Go.Proofs.YthoolcpcmhhkpaaGreatDoor
