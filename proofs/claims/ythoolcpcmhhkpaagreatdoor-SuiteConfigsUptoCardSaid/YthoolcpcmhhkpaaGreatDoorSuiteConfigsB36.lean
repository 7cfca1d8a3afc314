/-
  Parts of a proof, pressed. Conditions: the form's own reach.
-/
import Derived.Test.YthoolcpcmhhkpaaGreatDoorSuiteConfigsB35
import Derived.Test.YthoolcpcmhhkpaaGreatDoorSuiteConfigsB32
namespace Go.Proofs.YthoolcpcmhhkpaaGreatDoor
open Go.RowKit
set_option maxRecDepth 100000 in
set_option maxHeartbeats 2000000 in
theorem bins_high_total (w:World) (A:BinA) (D:BinD) (h:BinS w A D) (hhi:D.hi=true) (T:Nat) (hT:T=D.total) (hTm:T≤9223372036854775807):Calls Tryz.prog 44 #[.pointer (some ⟨A.b,0,none⟩)] w fun e w'=>e=.returned (.int .u64 (T:Nat))∧Chg [] w w':=by
 obtain ⟨c0,c1,c2,c3,c4,c5⟩:=h.high_cells hhi
 have e0:D.minus.total+D.zero+D.plus.total=T:=hT.symm
 obtain ⟨M,hM⟩:∃ M,M=D.minus.total:=⟨_,rfl⟩
 obtain ⟨P,hP⟩:∃ P,P=D.plus.total:=⟨_,rfl⟩
 obtain ⟨Z,hZ⟩:∃ Z,Z=D.zero:=⟨_,rfl⟩
 have HM:=Lib.hid (fun u (hu:Chg [] w u)=>high_total u A.p1 A.s1 A.r1 D.minus (h.minus.chg hu (by simp)) M hM (by omega))
 have HP:=Lib.hid (fun u (hu:Chg [] w u)=>high_total u A.p2 A.s2 A.r2 D.plus (h.plus.chg hu (by simp)) P hP (by omega))
 rw [←hM,←hP,←hZ] at e0
 rw [←hZ] at c5
 have hw1:IntKind.u64.wrap ((M:Int)+(Z:Int))=((M+Z:Nat):Int):=by rw [IntKind.wrap_u64];omega
 have hw2:IntKind.u64.wrap ((M:Int)+(Z:Int)+(P:Int))=(T:Int):=by rw [IntKind.wrap_u64];omega
 have HCC:=Lib.hid (fun u (hu:Chg [] w u)=>show u.cell? ⟨A.b,3,none⟩=some (.iface 293 (.pointer (some ⟨A.p1,0,none⟩)))∧u.cell? ⟨A.b,4,none⟩=some (.iface 293 (.pointer (some ⟨A.p2,0,none⟩)))∧u.cell? ⟨A.b,5,none⟩=some (.int .u64 (Z:Nat)) from ⟨hu.cell c3 (by simp),hu.cell c4 (by simp),hu.cell c5 (by simp)⟩)
 clear h hhi hT hM hP hZ e0 hTm c0 c1 c2 c3 c4 c5
 go_enter Tryz.func44,Tryz.ntmps44
 go_wp2_with fail
 have HS:=Lib.hid (fun wx (hu:Chg [] w wx)=>(And.intro hu (HCC.out wx hu)))
 have hS0:=HS.out w.drew (Chg.refl [] w).drew
 refine startN (S:=fun wx=>Chg [] w wx∧wx.cell? ⟨A.b,3,none⟩=some (.iface 293 (.pointer (some ⟨A.p1,0,none⟩)))∧wx.cell? ⟨A.b,4,none⟩=some (.iface 293 (.pointer (some ⟨A.p2,0,none⟩)))∧wx.cell? ⟨A.b,5,none⟩=some (.int .u64 (Z:Nat))) (by kernel_rfl) hS0 (fun hHeld => ?_)
 refine takeN (i:=0) (v:=?va0) rfl (by kernel_rfl) (by kernel_rfl) (by kernel_rfl) (fun _ _ _ h=>h) (Or.inl ⟨by rfl,?ya0⟩) hS0 ?ra0
 case ya0=>(intro w hSw;(try dsimp only at hSw);go_simp;first|done|with_reducible rfl)
 try simp only [Act.put,jI,jZ,jS]
 refine takeN (i:=1) (v:=?va1) rfl (by kernel_rfl) (by kernel_rfl) (by kernel_rfl) (fun _ _ _ h=>h) (Or.inl ⟨by rfl,?ya1⟩) hS0 ?ra1
 case ya1=>(intro w hSw;(try dsimp only at hSw);go_simp;first|done|with_reducible rfl)
 try simp only [Act.put,jI,jZ,jS]
 refine takeN (i:=2) (v:=?va2) rfl (by kernel_rfl) (by kernel_rfl) (by kernel_rfl) (fun _ _ _ h=>h) (Or.inl ⟨by rfl,?ya2⟩) hS0 ?ra2
 case ya2=>(intro w hSw;(try dsimp only at hSw);go_simp;first|done|with_reducible rfl)
 try simp only [Act.put,jI,jZ,jS]
 refine takeN (i:=3) (v:=?va3) rfl (by kernel_rfl) (by kernel_rfl) (by kernel_rfl) (fun _ _ _ h=>h) (Or.inl ⟨by rfl,?ya3⟩) hS0 ?ra3
 case ya3=>(intro w hSw;(try dsimp only at hSw);go_simp;first|done|with_reducible rfl)
 try simp only [Act.put,jI,jZ,jS]
 refine takeN (i:=5) (v:=?va5) rfl (by kernel_rfl) (by kernel_rfl) (by kernel_rfl) (fun _ _ _ h=>h) (Or.inl ⟨by rfl,?ya5⟩) hS0 ?ra5
 case ya5=>(intro w hSw;(try dsimp only at hSw);go_simp;first|done|with_reducible rfl)
 try simp only [Act.put,jI,jZ,jS]
 refine takeN (i:=6) (v:=?va6) rfl (by kernel_rfl) (by kernel_rfl) (by kernel_rfl) (fun _ _ _ h=>h) (Or.inl ⟨by rfl,?ya6⟩) hS0 ?ra6
 case ya6=>(intro w hSw;(try dsimp only at hSw);go_simp;first|done|with_reducible rfl)
 try simp only [Act.put,jI,jZ,jS]
 refine takeN (i:=7) (v:=?va7) rfl (by kernel_rfl) (by kernel_rfl) (by kernel_rfl) (fun _ _ _ h=>h) (Or.inl ⟨by rfl,?ya7⟩) hS0 ?ra7
 case ya7=>(intro w hSw;(try dsimp only at hSw);go_simp;first|done|with_reducible rfl)
 try simp only [Act.put,jI,jZ,jS]
 refine takeN (i:=8) (v:=?va8) rfl (by kernel_rfl) (by kernel_rfl) (by kernel_rfl) (fun _ _ _ h=>h) (Or.inl ⟨by rfl,?ya8⟩) hS0 ?ra8
 case ya8=>(intro w hSw;(try dsimp only at hSw);go_simp;first|done|with_reducible rfl)
 try simp only [Act.put,jI,jZ,jS]
 refine takeN (i:=10) (v:=?va10) rfl (by kernel_rfl) (by kernel_rfl) (by kernel_rfl) (fun _ _ _ h=>h) (Or.inl ⟨by rfl,?ya10⟩) hS0 ?ra10
 case ya10=>(intro w hSw;(try dsimp only at hSw);go_simp;first|done|with_reducible rfl)
 try simp only [Act.put,jI,jZ,jS]
 refine takeN (i:=11) (v:=?va11) rfl (by kernel_rfl) (by kernel_rfl) (by kernel_rfl) (fun _ _ _ h=>h) (Or.inl ⟨by rfl,?ya11⟩) hS0 ?ra11
 case ya11=>(intro w hSw;(try dsimp only at hSw);go_simp;first|done|with_reducible rfl)
 try simp only [Act.put,jI,jZ,jS]
 refine takeN (i:=12) (v:=?va12) rfl (by kernel_rfl) (by kernel_rfl) (by kernel_rfl) (fun _ _ _ h=>h) (Or.inl ⟨by rfl,?ya12⟩) hS0 ?ra12
 case ya12=>(intro w hSw;(try dsimp only at hSw);go_simp;first|done|with_reducible rfl)
 try simp only [Act.put,jI,jZ,jS]
 refine takeN (i:=13) (v:=?va13) rfl (by kernel_rfl) (by kernel_rfl) (by kernel_rfl) (fun _ _ _ h=>h) (Or.inl ⟨by rfl,?ya13⟩) hS0 ?ra13
 case ya13=>(intro w hSw;(try dsimp only at hSw);go_simp;first|done|with_reducible rfl)
 try simp only [Act.put,jI,jZ,jS]
 refine readyN (rs:=[4]) (by kernel_rfl) (by simp) (consN rfl (fun K hK => ?_) nilN)
 go_simp
 refine (HM.out _ hS0.1).mono ?_
 rintro e w1 ⟨rfl,hcx⟩
 have hS1:=HS.out _ (hS0.1.trans hcx)
 clear hcx
 refine hK.out _ _ hS1 (fun hHeld => ?_)
 clear hK K hHeld
 try simp only [Act.put,jI,jZ,jS]
 refine takeN (i:=9) (v:=?va9) rfl (by kernel_rfl) (by kernel_rfl) (by kernel_rfl) (fun _ _ _ h=>h) (Or.inl ⟨by rfl,?ya9⟩) hS1 ?ra9
 case ya9=>(intro w hSw;(try dsimp only at hSw);go_simp;first|done|with_reducible rfl)
 try simp only [Act.put,jI,jZ,jS]
 refine readyN (rs:=[14]) (by kernel_rfl) (by simp) (consN rfl (fun K hK => ?_) nilN)
 go_simp
 refine (HP.out _ hS1.1).mono ?_
 rintro e w2 ⟨rfl,hcx⟩
 have hS2:=HS.out _ (hS1.1.trans hcx)
 clear hcx
 refine hK.out _ _ hS2 (fun hHeld => ?_)
 clear hK K hHeld
 try simp only [Act.put,jI,jZ,jS]
 refine takeN (i:=15) (v:=?va15) rfl (by kernel_rfl) (by kernel_rfl) (by kernel_rfl) (fun _ _ _ h=>h) (Or.inl ⟨by rfl,?ya15⟩) hS2 ?ra15
 case ya15=>(intro w hSw;(try dsimp only at hSw);go_simp;first|done|with_reducible rfl)
 try simp only [Act.put,jI,jZ,jS]
 refine takeN (i:=16) (v:=?va16) rfl (by kernel_rfl) (by kernel_rfl) (by kernel_rfl) (fun _ _ _ h=>h) (Or.inl ⟨by rfl,?ya16⟩) hS2 ?ra16
 case ya16=>(intro w hSw;(try dsimp only at hSw);go_simp;first|done|with_reducible rfl)
 try simp only [Act.put,jI,jZ,jS]
 refine doneN (by kernel_rfl) ?_ _
 go_wp2
 go_ret
 exact ⟨rfl,hS2.1⟩
set_option maxRecDepth 100000 in
set_option maxHeartbeats 2000000 in
theorem bins_high_lost (w:World) (A:BinA) (D:BinD) (h:BinS w A D) (hhi:D.hi=true):Calls Tryz.prog 40 #[.pointer (some ⟨A.b,0,none⟩)] w fun e w'=>e=.returned (.tuple #[.int .u64 (D.minus.lost:Nat),.int .u64 (D.plus.lost:Nat)])∧Chg [] w w':=by
 obtain ⟨c0,c1,c2,c3,c4,c5⟩:=h.high_cells hhi
 have HM:=Lib.hid (fun u (hu:Chg [] w u)=>high_lost u A.p1 A.s1 A.r1 D.minus (h.minus.chg hu (by simp)))
 have HP:=Lib.hid (fun u (hu:Chg [] w u)=>high_lost u A.p2 A.s2 A.r2 D.plus (h.plus.chg hu (by simp)))
 have HCC:=Lib.hid (fun u (hu:Chg [] w u)=>show u.cell? ⟨A.b,3,none⟩=some (.iface 293 (.pointer (some ⟨A.p1,0,none⟩)))∧u.cell? ⟨A.b,4,none⟩=some (.iface 293 (.pointer (some ⟨A.p2,0,none⟩))) from ⟨hu.cell c3 (by simp),hu.cell c4 (by simp)⟩)
 clear h hhi c0 c1 c2 c3 c4 c5
 go_enter Tryz.func40,Tryz.ntmps40
 go_wp2_with fail
 have HS:=Lib.hid (fun wx (hu:Chg [] w wx)=>(And.intro hu (HCC.out wx hu)))
 have hS0:=HS.out w.drew (Chg.refl [] w).drew
 refine startN (S:=fun wx=>Chg [] w wx∧wx.cell? ⟨A.b,3,none⟩=some (.iface 293 (.pointer (some ⟨A.p1,0,none⟩)))∧wx.cell? ⟨A.b,4,none⟩=some (.iface 293 (.pointer (some ⟨A.p2,0,none⟩)))) (by kernel_rfl) hS0 (fun hHeld => ?_)
 refine takeN (i:=0) (v:=?va0) rfl (by kernel_rfl) (by kernel_rfl) (by kernel_rfl) (fun _ _ _ h=>h) (Or.inl ⟨by rfl,?ya0⟩) hS0 ?ra0
 case ya0=>(intro w hSw;(try dsimp only at hSw);go_simp;first|done|with_reducible rfl)
 try simp only [Act.put,jI,jZ,jS]
 refine takeN (i:=1) (v:=?va1) rfl (by kernel_rfl) (by kernel_rfl) (by kernel_rfl) (fun _ _ _ h=>h) (Or.inl ⟨by rfl,?ya1⟩) hS0 ?ra1
 case ya1=>(intro w hSw;(try dsimp only at hSw);go_simp;first|done|with_reducible rfl)
 try simp only [Act.put,jI,jZ,jS]
 refine takeN (i:=2) (v:=?va2) rfl (by kernel_rfl) (by kernel_rfl) (by kernel_rfl) (fun _ _ _ h=>h) (Or.inl ⟨by rfl,?ya2⟩) hS0 ?ra2
 case ya2=>(intro w hSw;(try dsimp only at hSw);go_simp;first|done|with_reducible rfl)
 try simp only [Act.put,jI,jZ,jS]
 refine takeN (i:=3) (v:=?va3) rfl (by kernel_rfl) (by kernel_rfl) (by kernel_rfl) (fun _ _ _ h=>h) (Or.inl ⟨by rfl,?ya3⟩) hS0 ?ra3
 case ya3=>(intro w hSw;(try dsimp only at hSw);go_simp;first|done|with_reducible rfl)
 try simp only [Act.put,jI,jZ,jS]
 refine takeN (i:=5) (v:=?va5) rfl (by kernel_rfl) (by kernel_rfl) (by kernel_rfl) (fun _ _ _ h=>h) (Or.inl ⟨by rfl,?ya5⟩) hS0 ?ra5
 case ya5=>(intro w hSw;(try dsimp only at hSw);go_simp;first|done|with_reducible rfl)
 try simp only [Act.put,jI,jZ,jS]
 refine takeN (i:=6) (v:=?va6) rfl (by kernel_rfl) (by kernel_rfl) (by kernel_rfl) (fun _ _ _ h=>h) (Or.inl ⟨by rfl,?ya6⟩) hS0 ?ra6
 case ya6=>(intro w hSw;(try dsimp only at hSw);go_simp;first|done|with_reducible rfl)
 try simp only [Act.put,jI,jZ,jS]
 refine takeN (i:=7) (v:=?va7) rfl (by kernel_rfl) (by kernel_rfl) (by kernel_rfl) (fun _ _ _ h=>h) (Or.inl ⟨by rfl,?ya7⟩) hS0 ?ra7
 case ya7=>(intro w hSw;(try dsimp only at hSw);go_simp;first|done|with_reducible rfl)
 try simp only [Act.put,jI,jZ,jS]
 refine takeN (i:=8) (v:=?va8) rfl (by kernel_rfl) (by kernel_rfl) (by kernel_rfl) (fun _ _ _ h=>h) (Or.inl ⟨by rfl,?ya8⟩) hS0 ?ra8
 case ya8=>(intro w hSw;(try dsimp only at hSw);go_simp;first|done|with_reducible rfl)
 try simp only [Act.put,jI,jZ,jS]
 refine readyN (rs:=[4]) (by kernel_rfl) (by simp) (consN rfl (fun K hK => ?_) nilN)
 go_simp
 refine (HM.out _ hS0.1).mono ?_
 rintro e w1 ⟨rfl,rfl⟩
 refine hK.out _ _ hS0 (fun hHeld => ?_)
 clear hK K hHeld
 try simp only [Act.put,jI,jZ,jS]
 refine readyN (rs:=[9]) (by kernel_rfl) (by simp) (consN rfl (fun K hK => ?_) nilN)
 go_simp
 refine (HP.out _ hS0.1).mono ?_
 rintro e w1 ⟨rfl,rfl⟩
 refine hK.out _ _ hS0 (fun hHeld => ?_)
 clear hK K hHeld
 try simp only [Act.put,jI,jZ,jS]
 refine takeN (i:=10) (v:=?va10) rfl (by kernel_rfl) (by kernel_rfl) (by kernel_rfl) (fun _ _ _ h=>h) (Or.inl ⟨by rfl,?ya10⟩) hS0 ?ra10
 case ya10=>(intro w hSw;(try dsimp only at hSw);go_simp;first|done|with_reducible rfl)
 try simp only [Act.put,jI,jZ,jS]
 refine takeN (i:=11) (v:=?va11) rfl (by kernel_rfl) (by kernel_rfl) (by kernel_rfl) (fun _ _ _ h=>h) (Or.inl ⟨by rfl,?ya11⟩) hS0 ?ra11
 case ya11=>(intro w hSw;(try dsimp only at hSw);go_simp;first|done|with_reducible rfl)
 try simp only [Act.put,jI,jZ,jS]
 refine doneN (by kernel_rfl) ?_ _
 go_wp2
 go_ret2
 exact ⟨rfl,hS0.1⟩
set_option maxRecDepth 100000 in
set_option maxHeartbeats 2000000 in
theorem bins_high_rows (w:World) (A:BinA) (D:BinD) (h:BinS w A D) (hhi:D.hi=true) (n m:Nat) (hn:n=D.minus.r.length) (hm:m=D.plus.r.length) (hn5:n≤5000) (hm5:m≤5000):Calls Tryz.prog 39 #[.pointer (some ⟨A.b,0,none⟩)] w fun e w'=>∃ a1 k1 a2 k2,e=.returned (.tuple #[.slice a1 n k1,.slice a2 m k2])∧Own w' 183 2 (.slice a1 n k1) n (prCells D.minus.r)∧Own w' 183 2 (.slice a2 m k2) m (prCells D.plus.r)∧Chg [] w w'∧(∀ b∈abl a1,w.heap.size≤b)∧∀ b∈abl a2,w.heap.size≤b:=by
 obtain ⟨c0,c1,c2,c3,c4,c5⟩:=h.high_cells hhi
 have HM:=Lib.hid (fun u (hu:Chg [] w u)=>high_pairs u A.p1 A.s1 A.r1 D.minus (h.minus.chg hu (by simp)) n hn hn5)
 have HP:=Lib.hid (fun u (hu:Chg [] w u)=>high_pairs u A.p2 A.s2 A.r2 D.plus (h.plus.chg hu (by simp)) m hm hm5)
 have HCC:=Lib.hid (fun u (hu:Chg [] w u)=>show u.cell? ⟨A.b,3,none⟩=some (.iface 293 (.pointer (some ⟨A.p1,0,none⟩)))∧u.cell? ⟨A.b,4,none⟩=some (.iface 293 (.pointer (some ⟨A.p2,0,none⟩))) from ⟨hu.cell c3 (by simp),hu.cell c4 (by simp)⟩)
 clear h hhi c0 c1 c2 c3 c4 c5 hn hm
 go_enter Tryz.func39,Tryz.ntmps39
 go_wp2_with fail
 have HS:=Lib.hid (fun wx (hu:Chg [] w wx)=>(And.intro hu (HCC.out wx hu)))
 have hS0:=HS.out w.drew (Chg.refl [] w).drew
 refine startN (S:=fun wx=>Chg [] w wx∧wx.cell? ⟨A.b,3,none⟩=some (.iface 293 (.pointer (some ⟨A.p1,0,none⟩)))∧wx.cell? ⟨A.b,4,none⟩=some (.iface 293 (.pointer (some ⟨A.p2,0,none⟩)))) (by kernel_rfl) hS0 (fun hHeld => ?_)
 refine takeN (i:=0) (v:=?va0) rfl (by kernel_rfl) (by kernel_rfl) (by kernel_rfl) (fun _ _ _ h=>h) (Or.inl ⟨by rfl,?ya0⟩) hS0 ?ra0
 case ya0=>(intro w hSw;(try dsimp only at hSw);go_simp;first|done|with_reducible rfl)
 try simp only [Act.put,jI,jZ,jS]
 refine takeN (i:=1) (v:=?va1) rfl (by kernel_rfl) (by kernel_rfl) (by kernel_rfl) (fun _ _ _ h=>h) (Or.inl ⟨by rfl,?ya1⟩) hS0 ?ra1
 case ya1=>(intro w hSw;(try dsimp only at hSw);go_simp;first|done|with_reducible rfl)
 try simp only [Act.put,jI,jZ,jS]
 refine takeN (i:=2) (v:=?va2) rfl (by kernel_rfl) (by kernel_rfl) (by kernel_rfl) (fun _ _ _ h=>h) (Or.inl ⟨by rfl,?ya2⟩) hS0 ?ra2
 case ya2=>(intro w hSw;(try dsimp only at hSw);go_simp;first|done|with_reducible rfl)
 try simp only [Act.put,jI,jZ,jS]
 refine takeN (i:=3) (v:=?va3) rfl (by kernel_rfl) (by kernel_rfl) (by kernel_rfl) (fun _ _ _ h=>h) (Or.inl ⟨by rfl,?ya3⟩) hS0 ?ra3
 case ya3=>(intro w hSw;(try dsimp only at hSw);go_simp;first|done|with_reducible rfl)
 try simp only [Act.put,jI,jZ,jS]
 refine takeN (i:=5) (v:=?va5) rfl (by kernel_rfl) (by kernel_rfl) (by kernel_rfl) (fun _ _ _ h=>h) (Or.inl ⟨by rfl,?ya5⟩) hS0 ?ra5
 case ya5=>(intro w hSw;(try dsimp only at hSw);go_simp;first|done|with_reducible rfl)
 try simp only [Act.put,jI,jZ,jS]
 refine takeN (i:=6) (v:=?va6) rfl (by kernel_rfl) (by kernel_rfl) (by kernel_rfl) (fun _ _ _ h=>h) (Or.inl ⟨by rfl,?ya6⟩) hS0 ?ra6
 case ya6=>(intro w hSw;(try dsimp only at hSw);go_simp;first|done|with_reducible rfl)
 try simp only [Act.put,jI,jZ,jS]
 refine takeN (i:=7) (v:=?va7) rfl (by kernel_rfl) (by kernel_rfl) (by kernel_rfl) (fun _ _ _ h=>h) (Or.inl ⟨by rfl,?ya7⟩) hS0 ?ra7
 case ya7=>(intro w hSw;(try dsimp only at hSw);go_simp;first|done|with_reducible rfl)
 try simp only [Act.put,jI,jZ,jS]
 refine takeN (i:=8) (v:=?va8) rfl (by kernel_rfl) (by kernel_rfl) (by kernel_rfl) (fun _ _ _ h=>h) (Or.inl ⟨by rfl,?ya8⟩) hS0 ?ra8
 case ya8=>(intro w hSw;(try dsimp only at hSw);go_simp;first|done|with_reducible rfl)
 try simp only [Act.put,jI,jZ,jS]
 refine readyN (rs:=[4]) (by kernel_rfl) (by simp) (consN rfl (fun K hK => ?_) nilN)
 go_simp
 refine (HM.out _ hS0.1).mono ?_
 rintro e w1 ⟨a1,k1,rfl,ho1,hc1,hf1⟩
 have HO1:=Lib.hid (And.intro ho1 (show ∀ b∈abl a1,w.heap.size≤b from fun b hb=>Nat.le_trans hS0.1.size (hf1 b hb)))
 have hS1:=HS.out _ (hS0.1.trans hc1)
 clear ho1 hc1 hf1
 refine hK.out _ _ hS1 (fun hHeld => ?_)
 clear hK K hHeld
 try simp only [Act.put,jI,jZ,jS]
 refine readyN (rs:=[9]) (by kernel_rfl) (by simp) (consN rfl (fun K hK => ?_) nilN)
 go_simp
 refine (HP.out _ hS1.1).mono ?_
 rintro e w2 ⟨a2,k2,rfl,ho2,hc2,hf2⟩
 have HR1:=Lib.hid (And.intro HO1.out.1 (And.intro HO1.out.2 hc2))
 have HR2:=Lib.hid (And.intro ho2 (show ∀ b∈abl a2,w.heap.size≤b from fun b hb=>Nat.le_trans hS1.1.size (hf2 b hb)))
 have hS2:=HS.out _ (hS1.1.trans hc2)
 clear ho2 hc2 hf2 HO1
 refine hK.out _ _ hS2 (fun hHeld => ?_)
 clear hK K hHeld
 try simp only [Act.put,jI,jZ,jS]
 refine takeN (i:=10) (v:=?va10) rfl (by kernel_rfl) (by kernel_rfl) (by kernel_rfl) (fun _ _ _ h=>h) (Or.inl ⟨by rfl,?ya10⟩) hS2 ?ra10
 case ya10=>(intro w hSw;(try dsimp only at hSw);go_simp;first|done|with_reducible rfl)
 try simp only [Act.put,jI,jZ,jS]
 refine takeN (i:=11) (v:=?va11) rfl (by kernel_rfl) (by kernel_rfl) (by kernel_rfl) (fun _ _ _ h=>h) (Or.inl ⟨by rfl,?ya11⟩) hS2 ?ra11
 case ya11=>(intro w hSw;(try dsimp only at hSw);go_simp;first|done|with_reducible rfl)
 try simp only [Act.put,jI,jZ,jS]
 refine doneN (by kernel_rfl) ?_ _
 go_wp2
 go_ret2
 exact ⟨_,_,_,_,rfl,HR1.out.1.chg HR1.out.2.2 (by simp),HR2.out.1,hS2.1,HR1.out.2.1,HR2.out.2⟩
set_option maxRecDepth 100000 in
set_option maxHeartbeats 4000000 in
theorem bins_high_add (w:World) (A:BinA) (D:BinD) (h:BinS w A D) (hok:D.ok) (hhi:D.hi=true) (x:Int) (hx:-9223372036854775808≤x∧x<9223372036854775808) (c:Nat) (hcu:c<18446744073709551616) :
 Calls Tryz.prog 84 #[.pointer (some ⟨A.b,0,none⟩),.int .i64 x,.int .u64 (c:Nat)] w fun e w'=>e=.returned (.int .i64 (D.addE c:Nat))∧∃ A',A'.b=A.b∧BinS w' A' (if D.addE c=0 then D.add x c else D)∧Mv (fpBin A) w (fpBin A') w':=by
 have HH:=Lib.hid h
 have htm:D.total≤9223372036854775807:=hok.tot
 obtain ⟨T,hT⟩:∃ T,T=D.total:=⟨_,rfl⟩
 have HT:=Lib.hid (bins_high_total w A D h hhi T hT (by omega))
 by_cases h0:c=0
 ·subst h0
  clear h hok hT htm HT hhi hcu
  rw [show D.addE 0=1 from if_pos rfl]
  go_enter Tryz.func84,Tryz.ntmps84
  go_wp2
  go_ret
  exact ⟨rfl,A,rfl,HH.out,Mv.refl _ _⟩
 have d0:((c:Int)==0)=false:=by rw [beq_eq_false_iff_ne];omega
 have HPL:=Lib.hid (fun u b0 hb0=>wide_plus2 u T c (by omega) hcu b0 hb0)
 by_cases hc:T+c≤9223372036854775807
 case neg =>
  rw [plus2_no T c (by omega)] at HPL
  have HA:=Lib.hid (show D.addE c=6 from by unfold BinD.addE;rw [if_neg h0,if_neg (by omega)])
  generalize D.addE c=E at *
  have hA:=HA.out
  subst hA
  rw [if_neg (by decide)]
  clear h hok hT htm hhi h0 hcu HA hc
  go_enter Tryz.func84,Tryz.ntmps84
  go_wp2_with fail
  refine HT.out.mono ?_
  rintro e w1 ⟨rfl,hc1⟩
  have HC1:=Lib.hid hc1
  clear hc1 HT
  go_wp2_with fail
  refine (HPL.out _ _ rfl).mono ?_
  rintro e w2 ⟨rfl,rfl⟩
  have HC2:=Lib.hid (HC1.out.alloc (.cells #[.int .u64 (T:Nat),.int .u64 (c:Nat)] 23))
  clear HPL
  generalize w1.alloc (.cells #[.int .u64 (T:Nat),.int .u64 (c:Nat)] 23)=w2 at *
  go_wp2
  go_ret
  exact ⟨rfl,A,rfl,HH.out.chg HC2.out (by simp),Mv.of_chg HC2.out.nil⟩
 rw [plus2_ok T c hc] at HPL
 have HA:=Lib.hid (show D.addE c=0 from by unfold BinD.addE;rw [if_neg h0,if_pos (by omega)])
 generalize D.addE c=E at *
 have hA:=HA.out
 subst hA
 rw [if_pos rfl]
 obtain ⟨m,hm⟩:∃ m,m=x.natAbs:=⟨_,rfl⟩
 obtain ⟨B,hB⟩:∃ B,B=decide (x<0):=⟨_,rfl⟩
 have HSO:=Lib.hid (fun u=>sign_of u x hx.1 hx.2 m hm B hB)
 have HCC:=Lib.hid (fun u (hu:Chg [] w u)=>(h.chg hu (by simp)).high_cells hhi)
 have HFR:=Lib.hid (fun u (hu:Chg [] w u)=>(h.chg hu (by simp)).blk.free 5)
 have hDt:D.minus.total+D.zero+D.plus.total=T:=hT.symm
 by_cases hx0:x=0
 ·have hm0:m=0:=by omega
  subst hm0
  have hBf:B=false:=by rw [hB];exact decide_eq_false (by omega)
  have HP:=Lib.hid (show D.add x c={ D with zero:=D.zero+c } from by unfold BinD.add;rw [if_pos hx0])
  generalize D.add x c=DP at *
  have HIX:=Lib.hid (fun u=>tab_index0 u A.t)
  obtain ⟨Z,hZ⟩:∃ Z,Z=D.zero:=⟨_,rfl⟩
  rw [←hZ] at HCC HP hDt
  have HST:=Lib.hid (fun u (hu:Chg [] w u)=>(h.chg hu (by simp)).zero' (Z+c))
  have hw1:IntKind.u64.wrap ((Z:Int)+(c:Int))=((Z+c:Nat):Int):=by rw [IntKind.wrap_u64];omega
  clear h hok hT htm hhi h0 hcu HA hc hm hB hx0 hx hDt hZ
  simp only [Int.ofNat_zero] at HSO
  generalize T+c=S at *
  subst hBf
  go_enter Tryz.func84,Tryz.ntmps84
  go_wp2_with fail
  refine HT.out.mono ?_
  rintro e w1 ⟨rfl,hc1⟩
  have HC1:=Lib.hid hc1
  clear hc1 HT
  go_wp2_with fail
  refine (HPL.out _ _ rfl).mono ?_
  rintro e w2 ⟨rfl,rfl⟩
  have HC2:=Lib.hid (HC1.out.alloc (.cells #[.int .u64 (T:Nat),.int .u64 (c:Nat)] 23))
  clear HPL
  generalize w1.alloc (.cells #[.int .u64 (T:Nat),.int .u64 (c:Nat)] 23)=w2 at *
  go_wp2_with fail
  refine (HSO.out _).mono ?_
  rintro e w3 ⟨rfl,rfl⟩
  obtain ⟨c0,c1,c2,c3,c4,c5⟩:=HCC.out _ HC2.out
  go_wp2_with fail
  refine (HIX.out _).mono ?_
  rintro e w3 ⟨rfl,hc3⟩
  have HC3:=Lib.hid (HC2.out.trans hc3)
  clear hc3 c0 c1 c2 c3 c4 c5
  obtain ⟨c0,c1,c2,c3,c4,c5⟩:=HCC.out _ HC3.out
  have f5:=HFR.out _ HC3.out
  go_wp2
  go_ret
  rw [HP.out]
  exact ⟨rfl,A,rfl,(HST.out _ HC3.out).1,(Mv.of_chg HC3.out.nil).trans (HST.out _ HC3.out).2⟩
 obtain ⟨I,hI⟩:∃ I,I=cellI D.num D.den D.n m:=⟨_,rfl⟩
 have HIX:=Lib.hid (fun u (hu:Chg [] w u)=>tab_index u A.t D.num D.den D.n A.la A.lc A.ra A.rc (h.tab.chg hu (by simp)) hok.tab m (by omega) (by omega) I hI)
 obtain ⟨i1,i2,i3,i4⟩:=BinD.ix_ok hok m
 have hpart:D.part m=(I:Int):=by unfold BinD.part;rw [hI]
 rw [hpart] at i1 i2 i3 i4
 cases B with
 | true =>
   have hneg:x<0:=of_decide_eq_true hB.symm
   have HP:=Lib.hid (show D.add x c={ D with minus:=D.minus.put I c } from by unfold BinD.add;rw [if_neg hx0,if_pos hneg,←hm,hpart])
   generalize D.add x c=DP at *
   have HE:=Lib.hid (show D.minus.addE c=0 from by unfold CapD.addE;rw [if_neg h0,if_pos (by omega)])
   have HAD:=Lib.hid (fun u (hu:Chg [] w u)=>high_add u A.p1 A.s1 A.r1 D.minus (h.minus.chg hu (by simp)) hok.minus (by rw [hok.mh,hhi]) (I:Int) ⟨i3,i4⟩ c hcu)
   rw [HE.out,if_pos rfl] at HAD
   have HST:=Lib.hid (fun u (hu:Chg [] w u)=>h.chg hu (by simp))
   clear h hok hT htm hhi h0 hcu HA hc hm hB hx0 hx hDt hI i1 i2 i3 i4 hpart hneg HE
   generalize T+c=S at *
   go_enter Tryz.func84,Tryz.ntmps84
   go_wp2_with fail
   refine HT.out.mono ?_
   rintro e w1 ⟨rfl,hc1⟩
   have HC1:=Lib.hid hc1
   clear hc1 HT
   go_wp2_with fail
   refine (HPL.out _ _ rfl).mono ?_
   rintro e w2 ⟨rfl,rfl⟩
   have HC2:=Lib.hid (HC1.out.alloc (.cells #[.int .u64 (T:Nat),.int .u64 (c:Nat)] 23))
   clear HPL
   generalize w1.alloc (.cells #[.int .u64 (T:Nat),.int .u64 (c:Nat)] 23)=w2 at *
   go_wp2_with fail
   refine (HSO.out _).mono ?_
   rintro e w3 ⟨rfl,rfl⟩
   obtain ⟨c0,c1,c2,c3,c4,c5⟩:=HCC.out _ HC2.out
   go_wp2_with fail
   refine (HIX.out _ HC2.out).mono ?_
   rintro e w3 ⟨rfl,hc3⟩
   have HC3:=Lib.hid (HC2.out.trans hc3)
   clear hc3 c0 c1 c2 c3 c4 c5
   obtain ⟨c0,c1,c2,c3,c4,c5⟩:=HCC.out _ HC3.out
   go_wp2_with fail
   refine (HAD.out _ HC3.out).mono ?_
   rintro e w4 ⟨rfl,rv',hcap,hmv⟩
   have HX:=Lib.hid ((HST.out _ HC3.out).minus' hcap hmv)
   clear hcap hmv c0 c1 c2 c3 c4 c5
   go_wp2
   go_ret
   rw [HP.out]
   exact ⟨rfl,{ A with r1:=rv' },rfl,HX.out.1,(Mv.of_chg HC3.out.nil).trans HX.out.2⟩
 | false =>
   have hneg:¬x<0:=of_decide_eq_false hB.symm
   have HP:=Lib.hid (show D.add x c={ D with plus:=D.plus.put I c } from by unfold BinD.add;rw [if_neg hx0,if_neg hneg,←hm,hpart])
   generalize D.add x c=DP at *
   have HE:=Lib.hid (show D.plus.addE c=0 from by unfold CapD.addE;rw [if_neg h0,if_pos (by omega)])
   have HAD:=Lib.hid (fun u (hu:Chg [] w u)=>high_add u A.p2 A.s2 A.r2 D.plus (h.plus.chg hu (by simp)) hok.plus (by rw [hok.ph,hhi]) (I:Int) ⟨i3,i4⟩ c hcu)
   rw [HE.out,if_pos rfl] at HAD
   have HST:=Lib.hid (fun u (hu:Chg [] w u)=>h.chg hu (by simp))
   clear h hok hT htm hhi h0 hcu HA hc hm hB hx0 hx hDt hI i1 i2 i3 i4 hpart hneg HE
   generalize T+c=S at *
   go_enter Tryz.func84,Tryz.ntmps84
   go_wp2_with fail
   refine HT.out.mono ?_
   rintro e w1 ⟨rfl,hc1⟩
   have HC1:=Lib.hid hc1
   clear hc1 HT
   go_wp2_with fail
   refine (HPL.out _ _ rfl).mono ?_
   rintro e w2 ⟨rfl,rfl⟩
   have HC2:=Lib.hid (HC1.out.alloc (.cells #[.int .u64 (T:Nat),.int .u64 (c:Nat)] 23))
   clear HPL
   generalize w1.alloc (.cells #[.int .u64 (T:Nat),.int .u64 (c:Nat)] 23)=w2 at *
   go_wp2_with fail
   refine (HSO.out _).mono ?_
   rintro e w3 ⟨rfl,rfl⟩
   obtain ⟨c0,c1,c2,c3,c4,c5⟩:=HCC.out _ HC2.out
   go_wp2_with fail
   refine (HIX.out _ HC2.out).mono ?_
   rintro e w3 ⟨rfl,hc3⟩
   have HC3:=Lib.hid (HC2.out.trans hc3)
   clear hc3 c0 c1 c2 c3 c4 c5
   obtain ⟨c0,c1,c2,c3,c4,c5⟩:=HCC.out _ HC3.out
   go_wp2_with fail
   refine (HAD.out _ HC3.out).mono ?_
   rintro e w4 ⟨rfl,rv',hcap,hmv⟩
   have HX:=Lib.hid ((HST.out _ HC3.out).plus' hcap hmv)
   clear hcap hmv c0 c1 c2 c3 c4 c5
   go_wp2
   go_ret
   rw [HP.out]
   exact ⟨rfl,{ A with r2:=rv' },rfl,HX.out.1,(Mv.of_chg HC3.out.nil).trans HX.out.2⟩
structure ApartB (A C:BinA):Prop where
 b1:C.b∉fpC A.p1 A.s1 A.r1
 b2:C.b∉fpC A.p2 A.s2 A.r2
 s21:∀ x∈fpC C.p2 C.s2 C.r2,x∉fpC A.p1 A.s1 A.r1
theorem ApartB.same {w:World} {A:BinA} {D:BinD} (h:BinS w A D):ApartB A A:=⟨h.b1,h.b2,fun x hx hb=>h.s12 x hb hx⟩
theorem bins_total (w:World) (A:BinA) (D:BinD) (h:BinS w A D) (T:Nat) (hT:T=D.total) (hTm:T≤9223372036854775807):Calls Tryz.prog 44 #[.pointer (some ⟨A.b,0,none⟩)] w fun e w'=>e=.returned (.int .u64 (T:Nat))∧Chg [] w w':=by
 cases hhi:D.hi with
 | false=>exact bins_low_total w A D h hhi T hT hTm
 | true=>exact bins_high_total w A D h hhi T hT hTm
theorem bins_lost (w:World) (A:BinA) (D:BinD) (h:BinS w A D):Calls Tryz.prog 40 #[.pointer (some ⟨A.b,0,none⟩)] w fun e w'=>e=.returned (.tuple #[.int .u64 (D.minus.lost:Nat),.int .u64 (D.plus.lost:Nat)])∧Chg [] w w':=by
 cases hhi:D.hi with
 | false=>exact bins_low_lost w A D h hhi
 | true=>exact bins_high_lost w A D h hhi
theorem bins_rows (w:World) (A:BinA) (D:BinD) (h:BinS w A D) (n m:Nat) (hn:n=D.minus.r.length) (hm:m=D.plus.r.length) (hn5:n≤5000) (hm5:m≤5000):Calls Tryz.prog 39 #[.pointer (some ⟨A.b,0,none⟩)] w fun e w'=>∃ a1 k1 a2 k2,e=.returned (.tuple #[.slice a1 n k1,.slice a2 m k2])∧Own w' 183 2 (.slice a1 n k1) n (prCells D.minus.r)∧Own w' 183 2 (.slice a2 m k2) m (prCells D.plus.r)∧Chg [] w w'∧(∀ b∈abl a1,w.heap.size≤b)∧∀ b∈abl a2,w.heap.size≤b:=by
 cases hhi:D.hi with
 | false=>exact bins_low_rows w A D h hhi n m hn hm hn5 hm5
 | true=>exact bins_high_rows w A D h hhi n m hn hm hn5 hm5
theorem bins_add (w:World) (A:BinA) (D:BinD) (h:BinS w A D) (hok:D.ok) (x:Int) (hx:-9223372036854775808≤x∧x<9223372036854775808) (c:Nat) (hcu:c<18446744073709551616) :
 Calls Tryz.prog 84 #[.pointer (some ⟨A.b,0,none⟩),.int .i64 x,.int .u64 (c:Nat)] w fun e w'=>e=.returned (.int .i64 (D.addE c:Nat))∧∃ A',A'.b=A.b∧BinS w' A' (if D.addE c=0 then D.add x c else D)∧Mv (fpBin A) w (fpBin A') w':=by
 cases hhi:D.hi with
 | false=>exact bins_low_add w A D h hok hhi x hx c hcu
 | true=>exact bins_high_add w A D h hok hhi x hx c hcu
end Go.Proofs.YthoolcpcmhhkpaaGreatDoor
namespace Go.Proofs.YthoolcpcmhhkpaaGreatDoor
open Go.RowKit
structure LogS (w:World) (p:Nat) (A:BinA) (D:LogD):Prop where
 blk:Blk w p #[.pointer (some ⟨A.b,0,none⟩),.int .u64 (D.bins.num:Nat),.int .u64 (D.bins.den:Nat),.int .i64 (sideI D.bins.hi),.int .i64 (D.bins.m:Int),.int .i64 D.least,.int .i64 D.most] 139
 bins:BinS w A D.bins
 ne:p∉fpBin A
def fpLog (p:Nat) (A:BinA):List Nat:=p::fpBin A
namespace LogS
variable {w w1:World} {p:Nat} {A:BinA} {D:LogD}
theorem lt (h:LogS w p A D):∀ b∈fpLog p A,b<w.heap.size:=fun b hb=>by
 rcases List.mem_cons.1 hb with rfl|hb
 ·exact h.blk.lt
 ·exact h.bins.lt b hb
theorem chg {F:List Nat} (h:LogS w p A D) (k:Chg F w w1) (hF:∀ b∈fpLog p A,b∉F):LogS w1 p A D:=
 ⟨h.blk.chg k (hF p (by simp [fpLog])),h.bins.chg k (fun b hb=>hF b (by simp [fpLog,hb])),h.ne⟩
end LogS
def BinD.new (num den n:Nat) (hi:Bool) (m:Nat):BinD:=⟨num,den,n,hi,m,⟨hi,m,[],0⟩,⟨hi,m,[],0⟩,0⟩
def NewLog (w w':World) (num den:Nat) (side most:Int) (e:Ending):Prop:=
 (∃ k:Int,k≠0∧e=.returned (.tuple #[.pointer none,.int .i64 k])∧Chg [] w w'∧¬((∃ n,TabOk num den n)∧(side=0∨side=1)∧1≤most∧most≤4096)) ∨
 (∃ n p A,TabOk num den n∧((side=0∨side=1)∧1≤most∧most≤4096)∧e=.returned (.tuple #[.pointer (some ⟨p,0,none⟩),.int .i64 0])∧LogS w' p A ⟨BinD.new num den n (decide (side=1)) most.toNat,0,0⟩∧Chg [] w w'∧∀ b∈fpLog p A,w.heap.size≤b)
set_option maxRecDepth 100000 in
set_option maxHeartbeats 2000000 in
theorem logsk_new (w:World) (num den:Nat) (side most:Int) :
 Calls Tryz.prog 36 #[.agg #[.int .u64 (num:Nat),.int .u64 (den:Nat),.int .i64 side,.int .i64 most]] w fun e w'=>NewLog w w' num den side most e:=by
 obtain ⟨b1,hb1⟩:∃ z,z=w.heap.size:=⟨_,rfl⟩
 have HB:=Lib.hid (show Blk (w.alloc (.cells #[.int .u64 (num:Nat),.int .u64 (den:Nat),.int .i64 side,.int .i64 most] 91)) b1 #[.int .u64 (num:Nat),.int .u64 (den:Nat),.int .i64 side,.int .i64 most] 91 from by rw [hb1];exact Blk.alloc_new _ _ _)
 have HC0:=Lib.hid ((Chg.refl [] w).alloc (.cells #[.int .u64 (num:Nat),.int .u64 (den:Nat),.int .i64 side,.int .i64 most] 91))
 go_enter Tryz.func36,Tryz.ntmps36
 go_wp2_with fail
 rw [←hb1]
 clear hb1
 generalize w.alloc (.cells #[.int .u64 (num:Nat),.int .u64 (den:Nat),.int .i64 side,.int .i64 most] 91)=w0 at *
 have HBX:=Lib.hid (fun wx (hu:Chg [] w0 wx)=>show wx.cell? ⟨b1,0,none⟩=some (.int .u64 (num:Nat))∧wx.cell? ⟨b1,1,none⟩=some (.int .u64 (den:Nat))∧wx.cell? ⟨b1,2,none⟩=some (.int .i64 side)∧wx.cell? ⟨b1,3,none⟩=some (.int .i64 most) from ⟨(HB.out.chg hu (by simp)).cell 0,(HB.out.chg hu (by simp)).cell 1,(HB.out.chg hu (by simp)).cell 2,(HB.out.chg hu (by simp)).cell 3⟩)
 obtain ⟨c0,c1,c2,c3⟩:=HBX.out w0 (Chg.refl _ _)
 go_wp2_with fail
 refine (cells_new w0 num den).mono ?_
 rintro e w1 (⟨k,hk,rfl,hc1,hnt⟩|⟨n,t,la,lc,ra,rc,hok,rfl,htab,hrows,hc1,hfr⟩)
 ·have hkb:(k != 0)=true:=by rw [bne_iff_ne];exact hk
  have HK:=Lib.hid (And.intro hk (HC0.out.trans hc1))
  have HNT:=Lib.hid hnt
  clear c0 c1 c2 c3 hc1 hk hnt
  go_wp2
  go_ret2
  exact .inl ⟨k,HK.out.1,rfl,HK.out.2,fun h=>HNT.out h.1⟩
 ·have HOK:=Lib.hid hok
  have HTAB:=Lib.hid htab
  have HROW:=Lib.hid hrows
  have HC1:=Lib.hid (HC0.out.trans hc1)
  have HK1:=Lib.hid hc1
  have HFR:=Lib.hid (show ∀ b∈fpTab t la ra,w.heap.size≤b from fun b hb=>Nat.le_trans HC0.out.size (hfr b hb))
  clear c0 c1 c2 c3 hok htab hrows hc1 hfr
  obtain ⟨c0,c1,c2,c3⟩:=HBX.out w1 HK1.out
  have HNB:=Lib.hid (bins_new w1 num den n t la lc ra rc HTAB.out HROW.out side most)
  go_wp2_with fail
  refine HNB.out.mono ?_
  rintro e w2 (⟨hno,rfl,hc2⟩|⟨hgood,A,hA1,hA2,hA3,hA4,hA5,rfl,hbin,hc2,hAb,hA6,hA7⟩)
  ·have HC2:=Lib.hid (HC1.out.trans hc2)
   have HNO:=Lib.hid hno
   clear c0 c1 c2 c3 hc2 hno HNB
   go_wp2
   go_ret2
   exact .inl ⟨1,by decide,rfl,HC2.out,fun h=>HNO.out h.2⟩
  ·have HC2:=Lib.hid (HC1.out.trans hc2)
   have HK2:=Lib.hid (HK1.out.trans hc2)
   have HG:=Lib.hid hgood
   have HBIN:=Lib.hid hbin
   have HSI:=Lib.hid (show side=sideI (decide (side=1)) from by
    unfold sideI
    rcases hgood.1 with h|h<;>simp [h])
   have HFA:=Lib.hid (show ∀ b∈fpBin A,w.heap.size≤b from fun b hb=>by
    have h0:=HC1.out.size
    simp only [fpBin,List.mem_cons,List.mem_append] at hb
    rcases hb with rfl|hb|hb|hb
    ·omega
    ·rw [hA1,hA2,hA4] at hb;exact HFR.out b hb
    ·exact Nat.le_trans h0 (hA6 b hb)
    ·exact Nat.le_trans h0 (hA7 b hb))
   clear c0 c1 c2 c3 hc2 hgood hbin hA1 hA2 hA3 hA4 hA5 hA6 hA7 hAb HNB
   obtain ⟨c0,c1,c2,c3⟩:=HBX.out w2 HK2.out
   go_wp2
   go_ret2
   have em:((most.toNat:Nat):Int)=most:=by have:=HG.out;omega
   have hk:Chg [] w2 (w2.alloc (.cells #[.pointer (some ⟨A.b,0,none⟩),.int .u64 (num:Nat),.int .u64 (den:Nat),.int .i64 side,.int .i64 most,.int .i64 0,.int .i64 0] 139)):=(Chg.refl [] w2).alloc _
   refine .inr ⟨n,w2.heap.size,A,HOK.out,HG.out,rfl,⟨?_,HBIN.out.chg hk (by simp),fun hb=>absurd (HBIN.out.lt _ hb) (Nat.lt_irrefl _)⟩,HC2.out.trans hk,fun b hb => ?_⟩
   ·simp only [BinD.new,←HSI.out,em]
    exact Blk.alloc_new _ _ _
   ·rcases List.mem_cons.1 hb with rfl|hb
    ·exact HC2.out.size
    ·exact HFA.out b hb
end Go.Proofs.YthoolcpcmhhkpaaGreatDoor
