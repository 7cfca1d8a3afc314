/-
  Parts of a proof, pressed. Conditions: the form's own reach.
-/
import Derived.Test.YthoolcpcmhhkpaaGreatDoorSuiteConfigsB36
import Derived.Test.YthoolcpcmhhkpaaGreatDoorSuiteConfigsB15
import Derived.Test.YthoolcpcmhhkpaaGreatDoorSuiteConfigsB20
import Derived.Test.YthoolcpcmhhkpaaGreatDoorSuiteConfigsB4
import Derived.Test.YthoolcpcmhhkpaaGreatDoorSuiteConfigsB5
namespace Go.Proofs.YthoolcpcmhhkpaaGreatDoor
open Go.RowKit
namespace LogS
variable {w w1:World} {p:Nat} {A A':BinA} {D:LogD} {B:BinD}
theorem cells (h:LogS w p A D):w.cell? ⟨p,0,none⟩=some (.pointer (some ⟨A.b,0,none⟩))∧w.cell? ⟨p,1,none⟩=some (.int .u64 (D.bins.num:Nat))∧w.cell? ⟨p,2,none⟩=some (.int .u64 (D.bins.den:Nat))∧w.cell? ⟨p,3,none⟩=some (.int .i64 (sideI D.bins.hi))∧w.cell? ⟨p,4,none⟩=some (.int .i64 (D.bins.m:Int))∧w.cell? ⟨p,5,none⟩=some (.int .i64 D.least)∧w.cell? ⟨p,6,none⟩=some (.int .i64 D.most):=
 ⟨h.blk.cell 0,h.blk.cell 1,h.blk.cell 2,h.blk.cell 3,h.blk.cell 4,h.blk.cell 5,h.blk.cell 6⟩
theorem setEnds (h:LogS w p A D) (lo hi:Int):LogS ((w.setCell ⟨p,5,none⟩ (.int .i64 lo)).setCell ⟨p,6,none⟩ (.int .i64 hi)) p A { D with least:=lo,most:=hi }∧Chg [p] w ((w.setCell ⟨p,5,none⟩ (.int .i64 lo)).setCell ⟨p,6,none⟩ (.int .i64 hi)):=by
 have k:Chg [p] w ((w.setCell ⟨p,5,none⟩ (.int .i64 lo)).setCell ⟨p,6,none⟩ (.int .i64 hi)):=((Chg.refl _ w).setCell (by simp) _).setCell (by simp) _
 exact ⟨⟨(h.blk.setCell 5 _).setCell 6 _,h.bins.chg k (fun b hb e=>h.ne (by simp at e;rw [←e];exact hb)),h.ne⟩,k⟩
theorem bins' (h:LogS w p A D) (k:BinS w1 A' B) (m:Mv (fpBin A) w (fpBin A') w1) (e0:A'.b=A.b) (e1:B.num=D.bins.num∧B.den=D.bins.den∧B.hi=D.bins.hi∧B.m=D.bins.m) :
 LogS w1 p A' { D with bins:=B }∧Mv (fpLog p A) w (fpLog p A') w1:=by
 have hn:p∉fpBin A':=fun hb=>by
  rcases m.fr p hb with h1|h1
  ·exact h.ne h1
  ·have:=h.blk.lt;omega
 refine ⟨⟨?_,k,hn⟩,m.chg.mono (fun b hb=>.inl (by simp [fpLog,hb])),fun b hb => ?_⟩
 ·have h1:=h.blk.chg m.chg h.ne
  simp only [e0,e1.1,e1.2.1,e1.2.2.1,e1.2.2.2]
  exact h1
 ·rcases List.mem_cons.1 hb with rfl|hb
  ·exact .inl (by simp [fpLog])
  ·rcases m.fr b hb with h1|h1
   ·exact .inl (by simp [fpLog,h1])
   ·exact .inr h1
theorem mvEnds (k:Chg [p] w w1):Mv (fpLog p A) w (fpLog p A) w1:=Mv.of_chg (k.mono (fun b hb=>.inl (by rw [List.mem_singleton.1 hb];simp [fpLog])))
end LogS
theorem BinD.add_par (D:BinD) (x:Int) (c:Nat):(D.add x c).num=D.num∧(D.add x c).den=D.den∧(D.add x c).hi=D.hi∧(D.add x c).m=D.m:=by
 unfold BinD.add
 split
 ·exact ⟨rfl,rfl,rfl,rfl⟩
 ·split<;>exact ⟨rfl,rfl,rfl,rfl⟩
theorem LogD.ends_bins (D:LogD) (lo hi:Int):(D.ends lo hi).bins=D.bins:=by
 unfold LogD.ends
 split<;>rfl
set_option maxRecDepth 100000 in
set_option maxHeartbeats 2000000 in
theorem log_ends (w:World) (p:Nat) (A:BinA) (D:LogD) (h:LogS w p A D) (ht:D.bins.total≤9223372036854775807) (lo hi:Int) :
 Calls Tryz.prog 83 #[.pointer (some ⟨p,0,none⟩),.int .i64 lo,.int .i64 hi] w fun e w'=>e=.returned (.tuple #[])∧LogS w' p A (D.ends lo hi)∧Chg [p] w w':=by
 obtain ⟨T,hT⟩:∃ T,T=D.bins.total:=⟨_,rfl⟩
 have HTO:=Lib.hid (bins_total w A D.bins h.bins T hT (by omega))
 have HH:=Lib.hid h
 obtain ⟨c0,-⟩:=h.cells
 have HE:=Lib.hid (show D.ends lo hi=if T=0 then { D with least:=lo,most:=hi } else { D with least:=min D.least lo,most:=max D.most hi } from by rw [hT];rfl)
 generalize D.ends lo hi=DE at *
 clear h hT ht
 go_enter Tryz.func83,Tryz.ntmps83
 go_wp2_with fail
 refine HTO.out.mono ?_
 rintro e w1 ⟨rfl,hc1⟩
 have HC1:=Lib.hid hc1
 have HH1:=Lib.hid (HH.out.chg hc1 (by simp))
 obtain ⟨-,-,-,-,-,c5,c6⟩:=HH1.out.cells
 have f5:=HH1.out.blk.free 5
 have f6:=HH1.out.blk.free 6
 clear hc1 c0
 by_cases h0:T=0
 ·have d0:((T:Int)==0)=true:=by rw [beq_iff_eq];omega
  rw [if_pos h0] at HE
  have HS:=Lib.hid (HH1.out.setEnds lo hi)
  clear h0 HTO
  go_wp2_with fail
  refine bodyPost_ret (results_none rfl _ _ _) rfl ?_
  rw [HE.out]
  exact ⟨rfl,HS.out.1,HC1.out.nil.trans HS.out.2⟩
 ·have d0:((T:Int)==0)=false:=by rw [beq_eq_false_iff_ne];omega
  rw [if_neg h0] at HE
  clear h0 HTO
  go_upto_region 2 with (fail)
  have hSS:w1.drew.cell? ⟨p,5,none⟩=some (.int .i64 D.least)∧w1.drew.cell? ⟨p,6,none⟩=some (.int .i64 D.most):=⟨c5,c6⟩
  refine startG (S:=fun wx=>wx.cell? ⟨p,5,none⟩=some (.int .i64 D.least)∧wx.cell? ⟨p,6,none⟩=some (.int .i64 D.most)) (st:=16) (by kernel_rfl) hSS (fun hHeld => ?_)
  refine takeP (i:=0) (v:=?vz0) rfl (by kernel_rfl) (by kernel_rfl) (by kernel_rfl) (by decide) (fun _ _ _ h=>h) (Or.inl ⟨by rfl,?yz0⟩) hSS ?rz0
  case yz0=>(intro w _;go_simp;first|done|with_reducible rfl)
  try simp only [Act.put,jI,jZ,jS]
  refine takeP (i:=1) (v:=?vz1) rfl (by kernel_rfl) (by kernel_rfl) (by kernel_rfl) (by decide) (fun _ _ _ h=>h) (Or.inl ⟨by rfl,?yz1⟩) hSS ?rz1
  case yz1=>(intro w _;go_simp;first|done|with_reducible rfl)
  try simp only [Act.put,jI,jZ,jS]
  refine takeP (i:=2) (v:=?vz2) rfl (by kernel_rfl) (by kernel_rfl) (by kernel_rfl) (by decide) (fun _ _ _ h=>h) (Or.inl ⟨by rfl,?yz2⟩) hSS ?rz2
  case yz2=>(intro w _;go_simp;first|done|with_reducible rfl)
  try simp only [Act.put,jI,jZ,jS]
  refine takeP (i:=3) (v:=?vz3) rfl (by kernel_rfl) (by kernel_rfl) (by kernel_rfl) (by decide) (fun _ _ _ h=>h) (Or.inl ⟨by rfl,?yz3⟩) hSS ?rz3
  case yz3=>(intro w _;go_simp;first|done|with_reducible rfl)
  try simp only [Act.put,jI,jZ,jS]
  refine takeP (i:=4) (v:=?vz4) rfl (by kernel_rfl) (by kernel_rfl) (by kernel_rfl) (by decide) (fun _ _ _ h=>h) (Or.inl ⟨by rfl,?yz4⟩) hSS ?rz4
  case yz4=>(intro w _;go_simp;first|done|with_reducible rfl)
  try simp only [Act.put,jI,jZ,jS]
  refine takeG (i:=5) (v:=?vz5) rfl (by kernel_rfl) (by kernel_rfl) (by kernel_rfl) (by decide) (by kernel_rfl) (by kernel_rfl) (fun _ _ _ h=>h) (Or.inl ⟨by rfl,?yz5⟩) hSS ?rz5
  case yz5=>(intro w hSw;(try dsimp only at hSw);go_simp;first|done|with_reducible rfl)
  try simp only [Act.put,jI,jZ,jS]
  refine takeP (i:=6) (v:=?vz6) rfl (by kernel_rfl) (by kernel_rfl) (by kernel_rfl) (by decide) (fun _ _ _ h=>h) (Or.inl ⟨by rfl,?yz6⟩) hSS ?rz6
  case yz6=>(intro w _;go_simp;first|done|with_reducible rfl)
  try simp only [Act.put,jI,jZ,jS]
  refine takeP (i:=7) (v:=?vz7) rfl (by kernel_rfl) (by kernel_rfl) (by kernel_rfl) (by decide) (fun _ _ _ h=>h) (Or.inl ⟨by rfl,?yz7⟩) hSS ?rz7
  case yz7=>(intro w _;go_simp;first|done|with_reducible rfl)
  try simp only [Act.put,jI,jZ,jS]
  refine takeP (i:=8) (v:=?vz8) rfl (by kernel_rfl) (by kernel_rfl) (by kernel_rfl) (by decide) (fun _ _ _ h=>h) (Or.inl ⟨by rfl,?yz8⟩) hSS ?rz8
  case yz8=>(intro w _;go_simp;first|done|with_reducible rfl)
  try simp only [Act.put,jI,jZ,jS]
  refine takeP (i:=9) (v:=?vz9) rfl (by kernel_rfl) (by kernel_rfl) (by kernel_rfl) (by decide) (fun _ _ _ h=>h) (Or.inl ⟨by rfl,?yz9⟩) hSS ?rz9
  case yz9=>(intro w _;go_simp;first|done|with_reducible rfl)
  try simp only [Act.put,jI,jZ,jS]
  refine takeP (i:=10) (v:=?vz10) rfl (by kernel_rfl) (by kernel_rfl) (by kernel_rfl) (by decide) (fun _ _ _ h=>h) (Or.inl ⟨by rfl,?yz10⟩) hSS ?rz10
  case yz10=>(intro w _;go_simp;first|done|with_reducible rfl)
  try simp only [Act.put,jI,jZ,jS]
  refine takeG (i:=11) (v:=?vz11) rfl (by kernel_rfl) (by kernel_rfl) (by kernel_rfl) (by decide) (by kernel_rfl) (by kernel_rfl) (fun _ _ _ h=>h) (Or.inl ⟨by rfl,?yz11⟩) hSS ?rz11
  case yz11=>(intro w hSw;(try dsimp only at hSw);go_simp;first|done|with_reducible rfl)
  try simp only [Act.put,jI,jZ,jS]
  refine takeP (i:=12) (v:=?vz12) rfl (by kernel_rfl) (by kernel_rfl) (by kernel_rfl) (by decide) (fun _ _ _ h=>h) (Or.inl ⟨by rfl,?yz12⟩) hSS ?rz12
  case yz12=>(intro w _;go_simp;first|done|with_reducible rfl)
  try simp only [Act.put,jI,jZ,jS]
  refine takeP (i:=13) (v:=?vz13) rfl (by kernel_rfl) (by kernel_rfl) (by kernel_rfl) (by decide) (fun _ _ _ h=>h) (Or.inl ⟨by rfl,?yz13⟩) hSS ?rz13
  case yz13=>(intro w _;go_simp;first|done|with_reducible rfl)
  try simp only [Act.put,jI,jZ,jS]
  refine takeP (i:=14) (v:=?vz14) rfl (by kernel_rfl) (by kernel_rfl) (by kernel_rfl) (by decide) (fun _ _ _ h=>h) (Or.inl ⟨by rfl,?yz14⟩) hSS ?rz14
  case yz14=>(intro w _;go_simp;first|done|with_reducible rfl)
  try simp only [Act.put,jI,jZ,jS]
  refine takeP (i:=15) (v:=?vz15) rfl (by kernel_rfl) (by kernel_rfl) (by kernel_rfl) (by decide) (fun _ _ _ h=>h) (Or.inl ⟨by rfl,?yz15⟩) hSS ?rz15
  case yz15=>(intro w _;go_simp;first|done|with_reducible rfl)
  try simp only [Act.put,jI,jZ,jS]
  refine readyG (rs:=[16]) (by kernel_rfl) (by simp) (consG rfl (fun K hK => ?_) nilG)
  go_simp
  refine hK.out _ _ (fun h=>absurd rfl h) (fun hHeld => ?_)
  clear hK K hHeld
  try simp only [Act.put,jI,jZ,jS]
  refine readyG (rs:=[17]) (by kernel_rfl) (by simp) (consG rfl (fun K hK => ?_) nilG)
  go_simp
  refine hK.out _ _ (fun _ h=>absurd h (by decide)) (fun hHeld => ?_)
  clear hK K hHeld
  try simp only [Act.put,jI,jZ,jS]
  refine readyG (rs:=[18]) (by kernel_rfl) (by simp) (consG rfl (fun K hK => ?_) nilG)
  go_simp
  refine hK.out _ _ (fun _ h=>absurd h (by decide)) (fun hHeld => ?_)
  clear hK K hHeld
  try simp only [Act.put,jI,jZ,jS]
  refine readyG (rs:=[19]) (by kernel_rfl) (by simp) (consG rfl (fun K hK => ?_) nilG)
  go_simp
  refine hK.out _ _ (fun _ h=>absurd h (by decide)) (fun hHeld => ?_)
  clear hK K hHeld
  try simp only [Act.put,jI,jZ,jS]
  refine doneG (by kernel_rfl) ?_ _
  have HS:=Lib.hid (HH1.out.setEnds (min D.least lo) (max D.most hi))
  have e1:(if lo<D.least then lo else D.least)=min D.least lo:=by split<;>omega
  have e2:(if D.most<hi then hi else D.most)=max D.most hi:=by split<;>omega
  first|rw [e1,e2]|skip
  clear e1 e2 hSS
  go_wp2_with fail
  go_end0
  rw [HE.out]
  exact ⟨rfl,HS.out.1.chg ((Chg.refl [] _).drew) (by simp),(HC1.out.nil.trans HS.out.2).drew⟩
set_option maxRecDepth 100000 in
set_option maxHeartbeats 2000000 in
theorem log_put (w:World) (p:Nat) (A:BinA) (D:LogD) (h:LogS w p A D) (hok:D.ok) (x:Int) (hx:-9223372036854775808≤x∧x<9223372036854775808) (c:Nat) (hcu:c<18446744073709551616) :
 Calls Tryz.prog 37 #[.pointer (some ⟨p,0,none⟩),.int .i64 x,.int .u64 (c:Nat)] w fun e w'=>e=.returned (.int .i64 (D.putE c:Nat))∧∃ A',LogS w' p A' (D.put x c)∧Mv (fpLog p A) w (fpLog p A') w':=by
 have htm:D.bins.total≤9223372036854775807:=hok.bins.tot
 have HEN:=Lib.hid (fun u (hu:LogS u p A D)=>log_ends u p A D hu htm x x)
 have heb:=D.ends_bins x x
 have HAD:=Lib.hid (fun u (hu:LogS u p A (D.ends x x))=>bins_add u A (D.ends x x).bins hu.bins (by rw [heb];exact hok.bins) x hx c hcu)
 rw [heb] at HAD
 have HPE:=Lib.hid (show D.putE c=D.bins.addE c from rfl)
 have HP:=Lib.hid (show D.put x c=if D.putE c=0 then { D.ends x x with bins:=D.bins.add x c } else D from rfl)
 have HBK:=Lib.hid (show ({ D.ends x x with bins:=D.bins,least:=D.least,most:=D.most }:LogD)=D from by rfl)
 have HPR:=Lib.hid (BinD.add_par D.bins x c)
 rw [HPE.out] at HP
 rw [HPE.out]
 have HEB:=Lib.hid heb
 generalize D.put x c=DP at *
 obtain ⟨E,hE⟩:∃ E,E=D.bins.addE c:=⟨_,rfl⟩
 rw [←hE] at HAD HP ⊢
 have HH:=Lib.hid h
 obtain ⟨-,-,-,-,-,c5,c6⟩:=h.cells
 clear h hok htm heb hE HPE
 go_enter Tryz.func37,Tryz.ntmps37
 go_wp2_with fail
 go_quiet (fail)
 have HC0:=Lib.hid (show Chg [] w (w.drewN nq) from (Chg.refl [] w).drewN nq)
 clear c5 c6
 generalize w.drewN nq=w0 at *
 have HH0:=Lib.hid (HH.out.chg HC0.out (by simp))
 go_wp2_with fail
 refine (HEN.out _ HH0.out).mono ?_
 rintro e w1 ⟨rfl,hl1,hc1⟩
 have HL1:=Lib.hid hl1
 have HC1:=Lib.hid hc1
 obtain ⟨c0,-⟩:=hl1.cells
 clear hl1 hc1 HEN
 go_wp2_with fail
 refine (HAD.out _ HL1.out).mono ?_
 rintro e w2 ⟨rfl,A',hAb,hb2,hm2⟩
 clear HAD
 by_cases he:E=0
 ·rw [if_pos he] at hb2 HP
  subst he
  have HX:=Lib.hid (HL1.out.bins' hb2 hm2 hAb (by rw [HEB.out];exact HPR.out))
  clear hb2 hm2 hAb c0
  go_wp2
  go_ret
  rw [HP.out]
  exact ⟨rfl,A',HX.out.1,(Mv.of_chg HC0.out.nil).trans ((LogS.mvEnds HC1.out).trans HX.out.2)⟩
 ·rw [if_neg he] at hb2 HP
  have de:((E:Int) != 0)=true:=by rw [bne_iff_ne];omega
  have HX:=Lib.hid (HL1.out.bins' hb2 hm2 hAb (by rw [HEB.out];exact ⟨rfl,rfl,rfl,rfl⟩))
  have HS:=Lib.hid (HX.out.1.setEnds D.least D.most)
  obtain ⟨-,-,-,-,-,c5,c6⟩:=HX.out.1.cells
  have f5:=HX.out.1.blk.free 5
  have f6:=HX.out.1.blk.free 6
  clear hb2 hm2 hAb c0 he
  go_wp2
  go_ret
  rw [HP.out]
  have h1:=HS.out.1
  exact ⟨rfl,A',h1,(Mv.of_chg HC0.out.nil).trans ((LogS.mvEnds HC1.out).trans (HX.out.2.trans (LogS.mvEnds HS.out.2)))⟩
set_option maxRecDepth 100000 in
theorem log_bins (w:World) (p:Nat) (A:BinA) (D:LogD) (h:LogS w p A D):Calls Tryz.prog 38 #[.pointer (some ⟨p,0,none⟩)] w fun e w'=>e=.returned (.pointer (some ⟨A.b,0,none⟩))∧w'=w:=by
 obtain ⟨c0,-⟩:=h.cells
 clear h
 go_enter Tryz.func38,Tryz.ntmps38
 go_wp2
 go_ret
 exact ⟨rfl,rfl⟩
set_option maxRecDepth 100000 in
set_option maxHeartbeats 1000000 in
theorem log_Ends (w:World) (p:Nat) (A:BinA) (D:LogD) (h:LogS w p A D) (hok:D.ok) (B:Bool) (hB:B=decide (D.bins.total≠0)):Calls Tryz.prog 41 #[.pointer (some ⟨p,0,none⟩)] w fun e w'=>e=.returned (.tuple #[.int .i64 D.least,.int .i64 D.most,.bool B])∧Chg [] w w':=by
 have htm:D.bins.total≤9223372036854775807:=hok.bins.tot
 obtain ⟨T,hT⟩:∃ T,T=D.bins.total:=⟨_,rfl⟩
 have HTO:=Lib.hid (bins_total w A D.bins h.bins T hT (by omega))
 have HH:=Lib.hid h
 obtain ⟨c0,-⟩:=h.cells
 by_cases h0:T=0
 ·have d0:((T:Int)==0)=true:=by rw [beq_iff_eq];omega
  obtain ⟨e1,e2⟩:=hok.none (by omega)
  have hb:B=false:=by rw [hB];exact decide_eq_false (by omega)
  subst hb
  rw [e1,e2]
  clear h hok htm hT h0 hB e1 e2
  go_enter Tryz.func41,Tryz.ntmps41
  go_wp2_with fail
  refine HTO.out.mono ?_
  rintro e w1 ⟨rfl,hc1⟩
  have HC1:=Lib.hid hc1
  clear hc1 HTO c0
  go_wp2
  refine bodyPost_ret (v:=.tuple #[.int .i64 0,.int .i64 0,.bool false]) (by simp [results,Tryz.results41,go_sem]) rfl ?_
  exact ⟨rfl,HC1.out⟩
 ·have d0:((T:Int)==0)=false:=by rw [beq_eq_false_iff_ne];omega
  have hb:B=true:=by rw [hB];exact decide_eq_true (by omega)
  subst hb
  clear h hok htm hT h0 hB
  go_enter Tryz.func41,Tryz.ntmps41
  go_wp2_with fail
  refine HTO.out.mono ?_
  rintro e w1 ⟨rfl,hc1⟩
  have HC1:=Lib.hid hc1
  obtain ⟨-,-,-,-,-,c5,c6⟩:=(HH.out.chg hc1 (by simp)).cells
  clear hc1 HTO c0
  go_wp2_with fail
  go_quiet (fail)
  go_wp2
  refine bodyPost_ret (v:=.tuple #[.int .i64 D.least,.int .i64 D.most,.bool true]) (by simp [results,Tryz.results41,go_sem]) rfl ?_
  exact ⟨rfl,HC1.out.drewN _⟩
set_option maxRecDepth 100000 in
set_option maxHeartbeats 1000000 in
theorem log_config (w:World) (p:Nat) (A:BinA) (D:LogD) (h:LogS w p A D):Calls Tryz.prog 353 #[.pointer (some ⟨p,0,none⟩)] w fun e w'=>e=.returned (.agg #[.int .u64 (D.bins.num:Nat),.int .u64 (D.bins.den:Nat),.int .i64 (sideI D.bins.hi),.int .i64 (D.bins.m:Int)])∧Chg [] w w':=by
 have HC0:=Lib.hid ((Chg.refl [] w).alloc (.cells #[.int .u64 0,.int .u64 0,.int .i64 0,.int .i64 0] 91))
 have hz:=Blk.alloc_new w #[.int .u64 0,.int .u64 0,.int .i64 0,.int .i64 0] 91
 obtain ⟨-,c1,c2,c3,c4,-,-⟩:=(h.chg HC0.out (by simp)).cells
 obtain ⟨b,hb⟩:∃ z,z=w.heap.size:=⟨_,rfl⟩
 rw [←hb] at hz
 have z0:=hz.cell 0
 have z1:=hz.cell 1
 have z2:=hz.cell 2
 have z3:=hz.cell 3
 have y0:=hz.free 0
 have y1:=hz.free 1
 have y2:=hz.free 2
 have y3:=hz.free 3
 have HB:=Lib.hid (show w.heap.size≤b from by omega)
 simp only [List.getElem?_toArray,List.getElem?_cons_zero,List.getElem?_cons_succ] at z0 z1 z2 z3
 generalize D.bins.num=num at *
 generalize D.bins.den=den at *
 generalize sideI D.bins.hi=sd at *
 generalize D.bins.m=m at *
 clear h hz
 go_enter Tryz.func353,Tryz.ntmps353
 go_upto_region 3 with (fail)
 rw [←hb]
 clear hb
 generalize w.alloc (.cells #[.int .u64 0,.int .u64 0,.int .i64 0,.int .i64 0] 91)=w0 at *
 go_wp2
 refine bodyPost_ret (v:=.agg #[.int .u64 (num:Nat),.int .u64 (den:Nat),.int .i64 sd,.int .i64 (m:Int)]) (by simp [results,Tryz.results353,go_sem,z0,z1,z2,z3]) rfl ?_
 exact ⟨rfl,(((HC0.out.setCell (.inr HB.out) _).setCell (.inr HB.out) _).setCell (.inr HB.out) _).setCell (.inr HB.out) _⟩
end Go.Proofs.YthoolcpcmhhkpaaGreatDoor
namespace Go.Proofs.YthoolcpcmhhkpaaGreatDoor
open Go.RowKit
set_option maxRecDepth 100000 in
set_option maxHeartbeats 4000000 in
theorem log_write (w:World) (p:Nat) (A:BinA) (D:LogD) (d:LogS w p A D) (hok:D.ok) (q:Nat) (F:List Nat) (l:List UInt8) (hl:l.length≤1000) (hql:Qul w q F l) (hd:∀ b∈F,b∉fpLog p A) :
 Calls Tryz.prog 351 #[.agg #[.pointer (some ⟨p,0,none⟩)],.pointer (some ⟨q,0,none⟩)] w fun e w'=>e=.returned (.tuple #[])∧∃ F',Qul w' q F' (l++putLog D)∧Mv F w F' w':=by
 obtain ⟨B,hB⟩:∃ B,B=decide (D.bins.total≠0):=⟨_,rfl⟩
 obtain ⟨n,hn⟩:∃ n,n=D.bins.minus.r.length:=⟨_,rfl⟩
 obtain ⟨m,hm⟩:∃ n,n=D.bins.plus.r.length:=⟨_,rfl⟩
 have hb:=hok.bins
 have htt:=hb.tot
 have hg:=hb.tab.good
 have hmi:=hb.minus
 have hpl:=hb.plus
 have m2:=hmi.m2
 rw [hb.mm] at m2
 have l1:=hmi.len
 have l2:=hpl.len
 rw [hb.mm] at l1
 rw [hb.pm] at l2
 have t1:D.bins.minus.total=totP D.bins.minus.r+D.bins.minus.lost:=rfl
 have t2:D.bins.plus.total=totP D.bins.plus.r+D.bins.plus.lost:=rfl
 have hs:D.side≤1:=by unfold LogD.side;split<;>omega
 have hsd:sideI D.bins.hi=(D.side:Nat):=by unfold LogD.side sideI;split<;>simp_all
 have HEN:=Lib.hid (fun u (hu:Chg [] w u)=>log_Ends u p A D (d.chg hu (by simp)) hok B hB)
 have HLO:=Lib.hid (show (-9223372036854775808≤D.least∧D.least<9223372036854775808)∧(-9223372036854775808≤D.most∧D.most<9223372036854775808) from by
  have h1:=hok.le
  have h2:=hok.low
  have h3:=hok.high
  omega)
 have HBI:=Lib.hid (fun u (hu:Chg F w u)=>log_bins u p A D (d.chg hu (fun b hb e=>hd b e hb)))
 have HRW:=Lib.hid (fun u (hu:Chg [] w u)=>bins_rows u A D.bins (d.bins.chg hu (by simp)) n m hn hm (by omega) (by omega))
 have HLS:=Lib.hid (fun u (hu:Chg [] w u)=>bins_lost u A D.bins (d.bins.chg hu (by simp)))
 have HCF:=Lib.hid (fun u (hu:Chg [] w u)=>log_config u p A D (d.chg hu (by simp)))
 have HZR:=Lib.hid (fun u (hu:Chg F w u)=>bins_zero u A D.bins (d.bins.chg hu (fun b hb e=>hd b e (by simp [fpLog,hb]))))
 have HROK:=Lib.hid (show (∀ p∈D.bins.minus.r,p.ok)∧∀ p∈D.bins.plus.r,p.ok from ⟨row_ok (a:=-1000000) (b:=1000000) (by omega) (by omega) hmi.ix (by omega),row_ok (a:=-1000000) (b:=1000000) (by omega) (by omega) hpl.ix (by omega)⟩)
 have HQL:=Lib.hid (fun u (hu:Chg [] w u)=>hql.chg hu (by simp))
 have HFL:=Lib.hid (show ∀ b∈F,b<w.heap.size from hql.lt)
 have HPD:=Lib.hid (show putLog D=natB D.bins.num++(natB D.bins.den++(natB D.side++(natB D.bins.m++(natB (zig D.least)++(natB (zig D.most)++(natB D.bins.zero++(natB D.bins.minus.lost++(natB D.bins.plus.lost++(putB D.bins.minus.r++putB D.bins.plus.r))))))))) from rfl)
 have HN:=Lib.hid (And.intro hn hm)
 generalize putLog D=PD at *
 have hnum:D.bins.num≤2147483648:=by omega
 have hden:D.bins.den≤2147483648:=by omega
 have hz:D.bins.zero≤9223372036854775807:=by omega
 have hl0:D.bins.minus.lost≤9223372036854775807:=by omega
 have hl1:D.bins.plus.lost≤9223372036854775807:=by omega
 rw [hsd] at HCF
 obtain ⟨lo,hlo⟩:∃ x,x=D.least:=⟨_,rfl⟩
 obtain ⟨hi,hhi⟩:∃ x,x=D.most:=⟨_,rfl⟩
 obtain ⟨nu,hnu⟩:∃ x,x=D.bins.num:=⟨_,rfl⟩
 obtain ⟨de,hde⟩:∃ x,x=D.bins.den:=⟨_,rfl⟩
 obtain ⟨sd,hsdd⟩:∃ x,x=D.side:=⟨_,rfl⟩
 obtain ⟨mm,hmm⟩:∃ x,x=D.bins.m:=⟨_,rfl⟩
 obtain ⟨zr,hzr⟩:∃ x,x=D.bins.zero:=⟨_,rfl⟩
 obtain ⟨la,hla⟩:∃ x,x=D.bins.minus.lost:=⟨_,rfl⟩
 obtain ⟨lb,hlb⟩:∃ x,x=D.bins.plus.lost:=⟨_,rfl⟩
 rw [←hlo,←hhi] at HEN HLO HPD
 rw [←hnu,←hde,←hsdd,←hmm] at HCF HPD
 rw [←hzr] at HZR HPD hz
 rw [←hla,←hlb] at HLS HPD
 rw [←hla] at hl0
 rw [←hlb] at hl1
 rw [←hnu] at hnum
 rw [←hde] at hden
 rw [←hsdd] at hs
 rw [←hmm] at m2 l1 l2
 rw [←hn] at l1
 rw [←hm] at l2
 obtain ⟨b0,hb0⟩:∃ z,z=w.heap.size:=⟨_,rfl⟩
 have HB:=Lib.hid (show Blk (w.alloc (.cells #[.pointer (some ⟨p,0,none⟩)] 217)) b0 #[.pointer (some ⟨p,0,none⟩)] 217 from by rw [hb0];exact Blk.alloc_new _ _ _)
 have HC0:=Lib.hid ((Chg.refl [] w).alloc (.cells #[.pointer (some ⟨p,0,none⟩)] 217))
 have HB0:=Lib.hid (show w.heap.size≤b0 from by omega)
 have hwd:IntKind.u64.wrap (sd:Int)=(sd:Int):=IntWalk.u64_in _ (by omega)
 have hwm:IntKind.u64.wrap (mm:Int)=(mm:Int):=IntWalk.u64_in _ (by omega)
 have HDF:=Lib.hid (show nu≤2147483648∧de≤2147483648∧sd≤1∧mm≤4096∧zr≤9223372036854775807∧la≤9223372036854775807∧lb≤9223372036854775807∧n≤4096∧m≤4096 from ⟨hnum,hden,hs,m2,hz,hl0,hl1,by omega,by omega⟩)
 clear d hok hql hd hB hn hm hb htt hg hmi hpl m2 l1 l2 t1 t2 hs hsd hnum hden hz hl0 hl1 hlo hhi hnu hde hsdd hmm hzr hla hlb
 go_enter Tryz.func351,Tryz.ntmps351
 go_wp2_with fail
 rw [←hb0]
 clear hb0
 generalize w.alloc (.cells #[.pointer (some ⟨p,0,none⟩)] 217)=w0 at *
 have hc0:=HB.out.cell 0
 simp only [List.getElem?_toArray,List.getElem?_cons_zero] at hc0
 go_wp2_with fail
 refine (HCF.out _ HC0.out).mono ?_
 rintro e wA ⟨rfl,hcA⟩
 have HCA:=Lib.hid (HC0.out.trans hcA)
 have HBA:=Lib.hid (HB.out.chg hcA (by simp))
 clear hc0 hcA HB HC0 HCF
 obtain ⟨fb,hfb⟩:∃ z,z=wA.heap.size:=⟨_,rfl⟩
 have HFB:=Lib.hid (show Blk (wA.alloc (.cells #[.int .u64 (nu:Nat),.int .u64 (de:Nat),.int .i64 (sd:Nat),.int .i64 (mm:Nat)] 91)) fb #[.int .u64 (nu:Nat),.int .u64 (de:Nat),.int .i64 (sd:Nat),.int .i64 (mm:Nat)] 91 from by rw [hfb];exact Blk.alloc_new _ _ _)
 have HCB:=Lib.hid (HCA.out.alloc (.cells #[.int .u64 (nu:Nat),.int .u64 (de:Nat),.int .i64 (sd:Nat),.int .i64 (mm:Nat)] 91))
 have HBB:=Lib.hid (HBA.out.alloc (.cells #[.int .u64 (nu:Nat),.int .u64 (de:Nat),.int .i64 (sd:Nat),.int .i64 (mm:Nat)] 91))
 have HFF:=Lib.hid (show w.heap.size≤fb from by have:=HCA.out.size;omega)
 have hc0:=HBB.out.cell 0
 simp only [List.getElem?_toArray,List.getElem?_cons_zero] at hc0
 go_wp2_with fail
 rw [←hfb]
 generalize wA.alloc (.cells #[.int .u64 (nu:Nat),.int .u64 (de:Nat),.int .i64 (sd:Nat),.int .i64 (mm:Nat)] 91)=wB at *
 refine (HEN.out wB HCB.out).mono ?_
 rintro e wE ⟨rfl,hcE⟩
 have HCE:=Lib.hid (HCB.out.trans hcE)
 have HBE:=Lib.hid (HBB.out.chg hcE (by simp))
 have HFE:=Lib.hid (HFB.out.chg hcE (by simp))
 clear hc0 hcE HBB HFB HCB HEN HBA HCA hfb
 have hc0:=HBE.out.cell 0
 simp only [List.getElem?_toArray,List.getElem?_cons_zero] at hc0
 go_wp2_with fail
 refine (HBI.out _ HCE.out.nil).mono ?_
 rintro e wX ⟨rfl,hw⟩
 obtain rfl:=hw.symm
 clear hw
 go_wp2_with fail
 refine (HRW.out _ HCE.out).mono ?_
 rintro e w1 ⟨a1,k1,a2,k2,rfl,ho1,ho2,hc1,hf1,hf2⟩
 have HC1:=Lib.hid (HCE.out.trans hc1)
 have HB1:=Lib.hid (HBE.out.chg hc1 (by simp))
 have HF1:=Lib.hid (HFE.out.chg hc1 (by simp))
 have HOW:=Lib.hid (And.intro ho1 ho2)
 have HFR:=Lib.hid (show (∀ b∈abl a1,w.heap.size≤b)∧∀ b∈abl a2,w.heap.size≤b from ⟨fun b hb=>Nat.le_trans HCE.out.size (hf1 b hb),fun b hb=>Nat.le_trans HCE.out.size (hf2 b hb)⟩)
 clear hc0 hc1 ho1 ho2 hf1 hf2 HBE HCE HRW HFE
 have hc0:=HB1.out.cell 0
 simp only [List.getElem?_toArray,List.getElem?_cons_zero] at hc0
 go_wp2_with fail
 refine (HBI.out _ HC1.out.nil).mono ?_
 rintro e wX ⟨rfl,hw⟩
 obtain rfl:=hw.symm
 clear hw
 go_wp2_with fail
 refine (HLS.out _ HC1.out).mono ?_
 rintro e w2 ⟨rfl,hc2⟩
 have HC2:=Lib.hid (HC1.out.trans hc2)
 have HB2:=Lib.hid (HB1.out.chg hc2 (by simp))
 have hF2:=HF1.out.chg hc2 (by simp)
 have HOW2:=Lib.hid (show Own w2 _ _ _ _ _∧Own w2 _ _ _ _ _ from ⟨HOW.out.1.chg hc2 (by simp),HOW.out.2.chg hc2 (by simp)⟩)
 have z0:=hF2.cell 0
 have z1:=hF2.cell 1
 have z2:=hF2.cell 2
 have z3:=hF2.cell 3
 simp only [List.getElem?_toArray,List.getElem?_cons_zero,List.getElem?_cons_succ] at z0 z1 z2 z3
 clear hc0 hc2 HB1 HC1 HF1 HOW HLS hF2
 have hq2:=HQL.out _ HC2.out
 have HBF:=Lib.hid (show b0∉F from fun e=>by have h1:=HFL.out b0 e;have h2:=HB0.out;omega)
 have HN4:=Lib.hid (qn_lit w2 q F l hq2 [nu,de,sd,mm] (by have:=HDF.out;intro u hu;simp only [List.mem_cons,List.not_mem_nil,or_false] at hu;rcases hu with rfl|rfl|rfl|rfl<;>omega) (by simp only [List.length_cons,List.length_nil];omega) _ rfl 4 rfl _ rfl)
 clear hq2
 go_wp2_with fail
 refine HN4.out.mono ?_
 rintro e w3 ⟨rfl,F3,T3,hq3,hT3,hL3,hm3⟩
 have HQ3:=Lib.hid (And.intro hq3 (And.intro hT3 hL3))
 have HM3:=Lib.hid hm3
 clear hq3 hT3 hL3 hm3 HN4 z0 z1 z2 z3 hwd hwm
 go_wp2_with fail
 refine (qi_lit w3 q F3 T3 HQ3.out.1 [lo,hi] (by have:=HLO.out;intro u hu;simp only [List.mem_cons,List.not_mem_nil,or_false] at hu;rcases hu with rfl|rfl;exact this.1;exact this.2) (by have:=HQ3.out.2.2;simp only [List.length_cons,List.length_nil];omega) _ rfl 2 rfl _ rfl).mono ?_
 rintro e w4 ⟨rfl,F4,T4,hq4,hT4,hL4,hm4⟩
 have HM4:=Lib.hid (HM3.out.trans hm4)
 have HT4:=Lib.hid (And.intro hT4 hL4)
 have HQ4:=Lib.hid hq4
 have hc0:w4.cell? ⟨b0,0,none⟩=some (.pointer (some ⟨p,0,none⟩)):=(HB2.out.chg HM4.out.chg HBF.out).cell 0
 clear hq4 hT4 hL4 hm4
 go_wp2_with fail
 refine (HBI.out _ (HC2.out.nil.trans HM4.out.chg)).mono ?_
 rintro e wX ⟨rfl,hw⟩
 obtain rfl:=hw.symm
 clear hw
 go_wp2_with fail
 refine (HZR.out _ (HC2.out.nil.trans HM4.out.chg)).mono ?_
 rintro e w5 ⟨rfl,rfl⟩
 go_wp2_with fail
 refine (qn_lit w4 q F4 T4 HQ4.out [zr,la,lb] (by have:=HDF.out;intro u hu;simp only [List.mem_cons,List.not_mem_nil,or_false] at hu;rcases hu with rfl|rfl|rfl<;>omega) (by have h1:=HQ3.out.2.2;have h2:=HT4.out.2;simp only [List.length_cons,List.length_nil];omega) _ rfl 3 rfl _ rfl).mono ?_
 rintro e w6 ⟨rfl,F6,T6,hq6,hT6,hL6,hm6⟩
 have HM6:=Lib.hid (HM4.out.trans hm6)
 have HT6:=Lib.hid (And.intro hT6 hL6)
 have HQ6:=Lib.hid hq6
 have HL6:=Lib.hid (show T6.length≤2000 from by have h1:=HQ3.out.2.2;have h2:=HT4.out.2;omega)
 have HAP:=Lib.hid (show (∀ b∈abl a1,b∉F)∧∀ b∈abl a2,b∉F from ⟨fun b hb e=>by have h1:=HFR.out.1 b hb;have h2:=HFL.out b e;omega,fun b hb e=>by have h1:=HFR.out.2 b hb;have h2:=HFL.out b e;omega⟩)
 have ho1:=HOW2.out.1.chg HM6.out.chg (by simpa using HAP.out.1)
 have ho2:=HOW2.out.2.chg HM6.out.chg (by simpa using HAP.out.2)
 have HAP6:=Lib.hid (show (∀ b∈abl a1,b∉F6)∧∀ b∈abl a2,b∉F6 from ⟨fun b hb e=>by
  rcases HM6.out.fr b e with h1|h1
  ·exact HAP.out.1 b hb h1
  ·have:=HOW2.out.1.lt b (by simpa using hb);omega,fun b hb e=>by
  rcases HM6.out.fr b e with h1|h1
  ·exact HAP.out.2 b hb h1
  ·have:=HOW2.out.2.lt b (by simpa using hb);omega⟩)
 have HPU:=Lib.hid (runs_put w6 q F6 T6 a1 k1 D.bins.minus.r HROK.out.1 HQ6.out (by have:=ho1.rd;rw [HN.out.1] at this;exact this) (fun _ b hb=>HAP6.out.1 b (by simpa using hb)) (by have h1:=HL6.out;have h3:=HN.out.1;have h4:=HDF.out;omega))
 rw [←HN.out.1] at HPU
 have HO2:=Lib.hid ho2
 clear hq6 hT6 hL6 hm6 hc0 ho1 ho2 HZR
 go_wp2_with fail
 refine HPU.out.mono ?_
 rintro e w7 ⟨rfl,F7,hq7,hm7⟩
 obtain ⟨T7,hT7⟩:∃ T,T=T6++putB D.bins.minus.r:=⟨_,rfl⟩
 have hl7:=putB_lenG D.bins.minus.r HROK.out.1 (by have h3:=HN.out.1;have h4:=HDF.out;omega)
 have HL7:=Lib.hid (show T7.length≤100000 from by rw [hT7,List.length_append];have h1:=HL6.out;have h3:=HN.out.1;have h4:=HDF.out;omega)
 rw [←hT7] at hq7
 have HT7:=Lib.hid hT7
 have HM7:=Lib.hid hm7
 have HPU2:=Lib.hid (runs_put w7 q F7 T7 a2 k2 D.bins.plus.r HROK.out.2 hq7 (by
  have h1:=HO2.out.chg hm7.chg (by simpa using HAP6.out.2)
  have:=h1.rd
  rw [HN.out.2] at this
  exact this) (fun _ b hb e=>by
  rcases hm7.fr b e with h1|h1
  ·exact HAP6.out.2 b (by simpa using hb) h1
  ·have:=HO2.out.lt b (by simpa using hb);omega) (by have h1:=HL7.out;have h3:=HN.out.2;have h4:=HDF.out;omega))
 rw [←HN.out.2] at HPU2
 clear hT7 hl7 hq7 hm7 HPU
 go_wp2_with fail
 refine HPU2.out.mono ?_
 rintro e w8 ⟨rfl,F8,hq8,hm8⟩
 have HQ8:=Lib.hid hq8
 have HM8:=Lib.hid hm8
 clear hq8 hm8 HPU2
 go_wp2
 go_end0
 refine ⟨rfl,F8,?_,((Mv.of_chg HC2.out.nil).trans HM6.out).trans (HM7.out.trans HM8.out)⟩
 have h1:=HQ8.out
 have e:T7++putB D.bins.plus.r=l++PD:=by
  rw [HPD.out,HT7.out,HT6.out.1,HT4.out.1,HQ3.out.2.1]
  simp
 rw [←e]
 exact h1
set_option maxRecDepth 100000 in
set_option maxHeartbeats 4000000 in
theorem sk_enc_log (w:World) (s p:Nat) (c:Cf) (h:Sk w s c 217 p) (kk:UInt8) (hkk:c.kind=(kk.toNat:Nat)) (X:List UInt8)
 (HW0:∀ u q F,Chg [] w u→Qul u q F []→(∀ b∈F,w.heap.size≤b)→Calls Tryz.prog 351 #[.agg #[.pointer (some ⟨p,0,none⟩)],.pointer (some ⟨q,0,none⟩)] u fun e w'=>e=.returned (.tuple #[])∧∃ F',Qul w' q F' X∧Mv F u F' w') :
 Calls Tryz.prog 23 #[.pointer (some ⟨s,0,none⟩)] w fun e w'=>e=.returned (.tuple #[.string ⟨(encS kk X).toArray⟩,.int .i64 (encE X)])∧Chg [] w w':=by
 obtain ⟨S,hS⟩:∃ S,S=encS kk X:=⟨_,rfl⟩
 obtain ⟨E,hE⟩:∃ E,E=encE X:=⟨_,rfl⟩
 have HFC:=Lib.hid (fun u=>frame_closeV u kk X S E hS hE)
 rw [←hS,←hE]
 clear hS hE
 have HW:=Lib.hid HW0
 have hwk:=u8_kind hkk
 have HS:=Lib.hid (fun u (hu:Chg [] w u)=>(⟨(h.nil hu).kind,(h.nil hu).core⟩:_∧_))
 obtain ⟨k,hk⟩:∃ k,k=c.kind:=⟨_,rfl⟩
 rw [←hk] at HS hwk
 obtain ⟨q,hq⟩:∃ q,q=w.heap.size:=⟨_,rfl⟩
 have HQ0:=Lib.hid (show Qul (w.alloc (.cells #[.slice none 0 0] 120)) q [q] [] from by rw [hq];exact Qul.new w)
 have HC0:=Lib.hid ((Chg.refl [] w).alloc (.cells #[.slice none 0 0] 120))
 have HQN:=Lib.hid (show ∀ b∈[q],w.heap.size≤b from by intro b hb;rw [List.mem_singleton.1 hb,hq];exact Nat.le_refl _)
 obtain ⟨-,c11⟩:=HS.out _ HC0.out
 clear HW0 h hkk hk
 go_enter Tryz.func23,Tryz.ntmps23
 go_wp2_with fail
 rw [←hq]
 clear hq
 generalize w.alloc (.cells #[.slice none 0 0] 120)=w0 at *
 refine (HW.out w0 q [q] HC0.out HQ0.out HQN.out).mono ?_
 rintro e w1 ⟨rfl,F1,hq1,hm1⟩
 have HQ1:=Lib.hid hq1
 have HC1:=Lib.hid (hm1.chg_own HC0.out HQN.out)
 clear hq1 hm1 HQ0 HC0 HQN HW c11
 obtain ⟨c0,-⟩:=HS.out _ HC1.out
 go_wp2_with fail
 have hSS:w1.drew.cell? ⟨s,0,none⟩=some (.int .i64 k):=c0
 refine startN (S:=fun wx=>wx.cell? ⟨s,0,none⟩=some (.int .i64 k)) (by kernel_rfl) hSS (fun hHeld => ?_)
 refine takeN (i:=0) (v:=?va0) rfl (by kernel_rfl) (by kernel_rfl) (by kernel_rfl) (fun _ _ _ h=>h) (Or.inl ⟨by rfl,?ya0⟩) hSS ?ra0
 case ya0=>(intro w hSw;(try dsimp only at hSw);go_simp;first|done|with_reducible rfl)
 try simp only [Act.put,jI,jZ,jS]
 refine takeN (i:=1) (v:=?va1) rfl (by kernel_rfl) (by kernel_rfl) (by kernel_rfl) (fun _ _ _ h=>h) (Or.inl ⟨by rfl,?ya1⟩) hSS ?ra1
 case ya1=>(intro w hSw;(try dsimp only at hSw);go_simp;first|done|with_reducible rfl)
 try simp only [Act.put,jI,jZ,jS]
 refine takeN (i:=2) (v:=?va2) rfl (by kernel_rfl) (by kernel_rfl) (by kernel_rfl) (fun _ _ _ h=>h) (Or.inl ⟨by rfl,?ya2⟩) hSS ?ra2
 case ya2=>(intro w hSw;(try dsimp only at hSw);go_simp;first|done|with_reducible rfl)
 try simp only [Act.put,jI,jZ,jS]
 refine takeN (i:=3) (v:=?va3) rfl (by kernel_rfl) (by kernel_rfl) (by kernel_rfl) (fun _ _ _ h=>h) (Or.inl ⟨by rfl,?ya3⟩) hSS ?ra3
 case ya3=>(intro w hSw;(try dsimp only at hSw);go_simp;first|done|with_reducible rfl)
 try simp only [Act.put,jI,jZ,jS]
 refine takeN (i:=4) (v:=?va4) rfl (by kernel_rfl) (by kernel_rfl) (by kernel_rfl) (fun _ _ _ h=>h) (Or.inl ⟨by rfl,?ya4⟩) hSS ?ra4
 case ya4=>(intro w hSw;(try dsimp only at hSw);go_simp;first|done|with_reducible rfl)
 try simp only [Act.put,jI,jZ,jS]
 refine takeN (i:=5) (v:=?va5) rfl (by kernel_rfl) (by kernel_rfl) (by kernel_rfl) (fun _ _ _ h=>h) (Or.inl ⟨by rfl,?ya5⟩) hSS ?ra5
 case ya5=>(intro w hSw;(try dsimp only at hSw);go_simp;first|done|with_reducible rfl)
 try simp only [Act.put,jI,jZ,jS]
 refine takeN (i:=6) (v:=?va6) rfl (by kernel_rfl) (by kernel_rfl) (by kernel_rfl) (fun _ _ _ h=>h) (Or.inl ⟨by rfl,?ya6⟩) hSS ?ra6
 case ya6=>(intro w hSw;(try dsimp only at hSw);go_simp;first|done|with_reducible rfl)
 try simp only [Act.put,jI,jZ,jS]
 refine readyN (rs:=[7]) (by kernel_rfl) (by simp) (consN rfl (fun K hK => ?_) nilN)
 refine step_callsG (by rfl) 68 _ _ rfl enters_etext _ #[.pointer (some ⟨q,0,none⟩)] (by simp [Act.eval]) (quill_text _ q F1 X (HQ1.out.chg (G:=[]) ((Chg.refl [] _).drew) (by simp))) ?_;rintro e w' ⟨rfl,rfl⟩;refine ⟨_,rfl,?_⟩
 refine hK.out _ _ hSS (fun hHeld => ?_)
 clear hK K hHeld
 try simp only [Act.put,jI,jZ,jS]
 refine readyN (rs:=[8]) (by kernel_rfl) (by simp) (consN rfl (fun K hK => ?_) nilN)
 refine step_callsG (by rfl) 67 _ _ rfl enters_eclose _ #[.int .u8 (kk.toNat:Nat),.string ⟨X.toArray⟩] (by simp [Act.eval]) (HFC.out _) ?_;rintro e w2 ⟨rfl,hc2⟩;refine ⟨_,rfl,?_⟩
 have hS2:w2.cell? ⟨s,0,none⟩=some (.int .i64 k):=hc2.cell hSS (by simp)
 have HC2:=Lib.hid (HC1.out.drew.trans hc2)
 clear hc2
 refine hK.out _ _ hS2 (fun hHeld => ?_)
 clear hK K hHeld
 try simp only [Act.put,jI,jZ,jS]
 refine takeN (i:=9) (v:=?va9) rfl (by kernel_rfl) (by kernel_rfl) (by kernel_rfl) (fun _ _ _ h=>h) (Or.inl ⟨by rfl,?ya9⟩) hS2 ?ra9
 case ya9=>(intro w hSw;(try dsimp only at hSw);go_simp;first|done|with_reducible rfl)
 try simp only [Act.put,jI,jZ,jS]
 refine takeN (i:=10) (v:=?va10) rfl (by kernel_rfl) (by kernel_rfl) (by kernel_rfl) (fun _ _ _ h=>h) (Or.inl ⟨by rfl,?ya10⟩) hS2 ?ra10
 case ya10=>(intro w hSw;(try dsimp only at hSw);go_simp;first|done|with_reducible rfl)
 try simp only [Act.put,jI,jZ,jS]
 refine takeN (i:=11) (v:=?va11) rfl (by kernel_rfl) (by kernel_rfl) (by kernel_rfl) (fun _ _ _ h=>h) (Or.inl ⟨by rfl,?ya11⟩) hS2 ?ra11
 case ya11=>(intro w hSw;(try dsimp only at hSw);go_simp;first|done|with_reducible rfl)
 try simp only [Act.put,jI,jZ,jS]
 refine takeN (i:=12) (v:=?va12) rfl (by kernel_rfl) (by kernel_rfl) (by kernel_rfl) (fun _ _ _ h=>h) (Or.inl ⟨by rfl,?ya12⟩) hS2 ?ra12
 case ya12=>(intro w hSw;(try dsimp only at hSw);go_simp;first|done|with_reducible rfl)
 try simp only [Act.put,jI,jZ,jS]
 refine doneN (by kernel_rfl) ?_ _
 go_wp2_with fail
 go_ret2
 exact ⟨rfl,HC2.out⟩
end Go.Proofs.YthoolcpcmhhkpaaGreatDoor
