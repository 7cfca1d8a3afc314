/-
  Parts of a proof, pressed. Conditions: the form's own reach.
-/
import Derived.Test.YthoolcpcmhhkpaaGreatDoorSuiteTurnedB45
namespace Go.Proofs.YthoolcpcmhhkpaaGreatDoor
open Go.RowKit
theorem take_bytes (C:List UInt8) (c:Nat):(ByteArray.mk C.toArray).extract 0 c=⟨(C.take c).toArray⟩:=by
 rw [ByteArray.extract_mk]
 simp
theorem Kb.few {c:Cf} (K:Kb c) {l:List Vl} (h:greatV l=false):K.sz (K.all l)≤9000:=by
 obtain ⟨h1,h2⟩:=greatV_not h
 have h3:=K.all_sum l
 have h4:=sumS_le h2
 omega
set_option maxRecDepth 100000 in
set_option maxHeartbeats 8000000 in
theorem turned_K (w:World) (ht:Tens4 w) (c:Cf) (K:Kb c) (ao:Option Addr) (cap n:Nat) (l:List Vl) (hn:n=l.length) (hl:n≤1048576) (hr:Rd w 2 (.slice ao n cap) n (vlCells l)) (hok:∀ v∈l,v.ok) (at_:Int) (turn:Nat) (hturn:turn<4294967296) :
 Calls Tryz.prog 3 #[c.val,.slice ao n cap,.int .i64 at_,.int .u32 (turn:Nat)] w fun e w'=>e=.returned (.bool true)∧Chg [] w w':=by
 obtain ⟨G,hG⟩:∃ G,G=greatV l:=⟨_,rfl⟩
 have HAL:=Lib.hid (fun u (hu:Chg [] w u)=>law23_alive u (ht.chg hu))
 have HBU:=Lib.hid (fun u (hu:Chg [] w u)=>law23_build u (ht.chg hu) c K ao cap n l hn hl (hr.chg hu (by simp)) hok)
 have HGR:=Lib.hid (fun u (hu:Chg [] w u)=>law23_great u ao cap n l hn (hr.chg hu (by simp)) (by omega) G hG)
 have HGV:=Lib.hid hG
 have hb0:=Blk.alloc_new w c.cells 28
 obtain ⟨b0,hbb⟩:∃ z,z=w.heap.size:=⟨_,rfl⟩
 rw [←hbb] at hb0
 have HC0:=Lib.hid ((Chg.refl [] w).alloc (.cells c.cells 28))
 have HCE:=Lib.hid (fun u (hu:Chg [] (w.alloc (.cells c.cells 28)) u)=>cf_cells (hb0.chg hu (by simp)))
 simp only [Cf.val,Cf.cells] at HBU HC0 HCE ⊢
 clear hb0 hr hok hn hG ht
 go_enter Tryz.func3,Tryz.ntmps3
 go_wp2_with fail
 rw [←hbb]
 clear hbb
 generalize w.alloc (.cells #[.int .i64 c.kind,.int .u64 c.num,.int .u64 c.den,.int .i64 c.side,.int .i64 c.most,.int .i64 c.digits,.int .u64 c.limit,.int .i64 c.depth,.int .i64 c.factor,.int .i64 c.width,.int .u64 c.word] 28)=w0 at *
 refine (HAL.out _ HC0.out).mono ?_
 rintro e w1 ⟨rfl,hc1⟩
 obtain ⟨c0,c1,c2,c3,c4,c5,c6,c7,c8,c9,c10⟩:=HCE.out w1 hc1
 have HC1:=Lib.hid (HC0.out.trans hc1)
 clear hc1 HCE HC0 HAL
 go_wp2_with fail
 refine (HBU.out _ HC1.out).mono ?_
 clear c0 c1 c2 c3 c4 c5 c6 c7 c8 c9 c10
 rintro e w2 (⟨-,rfl,hc2⟩|⟨-,s,F,rfl,hP,hc2,-⟩)
 ·have HC2:=Lib.hid (HC1.out.trans hc2)
  clear hc2 HC1 HBU
  go_wp2
  go_ret
  exact ⟨rfl,HC2.out⟩
 have HC2:=Lib.hid (HC1.out.trans hc2)
 have HP:=Lib.hid hP
 clear hc2 hP HC1 HBU
 go_wp2_with fail
 refine (HGR.out _ HC2.out).mono ?_
 rintro e w3 ⟨rfl,hc3⟩
 have HC3:=Lib.hid (HC2.out.trans hc3)
 have HP3:=Lib.hid (K.chg HP.out hc3 (by simp))
 clear hc3 HC2 HP HGR
 cases G with
 | true =>
   go_wp2
   go_ret
   exact ⟨rfl,HC3.out⟩
 | false =>
 by_cases h0:turn=0
 ·subst h0
  go_wp2
  go_ret
  exact ⟨rfl,HC3.out⟩
 have hz:((turn:Int)==0)=false:=beq_eq_false_iff_ne.2 (by omega)
 have hz':(turn==0)=false:=beq_eq_false_iff_ne.2 h0
 have HTN:=Lib.hid (And.intro h0 hturn)
 have hfew:=K.few HGV.out.symm
 have hfit:=K.fit HP3.out (by omega)
 have HBY:=Lib.hid (law23_bytes w3 c K s F (K.all l) HP3.out (by omega))
 have he:encS K.kk (K.enc (K.all l))=closeB K.kk (K.enc (K.all l)):=by unfold encS;rw [if_pos hfit]
 rw [he] at HBY
 have hcl:=closeB_len K.kk (K.enc (K.all l))
 have hnl:=natB_len10 (n:=(K.enc (K.all l)).length) (by omega)
 have HO:=Lib.hid (fun cc hc=>openF_turned K.kk (K.enc (K.all l)) cc turn hc hturn h0)
 have HOC:=Lib.hid (openF_cut K.kk (K.enc (K.all l)))
 have HOM:=Lib.hid (openF_more K.kk (K.enc (K.all l)) [120] (by simp))
 have hpos:3<(closeB K.kk (K.enc (K.all l))).length:=by omega
 have hsm:(closeB K.kk (K.enc (K.all l))).length≤300000:=by omega
 clear h0 hturn hfew hfit he hcl hnl
 generalize closeB K.kk (K.enc (K.all l))=C at *
 go_wp2_with fail
 refine HBY.out.mono ?_
 rintro e w4 ⟨rfl,hc4⟩
 have HC4:=Lib.hid (HC3.out.trans hc4)
 clear hc4 HC3 HP3 HBY
 obtain ⟨cap3,w5,z,hcv,hb5,hc5⟩:=bytes_of w4 C
 have hcu:=cut_u at_ (C.length-3) (by omega) (by omega)
 have hlt:=Nat.mod_lt (at_ % 18446744073709551616).toNat (show C.length-3>0 by omega)
 rw [show ((C.length-3:Nat):Int)=(C.length:Int)-3 from by omega] at hcu
 generalize (at_ % 18446744073709551616).toNat % (C.length-3)=cc at *
 have hne:((C.length:Int)-3==0)=false:=beq_eq_false_iff_ne.2 (by omega)
 have HOT:=Lib.hid (HO.out cc (by omega))
 have HOC2:=Lib.hid (HOC.out cc (by omega))
 obtain ⟨g,hg⟩:∃ z,z=w4.heap.size:=⟨_,rfl⟩
 rw [←hg] at hcv hb5
 have HGF:=Lib.hid (show w.heap.size≤g from by rw [hg];exact HC4.out.size)
 have HC5:=Lib.hid (HC4.out.trans hc5)
 have HLT:=Lib.hid (And.intro hpos (And.intro hsm hlt))
 clear HO HOC hc5 hg
 go_wp2
 go_loopw [14] (fun i wx=>∃ k,k≤4∧i=.int .i64 (k:Nat)∧Bys wx g (turnTo C cc turn k) z∧Chg [g] w5 wx) (fun i _=>4-(intOf i).toNat)
 case atStart=>exact ⟨0,by omega,rfl,hb5,Chg.refl _ _⟩
 case round =>
  obtain ⟨k,hk,rfl,hb,hch⟩:=hrel
  have hlc:(turnTo C cc turn k).length=C.length:=turnTo_len C cc turn k
  by_cases h4:k<4
  ·have HT:=Lib.hid (turnTo_succ C cc turn k)
   have hB:(bits .xor .u8 ((turnTo C cc turn k).getD (cc+k) 0).toNat (IntKind.u8.wrap ((turn:Int) / ((2^(8*k):Nat):Int))))=((((turnTo C cc turn k).getD (cc+k) 0) ^^^ UInt8.ofNat (turn / 2^(8*k) % 256)).toNat:Int):=by
    rw [u8_of turn (2^(8*k)),u8_xor_nat _ _ (UInt8.toNat_lt _) (UInt8.toNat_lt _),UInt8.toNat_xor]
   have hcell:=hb.cell (cc+k) (by omega)
   rw [show (turnTo C cc turn k)[cc+k]'(by omega)=(turnTo C cc turn k).getD (cc+k) 0 from by simp [List.getD,show cc+k<(turnTo C cc turn k).length by omega]] at hcell
   have hfree:=hb.free (cc+k) (by omega)
   have HB:=Lib.hid (hb.set (cc+k) (((turnTo C cc turn k).getD (cc+k) 0) ^^^ UInt8.ofNat (turn / 2^(8*k) % 256)) (by omega))
   rw [←HT.out] at HB
   generalize ((turnTo C cc turn k).getD (cc+k) 0 ^^^ UInt8.ofNat (turn / 2^(8*k) % 256))=nb at *
   generalize (turnTo C cc turn k).getD (cc+k) 0=ob at *
   have HK:=Lib.hid (Chg.setCell hch (a:=⟨g,cc+k,none⟩) (.inl (by simp)) (.int .u8 (nb.toNat:Nat)))
   clear hb hlc HT
   obtain ⟨p,hpk⟩:∃ p,p=cc+k:=⟨_,rfl⟩
   rw [←hpk] at hcell hfree HB HK
   have hpl:(p:Int)<(C.length:Int):=by omega
   have hpn:(0:Int)≤(p:Int):=by omega
   have h4':k=0∨k=1∨k=2∨k=3:=by omega
   have hturn:=HTN.out.2
   rcases h4' with rfl|rfl|rfl|rfl
   ·have hB':bits .xor .u8 (ob.toNat:Int) ((turn:Int) % 256)=(nb.toNat:Int):=by simpa [IntKind.wrap,IntKind.bits,IntKind.signed] using hB
    have hcp:(cc:Int)=(p:Int):=by omega
    clear hB hpk
    go_wp2
    exact ⟨⟨1,by omega,rfl,HB.out,HK.out⟩,by simp [intOf]⟩
   ·have hB':bits .xor .u8 (ob.toNat:Int) ((turn:Int) / 256 % 256)=(nb.toNat:Int):=by simpa [IntKind.wrap,IntKind.bits,IntKind.signed] using hB
    have hcp:(cc:Int)+1=(p:Int):=by omega
    clear hB hpk
    go_wp2
    exact ⟨⟨2,by omega,rfl,HB.out,HK.out⟩,by simp [intOf]⟩
   ·have hB':bits .xor .u8 (ob.toNat:Int) ((turn:Int) / 65536 % 256)=(nb.toNat:Int):=by simpa [IntKind.wrap,IntKind.bits,IntKind.signed] using hB
    have hcp:(cc:Int)+2=(p:Int):=by omega
    clear hB hpk
    go_wp2
    exact ⟨⟨3,by omega,rfl,HB.out,HK.out⟩,by simp [intOf]⟩
   ·have hB':bits .xor .u8 (ob.toNat:Int) ((turn:Int) / 16777216)=(nb.toNat:Int):=by
     have h1:bits .xor .u8 (ob.toNat:Int) ((turn:Int) / 16777216 % 256)=(nb.toNat:Int):=by simpa [IntKind.wrap,IntKind.bits,IntKind.signed] using hB
     rwa [show (turn:Int) / 16777216 % 256=(turn:Int) / 16777216 from by omega] at h1
    have hcp:(cc:Int)+3=(p:Int):=by omega
    clear hB hpk
    go_wp2
    exact ⟨⟨4,by omega,rfl,HB.out,HK.out⟩,by simp [intOf]⟩
  ·obtain rfl:k=4:=by omega
   have hrd:=hb.rd cap3 C.length hlc.symm
   have hcb:=run_string_rd (P:=Tryz.prog) (dst:=9) under_bytes under_u8 under_string hrd
   have HC6:=Lib.hid (HC5.out.trans' hch (fun b hb=>by rw [List.mem_singleton.1 hb];exact .inr HGF.out))
   have HLC:=Lib.hid hlc
   clear hb hch hlc hrd hcv hb5
   go_wp2_with fail
   refine (decode_none wr (turnTo C cc turn 4) (by have h1:=HLT.out;have h2:=HLC.out;omega) HOT.out).mono ?_
   rintro e w7 ⟨rfl,hc7⟩
   have HC7:=Lib.hid (HC6.out.trans hc7)
   clear hc7 hcb
   have hcc:cc≤C.length:=by omega
   go_wp2_with fail
   rw [take_bytes C cc]
   refine (decode_none w7 (C.take cc) (by rw [List.length_take];omega) HOC2.out).mono ?_
   rintro e w8 ⟨rfl,hc8⟩
   have HC8:=Lib.hid (HC7.out.trans hc8)
   clear hc8
   go_wp2_with fail
   refine (decode_none w8 (C++[120]) (by rw [List.length_append,List.length_cons,List.length_nil];omega) HOM.out).mono ?_
   rintro e w9 ⟨rfl,hc9⟩
   have HC9:=Lib.hid (HC8.out.trans hc9)
   clear hc9
   go_wp2
   go_ret
   exact ⟨rfl,HC9.out⟩
set_option maxRecDepth 100000 in
set_option maxHeartbeats 4000000 in
theorem turned_none (w:World) (ht:Tens4 w) (c:Cf) (hk:NoKind c.kind) (v:Value) (at_:Int) (turn:Nat) :
 Calls Tryz.prog 3 #[c.val,v,.int .i64 at_,.int .u32 (turn:Nat)] w fun e w'=>e=.returned (.bool true)∧Chg [] w w':=by
 have HAL:=Lib.hid (fun u (hu:Chg [] w u)=>law23_alive u (ht.chg hu))
 have HBU:=Lib.hid (fun u=>law23_build_none u c hk v)
 have hb0:=Blk.alloc_new w c.cells 28
 obtain ⟨b0,hbb⟩:∃ z,z=w.heap.size:=⟨_,rfl⟩
 rw [←hbb] at hb0
 have HC0:=Lib.hid ((Chg.refl [] w).alloc (.cells c.cells 28))
 have HCE:=Lib.hid (fun u (hu:Chg [] (w.alloc (.cells c.cells 28)) u)=>cf_cells (hb0.chg hu (by simp)))
 simp only [Cf.val,Cf.cells] at HBU HC0 HCE ⊢
 clear hb0 ht hk
 go_enter Tryz.func3,Tryz.ntmps3
 go_wp2_with fail
 rw [←hbb]
 clear hbb
 generalize w.alloc (.cells #[.int .i64 c.kind,.int .u64 c.num,.int .u64 c.den,.int .i64 c.side,.int .i64 c.most,.int .i64 c.digits,.int .u64 c.limit,.int .i64 c.depth,.int .i64 c.factor,.int .i64 c.width,.int .u64 c.word] 28)=w0 at *
 refine (HAL.out _ HC0.out).mono ?_
 rintro e w1 ⟨rfl,hc1⟩
 obtain ⟨c0,c1,c2,c3,c4,c5,c6,c7,c8,c9,c10⟩:=HCE.out w1 hc1
 have HC1:=Lib.hid (HC0.out.trans hc1)
 clear hc1 HCE HC0 HAL
 go_wp2_with fail
 refine (HBU.out _).mono ?_
 clear c0 c1 c2 c3 c4 c5 c6 c7 c8 c9 c10
 rintro e w2 ⟨rfl,hc2⟩
 have HC2:=Lib.hid (HC1.out.trans hc2)
 clear hc2 HC1 HBU
 go_wp2
 go_ret
 exact ⟨rfl,HC2.out⟩
theorem law_SuiteTurned (w:World) (ht:Tens4 w) (c:Cf) (hc:c.okR) (ao:Option Addr) (cap:Nat) (l:List Vl) (hr:Rd w 2 (.slice ao l.length cap) l.length (vlCells l)) (hl:l.length≤1048576) (hok:∀ v∈l,v.ok) (at_:Int) (_h0:-9223372036854775808≤at_) (_h1:at_<9223372036854775808) (turn:Nat) (hturn:turn<4294967296) :
 Calls Tryz.prog 3 #[c.val,.slice ao l.length cap,.int .i64 at_,.int .u32 (turn:Nat)] w fun e w'=>e=.returned (.bool true)∧Chg [] w w':=by
 rcases kinds c hc.word with ⟨⟨K⟩⟩|hk
 ·exact turned_K w ht c K ao cap _ l rfl hl hr hok at_ turn hturn
 ·exact turned_none w ht c hk _ at_ turn
end Go.Proofs.YthoolcpcmhhkpaaGreatDoor
