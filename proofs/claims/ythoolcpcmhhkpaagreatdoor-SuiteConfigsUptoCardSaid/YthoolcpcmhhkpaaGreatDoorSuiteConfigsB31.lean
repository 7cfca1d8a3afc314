/-
  Parts of a proof, pressed. Conditions: the form's own reach.
-/
import Derived.Test.YthoolcpcmhhkpaaGreatDoorSuiteConfigsB30
import Derived.Test.YthoolcpcmhhkpaaGreatDoorSuiteConfigsB3
import Derived.Test.YthoolcpcmhhkpaaGreatDoorSuiteConfigsB4
namespace Go.Proofs.YthoolcpcmhhkpaaGreatDoor
open Go.RowKit
theorem under_u64sC:Tryz.prog.underlying 99=some (.slice 23):=by kernel_rfl
theorem info_u64C:(Tryz.prog.info? 23).map (fun i=>(i.zero,i.size,i.bytes))=some (some (.int .u64 0),1,8):=by kernel_rfl
theorem u64s_one (l:List Nat):∀ y∈u64s l,y.oneCell'=true:=by
 intro y hy
 simp only [u64s,List.mem_map] at hy
 obtain ⟨u,_,rfl⟩:=hy
 rfl
theorem lowsT_succ (num den k:Nat):lowsT num den (k+1)=lowsT num den k++[lowK num den k]:=by simp [lowsT,List.range_succ]
theorem repsT_succ (num den k:Nat):repsT num den (k+1)=repsT num den k++[repK num den k]:=by simp [repsT,List.range_succ]
theorem u64s_appL (a b:List Nat):u64s (a++b)=u64s a++u64s b:=by simp [u64s]
structure Tab (w:World) (t:Nat) (num den k:Nat) (la:Option Addr) (lc:Nat) (ra:Option Addr) (rc:Nat):Prop where
 blk:Blk w t #[.int .u64 (num:Nat),.int .u64 (den:Nat),.slice la k lc,.slice ra k rc] 247
 lows:Own w 23 1 (.slice la k lc) k (u64s (lowsT num den k))
 reps:Own w 23 1 (.slice ra k rc) k (u64s (repsT num den k))
def fpTab (t:Nat) (la ra:Option Addr):List Nat:=t::(abl la++abl ra)
namespace Tab
variable {w w1:World} {t num den k lc rc:Nat} {la ra:Option Addr}
theorem lt (h:Tab w t num den k la lc ra rc):∀ b∈fpTab t la ra,b<w.heap.size:=fun b hb=>by
 rcases List.mem_cons.1 hb with rfl|hb
 ·exact h.blk.lt
 ·rcases List.mem_append.1 hb with hb|hb
  ·exact h.lows.lt b (by simpa using hb)
  ·exact h.reps.lt b (by simpa using hb)
theorem chg {F:List Nat} (h:Tab w t num den k la lc ra rc) (c:Chg F w w1) (hF:∀ b∈fpTab t la ra,b∉F):Tab w1 t num den k la lc ra rc:=
 ⟨h.blk.chg c (hF t (by simp [fpTab])),h.lows.chg c (fun b hb=>hF b (by rw [blkOf_slice] at hb;simp [fpTab,hb])),h.reps.chg c (fun b hb=>hF b (by rw [blkOf_slice] at hb;simp [fpTab,hb]))⟩
theorem cells (h:Tab w t num den k la lc ra rc):w.cell? ⟨t,0,none⟩=some (.int .u64 (num:Nat))∧w.cell? ⟨t,1,none⟩=some (.int .u64 (den:Nat))∧w.cell? ⟨t,2,none⟩=some (.slice la k lc)∧w.cell? ⟨t,3,none⟩=some (.slice ra k rc):=⟨h.blk.cell 0,h.blk.cell 1,h.blk.cell 2,h.blk.cell 3⟩
theorem t_la (h:Tab w t num den k la lc ra rc):t∉abl la∧t∉abl ra:=⟨by have:=h.lows.ne_blk h.blk (by decide);simpa using this,by have:=h.reps.ne_blk h.blk (by decide);simpa using this⟩
end Tab
def NewTab (w w':World) (num den:Nat) (e:Ending):Prop:=
 (∃ k:Int,k≠0∧e=.returned (.tuple #[.pointer none,.int .i64 k])∧Chg [] w w'∧¬∃ n,TabOk num den n) ∨
 (∃ n t la lc ra rc,TabOk num den n∧e=.returned (.tuple #[.pointer (some ⟨t,0,none⟩),.int .i64 0])∧Tab w' t num den n la lc ra rc∧(∀ b∈abl la,b∉abl ra)∧Chg [] w w'∧∀ b∈fpTab t la ra,w.heap.size≤b)
theorem TabOk.uniq {num den n m:Nat} (h:TabOk num den n) (k:TabOk num den m):n=m:=by
 rcases Nat.lt_trichotomy n m with h1|h1|h1
 ·have a:=k.below n h1;have b:=h.above;omega
 ·exact h1
 ·have a:=h.below m h1;have b:=k.above;omega
set_option maxRecDepth 100000 in
set_option maxHeartbeats 8000000 in
theorem cells_new (w:World) (num den:Nat) :
 Calls Tryz.prog 81 #[.agg #[.int .u64 (num:Nat),.int .u64 (den:Nat)]] w fun e w'=>NewTab w w' num den e:=by
 obtain ⟨b1,hb1⟩:∃ z,z=w.heap.size:=⟨_,rfl⟩
 have HB:=Lib.hid (show Blk (w.alloc (.cells #[.int .u64 (num:Nat),.int .u64 (den:Nat)] 25)) b1 #[.int .u64 (num:Nat),.int .u64 (den:Nat)] 25 from by rw [hb1];exact Blk.alloc_new _ _ _)
 have HC0:=Lib.hid ((Chg.refl [] w).alloc (.cells #[.int .u64 (num:Nat),.int .u64 (den:Nat)] 25))
 have HB1:=Lib.hid (show w.heap.size≤b1 from by omega)
 go_enter Tryz.func81,Tryz.ntmps81
 go_wp2_with fail
 rw [←hb1]
 clear hb1
 generalize w.alloc (.cells #[.int .u64 (num:Nat),.int .u64 (den:Nat)] 25)=w0 at *
 have HBX:=Lib.hid (fun wx (hu:Chg [] w0 wx)=>show wx.cell? ⟨b1,0,none⟩=some (.int .u64 (num:Nat))∧wx.cell? ⟨b1,1,none⟩=some (.int .u64 (den:Nat)) from ⟨(HB.out.chg hu (by simp)).cell 0,(HB.out.chg hu (by simp)).cell 1⟩)
 obtain ⟨c0,c1⟩:=HBX.out w0 (Chg.refl _ _)
 go_wp2_with fail
 refine (cells_good w0 num den).mono ?_
 rintro e w1 ⟨rfl,hc1⟩
 have HC1:=Lib.hid (HC0.out.trans hc1)
 have HK1:=Lib.hid hc1
 clear c0 c1 hc1 HC0 HB
 obtain ⟨gg,hgg⟩:∃ b,b=goodC11 num den:=⟨_,rfl⟩
 rw [←hgg]
 have HGG:=Lib.hid hgg
 clear hgg
 cases gg with
 | false =>
   have HNO:=Lib.hid (show ¬∃ n,TabOk num den n from fun ⟨n,h⟩=>by
    have h1:=HGG.out
    have h2:=h.good
    simp only [goodC11] at h1
    rw [decide_eq_true h2.1,decide_eq_true h2.2.1,decide_eq_true h2.2.2] at h1
    exact absurd h1 (by decide))
   go_wp2
   go_ret2
   exact .inl ⟨1,by decide,rfl,HC1.out,HNO.out⟩
 | true =>
   have HG:=Lib.hid (show 0<num∧num<den∧den≤2147483648 from by
    have h1:=HGG.out
    simp only [goodC11] at h1
    have h2:=h1.symm
    simp only [Bool.and_eq_true,decide_eq_true_eq] at h2
    exact h2)
   clear HGG
   obtain ⟨c0,c1⟩:=HBX.out w1 HK1.out
   obtain ⟨p,hp⟩:∃ z,z=w1.heap.size:=⟨_,rfl⟩
   have HT0:=Lib.hid (show Tab (w1.alloc (.cells #[.int .u64 (num:Nat),.int .u64 (den:Nat),.slice none 0 0,.slice none 0 0] 247)) p num den 0 none 0 none 0 from ⟨by rw [hp];exact Blk.alloc_new _ _ _,Own.nil _ _ _,Own.nil _ _ _⟩)
   have HK2:=Lib.hid (HK1.out.alloc (.cells #[.int .u64 (num:Nat),.int .u64 (den:Nat),.slice none 0 0,.slice none 0 0] 247))
   have HC2:=Lib.hid (HC1.out.alloc (.cells #[.int .u64 (num:Nat),.int .u64 (den:Nat),.slice none 0 0,.slice none 0 0] 247))
   have HP:=Lib.hid (show w.heap.size≤p∧b1≠p∧w0.heap.size≤p from by
    have h1:=HC1.out.size
    have h2:=HK1.out.size
    have h3:=World.block_lt_of_cell? w1 _ c0
    simp only at h3
    omega)
   go_wp2_with fail
   rw [←hp]
   clear hp c0 c1 HK1 HC1
   generalize w1.alloc (.cells #[.int .u64 (num:Nat),.int .u64 (den:Nat),.slice none 0 0,.slice none 0 0] 247)=w2 at *
   go_loopw [5] (fun x wx=>∃ (k L:Nat) (la:Option Addr) (lc:Nat) (ra:Option Addr) (rc:Nat),x=.int .u64 (L:Nat)∧k≤4096∧Hid (L=lowK num den k∧L≤two63+1∧∀ j,j<k→lowK num den j≤two63)∧Hid (Tab wx p num den k la lc ra rc∧(∀ b∈abl la,b∉abl ra)∧Chg [] w wx∧Chg [] w0 wx∧(∀ b∈fpTab p la ra,w0.heap.size≤b)∧∀ b∈fpTab p la ra,w.heap.size≤b)) (fun x _=>two63+2-(intOf x).toNat)
   case atStart=>exact ⟨0,1,none,0,none,0,rfl,by omega,Lib.hid ⟨rfl,by simp [two63],by intro j hj;omega⟩,Lib.hid ⟨HT0.out,by simp,HC2.out,HK2.out,by intro b hb;simp [fpTab] at hb;rw [hb];exact HP.out.2.2,by intro b hb;simp [fpTab] at hb;rw [hb];exact HP.out.1⟩⟩
   case round =>
    obtain ⟨k,L,la,lc,ra,rc,rfl,hk,HL,HT⟩:=hrel
    by_cases hle:L≤9223372036854775808
    case neg =>
     have dl:decide (L≤9223372036854775808)=false:=decide_eq_false hle
     have dli:decide ((L:Int)≤9223372036854775808)=false:=decide_eq_false (by omega)
     have HOK:=Lib.hid (show TabOk num den k from ⟨HG.out,hk,HL.out.2.2,by have:=HL.out.1;rw [←this];simp only [two63];omega⟩)
     clear hle
     go_wp2_with fail
     go_ret2
     exact .inr ⟨k,p,la,lc,ra,rc,HOK.out,rfl,HT.out.1,HT.out.2.1,HT.out.2.2.1,HT.out.2.2.2.2.2⟩
    case pos =>
    have dl:decide (L≤9223372036854775808)=true:=decide_eq_true hle
    have dli:decide ((L:Int)≤9223372036854775808)=true:=decide_eq_true (by omega)
    obtain ⟨q0,q1,q2,q3⟩:=HT.out.1.cells
    have HBL:=Lib.hid (fun j (hj:j<k+1)=>show lowK num den j≤two63 from by
     by_cases h:j<k
     ·exact HL.out.2.2 j h
     ·have:j=k:=by omega
      rw [this,←HL.out.1];simp only [two63];exact hle)
    by_cases hk2:k=4096
    ·have dk:decide (4096≤(k:Int))=true:=decide_eq_true (by omega)
     have dk':decide (4096≤k)=true:=decide_eq_true (by omega)
     have HNO:=Lib.hid (show ¬∃ n,TabOk num den n from fun ⟨n,h⟩=>by
      have h1:=HBL.out n (by have:=h.n1;omega)
      have h2:=h.above
      omega)
     clear hle hk2
     go_wp2_with fail
     go_ret2
     exact .inl ⟨6,by decide,rfl,HT.out.2.2.1,HNO.out⟩
    ·have dk:decide (4096≤(k:Int))=false:=decide_eq_false (by omega)
     have dk':decide (4096≤k)=false:=decide_eq_false (by omega)
     have hk3:k<4096:=by omega
     obtain ⟨c0,c1⟩:=HBX.out wr HT.out.2.2.2.1
     obtain ⟨A,hA⟩:∃ A,A=(nextC num den L).1:=⟨_,rfl⟩
     obtain ⟨B,hB⟩:∃ B,B=(nextC num den L).2:=⟨_,rfl⟩
     have HNX:=Lib.hid (cells_next wr num den L HG.out.1 HG.out.2.1 HG.out.2.2 hle A B hA hB)
     have hge:=nextC_ge (num:=num) (den:=den) (low:=L) HG.out.1 HG.out.2.1 (by simp only [two63];exact hle)
     rw [←hB] at hge
     have HAB:=Lib.hid (show A=repK num den k∧B+1=lowK num den (k+1) from ⟨by rw [hA,repK,HL.out.1],by rw [hB,lowK,HL.out.1]⟩)
     have HGE:=Lib.hid hge
     clear hle hk2 hA hB hge
     go_wp2_with fail
     refine HNX.out.mono ?_
     rintro e w5 ⟨rfl,hc5⟩
     have HT5:=Lib.hid (HT.out.1.chg hc5 (by simp))
     have HC5:=Lib.hid hc5
     clear hc5 HNX c0 c1 q0 q1 q2 q3 dk dk' dl dli
     go_wp2_with fail
     have HP0:=Lib.hid (show Blk w5.drew p #[.int .u64 (num:Nat),.int .u64 (den:Nat),.slice la k lc,.slice ra k rc] 247 from HT5.out.blk)
     have HOA:=Lib.hid (show Own w5.drew 23 1 (.slice la k lc) k (u64s (lowsT num den k)) from HT5.out.lows)
     have HOB:=Lib.hid (show Own w5.drew 23 1 (.slice ra k rc) k (u64s (repsT num den k)) from HT5.out.reps)
     have HCW:=Lib.hid (show Chg (abl la++abl ra) w5 w5.drew from (Chg.refl _ _).drew)
     have HDJ:=Lib.hid (And.intro HT.out.2.1 HT5.out.t_la)
     have HLT:=Lib.hid HT5.out.lt
     have hSS:w5.drew.cell? ⟨p,2,none⟩=some (.slice la k lc)∧w5.drew.cell? ⟨p,3,none⟩=some (.slice ra k rc):=⟨HP0.out.cell 2,HP0.out.cell 3⟩
     refine startG (S:=fun wx=>wx.cell? ⟨p,2,none⟩=some (.slice la k lc)∧wx.cell? ⟨p,3,none⟩=some (.slice ra k rc)) (st:=18) (by kernel_rfl) hSS (fun hHeld => ?_)
     refine takeP (i:=0) (v:=?va0) rfl (by kernel_rfl) (by kernel_rfl) (by kernel_rfl) (by decide) (fun _ _ _ h=>h) (Or.inl ⟨by rfl,?ya0⟩) hSS ?ra0
     case ya0=>(intro w _;go_simp;first|done|with_reducible rfl)
     try simp only [Act.put,jI,jZ,jS]
     refine takeP (i:=1) (v:=?va1) rfl (by kernel_rfl) (by kernel_rfl) (by kernel_rfl) (by decide) (fun _ _ _ h=>h) (Or.inl ⟨by rfl,?ya1⟩) hSS ?ra1
     case ya1=>(intro w _;go_simp;first|done|with_reducible rfl)
     try simp only [Act.put,jI,jZ,jS]
     refine takeP (i:=2) (v:=?va2) rfl (by kernel_rfl) (by kernel_rfl) (by kernel_rfl) (by decide) (fun _ _ _ h=>h) (Or.inl ⟨by rfl,?ya2⟩) hSS ?ra2
     case ya2=>(intro w _;go_simp;first|done|with_reducible rfl)
     try simp only [Act.put,jI,jZ,jS]
     refine takeP (i:=3) (v:=?va3) rfl (by kernel_rfl) (by kernel_rfl) (by kernel_rfl) (by decide) (fun _ _ _ h=>h) (Or.inl ⟨by rfl,?ya3⟩) hSS ?ra3
     case ya3=>(intro w _;go_simp;first|done|with_reducible rfl)
     try simp only [Act.put,jI,jZ,jS]
     refine takeP (i:=4) (v:=?va4) rfl (by kernel_rfl) (by kernel_rfl) (by kernel_rfl) (by decide) (fun _ _ _ h=>h) (Or.inl ⟨by rfl,?ya4⟩) hSS ?ra4
     case ya4=>(intro w _;go_simp;first|done|with_reducible rfl)
     try simp only [Act.put,jI,jZ,jS]
     refine takeG (i:=5) (v:=?va5) rfl (by kernel_rfl) (by kernel_rfl) (by kernel_rfl) (by decide) (by kernel_rfl) (by kernel_rfl) (fun _ _ _ h=>h) (Or.inl ⟨by rfl,?ya5⟩) hSS ?ra5
     case ya5=>(intro w hSw;(try dsimp only at hSw);go_simp;first|done|with_reducible rfl)
     try simp only [Act.put,jI,jZ,jS]
     refine takeP (i:=6) (v:=?va6) rfl (by kernel_rfl) (by kernel_rfl) (by kernel_rfl) (by decide) (fun _ _ _ h=>h) (Or.inl ⟨by rfl,?ya6⟩) hSS ?ra6
     case ya6=>(intro w _;go_simp;first|done|with_reducible rfl)
     try simp only [Act.put,jI,jZ,jS]
     refine takeP (i:=9) (v:=?va9) rfl (by kernel_rfl) (by kernel_rfl) (by kernel_rfl) (by decide) (fun _ _ _ h=>h) (Or.inl ⟨by rfl,?ya9⟩) hSS ?ra9
     case ya9=>(intro w _;go_simp;first|done|with_reducible rfl)
     try simp only [Act.put,jI,jZ,jS]
     refine takeP (i:=10) (v:=?va10) rfl (by kernel_rfl) (by kernel_rfl) (by kernel_rfl) (by decide) (fun _ _ _ h=>h) (Or.inl ⟨by rfl,?ya10⟩) hSS ?ra10
     case ya10=>(intro w _;go_simp;first|done|with_reducible rfl)
     try simp only [Act.put,jI,jZ,jS]
     refine takeP (i:=11) (v:=?va11) rfl (by kernel_rfl) (by kernel_rfl) (by kernel_rfl) (by decide) (fun _ _ _ h=>h) (Or.inl ⟨by rfl,?ya11⟩) hSS ?ra11
     case ya11=>(intro w _;go_simp;first|done|with_reducible rfl)
     try simp only [Act.put,jI,jZ,jS]
     refine takeG (i:=12) (v:=?va12) rfl (by kernel_rfl) (by kernel_rfl) (by kernel_rfl) (by decide) (by kernel_rfl) (by kernel_rfl) (fun _ _ _ h=>h) (Or.inl ⟨by rfl,?ya12⟩) hSS ?ra12
     case ya12=>(intro w hSw;(try dsimp only at hSw);go_simp;first|done|with_reducible rfl)
     try simp only [Act.put,jI,jZ,jS]
     refine takeP (i:=13) (v:=?va13) rfl (by kernel_rfl) (by kernel_rfl) (by kernel_rfl) (by decide) (fun _ _ _ h=>h) (Or.inl ⟨by rfl,?ya13⟩) hSS ?ra13
     case ya13=>(intro w _;go_simp;first|done|with_reducible rfl)
     try simp only [Act.put,jI,jZ,jS]
     refine readyG (rs:=[7,14]) (by kernel_rfl) (by simp) (consG rfl (fun K hK => ?_) (consG rfl (fun K hK => ?_) nilG))
     ·
      refine step_bU1 rfl 34 rfl L (by simp [Act.eval]) ?_;intro g7 w7 hr hc hg
      have HG7:=Lib.hid (show w5.heap.size≤g7 from by have:=HCW.out.size;omega)
      replace HCW:=Lib.hid (HCW.out.trans (hc.nil (F:=abl la++abl ra)))
      replace HP0:=Lib.hid (HP0.out.chg hc (by simp))
      replace HOA:=Lib.hid (HOA.out.chg hc (by simp))
      replace HOB:=Lib.hid (HOB.out.chg hc (by simp))
      try replace HR7:=Lib.hid (HR7.out.chg hc (by simp))
      try replace HR14:=Lib.hid (HR14.out.chg hc (by simp))
      have HR7:=Lib.hid hr
      clear hr hc hg
      refine hK.out _ _ (fun _ _=>⟨HP0.out.cell 2,HP0.out.cell 3⟩) (fun hHeld => ?_)
      clear hK K hHeld
      try simp only [Act.put,jI,jZ,jS]
      refine readyG (rs:=[8,14]) (by kernel_rfl) (by simp) (consG rfl (fun K hK => ?_) (consG rfl (fun K hK => ?_) nilG))
      ·
       refine step_append_src rfl (.tmp 33) (.tmp 35) 99 99 rfl 23 _ 1 8 under_u64sC info_u64C rfl (by decide) (.slice la k lc) k (u64s (lowsT num den k)) (by simp [Act.eval]) HOA.out (.slice (some ⟨g7,0,none⟩) 1 1) 1 (u64s [L]) (by simp [Act.eval]) (Src.of_rd under_u64sC HR7.out) (u64s_one _) (by unfold maxLen;omega) (by omega) ?_;intro a8 c8 w8 ho hc hf
       have hcl:=hc
       rw [blkOf_slice] at hcl
       have HF8:=Lib.hid (show ∀ b∈abl a8,b∈abl la∨w5.heap.size≤b from fun b hb=>(hf b hb).imp (fun h=>by simpa using h) (fun h=>Nat.le_trans HCW.out.size h))
       replace HCW:=Lib.hid (HCW.out.trans (hcl.mono (fun b hb=>.inl (List.mem_append_left _ hb))))
       replace HP0:=Lib.hid (HP0.out.chg hcl HDJ.out.2.1)
       replace HOA:=Lib.hid ho
       replace HOB:=Lib.hid (HOB.out.chg hcl (fun b hb e=>HDJ.out.1 b e (by simpa using hb)))
       try replace HR14:=Lib.hid (HR14.out.chg hcl (fun b hb e=>by have h1:b=g14:=(by simpa using hb);have h3:=HLT.out b (by simp [fpTab,e]);have h2:=HG14.out;omega))
       clear ho hc hcl hf
       refine hK.out _ _ (fun _ _=>⟨HP0.out.cell 2,HP0.out.cell 3⟩) (fun hHeld => ?_)
       clear hK K hHeld
       try simp only [Act.put,jI,jZ,jS]
       refine readyG (rs:=[14]) (by kernel_rfl) (by simp) (consG rfl (fun K hK => ?_) nilG)
       refine step_bU1 rfl 41 rfl A (by simp [Act.eval]) ?_;intro g14 w14 hr hc hg
       have HG14:=Lib.hid (show w5.heap.size≤g14 from by have:=HCW.out.size;omega)
       replace HCW:=Lib.hid (HCW.out.trans (hc.nil (F:=abl la++abl ra)))
       replace HP0:=Lib.hid (HP0.out.chg hc (by simp))
       replace HOA:=Lib.hid (HOA.out.chg hc (by simp))
       replace HOB:=Lib.hid (HOB.out.chg hc (by simp))
       try replace HR7:=Lib.hid (HR7.out.chg hc (by simp))
       try replace HR14:=Lib.hid (HR14.out.chg hc (by simp))
       have HR14:=Lib.hid hr
       clear hr hc hg
       refine hK.out _ _ (fun _ _=>⟨HP0.out.cell 2,HP0.out.cell 3⟩) (fun hHeld => ?_)
       clear hK K hHeld
       try simp only [Act.put,jI,jZ,jS]
       refine readyG (rs:=[15]) (by kernel_rfl) (by simp) (consG rfl (fun K hK => ?_) nilG)
       refine step_append_src rfl (.tmp 40) (.tmp 42) 99 99 rfl 23 _ 1 8 under_u64sC info_u64C rfl (by decide) (.slice ra k rc) k (u64s (repsT num den k)) (by simp [Act.eval]) HOB.out (.slice (some ⟨g14,0,none⟩) 1 1) 1 (u64s [A]) (by simp [Act.eval]) (Src.of_rd under_u64sC HR14.out) (u64s_one _) (by unfold maxLen;omega) (by omega) ?_;intro a15 c15 w15 ho hc hf
       have hcl:=hc
       rw [blkOf_slice] at hcl
       have HF15:=Lib.hid (show ∀ b∈abl a15,b∈abl ra∨w5.heap.size≤b from fun b hb=>(hf b hb).imp (fun h=>by simpa using h) (fun h=>Nat.le_trans HCW.out.size h))
       have HD15:=Lib.hid (show ∀ b∈abl a8,b∉abl a15 from fun b hb e=>by
        rcases hf b e with h|h
        ·have h1:b∈abl ra:=by simpa using h
         rcases HF8.out b hb with h2|h2
         ·exact HDJ.out.1 b h2 h1
         ·have h3:=HLT.out b (by simp [fpTab,h1]);omega
        ·have h3:=HOA.out.lt b (by simpa using hb);omega)
       replace HCW:=Lib.hid (HCW.out.trans (hcl.mono (fun b hb=>.inl (List.mem_append_right _ hb))))
       replace HP0:=Lib.hid (HP0.out.chg hcl HDJ.out.2.2)
       replace HOB:=Lib.hid ho
       replace HOA:=Lib.hid (HOA.out.chg hcl (fun b hb e=>by
        rcases HF8.out b (by simpa using hb) with h2|h2
        ·exact HDJ.out.1 b h2 e
        ·have h3:=HLT.out b (by simp [fpTab,e]);omega))
       have fz2:=HP0.out.free 2
       have fz3:=HP0.out.free 3
       have cz2:w15.cell? ⟨p,2,none⟩=some (.slice la k lc):=HP0.out.cell 2
       have cz3:w15.cell? ⟨p,3,none⟩=some (.slice ra k rc):=HP0.out.cell 3
       clear ho hc hcl hf
       refine hK.out _ _ (fun _ _=>⟨HP0.out.cell 2,HP0.out.cell 3⟩) (fun hHeld => ?_)
       clear hK K hHeld
       try simp only [Act.put,jI,jZ,jS]
       refine takeP (i:=16) (v:=?vaaa16) rfl (by kernel_rfl) (by kernel_rfl) (by kernel_rfl) (by decide) (fun _ _ _ h=>h) (Or.inl ⟨by rfl,?yaaa16⟩) ⟨HP0.out.cell 2,HP0.out.cell 3⟩ ?raaa16
       case yaaa16=>(intro w _;go_simp;first|done|with_reducible rfl)
       try simp only [Act.put,jI,jZ,jS]
       refine takeP (i:=17) (v:=?vaaa17) rfl (by kernel_rfl) (by kernel_rfl) (by kernel_rfl) (by decide) (fun _ _ _ h=>h) (Or.inl ⟨by rfl,?yaaa17⟩) ⟨HP0.out.cell 2,HP0.out.cell 3⟩ ?raaa17
       case yaaa17=>(intro w _;go_simp;first|done|with_reducible rfl)
       try simp only [Act.put,jI,jZ,jS]
       refine readyG (rs:=[18]) (by kernel_rfl) (by simp) (consG rfl (fun K hK => ?_) nilG)
       go_simp
       refine hK.out _ _ (fun h=>absurd rfl h) (fun hHeld => ?_)
       clear hK K hHeld
       try simp only [Act.put,jI,jZ,jS]
       refine readyG (rs:=[19]) (by kernel_rfl) (by simp) (consG rfl (fun K hK => ?_) nilG)
       go_simp
       refine hK.out _ _ (fun _ h=>absurd h (by decide)) (fun hHeld => ?_)
       clear hK K hHeld
       try simp only [Act.put,jI,jZ,jS]
       refine readyG (rs:=[20]) (by kernel_rfl) (by simp) (consG rfl (fun K hK => ?_) nilG)
       go_simp
       refine hK.out _ _ (fun _ h=>absurd h (by decide)) (fun hHeld => ?_)
       clear hK K hHeld
       try simp only [Act.put,jI,jZ,jS]
       refine readyG (rs:=[21]) (by kernel_rfl) (by simp) (consG rfl (fun K hK => ?_) nilG)
       go_simp
       refine hK.out _ _ (fun _ h=>absurd h (by decide)) (fun hHeld => ?_)
       clear hK K hHeld
       try simp only [Act.put,jI,jZ,jS]
       refine doneG (by kernel_rfl) ?_ _
       have hpf:p∉abl a8∧p∉abl a15:=⟨fun e=>by
        rcases HF8.out p e with h|h
        ·exact HDJ.out.2.1 h
        ·have h3:=HLT.out p (by simp [fpTab]);omega,fun e=>by
        rcases HF15.out p e with h|h
        ·exact HDJ.out.2.2 h
        ·have h3:=HLT.out p (by simp [fpTab]);omega⟩
       have hcp:Chg [p] w15 ((w15.setCell ⟨p,2,none⟩ (.slice a8 (k+1) c8)).setCell ⟨p,3,none⟩ (.slice a15 (k+1) c15)):=((Chg.refl [p] w15).setCell (by simp) _).setCell (by simp) _
       have HTN:=Lib.hid (show Tab ((w15.setCell ⟨p,2,none⟩ (.slice a8 (k+1) c8)).setCell ⟨p,3,none⟩ (.slice a15 (k+1) c15)) p num den (k+1) a8 c8 a15 c15 from ⟨(HP0.out.setCell 2 _).setCell 3 _,by
        rw [lowsT_succ,u64s_appL,←HL.out.1]
        exact HOA.out.chg hcp (fun b hb e=>hpf.1 (by rw [←List.mem_singleton.1 e];simpa using hb)),by
        rw [repsT_succ,u64s_appL,←HAB.out.1]
        exact HOB.out.chg hcp (fun b hb e=>hpf.2 (by rw [←List.mem_singleton.1 e];simpa using hb))⟩)
       have HFP:=Lib.hid (fun (m:Nat) (hm:m≤w5.heap.size) (hf:∀ b∈fpTab p la ra,m≤b)=>show ∀ b∈fpTab p a8 a15,m≤b from fun b hb=>by
        simp only [fpTab,List.mem_cons,List.mem_append] at hb hf
        rcases hb with rfl|hb|hb
        ·exact hf b (.inl rfl)
        ·rcases HF8.out b hb with h|h
         ·exact hf b (.inr (.inl h))
         ·omega
        ·rcases HF15.out b hb with h|h
         ·exact hf b (.inr (.inr h))
         ·omega)
       have HCN:=Lib.hid (fun (v:World) (hv:Chg [] v w5) (hf:∀ b∈fpTab p la ra,v.heap.size≤b)=>show Chg [] v ((w15.setCell ⟨p,2,none⟩ (.slice a8 (k+1) c8)).setCell ⟨p,3,none⟩ (.slice a15 (k+1) c15)) from (hv.trans' HCW.out (fun b hb=>.inr (hf b (by simp only [fpTab,List.mem_cons];exact .inr hb)))).trans' hcp (fun b hb=>.inr (by rw [List.mem_singleton.1 hb];exact hf p (by simp [fpTab]))))
       clear hSS fz2 fz3 cz2 cz3 hcp hpf HP0 HOA HOB HR7 HR14 HCW HF8 HF15
       have hbB:B≤9223372036854775808:=by have:=HGE.out.2;simp only [two63] at this;exact this
       go_wp2_with fail
       have hw5:=HC5.out.size
       refine ⟨⟨k+1,B+1,a8,c8,a15,c15,by go_num,by omega,Lib.hid ⟨HAB.out.2,by simp only [two63];omega,HBL.out⟩,Lib.hid ⟨HTN.out,HD15.out,HCN.out w (HT.out.2.2.1.trans HC5.out) HT.out.2.2.2.2.2,HCN.out w0 (HT.out.2.2.2.1.trans HC5.out) HT.out.2.2.2.2.1,HFP.out _ (by have:=HT.out.2.2.2.1.size;omega) HT.out.2.2.2.2.1,HFP.out _ (by have:=HT.out.2.2.1.size;omega) HT.out.2.2.2.2.2⟩⟩,?_⟩
       have h1:=HGE.out
       simp only [intOf]
       omega
      ·
       refine step_bU1 rfl 41 rfl A (by simp [Act.eval]) ?_;intro g14 w14 hr hc hg
       have HG14:=Lib.hid (show w5.heap.size≤g14 from by have:=HCW.out.size;omega)
       replace HCW:=Lib.hid (HCW.out.trans (hc.nil (F:=abl la++abl ra)))
       replace HP0:=Lib.hid (HP0.out.chg hc (by simp))
       replace HOA:=Lib.hid (HOA.out.chg hc (by simp))
       replace HOB:=Lib.hid (HOB.out.chg hc (by simp))
       try replace HR7:=Lib.hid (HR7.out.chg hc (by simp))
       try replace HR14:=Lib.hid (HR14.out.chg hc (by simp))
       have HR14:=Lib.hid hr
       clear hr hc hg
       refine hK.out _ _ (fun _ _=>⟨HP0.out.cell 2,HP0.out.cell 3⟩) (fun hHeld => ?_)
       clear hK K hHeld
       try simp only [Act.put,jI,jZ,jS]
       refine readyG (rs:=[8]) (by kernel_rfl) (by simp) (consG rfl (fun K hK => ?_) nilG)
       refine step_append_src rfl (.tmp 33) (.tmp 35) 99 99 rfl 23 _ 1 8 under_u64sC info_u64C rfl (by decide) (.slice la k lc) k (u64s (lowsT num den k)) (by simp [Act.eval]) HOA.out (.slice (some ⟨g7,0,none⟩) 1 1) 1 (u64s [L]) (by simp [Act.eval]) (Src.of_rd under_u64sC HR7.out) (u64s_one _) (by unfold maxLen;omega) (by omega) ?_;intro a8 c8 w8 ho hc hf
       have hcl:=hc
       rw [blkOf_slice] at hcl
       have HF8:=Lib.hid (show ∀ b∈abl a8,b∈abl la∨w5.heap.size≤b from fun b hb=>(hf b hb).imp (fun h=>by simpa using h) (fun h=>Nat.le_trans HCW.out.size h))
       replace HCW:=Lib.hid (HCW.out.trans (hcl.mono (fun b hb=>.inl (List.mem_append_left _ hb))))
       replace HP0:=Lib.hid (HP0.out.chg hcl HDJ.out.2.1)
       replace HOA:=Lib.hid ho
       replace HOB:=Lib.hid (HOB.out.chg hcl (fun b hb e=>HDJ.out.1 b e (by simpa using hb)))
       try replace HR14:=Lib.hid (HR14.out.chg hcl (fun b hb e=>by have h1:b=g14:=(by simpa using hb);have h3:=HLT.out b (by simp [fpTab,e]);have h2:=HG14.out;omega))
       clear ho hc hcl hf
       refine hK.out _ _ (fun _ _=>⟨HP0.out.cell 2,HP0.out.cell 3⟩) (fun hHeld => ?_)
       clear hK K hHeld
       try simp only [Act.put,jI,jZ,jS]
       refine readyG (rs:=[15]) (by kernel_rfl) (by simp) (consG rfl (fun K hK => ?_) nilG)
       refine step_append_src rfl (.tmp 40) (.tmp 42) 99 99 rfl 23 _ 1 8 under_u64sC info_u64C rfl (by decide) (.slice ra k rc) k (u64s (repsT num den k)) (by simp [Act.eval]) HOB.out (.slice (some ⟨g14,0,none⟩) 1 1) 1 (u64s [A]) (by simp [Act.eval]) (Src.of_rd under_u64sC HR14.out) (u64s_one _) (by unfold maxLen;omega) (by omega) ?_;intro a15 c15 w15 ho hc hf
       have hcl:=hc
       rw [blkOf_slice] at hcl
       have HF15:=Lib.hid (show ∀ b∈abl a15,b∈abl ra∨w5.heap.size≤b from fun b hb=>(hf b hb).imp (fun h=>by simpa using h) (fun h=>Nat.le_trans HCW.out.size h))
       have HD15:=Lib.hid (show ∀ b∈abl a8,b∉abl a15 from fun b hb e=>by
        rcases hf b e with h|h
        ·have h1:b∈abl ra:=by simpa using h
         rcases HF8.out b hb with h2|h2
         ·exact HDJ.out.1 b h2 h1
         ·have h3:=HLT.out b (by simp [fpTab,h1]);omega
        ·have h3:=HOA.out.lt b (by simpa using hb);omega)
       replace HCW:=Lib.hid (HCW.out.trans (hcl.mono (fun b hb=>.inl (List.mem_append_right _ hb))))
       replace HP0:=Lib.hid (HP0.out.chg hcl HDJ.out.2.2)
       replace HOB:=Lib.hid ho
       replace HOA:=Lib.hid (HOA.out.chg hcl (fun b hb e=>by
        rcases HF8.out b (by simpa using hb) with h2|h2
        ·exact HDJ.out.1 b h2 e
        ·have h3:=HLT.out b (by simp [fpTab,e]);omega))
       have fz2:=HP0.out.free 2
       have fz3:=HP0.out.free 3
       have cz2:w15.cell? ⟨p,2,none⟩=some (.slice la k lc):=HP0.out.cell 2
       have cz3:w15.cell? ⟨p,3,none⟩=some (.slice ra k rc):=HP0.out.cell 3
       clear ho hc hcl hf
       refine hK.out _ _ (fun _ _=>⟨HP0.out.cell 2,HP0.out.cell 3⟩) (fun hHeld => ?_)
       clear hK K hHeld
       try simp only [Act.put,jI,jZ,jS]
       refine takeP (i:=16) (v:=?vaab16) rfl (by kernel_rfl) (by kernel_rfl) (by kernel_rfl) (by decide) (fun _ _ _ h=>h) (Or.inl ⟨by rfl,?yaab16⟩) ⟨HP0.out.cell 2,HP0.out.cell 3⟩ ?raab16
       case yaab16=>(intro w _;go_simp;first|done|with_reducible rfl)
       try simp only [Act.put,jI,jZ,jS]
       refine takeP (i:=17) (v:=?vaab17) rfl (by kernel_rfl) (by kernel_rfl) (by kernel_rfl) (by decide) (fun _ _ _ h=>h) (Or.inl ⟨by rfl,?yaab17⟩) ⟨HP0.out.cell 2,HP0.out.cell 3⟩ ?raab17
       case yaab17=>(intro w _;go_simp;first|done|with_reducible rfl)
       try simp only [Act.put,jI,jZ,jS]
       refine readyG (rs:=[18]) (by kernel_rfl) (by simp) (consG rfl (fun K hK => ?_) nilG)
       go_simp
       refine hK.out _ _ (fun h=>absurd rfl h) (fun hHeld => ?_)
       clear hK K hHeld
       try simp only [Act.put,jI,jZ,jS]
       refine readyG (rs:=[19]) (by kernel_rfl) (by simp) (consG rfl (fun K hK => ?_) nilG)
       go_simp
       refine hK.out _ _ (fun _ h=>absurd h (by decide)) (fun hHeld => ?_)
       clear hK K hHeld
       try simp only [Act.put,jI,jZ,jS]
       refine readyG (rs:=[20]) (by kernel_rfl) (by simp) (consG rfl (fun K hK => ?_) nilG)
       go_simp
       refine hK.out _ _ (fun _ h=>absurd h (by decide)) (fun hHeld => ?_)
       clear hK K hHeld
       try simp only [Act.put,jI,jZ,jS]
       refine readyG (rs:=[21]) (by kernel_rfl) (by simp) (consG rfl (fun K hK => ?_) nilG)
       go_simp
       refine hK.out _ _ (fun _ h=>absurd h (by decide)) (fun hHeld => ?_)
       clear hK K hHeld
       try simp only [Act.put,jI,jZ,jS]
       refine doneG (by kernel_rfl) ?_ _
       have hpf:p∉abl a8∧p∉abl a15:=⟨fun e=>by
        rcases HF8.out p e with h|h
        ·exact HDJ.out.2.1 h
        ·have h3:=HLT.out p (by simp [fpTab]);omega,fun e=>by
        rcases HF15.out p e with h|h
        ·exact HDJ.out.2.2 h
        ·have h3:=HLT.out p (by simp [fpTab]);omega⟩
       have hcp:Chg [p] w15 ((w15.setCell ⟨p,2,none⟩ (.slice a8 (k+1) c8)).setCell ⟨p,3,none⟩ (.slice a15 (k+1) c15)):=((Chg.refl [p] w15).setCell (by simp) _).setCell (by simp) _
       have HTN:=Lib.hid (show Tab ((w15.setCell ⟨p,2,none⟩ (.slice a8 (k+1) c8)).setCell ⟨p,3,none⟩ (.slice a15 (k+1) c15)) p num den (k+1) a8 c8 a15 c15 from ⟨(HP0.out.setCell 2 _).setCell 3 _,by
        rw [lowsT_succ,u64s_appL,←HL.out.1]
        exact HOA.out.chg hcp (fun b hb e=>hpf.1 (by rw [←List.mem_singleton.1 e];simpa using hb)),by
        rw [repsT_succ,u64s_appL,←HAB.out.1]
        exact HOB.out.chg hcp (fun b hb e=>hpf.2 (by rw [←List.mem_singleton.1 e];simpa using hb))⟩)
       have HFP:=Lib.hid (fun (m:Nat) (hm:m≤w5.heap.size) (hf:∀ b∈fpTab p la ra,m≤b)=>show ∀ b∈fpTab p a8 a15,m≤b from fun b hb=>by
        simp only [fpTab,List.mem_cons,List.mem_append] at hb hf
        rcases hb with rfl|hb|hb
        ·exact hf b (.inl rfl)
        ·rcases HF8.out b hb with h|h
         ·exact hf b (.inr (.inl h))
         ·omega
        ·rcases HF15.out b hb with h|h
         ·exact hf b (.inr (.inr h))
         ·omega)
       have HCN:=Lib.hid (fun (v:World) (hv:Chg [] v w5) (hf:∀ b∈fpTab p la ra,v.heap.size≤b)=>show Chg [] v ((w15.setCell ⟨p,2,none⟩ (.slice a8 (k+1) c8)).setCell ⟨p,3,none⟩ (.slice a15 (k+1) c15)) from (hv.trans' HCW.out (fun b hb=>.inr (hf b (by simp only [fpTab,List.mem_cons];exact .inr hb)))).trans' hcp (fun b hb=>.inr (by rw [List.mem_singleton.1 hb];exact hf p (by simp [fpTab]))))
       clear hSS fz2 fz3 cz2 cz3 hcp hpf HP0 HOA HOB HR7 HR14 HCW HF8 HF15
       have hbB:B≤9223372036854775808:=by have:=HGE.out.2;simp only [two63] at this;exact this
       go_wp2_with fail
       have hw5:=HC5.out.size
       refine ⟨⟨k+1,B+1,a8,c8,a15,c15,by go_num,by omega,Lib.hid ⟨HAB.out.2,by simp only [two63];omega,HBL.out⟩,Lib.hid ⟨HTN.out,HD15.out,HCN.out w (HT.out.2.2.1.trans HC5.out) HT.out.2.2.2.2.2,HCN.out w0 (HT.out.2.2.2.1.trans HC5.out) HT.out.2.2.2.2.1,HFP.out _ (by have:=HT.out.2.2.2.1.size;omega) HT.out.2.2.2.2.1,HFP.out _ (by have:=HT.out.2.2.1.size;omega) HT.out.2.2.2.2.2⟩⟩,?_⟩
       have h1:=HGE.out
       simp only [intOf]
       omega
     ·
      refine step_bU1 rfl 41 rfl A (by simp [Act.eval]) ?_;intro g14 w14 hr hc hg
      have HG14:=Lib.hid (show w5.heap.size≤g14 from by have:=HCW.out.size;omega)
      replace HCW:=Lib.hid (HCW.out.trans (hc.nil (F:=abl la++abl ra)))
      replace HP0:=Lib.hid (HP0.out.chg hc (by simp))
      replace HOA:=Lib.hid (HOA.out.chg hc (by simp))
      replace HOB:=Lib.hid (HOB.out.chg hc (by simp))
      try replace HR7:=Lib.hid (HR7.out.chg hc (by simp))
      try replace HR14:=Lib.hid (HR14.out.chg hc (by simp))
      have HR14:=Lib.hid hr
      clear hr hc hg
      refine hK.out _ _ (fun _ _=>⟨HP0.out.cell 2,HP0.out.cell 3⟩) (fun hHeld => ?_)
      clear hK K hHeld
      try simp only [Act.put,jI,jZ,jS]
      refine readyG (rs:=[7]) (by kernel_rfl) (by simp) (consG rfl (fun K hK => ?_) nilG)
      refine step_bU1 rfl 34 rfl L (by simp [Act.eval]) ?_;intro g7 w7 hr hc hg
      have HG7:=Lib.hid (show w5.heap.size≤g7 from by have:=HCW.out.size;omega)
      replace HCW:=Lib.hid (HCW.out.trans (hc.nil (F:=abl la++abl ra)))
      replace HP0:=Lib.hid (HP0.out.chg hc (by simp))
      replace HOA:=Lib.hid (HOA.out.chg hc (by simp))
      replace HOB:=Lib.hid (HOB.out.chg hc (by simp))
      try replace HR7:=Lib.hid (HR7.out.chg hc (by simp))
      try replace HR14:=Lib.hid (HR14.out.chg hc (by simp))
      have HR7:=Lib.hid hr
      clear hr hc hg
      refine hK.out _ _ (fun _ _=>⟨HP0.out.cell 2,HP0.out.cell 3⟩) (fun hHeld => ?_)
      clear hK K hHeld
      try simp only [Act.put,jI,jZ,jS]
      refine readyG (rs:=[8]) (by kernel_rfl) (by simp) (consG rfl (fun K hK => ?_) nilG)
      refine step_append_src rfl (.tmp 33) (.tmp 35) 99 99 rfl 23 _ 1 8 under_u64sC info_u64C rfl (by decide) (.slice la k lc) k (u64s (lowsT num den k)) (by simp [Act.eval]) HOA.out (.slice (some ⟨g7,0,none⟩) 1 1) 1 (u64s [L]) (by simp [Act.eval]) (Src.of_rd under_u64sC HR7.out) (u64s_one _) (by unfold maxLen;omega) (by omega) ?_;intro a8 c8 w8 ho hc hf
      have hcl:=hc
      rw [blkOf_slice] at hcl
      have HF8:=Lib.hid (show ∀ b∈abl a8,b∈abl la∨w5.heap.size≤b from fun b hb=>(hf b hb).imp (fun h=>by simpa using h) (fun h=>Nat.le_trans HCW.out.size h))
      replace HCW:=Lib.hid (HCW.out.trans (hcl.mono (fun b hb=>.inl (List.mem_append_left _ hb))))
      replace HP0:=Lib.hid (HP0.out.chg hcl HDJ.out.2.1)
      replace HOA:=Lib.hid ho
      replace HOB:=Lib.hid (HOB.out.chg hcl (fun b hb e=>HDJ.out.1 b e (by simpa using hb)))
      try replace HR14:=Lib.hid (HR14.out.chg hcl (fun b hb e=>by have h1:b=g14:=(by simpa using hb);have h3:=HLT.out b (by simp [fpTab,e]);have h2:=HG14.out;omega))
      clear ho hc hcl hf
      refine hK.out _ _ (fun _ _=>⟨HP0.out.cell 2,HP0.out.cell 3⟩) (fun hHeld => ?_)
      clear hK K hHeld
      try simp only [Act.put,jI,jZ,jS]
      refine readyG (rs:=[15]) (by kernel_rfl) (by simp) (consG rfl (fun K hK => ?_) nilG)
      refine step_append_src rfl (.tmp 40) (.tmp 42) 99 99 rfl 23 _ 1 8 under_u64sC info_u64C rfl (by decide) (.slice ra k rc) k (u64s (repsT num den k)) (by simp [Act.eval]) HOB.out (.slice (some ⟨g14,0,none⟩) 1 1) 1 (u64s [A]) (by simp [Act.eval]) (Src.of_rd under_u64sC HR14.out) (u64s_one _) (by unfold maxLen;omega) (by omega) ?_;intro a15 c15 w15 ho hc hf
      have hcl:=hc
      rw [blkOf_slice] at hcl
      have HF15:=Lib.hid (show ∀ b∈abl a15,b∈abl ra∨w5.heap.size≤b from fun b hb=>(hf b hb).imp (fun h=>by simpa using h) (fun h=>Nat.le_trans HCW.out.size h))
      have HD15:=Lib.hid (show ∀ b∈abl a8,b∉abl a15 from fun b hb e=>by
       rcases hf b e with h|h
       ·have h1:b∈abl ra:=by simpa using h
        rcases HF8.out b hb with h2|h2
        ·exact HDJ.out.1 b h2 h1
        ·have h3:=HLT.out b (by simp [fpTab,h1]);omega
       ·have h3:=HOA.out.lt b (by simpa using hb);omega)
      replace HCW:=Lib.hid (HCW.out.trans (hcl.mono (fun b hb=>.inl (List.mem_append_right _ hb))))
      replace HP0:=Lib.hid (HP0.out.chg hcl HDJ.out.2.2)
      replace HOB:=Lib.hid ho
      replace HOA:=Lib.hid (HOA.out.chg hcl (fun b hb e=>by
       rcases HF8.out b (by simpa using hb) with h2|h2
       ·exact HDJ.out.1 b h2 e
       ·have h3:=HLT.out b (by simp [fpTab,e]);omega))
      have fz2:=HP0.out.free 2
      have fz3:=HP0.out.free 3
      have cz2:w15.cell? ⟨p,2,none⟩=some (.slice la k lc):=HP0.out.cell 2
      have cz3:w15.cell? ⟨p,3,none⟩=some (.slice ra k rc):=HP0.out.cell 3
      clear ho hc hcl hf
      refine hK.out _ _ (fun _ _=>⟨HP0.out.cell 2,HP0.out.cell 3⟩) (fun hHeld => ?_)
      clear hK K hHeld
      try simp only [Act.put,jI,jZ,jS]
      refine takeP (i:=16) (v:=?vab16) rfl (by kernel_rfl) (by kernel_rfl) (by kernel_rfl) (by decide) (fun _ _ _ h=>h) (Or.inl ⟨by rfl,?yab16⟩) ⟨HP0.out.cell 2,HP0.out.cell 3⟩ ?rab16
      case yab16=>(intro w _;go_simp;first|done|with_reducible rfl)
      try simp only [Act.put,jI,jZ,jS]
      refine takeP (i:=17) (v:=?vab17) rfl (by kernel_rfl) (by kernel_rfl) (by kernel_rfl) (by decide) (fun _ _ _ h=>h) (Or.inl ⟨by rfl,?yab17⟩) ⟨HP0.out.cell 2,HP0.out.cell 3⟩ ?rab17
      case yab17=>(intro w _;go_simp;first|done|with_reducible rfl)
      try simp only [Act.put,jI,jZ,jS]
      refine readyG (rs:=[18]) (by kernel_rfl) (by simp) (consG rfl (fun K hK => ?_) nilG)
      go_simp
      refine hK.out _ _ (fun h=>absurd rfl h) (fun hHeld => ?_)
      clear hK K hHeld
      try simp only [Act.put,jI,jZ,jS]
      refine readyG (rs:=[19]) (by kernel_rfl) (by simp) (consG rfl (fun K hK => ?_) nilG)
      go_simp
      refine hK.out _ _ (fun _ h=>absurd h (by decide)) (fun hHeld => ?_)
      clear hK K hHeld
      try simp only [Act.put,jI,jZ,jS]
      refine readyG (rs:=[20]) (by kernel_rfl) (by simp) (consG rfl (fun K hK => ?_) nilG)
      go_simp
      refine hK.out _ _ (fun _ h=>absurd h (by decide)) (fun hHeld => ?_)
      clear hK K hHeld
      try simp only [Act.put,jI,jZ,jS]
      refine readyG (rs:=[21]) (by kernel_rfl) (by simp) (consG rfl (fun K hK => ?_) nilG)
      go_simp
      refine hK.out _ _ (fun _ h=>absurd h (by decide)) (fun hHeld => ?_)
      clear hK K hHeld
      try simp only [Act.put,jI,jZ,jS]
      refine doneG (by kernel_rfl) ?_ _
      have hpf:p∉abl a8∧p∉abl a15:=⟨fun e=>by
       rcases HF8.out p e with h|h
       ·exact HDJ.out.2.1 h
       ·have h3:=HLT.out p (by simp [fpTab]);omega,fun e=>by
       rcases HF15.out p e with h|h
       ·exact HDJ.out.2.2 h
       ·have h3:=HLT.out p (by simp [fpTab]);omega⟩
      have hcp:Chg [p] w15 ((w15.setCell ⟨p,2,none⟩ (.slice a8 (k+1) c8)).setCell ⟨p,3,none⟩ (.slice a15 (k+1) c15)):=((Chg.refl [p] w15).setCell (by simp) _).setCell (by simp) _
      have HTN:=Lib.hid (show Tab ((w15.setCell ⟨p,2,none⟩ (.slice a8 (k+1) c8)).setCell ⟨p,3,none⟩ (.slice a15 (k+1) c15)) p num den (k+1) a8 c8 a15 c15 from ⟨(HP0.out.setCell 2 _).setCell 3 _,by
       rw [lowsT_succ,u64s_appL,←HL.out.1]
       exact HOA.out.chg hcp (fun b hb e=>hpf.1 (by rw [←List.mem_singleton.1 e];simpa using hb)),by
       rw [repsT_succ,u64s_appL,←HAB.out.1]
       exact HOB.out.chg hcp (fun b hb e=>hpf.2 (by rw [←List.mem_singleton.1 e];simpa using hb))⟩)
      have HFP:=Lib.hid (fun (m:Nat) (hm:m≤w5.heap.size) (hf:∀ b∈fpTab p la ra,m≤b)=>show ∀ b∈fpTab p a8 a15,m≤b from fun b hb=>by
       simp only [fpTab,List.mem_cons,List.mem_append] at hb hf
       rcases hb with rfl|hb|hb
       ·exact hf b (.inl rfl)
       ·rcases HF8.out b hb with h|h
        ·exact hf b (.inr (.inl h))
        ·omega
       ·rcases HF15.out b hb with h|h
        ·exact hf b (.inr (.inr h))
        ·omega)
      have HCN:=Lib.hid (fun (v:World) (hv:Chg [] v w5) (hf:∀ b∈fpTab p la ra,v.heap.size≤b)=>show Chg [] v ((w15.setCell ⟨p,2,none⟩ (.slice a8 (k+1) c8)).setCell ⟨p,3,none⟩ (.slice a15 (k+1) c15)) from (hv.trans' HCW.out (fun b hb=>.inr (hf b (by simp only [fpTab,List.mem_cons];exact .inr hb)))).trans' hcp (fun b hb=>.inr (by rw [List.mem_singleton.1 hb];exact hf p (by simp [fpTab]))))
      clear hSS fz2 fz3 cz2 cz3 hcp hpf HP0 HOA HOB HR7 HR14 HCW HF8 HF15
      have hbB:B≤9223372036854775808:=by have:=HGE.out.2;simp only [two63] at this;exact this
      go_wp2_with fail
      have hw5:=HC5.out.size
      refine ⟨⟨k+1,B+1,a8,c8,a15,c15,by go_num,by omega,Lib.hid ⟨HAB.out.2,by simp only [two63];omega,HBL.out⟩,Lib.hid ⟨HTN.out,HD15.out,HCN.out w (HT.out.2.2.1.trans HC5.out) HT.out.2.2.2.2.2,HCN.out w0 (HT.out.2.2.2.1.trans HC5.out) HT.out.2.2.2.2.1,HFP.out _ (by have:=HT.out.2.2.2.1.size;omega) HT.out.2.2.2.2.1,HFP.out _ (by have:=HT.out.2.2.1.size;omega) HT.out.2.2.2.2.2⟩⟩,?_⟩
      have h1:=HGE.out
      simp only [intOf]
      omega
end Go.Proofs.YthoolcpcmhhkpaaGreatDoor
