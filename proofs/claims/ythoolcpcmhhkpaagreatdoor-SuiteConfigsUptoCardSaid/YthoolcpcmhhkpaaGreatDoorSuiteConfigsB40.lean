/-
  Parts of a proof, pressed. Conditions: the form's own reach.
-/
import Derived.Test.YthoolcpcmhhkpaaGreatDoorSuiteConfigsB39
import Derived.Test.YthoolcpcmhhkpaaGreatDoorSuiteConfigsB3
import Derived.Test.YthoolcpcmhhkpaaGreatDoorSuiteConfigsB29
import Derived.Test.YthoolcpcmhhkpaaGreatDoorSuiteConfigsB15
namespace Go.Proofs.YthoolcpcmhhkpaaGreatDoor
open Go.RowKit
def gkCells (rv wv:Value) (D:GkD):Array Value:=#[.int .u64 (D.num:Nat),.int .u64 (D.den:Nat),rv,wv,.int .u64 (D.total:Nat)]
structure Gk (w:World) (p:Nat) (rv wv:Value) (D:GkD):Prop where
 blk:Blk w p (gkCells rv wv D) 267
 row:Own w 194 3 rv D.row.length (tpCells D.row)
 wait:Own w 2 1 wv D.waits.length (ints D.waits)
def fpK (p:Nat) (rv wv:Value):List Nat:=p::(blkOf rv++blkOf wv)
namespace Gk
variable {w w1:World} {p:Nat} {rv wv:Value} {D:GkD}
theorem lt (h:Gk w p rv wv D):∀ b∈fpK p rv wv,b<w.heap.size:=by
 intro b hb
 simp only [fpK,List.mem_cons,List.mem_append] at hb
 rcases hb with rfl|hb|hb
 ·exact h.blk.lt
 ·exact h.row.lt b hb
 ·exact h.wait.lt b hb
theorem chg {F:List Nat} (h:Gk w p rv wv D) (k:Chg F w w1) (hF:∀ b∈fpK p rv wv,b∉F):Gk w1 p rv wv D:=
 ⟨h.blk.chg k (hF p (by simp [fpK])),h.row.chg k (fun b hb=>hF b (by simp [fpK,hb])),h.wait.chg k (fun b hb=>hF b (by simp [fpK,hb]))⟩
theorem p_rv (h:Gk w p rv wv D):p∉blkOf rv:=h.row.ne_blk h.blk (by decide)
theorem p_wv (h:Gk w p rv wv D):p∉blkOf wv:=h.wait.ne_blk h.blk (by decide)
theorem rv_wv (h:Gk w p rv wv D):∀ b∈blkOf rv,b∉blkOf wv:=h.row.apart h.wait (by decide)
theorem cells (h:Gk w p rv wv D):w.cell? ⟨p,0,none⟩=some (.int .u64 (D.num:Nat))∧w.cell? ⟨p,1,none⟩=some (.int .u64 (D.den:Nat))∧w.cell? ⟨p,2,none⟩=some rv∧w.cell? ⟨p,3,none⟩=some wv∧w.cell? ⟨p,4,none⟩=some (.int .u64 (D.total:Nat)):=
 ⟨h.blk.cell 0,h.blk.cell 1,h.blk.cell 2,h.blk.cell 3,h.blk.cell 4⟩
end Gk
def GkD.new (num den:Nat):GkD:=⟨num,den,[],[],[]⟩
theorem GkD.new_ok (num den:Nat):(GkD.new num den).ok:=⟨FineT.nil,Placed.nil,Nat.le_refl _,by simp [GkD.new],by simp [GkD.new]⟩
def goodK (num den:Nat):Bool:=decide (0<num∧den≤2147483648∧num≤den / 2)
theorem goodK_of {num den:Nat} (h:goodK num den=true):0<num∧den≤2147483648∧num≤den / 2:=by simpa [goodK] using h
theorem limT_eq {num den n:Nat} (h:goodK num den=true) (hn:n<18446744073709551616):limT num n den=limG num den n:=by
 obtain ⟨h1,h2,h3⟩:=goodK_of h
 unfold limT
 rw [if_pos]
 ·rfl
 ·have h4:2*num≤den:=by omega
  have h5:2*num*n≤den*n:=Nat.mul_le_mul_right n h4
  have h6:den*n<den*18446744073709551616:=Nat.mul_lt_mul_of_pos_left hn (by omega)
  omega
set_option maxRecDepth 100000 in
set_option maxHeartbeats 1000000 in
theorem gk_good (w:World) (num den:Nat) :
 Calls Tryz.prog 173 #[.agg #[.int .u64 (num:Nat),.int .u64 (den:Nat)]] w fun e w'=>e=.returned (.bool (goodK num den))∧Chg [] w w':=by
 have HG:=Lib.hid (show goodK num den=decide (0<num∧den≤2147483648∧num≤den / 2) from rfl)
 generalize goodK num den=G at *
 have hc:=(Chg.refl [] w).alloc (.cells #[.int .u64 num,.int .u64 den] 25)
 have hbx:=Blk.alloc_new w #[.int .u64 num,.int .u64 den] 25
 have c0:=hbx.cell 0
 have c1:=hbx.cell 1
 go_enter Tryz.func173,Tryz.ntmps173
 by_cases h1:0<num
 ·have d1:decide ((0:Int)<(num:Int))=true:=decide_eq_true (by omega)
  have d1':decide (0<num)=true:=decide_eq_true h1
  by_cases h2:den≤2147483648
  ·have d2:decide ((den:Int)≤2147483648)=true:=decide_eq_true (by omega)
   have d2':decide (den≤2147483648)=true:=decide_eq_true h2
   have hq:(den:Int).tdiv 2=((den / 2:Nat):Int):=by rw [Int.tdiv_eq_ediv_of_nonneg (by omega)];omega
   obtain rfl:G=decide (num≤den / 2):=by rw [HG.out];simp [h1,h2]
   clear HG
   have hwq:IntKind.u64.wrap ((den / 2:Nat):Int)=((den / 2:Nat):Int):=IntWalk.u64_in _ (by omega)
   generalize den / 2=q at *
   go_wp2
   go_ret
   exact ⟨by first|rfl|simp,hc⟩
  ·have d2:decide ((den:Int)≤2147483648)=false:=decide_eq_false (by omega)
   have d2':decide (den≤2147483648)=false:=decide_eq_false h2
   obtain rfl:G=false:=by rw [HG.out];simp;omega
   clear HG
   go_wp2
   go_ret
   exact ⟨rfl,hc⟩
 ·have d1:decide ((0:Int)<(num:Int))=false:=decide_eq_false (by omega)
  have d1':decide (0<num)=false:=decide_eq_false h1
  obtain rfl:G=false:=by rw [HG.out];simp;omega
  clear HG
  go_wp2
  go_ret
  exact ⟨rfl,hc⟩
set_option maxRecDepth 100000 in
theorem gk_new (w:World) (num den:Nat) (hg:goodK num den=true) :
 Calls Tryz.prog 109 #[.agg #[.int .u64 (num:Nat),.int .u64 (den:Nat)]] w fun e w'=>∃ p,e=.returned (.tuple #[.pointer (some ⟨p,0,none⟩),.int .i64 0])∧Gk w' p (.slice none 0 0) (.slice none 0 0) (GkD.new num den)∧Chg [] w w'∧w.heap.size≤p:=by
 have hc:=(Chg.refl [] w).alloc (.cells #[.int .u64 num,.int .u64 den] 25)
 have hbx:=Blk.alloc_new w #[.int .u64 num,.int .u64 den] 25
 have c0:=hbx.cell 0
 have c1:=hbx.cell 1
 have HC:=Lib.hid hc
 have HB:=Lib.hid hbx
 have HG:=Lib.hid (fun u=>gk_good u num den)
 rw [hg] at HG
 clear hc hbx hg
 go_enter Tryz.func109,Tryz.ntmps109
 go_wp2_with fail
 refine (HG.out _).mono ?_
 rintro e w1 ⟨rfl,hc1⟩
 have hb1:=HB.out.chg hc1 (by simp)
 have c0:=hb1.cell 0
 have c1:=hb1.cell 1
 have HC1:=Lib.hid (HC.out.trans hc1)
 simp only [List.getElem?_toArray,List.getElem?_cons_zero,List.getElem?_cons_succ] at c0 c1
 clear hc1 hb1 HG
 go_wp2_with fail
 go_ret2
 refine ⟨w1.heap.size,rfl,⟨?_,Own.nil _ _ _,Own.nil _ _ _⟩,HC1.out.alloc _,HC1.out.size⟩
 exact Blk.alloc_new w1 _ _
set_option maxRecDepth 100000 in
theorem gk_new_bad (w:World) (num den:Nat) (hg:goodK num den=false) :
 Calls Tryz.prog 109 #[.agg #[.int .u64 (num:Nat),.int .u64 (den:Nat)]] w fun e w'=>e=.returned (.tuple #[.pointer none,.int .i64 1])∧Chg [] w w':=by
 have hc:=(Chg.refl [] w).alloc (.cells #[.int .u64 num,.int .u64 den] 25)
 have hbx:=Blk.alloc_new w #[.int .u64 num,.int .u64 den] 25
 have c0:=hbx.cell 0
 have c1:=hbx.cell 1
 have HC:=Lib.hid hc
 have HG:=Lib.hid (fun u=>gk_good u num den)
 rw [hg] at HG
 clear hc hbx hg
 go_enter Tryz.func109,Tryz.ntmps109
 go_wp2_with fail
 refine (HG.out _).mono ?_
 rintro e w1 ⟨rfl,hc1⟩
 go_wp2_with fail
 go_ret2
 exact ⟨rfl,HC.out.trans hc1⟩
set_option maxRecDepth 100000 in
theorem gk_total (w:World) (p:Nat) (rv wv:Value) (D:GkD) (h:Gk w p rv wv D) :
 Calls Tryz.prog 113 #[.pointer (some ⟨p,0,none⟩)] w fun e w'=>e=.returned (.int .u64 (D.total:Nat))∧w=w':=by
 obtain ⟨c0,c1,c2,c3,c4⟩:=h.cells
 go_enter Tryz.func113,Tryz.ntmps113
 go_wp2
 go_ret
 exact ⟨rfl,rfl⟩
end Go.Proofs.YthoolcpcmhhkpaaGreatDoor
namespace Go.Proofs.YthoolcpcmhhkpaaGreatDoor
open Go.RowKit
theorem enters_limit:∀ (args:Array Value) (w:World),(callFunc 197 args).run Tryz.prog w=.ok (.enter 197 args) w:=enters_of Tryz.func197 (by kernel_rfl) rfl
theorem enters_squeeze:∀ (args:Array Value) (w:World),(callFunc 217 args).run Tryz.prog w=.ok (.enter 217 args) w:=enters_of Tryz.func217 (by kernel_rfl) rfl
namespace Gk
variable {w w1:World} {p:Nat} {rv wv:Value} {D:GkD}
theorem row' (h:Gk w p rv wv D) {rv2:Value} {r:List Tp} {E:GkD} (k:Chg (blkOf rv) w w1) (ho:Own w1 194 3 rv2 r.length (tpCells r)) (hf:∀ b∈blkOf rv2,b∈blkOf rv∨w.heap.size≤b)
 (hE:E.num=D.num∧E.den=D.den∧E.total=D.total∧E.row=r∧E.waits=D.waits) :
 Gk (w1.setCell ⟨p,2,none⟩ rv2) p rv2 wv E∧Mv (fpK p rv wv) w (fpK p rv2 wv) (w1.setCell ⟨p,2,none⟩ rv2):=by
 obtain ⟨e1,e2,e3,e4,e5⟩:=hE
 have hb:=h.blk.chg k h.p_rv
 have k2:Chg [p] w1 (w1.setCell ⟨p,2,none⟩ rv2):=(Chg.refl _ w1).setCell (a:=⟨p,2,none⟩) (.inl (by simp)) _
 have hw1:=h.wait.chg k (fun b hb e=>h.rv_wv b e hb)
 refine ⟨⟨?_,?_,?_⟩,?_,?_⟩
 ·have h2:=hb.setCell 2 rv2
  unfold gkCells at h2 ⊢
  rw [e1,e2,e3]
  exact h2
 ·rw [e4]
  exact ho.chg k2 (fun b hb2 e=>by simp at e;subst e;exact ho.ne_blk hb (by decide) hb2)
 ·rw [e5]
  exact hw1.chg k2 (fun b hb2 e=>by simp at e;subst e;exact h.p_wv hb2)
 ·exact (k.mono (F1:=fpK p rv wv) (fun b hb=>.inl (by simp [fpK,hb]))).setCell (a:=⟨p,2,none⟩) (.inl (by simp [fpK])) _
 ·intro b hb2
  simp only [fpK,List.mem_cons,List.mem_append] at hb2 ⊢
  rcases hb2 with rfl|hb2|hb2
  ·exact .inl (.inl rfl)
  ·rcases hf b hb2 with h1|h1
   ·exact .inl (.inr (.inl h1))
   ·exact .inr h1
  ·exact .inl (.inr (.inr hb2))
theorem wait' (h:Gk w p rv wv D) {wv2:Value} {ws:List Int} {E:GkD} (k:Chg (blkOf wv) w w1) (ho:Own w1 2 1 wv2 ws.length (ints ws)) (hf:∀ b∈blkOf wv2,b∈blkOf wv∨w.heap.size≤b)
 (hE:E.num=D.num∧E.den=D.den∧E.total=D.total∧E.row=D.row∧E.waits=ws) :
 Gk (w1.setCell ⟨p,3,none⟩ wv2) p rv wv2 E∧Mv (fpK p rv wv) w (fpK p rv wv2) (w1.setCell ⟨p,3,none⟩ wv2):=by
 obtain ⟨e1,e2,e3,e4,e5⟩:=hE
 have hb:=h.blk.chg k h.p_wv
 have k2:Chg [p] w1 (w1.setCell ⟨p,3,none⟩ wv2):=(Chg.refl _ w1).setCell (a:=⟨p,3,none⟩) (.inl (by simp)) _
 have hw1:=h.row.chg k (fun b hb e=>h.rv_wv b hb e)
 refine ⟨⟨?_,?_,?_⟩,?_,?_⟩
 ·have h2:=hb.setCell 3 wv2
  unfold gkCells at h2 ⊢
  rw [e1,e2,e3]
  exact h2
 ·rw [e4]
  exact hw1.chg k2 (fun b hb2 e=>by simp at e;subst e;exact h.p_rv hb2)
 ·rw [e5]
  exact ho.chg k2 (fun b hb2 e=>by simp at e;subst e;exact ho.ne_blk hb (by decide) hb2)
 ·exact (k.mono (F1:=fpK p rv wv) (fun b hb=>.inl (by simp [fpK,hb]))).setCell (a:=⟨p,3,none⟩) (.inl (by simp [fpK])) _
 ·intro b hb2
  simp only [fpK,List.mem_cons,List.mem_append] at hb2 ⊢
  rcases hb2 with rfl|hb2|hb2
  ·exact .inl (.inl rfl)
  ·exact .inl (.inr (.inl hb2))
  ·rcases hf b hb2 with h1|h1
   ·exact .inl (.inr (.inr h1))
   ·exact .inr h1
end Gk
theorem insAll_step (r:List Tp) (ws:List Int) (k:Nat) (h:k<ws.length):insAll r (ws.take (k+1))=ins1 (insAll r (ws.take k)) ws[k]:=by
 rw [List.take_succ_eq_append_getElem h,insAll,List.foldl_append]
 rfl
theorem FineT.bound {r:List Tp} {n:Nat} (h:FineT r n):∀ p∈r,p.st+p.sl≤n:=fun p hp=>by
 obtain ⟨i,hi,rfl⟩:=List.getElem_of_mem hp
 exact h.one hi
set_option maxRecDepth 100000 in
set_option maxHeartbeats 4000000 in
set_option linter.unusedSimpArgs false in
theorem gk_flush (w:World) (p:Nat) (rv wv:Value) (D:GkD) (h:Gk w p rv wv D) (hok:D.ok') (hg:goodK D.num D.den=true) (hn:D.total≤3000000000) :
 Calls Tryz.prog 174 #[.pointer (some ⟨p,0,none⟩)] w fun e w'=>e=.returned (.tuple #[])∧∃ rv' wv',Gk w' p rv' wv' D.flush∧Mv (fpK p rv wv) w (fpK p rv' wv') w':=by
 have HG:=Lib.hid h
 obtain ⟨c0,c1,c2,c3,c4⟩:=h.cells
 obtain ⟨wo,wc0,hwv⟩:=h.wait.shape
 subst hwv
 obtain ⟨m,hm⟩:∃ m,m=D.waits.length:=⟨_,rfl⟩
 rw [←hm] at c3 HG ⊢
 by_cases h0:m=0
 ·have hnil:D.waits=[]:=List.eq_nil_of_length_eq_zero (by omega)
  have HFL:=Lib.hid (show D.flush=D from if_pos hnil)
  subst h0
  clear h hnil hm hok hg hn
  go_enter Tryz.func174,Tryz.ntmps174
  go_wp2_with fail
  refine bodyPost_ret (results_none rfl _ _ _) rfl ?_
  rw [HFL.out]
  exact ⟨rfl,_,_,HG.out,Mv.refl _ _⟩
 ·have hm0:((m:Int)==0)=false:=by rw [beq_eq_false_iff_ne];omega
  have HNE:=Lib.hid (show D.waits≠[] from fun e=>h0 (by rw [hm,e];rfl))
  obtain ⟨ws,hws⟩:∃ ws,ws=sortL D.waits:=⟨_,rfl⟩
  have hwl:ws.length=m:=by rw [hws,(sort_ok _).2.2,hm]
  have HSO:=Lib.hid (sort_ints w wo wc0 m D.waits hm (by have h:=HG.out.wait;rw [←hm] at h;exact h) (by have:=hok.few;omega))
  rw [←hws] at HSO
  have HWL:=Lib.hid hwl
  have HM:=Lib.hid hm
  obtain ⟨L,hL⟩:∃ L,L=limG D.num D.den D.total:=⟨_,rfl⟩
  have HFL:=Lib.hid (show D.flush=⟨D.num,D.den,sqT L (insAll D.row ws),D.vals++ws,[]⟩ from by rw [GkD.flush,if_neg HNE.out,hws,hL])
  have HFP:=Lib.hid (fun k=>insAll_fine (GkD.limG_pos D.num D.den D.total) (ws.take k) (r:=D.row) (A:=D.vals) ⟨hok.fine,hok.placed,hok.len,Nat.le_refl _⟩ (fun p hp=>Nat.le_trans (hok.tight p hp) (limG_mono (by unfold GkD.total;omega))))
  have hvl:D.vals.length+m≤3000000000:=by have:=hn;unfold GkD.total at this;omega
  have HLT:=Lib.hid (fun u=>tup_limit u D.num D.den D.total (by have:=goodK_of hg;omega) (by have:=goodK_of hg;omega) (by omega))
  rw [limT_eq hg (by omega),←hL] at HLT
  have HBIG:=Lib.hid (show L<18446744073709551616 from by
   have h1:=goodK_of hg
   have h2:2*D.num*D.total / D.den≤D.total:=by
    refine Nat.div_le_of_le_mul ?_
    exact Nat.mul_le_mul_right D.total (by omega)
   rw [hL]
   unfold limG
   omega)
  have HTOT:=Lib.hid (show D.total=D.vals.length+m from by unfold GkD.total;omega)
  obtain ⟨N,hN⟩:∃ N,N=D.total:=⟨_,rfl⟩
  have HN:=Lib.hid hN
  rw [←hN] at c4 HLT
  clear h hok hg hn hws hwl hL hm h0 hN
  go_enter Tryz.func174,Tryz.ntmps174
  go_wp2_with fail
  refine HSO.out.mono ?_
  rintro e w1 ⟨rfl,ho1,hc1⟩
  have hG1:Gk w1 p rv (.slice wo m wc0) ⟨D.num,D.den,D.row,D.vals,ws⟩:=by
   have hb:abl wo=blkOf (.slice wo m wc0):=by simp
   rw [hb] at hc1
   refine ⟨?_,HG.out.row.chg hc1 (fun b hb e=>HG.out.rv_wv b hb e),by rw [HWL.out];exact ho1⟩
   have h2:=HG.out.blk.chg hc1 HG.out.p_wv
   have e:(⟨D.num,D.den,D.row,D.vals,ws⟩:GkD).total=D.total:=by unfold GkD.total;rw [HWL.out,HM.out]
   unfold gkCells at h2 ⊢
   rw [e]
   exact h2
  have HM1:=Lib.hid (Mv.of_chg (hc1.mono (F1:=fpK p rv (.slice wo m wc0)) (fun b hb=>.inl (by simp only [fpK,List.mem_cons,List.mem_append];exact .inr (.inr (by simpa using hb))))))
  have HG1:=Lib.hid hG1
  clear ho1 hc1 hG1 c0 c1 c2 c3 c4 HG HSO
  obtain ⟨-,-,-,c3,-⟩:=HG1.out.cells
  go_wp2_with fail
  go_loopw [24] (fun i wx=>∃ (k:Nat) (rv':Value),k≤m∧i=.int .i64 (k:Nat)∧Gk wx p rv' (.slice wo m wc0) ⟨D.num,D.den,insAll D.row (ws.take k),D.vals,ws⟩∧Mv (fpK p rv (.slice wo m wc0)) w (fpK p rv' (.slice wo m wc0)) wx) (fun i _=>m-(intOf i).toNat)
  case atStart=>exact ⟨0,rv,Nat.zero_le _,rfl,HG1.out,HM1.out⟩
  case round =>
   clear HG1 HM1 c3
   obtain ⟨k,rv',hk,rfl,hgk,hmv⟩:=hrel
   obtain ⟨c0,c1,c2,c3,c4⟩:=hgk.cells
   have f2:=hgk.blk.free 2
   by_cases hlt:k<m
   ·have hkl:k<ws.length:=by have:=HWL.out;omega
    obtain ⟨b,o,rfl,hcs⟩:=hgk.wait.rd.addr (show 0<ws.length by omega)
    have y0:=ints_at (l:=ws) (fun j hj=>hcs j (by omega)) k hkl
    have HST:=Lib.hid (insAll_step D.row ws k hkl)
    obtain ⟨hf1,hf2⟩:=HFP.out k
    obtain ⟨ro,rc,hrv⟩:=hgk.row.shape
    subst hrv
    have hin:=hf1.fine
    have hal:(D.vals++ws.take k).length=D.vals.length+k:=by simp;omega
    simp only [hal] at hin hf1
    have hle:=hf1.len
    have hal2:(insAll D.row (ws.take k)).length≤3000000000:=by simp only at hle;omega
    have HIN:=Lib.hid (tup_insert wr ro rc _ ws[k] (sorted_get hin.up) hgk.row (by omega) (fun q hq=>⟨hin.pos q hq,by have:=hin.bound q hq;omega⟩))
    have HGK:=Lib.hid hgk
    have HMV:=Lib.hid hmv
    have HLI:=Lib.hid (insT_len (insAll D.row (ws.take k)) ws[k] (upT (insAll D.row (ws.take k)) ws[k]) (upT_le _ _))
    rw [show insT (insAll D.row (ws.take k)) ws[k] (upT (insAll D.row (ws.take k)) ws[k])=insAll D.row (ws.take (k+1)) from HST.out.symm] at HIN HLI
    obtain ⟨r0,hr0⟩:∃ r,r=insAll D.row (ws.take k):=⟨_,rfl⟩
    obtain ⟨n0,hn0⟩:∃ n,n=(insAll D.row (ws.take k)).length:=⟨_,rfl⟩
    have c2':wr.cell? ⟨p,2,none⟩=some (.slice ro n0 rc):=by rw [hn0];exact c2
    rw [←hn0] at HIN HLI
    have HN00:=Lib.hid hn0
    clear hcs hf1 hf2 hin hle hgk hmv hal HST c2 hn0 hr0
    generalize ws[k]=y at *
    go_wp2_with fail
    refine HIN.out.mono ?_
    rintro e w3 ⟨a3,c3',rfl,ho3,hc3,hf3⟩
    have hb3:=HGK.out.blk.chg (by have:=hc3;exact (show Chg (blkOf (.slice ro n0 rc)) wr w3 from by simpa using this)) (by have h:=HGK.out.p_rv;rw [←HN00.out] at h;exact h)
    have f23:=hb3.free 2
    have c23:w3.cell? ⟨p,2,none⟩=some (.slice ro n0 rc):=by rw [HN00.out];exact hb3.cell 2
    obtain ⟨hN1,hN2⟩:=HGK.out.row' (w1:=w3) (rv2:=.slice a3 (n0+1) c3') (r:=insAll D.row (ws.take (k+1))) (E:=⟨D.num,D.den,insAll D.row (ws.take (k+1)),D.vals,ws⟩) (by simpa using hc3) (by rw [HLI.out];exact ho3) (fun b hb=>by simpa using hf3 b (by simpa using hb)) ⟨rfl,rfl,rfl,rfl,rfl⟩
    have HN1:=Lib.hid hN1
    have HN2:=Lib.hid hN2
    clear ho3 hc3 hf3 hN1 hN2
    go_wp2_with fail
    exact ⟨⟨k+1,_,by omega,by go_num,HN1.out,HMV.out.trans HN2.out⟩,by simp [intOf];omega⟩
   ·obtain rfl:k=m:=by omega
    have htk:ws.take k=ws:=List.take_of_length_le (by have:=HWL.out;omega)
    rw [htk] at hgk
    have hf:=(HFP.out k).1
    rw [htk] at hf
    have f3:=hgk.blk.free 3
    have hGW:=hgk.wait' (w1:=wr) (wv2:=.slice none 0 0) (ws:=[]) (E:=⟨D.num,D.den,insAll D.row ws,D.vals++ws,[]⟩) (Chg.refl _ _) (Own.nil _ _ _) (by simp) ⟨rfl,rfl,by simp [GkD.total],rfl,rfl⟩
    have HGW:=Lib.hid hGW.1
    have HMW:=Lib.hid (hmv.trans hGW.2)
    have HFF:=Lib.hid hf
    have hlenf:(insAll D.row ws).length≤3000000000:=by
     have h1:=hf.len
     simp only [List.length_append] at h1
     have:=HWL.out
     omega
    have hvw:(D.vals++ws).length≤3000000000:=by rw [List.length_append];have:=HWL.out;omega
    have hNT:(⟨D.num,D.den,insAll D.row ws,D.vals++ws,[]⟩:GkD).total=N:=by
     rw [HN.out,HTOT.out]
     simp [GkD.total,HWL.out]
    clear hgk hmv hGW hf c0 c1 c2 c4 htk
    go_wp2_with fail
    generalize wr.setCell ⟨p,3,none⟩ (.slice none 0 0)=w5 at *
    obtain ⟨c0,c1,c2,c3',c4⟩:=HGW.out.cells
    rw [hNT] at c4
    obtain ⟨ro,rc,hrv⟩:=HGW.out.row.shape
    subst hrv
    obtain ⟨n0,hn0⟩:∃ n,n=(insAll D.row ws).length:=⟨_,rfl⟩
    have c2':w5.cell? ⟨p,2,none⟩=some (.slice ro n0 rc):=by rw [hn0];exact c2
    have HSQ:=Lib.hid (fun u (hu:Chg [] w5 u)=>tup_squeeze u ro rc (insAll D.row ws) L _ HBIG.out HFF.out.fine (by simp only;omega) (by omega) (HGW.out.row.chg hu (by simp)))
    rw [←hn0] at HSQ
    have hS0:w5.cell? ⟨p,2,none⟩=some (.slice ro n0 rc)∧w5.cell? ⟨p,0,none⟩=some (.int .u64 (D.num:Nat))∧w5.cell? ⟨p,1,none⟩=some (.int .u64 (D.den:Nat))∧w5.cell? ⟨p,4,none⟩=some (.int .u64 (N:Nat)):=⟨c2',c0,c1,c4⟩
    have HN0:=Lib.hid hn0
    clear c2 hNT hn0 c0 c1 c2' c3' c4 f2 f3 hlenf hvw
    refine startG (S:=fun wx=>wx.cell? ⟨p,2,none⟩=some (.slice ro n0 rc)∧wx.cell? ⟨p,0,none⟩=some (.int .u64 (D.num:Nat))∧wx.cell? ⟨p,1,none⟩=some (.int .u64 (D.den:Nat))∧wx.cell? ⟨p,4,none⟩=some (.int .u64 (N:Nat))) (st:=17) (by kernel_rfl) hS0 (fun hHeld => ?_)
    refine takeP (i:=0) (v:=?vz0) rfl (by kernel_rfl) (by kernel_rfl) (by kernel_rfl) (by decide) (fun _ _ _ h=>h) (Or.inl ⟨by rfl,?yz0⟩) hS0 ?rz0
    case yz0=>(intro w _;go_simp;first|done|with_reducible rfl)
    try simp only [Act.put,jI,jZ,jS]
    refine takeP (i:=1) (v:=?vz1) rfl (by kernel_rfl) (by kernel_rfl) (by kernel_rfl) (by decide) (fun _ _ _ h=>h) (Or.inl ⟨by rfl,?yz1⟩) hS0 ?rz1
    case yz1=>(intro w _;go_simp;first|done|with_reducible rfl)
    try simp only [Act.put,jI,jZ,jS]
    refine takeP (i:=2) (v:=?vz2) rfl (by kernel_rfl) (by kernel_rfl) (by kernel_rfl) (by decide) (fun _ _ _ h=>h) (Or.inl ⟨by rfl,?yz2⟩) hS0 ?rz2
    case yz2=>(intro w _;go_simp;first|done|with_reducible rfl)
    try simp only [Act.put,jI,jZ,jS]
    refine takeP (i:=3) (v:=?vz3) rfl (by kernel_rfl) (by kernel_rfl) (by kernel_rfl) (by decide) (fun _ _ _ h=>h) (Or.inl ⟨by rfl,?yz3⟩) hS0 ?rz3
    case yz3=>(intro w _;go_simp;first|done|with_reducible rfl)
    try simp only [Act.put,jI,jZ,jS]
    refine takeG (i:=4) (v:=?vz4) rfl (by kernel_rfl) (by kernel_rfl) (by kernel_rfl) (by decide) (by kernel_rfl) (by kernel_rfl) (fun _ _ _ h=>h) (Or.inl ⟨by rfl,?yz4⟩) hS0 ?rz4
    case yz4=>(intro w hSw;(try dsimp only at hSw);go_simp;first|done|with_reducible rfl)
    try simp only [Act.put,jI,jZ,jS]
    refine takeP (i:=5) (v:=?vz5) rfl (by kernel_rfl) (by kernel_rfl) (by kernel_rfl) (by decide) (fun _ _ _ h=>h) (Or.inl ⟨by rfl,?yz5⟩) hS0 ?rz5
    case yz5=>(intro w _;go_simp;first|done|with_reducible rfl)
    try simp only [Act.put,jI,jZ,jS]
    refine takeP (i:=6) (v:=?vz6) rfl (by kernel_rfl) (by kernel_rfl) (by kernel_rfl) (by decide) (fun _ _ _ h=>h) (Or.inl ⟨by rfl,?yz6⟩) hS0 ?rz6
    case yz6=>(intro w _;go_simp;first|done|with_reducible rfl)
    try simp only [Act.put,jI,jZ,jS]
    refine takeP (i:=7) (v:=?vz7) rfl (by kernel_rfl) (by kernel_rfl) (by kernel_rfl) (by decide) (fun _ _ _ h=>h) (Or.inl ⟨by rfl,?yz7⟩) hS0 ?rz7
    case yz7=>(intro w _;go_simp;first|done|with_reducible rfl)
    try simp only [Act.put,jI,jZ,jS]
    refine takeG (i:=8) (v:=?vz8) rfl (by kernel_rfl) (by kernel_rfl) (by kernel_rfl) (by decide) (by kernel_rfl) (by kernel_rfl) (fun _ _ _ h=>h) (Or.inl ⟨by rfl,?yz8⟩) hS0 ?rz8
    case yz8=>(intro w hSw;(try dsimp only at hSw);go_simp;first|done|with_reducible rfl)
    try simp only [Act.put,jI,jZ,jS]
    refine takeP (i:=9) (v:=?vz9) rfl (by kernel_rfl) (by kernel_rfl) (by kernel_rfl) (by decide) (fun _ _ _ h=>h) (Or.inl ⟨by rfl,?yz9⟩) hS0 ?rz9
    case yz9=>(intro w _;go_simp;first|done|with_reducible rfl)
    try simp only [Act.put,jI,jZ,jS]
    refine takeP (i:=10) (v:=?vz10) rfl (by kernel_rfl) (by kernel_rfl) (by kernel_rfl) (by decide) (fun _ _ _ h=>h) (Or.inl ⟨by rfl,?yz10⟩) hS0 ?rz10
    case yz10=>(intro w _;go_simp;first|done|with_reducible rfl)
    try simp only [Act.put,jI,jZ,jS]
    refine takeP (i:=11) (v:=?vz11) rfl (by kernel_rfl) (by kernel_rfl) (by kernel_rfl) (by decide) (fun _ _ _ h=>h) (Or.inl ⟨by rfl,?yz11⟩) hS0 ?rz11
    case yz11=>(intro w _;go_simp;first|done|with_reducible rfl)
    try simp only [Act.put,jI,jZ,jS]
    refine takeG (i:=12) (v:=?vz12) rfl (by kernel_rfl) (by kernel_rfl) (by kernel_rfl) (by decide) (by kernel_rfl) (by kernel_rfl) (fun _ _ _ h=>h) (Or.inl ⟨by rfl,?yz12⟩) hS0 ?rz12
    case yz12=>(intro w hSw;(try dsimp only at hSw);go_simp;first|done|with_reducible rfl)
    try simp only [Act.put,jI,jZ,jS]
    refine readyG (rs:=[13]) (by kernel_rfl) (by simp) (consG rfl (fun K hK => ?_) nilG)
    refine step_calls rfl 197 _ _ rfl enters_limit _ #[.agg #[.int .u64 (D.num:Nat),.int .u64 (D.den:Nat)],.int .u64 (N:Nat)] (by simp [Act.eval,Act.put]) (HLT.out _) ?_;rintro e w6 ⟨rfl,hc6⟩;refine ⟨_,rfl,?_⟩
    have H56:=Lib.hid (((Chg.refl [] w5).drew).trans hc6)
    have hS6:w6.cell? ⟨p,2,none⟩=some (.slice ro n0 rc)∧w6.cell? ⟨p,0,none⟩=some (.int .u64 (D.num:Nat))∧w6.cell? ⟨p,1,none⟩=some (.int .u64 (D.den:Nat))∧w6.cell? ⟨p,4,none⟩=some (.int .u64 (N:Nat)):=⟨H56.out.cell hS0.1 (by simp),H56.out.cell hS0.2.1 (by simp),H56.out.cell hS0.2.2.1 (by simp),H56.out.cell hS0.2.2.2 (by simp)⟩
    clear hc6
    refine hK.out _ _ (fun _ _=>hS6) (fun hHeld => ?_)
    clear hK K hHeld
    try simp only [Act.put,jI,jZ,jS]
    refine readyG (rs:=[14]) (by kernel_rfl) (by simp) (consG rfl (fun K hK => ?_) nilG)
    refine step_calls rfl 217 _ _ rfl enters_squeeze _ #[.slice ro n0 rc,.int .u64 (L:Nat)] (by simp [Act.eval,Act.put]) (HSQ.out w6 H56.out) ?_;rintro e w7 ⟨rfl,ho7,hc7⟩;refine ⟨_,rfl,?_⟩
    have HO7:=Lib.hid ho7
    have hp7:p∉abl ro:=fun e=>HGW.out.p_rv (by simpa using e)
    have HC7:=Lib.hid (show Chg (blkOf (.slice ro n0 rc)) w5 w7 from (Chg.nil H56.out).trans' hc7 (fun b hb=>.inl (by simpa using hb)))
    have hS7:w7.cell? ⟨p,2,none⟩=some (.slice ro n0 rc)∧w7.cell? ⟨p,0,none⟩=some (.int .u64 (D.num:Nat))∧w7.cell? ⟨p,1,none⟩=some (.int .u64 (D.den:Nat))∧w7.cell? ⟨p,4,none⟩=some (.int .u64 (N:Nat)):=⟨hc7.cell hS6.1 hp7,hc7.cell hS6.2.1 hp7,hc7.cell hS6.2.2.1 hp7,hc7.cell hS6.2.2.2 hp7⟩
    have f7:=((HGW.out.blk.chg H56.out (by simp)).chg hc7 hp7).free 2
    clear ho7 hc7 hp7
    refine hK.out _ _ (fun _ _=>hS7) (fun hHeld => ?_)
    clear hK K hHeld
    try simp only [Act.put,jI,jZ,jS]
    refine takeP (i:=15) (v:=?vz15) rfl (by kernel_rfl) (by kernel_rfl) (by kernel_rfl) (by decide) (fun _ _ _ h=>h) (Or.inl ⟨by rfl,?yz15⟩) hS7 ?rz15
    case yz15=>(intro w _;go_simp;first|done|with_reducible rfl)
    try simp only [Act.put,jI,jZ,jS]
    refine takeP (i:=16) (v:=?vz16) rfl (by kernel_rfl) (by kernel_rfl) (by kernel_rfl) (by decide) (fun _ _ _ h=>h) (Or.inl ⟨by rfl,?yz16⟩) hS7 ?rz16
    case yz16=>(intro w _;go_simp;first|done|with_reducible rfl)
    try simp only [Act.put,jI,jZ,jS]
    refine readyG (rs:=[17]) (by kernel_rfl) (by simp) (consG rfl (fun K hK => ?_) nilG)
    go_simp
    refine hK.out _ _ (fun h=>absurd rfl h) (fun hHeld => ?_)
    clear hK K hHeld
    try simp only [Act.put,jI,jZ,jS]
    refine doneG (by kernel_rfl) ?_ _
    obtain ⟨hR1,hR2⟩:=HGW.out.row' (w1:=w7) (rv2:=.slice ro (sqT L (insAll D.row ws)).length rc) (r:=sqT L (insAll D.row ws)) (E:=⟨D.num,D.den,sqT L (insAll D.row ws),D.vals++ws,[]⟩) (by have:=HC7.out;simpa using this) HO7.out (fun b hb=>.inl (by simpa using hb)) ⟨rfl,rfl,by simp [GkD.total],rfl,rfl⟩
    have HR1:=Lib.hid hR1
    have HR2:=Lib.hid hR2
    clear hR1 hR2
    go_end0
    rw [HFL.out]
    exact ⟨rfl,_,_,HR1.out,HMW.out.trans HR2.out⟩
end Go.Proofs.YthoolcpcmhhkpaaGreatDoor
namespace Go.Proofs.YthoolcpcmhhkpaaGreatDoor
open Go.RowKit
theorem Gk.add {w w1:World} {p:Nat} {rv wv wv2:Value} {D:GkD} {x:Int} (h:Gk w p rv wv D) (k:Chg (blkOf wv) w w1) (ho:Own w1 2 1 wv2 (D.waits.length+1) (ints D.waits++ints [x])) (hf:∀ b∈blkOf wv2,b∈blkOf wv∨w.heap.size≤b) :
 Gk ((w1.setCell ⟨p,3,none⟩ wv2).setCell ⟨p,4,none⟩ (.int .u64 ((D.total+1:Nat):Int))) p rv wv2 (D.wait x)∧Mv (fpK p rv wv) w (fpK p rv wv2) ((w1.setCell ⟨p,3,none⟩ wv2).setCell ⟨p,4,none⟩ (.int .u64 ((D.total+1:Nat):Int))):=by
 have hb:=h.blk.chg k h.p_wv
 have k2:Chg [p] w1 ((w1.setCell ⟨p,3,none⟩ wv2).setCell ⟨p,4,none⟩ (.int .u64 ((D.total+1:Nat):Int))):=((Chg.refl _ w1).setCell (a:=⟨p,3,none⟩) (.inl (by simp)) _).setCell (a:=⟨p,4,none⟩) (.inl (by simp)) _
 have hw1:=h.row.chg k (fun b hb e=>h.rv_wv b hb e)
 have ht:(D.wait x).total=D.total+1:=by simp [GkD.wait,GkD.total];omega
 refine ⟨⟨?_,?_,?_⟩,?_,?_⟩
 ·have h2:=(hb.setCell 3 wv2).setCell 4 (.int .u64 ((D.total+1:Nat):Int))
  unfold gkCells at h2 ⊢
  rw [ht]
  exact h2
 ·exact hw1.chg k2 (fun b hb2 e=>by simp at e;subst e;exact h.p_rv hb2)
 ·have e1:(D.wait x).waits.length=D.waits.length+1:=by simp [GkD.wait]
  have e2:ints (D.wait x).waits=ints D.waits++ints [x]:=by simp [GkD.wait,ints]
  rw [e1,e2]
  exact ho.chg k2 (fun b hb2 e=>by simp at e;subst e;exact ho.ne_blk hb (by decide) hb2)
 ·exact ((k.mono (F1:=fpK p rv wv) (fun b hb=>.inl (by simp [fpK,hb]))).setCell (a:=⟨p,3,none⟩) (.inl (by simp [fpK])) _).setCell (a:=⟨p,4,none⟩) (.inl (by simp [fpK])) _
 ·intro b hb2
  simp only [fpK,List.mem_cons,List.mem_append] at hb2 ⊢
  rcases hb2 with rfl|hb2|hb2
  ·exact .inl (.inl rfl)
  ·exact .inl (.inr (.inl hb2))
  ·rcases hf b hb2 with h1|h1
   ·exact .inl (.inr (.inr h1))
   ·exact .inr h1
set_option maxRecDepth 100000 in
set_option maxHeartbeats 4000000 in
theorem gk_put (w:World) (p:Nat) (rv wv:Value) (D:GkD) (h:Gk w p rv wv D) (hok:D.ok) (hg:goodK D.num D.den=true) (x:Int) (n:Nat) (h1:1≤n) (h2:n≤1024) (hn:D.total+n≤3000000000) :
 Calls Tryz.prog 110 #[.pointer (some ⟨p,0,none⟩),.int .i64 x,.int .u64 (n:Nat)] w fun e w'=>e=.returned (.int .i64 0)∧∃ rv' wv',Gk w' p rv' wv' (D.putN x n)∧Mv (fpK p rv wv) w (fpK p rv' wv') w':=by
 obtain ⟨T,hT⟩:∃ T,T=D.total:=⟨_,rfl⟩
 have HPL:=Lib.hid (fun u b0 hb0=>wide_plus2 u T n (by omega) (by omega) b0 hb0)
 have e:plusV [T,n]=.tuple #[.int .u64 ((T+n:Nat):Int),.bool true]:=by
  have e0:[T,n].sum=T+n:=by simp
  unfold plusV
  rw [e0,if_pos (by omega)]
 rw [e] at HPL
 have c4:w.cell? ⟨p,4,none⟩=some (.int .u64 (T:Nat)):=by rw [hT];exact h.cells.2.2.2.2
 have d1:((n:Int)==0)=false:=by rw [beq_eq_false_iff_ne];omega
 have d2:decide ((1024:Int)<(n:Int))=false:=decide_eq_false (by omega)
 have d2':decide (1024<n)=false:=decide_eq_false (by omega)
 have HG:=Lib.hid (show Gk (w.alloc (.cells #[.int .u64 (T:Nat),.int .u64 (n:Nat)] 23)) p rv wv D from h.chg ((Chg.refl [] w).alloc _) (by simp))
 have HM0:=Lib.hid (show Mv (fpK p rv wv) w (fpK p rv wv) (w.alloc (.cells #[.int .u64 (T:Nat),.int .u64 (n:Nat)] 23)) from Mv.of_chg (((Chg.refl [] w).alloc _).nil))
 have HOK:=Lib.hid (fun k=>D.putN_same x k)
 have HOO:=Lib.hid (fun k=>GkD.putN_ok hok x k)
 have HGD:=Lib.hid hg
 have HT:=Lib.hid hT
 have hTn:T+n≤3000000000:=by omega
 clear h hok hg hn hT e
 go_enter Tryz.func110,Tryz.ntmps110
 go_wp2_with fail
 refine (HPL.out _ _ rfl).mono ?_
 rintro e w1 ⟨rfl,rfl⟩
 clear HPL
 go_wp2_with fail
 generalize w.alloc (.cells #[.int .u64 (T:Nat),.int .u64 (n:Nat)] 23)=w1 at *
 go_loopw [31] (fun i wx=>∃ (k:Nat) (rv' wv':Value),k≤n∧i=.int .u64 (k:Nat)∧Gk wx p rv' wv' (D.putN x k)∧Mv (fpK p rv wv) w (fpK p rv' wv') wx) (fun i _=>n-(intOf i).toNat)
 case atStart=>exact ⟨0,rv,wv,Nat.zero_le _,rfl,HG.out,HM0.out⟩
 case round =>
  clear HG HM0 c4
  obtain ⟨k,rv',wv',hk,rfl,hgk,hmv⟩:=hrel
  by_cases hlt:k<n
  ·obtain ⟨c0,c1,c2,c3,c4⟩:=hgk.cells
   obtain ⟨wo,wc,hwv⟩:=hgk.wait.shape
   have hS:=HOK.out k
   have hO:=HOO.out k
   have HPS:=Lib.hid (show D.putN x (k+1)=(D.putN x k).put1 x from rfl)
   generalize D.putN x k=Dk at *
   obtain ⟨m,hm⟩:∃ m,m=Dk.waits.length:=⟨_,rfl⟩
   subst hwv
   have hm16:m<16:=by have:=hO.few;omega
   have hgw:=hgk.wait
   have hgk':=hgk
   rw [←hm] at c3 hgw hgk'
   have htk:Dk.total=T+k:=by rw [hS.2.2,HT.out]
   obtain ⟨TK,hTK⟩:∃ z,z=Dk.total:=⟨_,rfl⟩
   rw [←hTK] at c4
   have hTKb:TK<18446744073709551615:=by omega
   have HGK:=Lib.hid hgk'
   have HMV:=Lib.hid (show Mv (fpK p rv wv) w (fpK p rv' (.slice wo m wc)) wr from by have h:=hmv;rw [←hm] at h;exact h)
   have HOW:=Lib.hid hgw
   have HO:=Lib.hid hO
   have HSD:=Lib.hid hS
   have HTK:=Lib.hid hTK
   have HM:=Lib.hid hm
   have HTKL:=Lib.hid (show TK≤3000000000 from by omega)
   have f3:=hgk.blk.free 3
   have hrd:Rd (wr.alloc (.cells #[.int .i64 x] 2)) 1 (.slice (some ⟨wr.heap.size,0,none⟩) 1 1) 1 (ints [x]):=Rd.lit1 wr (.int .i64 x) 2 1
   clear hgk hgk' hmv hgw hO hS htk hTK hm
   by_cases h16:m+1<16
   ·have d3:decide ((16:Int)≤(m:Int)+1)=false:=decide_eq_false (by omega)
    have d3':decide (16≤m+1)=false:=decide_eq_false (by omega)
    have HP1:=Lib.hid (show Dk.put1 x=Dk.wait x from by rw [GkD.put1,if_neg];simp [GkD.wait];have:=HM.out;omega)
    go_wp2_with (at_builtin;go_must (refine wpList_append_src _ rfl (.tmp 37) (.tmp 39) 100 100 rfl 2 _ 1 8 under_ints info_i64 rfl (by decide) (.slice wo m wc) m (ints Dk.waits) rfl (HOW.out.alloc _) (.slice (some ⟨wr.heap.size,0,none⟩) 1 1) 1 (ints [x]) rfl (Src.of_rd under_ints hrd) (ints_oneCell _) (by unfold maxLen;omega) (by omega) ?_;intro a5 c5 w7 ho7 hg7 hf7;have hgr:Chg (blkOf (.slice wo m wc)) wr w7:=((Chg.refl (blkOf (.slice wo m wc)) wr).alloc (.cells #[.int .i64 x] 2)).trans' hg7 (fun b hb=>.inl hb);have hb7:=HGK.out.blk.chg hgr HGK.out.p_wv;have f37:=hb7.free 3;have f47:=hb7.free 4;have c37:w7.cell? ⟨p,3,none⟩=some (.slice wo m wc):=hb7.cell 3;have c47:w7.cell? ⟨p,4,none⟩=some (.int .u64 (TK:Nat)):=(by rw [HTK.out];exact hb7.cell 4)))
    have hadd:=HGK.out.add (x:=x) hgr (wv2:=.slice a5 (m+1) c5) (by have h:=ho7;rw [HM.out] at h ⊢;exact h) (fun b hb=>by
     rcases hf7 b (by simpa using hb) with h|h
     ·exact .inl h
     ·simp at h;exact .inr (by omega))
    rw [←HTK.out,show ((TK+1:Nat):Int)=(TK:Int)+1 from by omega] at hadd
    have HA1:=Lib.hid hadd.1
    have HA2:=Lib.hid hadd.2
    clear hadd
    exact ⟨⟨k+1,_,_,by omega,by go_num,by rw [HPS.out,HP1.out];exact HA1.out,HMV.out.trans HA2.out⟩,by simp [intOf];omega⟩
   ·have d3:decide ((16:Int)≤(m:Int)+1)=true:=decide_eq_true (by omega)
    have d3':decide (16≤m+1)=true:=decide_eq_true (by omega)
    have HP1:=Lib.hid (show Dk.put1 x=(Dk.wait x).flush from by rw [GkD.put1,if_pos];simp [GkD.wait];have:=HM.out;omega)
    go_wp2_with (at_builtin;go_must (refine wpList_append_src _ rfl (.tmp 37) (.tmp 39) 100 100 rfl 2 _ 1 8 under_ints info_i64 rfl (by decide) (.slice wo m wc) m (ints Dk.waits) rfl (HOW.out.alloc _) (.slice (some ⟨wr.heap.size,0,none⟩) 1 1) 1 (ints [x]) rfl (Src.of_rd under_ints hrd) (ints_oneCell _) (by unfold maxLen;omega) (by omega) ?_;intro a5 c5 w7 ho7 hg7 hf7;have hgr:Chg (blkOf (.slice wo m wc)) wr w7:=((Chg.refl (blkOf (.slice wo m wc)) wr).alloc (.cells #[.int .i64 x] 2)).trans' hg7 (fun b hb=>.inl hb);have hb7:=HGK.out.blk.chg hgr HGK.out.p_wv;have f37:=hb7.free 3;have f47:=hb7.free 4;have c37:w7.cell? ⟨p,3,none⟩=some (.slice wo m wc):=hb7.cell 3;have c47:w7.cell? ⟨p,4,none⟩=some (.int .u64 (TK:Nat)):=(by rw [HTK.out];exact hb7.cell 4)))
    have hadd:=HGK.out.add (x:=x) hgr (wv2:=.slice a5 (m+1) c5) (by have h:=ho7;rw [HM.out] at h ⊢;exact h) (fun b hb=>by
     rcases hf7 b (by simpa using hb) with h|h
     ·exact .inl h
     ·simp at h;exact .inr (by omega))
    rw [←HTK.out,show ((TK+1:Nat):Int)=(TK:Int)+1 from by omega] at hadd
    have HA1:=Lib.hid hadd.1
    have HA2:=Lib.hid hadd.2
    clear hadd
    have hwl:(Dk.wait x).waits.length=m+1:=by simp [GkD.wait,HM.out]
    refine (gk_flush _ p rv' _ (Dk.wait x) HA1.out ⟨HO.out.fine,HO.out.placed,HO.out.len,by omega,HO.out.tight⟩ (by show goodK Dk.num Dk.den=true;rw [HSD.out.1,HSD.out.2.1];exact HGD.out) (by
     have h:=HSD.out.2.2
     have h2:=HT.out
     have h3:(Dk.wait x).total=Dk.total+1:=by simp [GkD.wait,GkD.total];omega
     omega)).mono ?_
    rintro e w8 ⟨rfl,rv8,wv8,hg8,hm8⟩
    have HG8:=Lib.hid hg8
    have HM8:=Lib.hid (HA2.out.trans hm8)
    clear hg8 hm8 hwl
    go_wp2_with fail
    exact ⟨⟨k+1,_,_,by omega,by go_num,by rw [HPS.out,HP1.out];exact HG8.out,HMV.out.trans HM8.out⟩,by simp [intOf];omega⟩
  ·obtain rfl:k=n:=by omega
   have HE:=Lib.hid hgk
   have HEM:=Lib.hid hmv
   clear hgk hmv
   go_wp2_with fail
   go_ret
   exact ⟨rfl,_,_,HE.out,HEM.out⟩
end Go.Proofs.YthoolcpcmhhkpaaGreatDoor
