/-
  Parts of a proof, pressed. Conditions: the form's own reach.
-/
import Derived.Test.YthoolcpcmhhkpaaGreatDoorSuiteTurnedB41
import Derived.Test.YthoolcpcmhhkpaaGreatDoorSuiteTurnedB16
import Derived.Test.YthoolcpcmhhkpaaGreatDoorSuiteTurnedB43
import Derived.Laws.StructEq
import Derived.Test.YthoolcpcmhhkpaaGreatDoorSuiteTurnedB3
import Derived.Test.YthoolcpcmhhkpaaGreatDoorSuiteTurnedB40
import Derived.Test.YthoolcpcmhhkpaaGreatDoorSuiteTurnedB6
import Derived.Test.YthoolcpcmhhkpaaGreatDoorSuiteTurnedB21
import Derived.Test.YthoolcpcmhhkpaaGreatDoorSuiteTurnedB4
namespace Go.Proofs.YthoolcpcmhhkpaaGreatDoor
open Go.RowKit
set_option maxRecDepth 100000 in
set_option maxHeartbeats 1000000 in
theorem clone_i (w:World) (ao:Option Addr) (cap n:Nat) (l:List Int) (hrd:Rd w 1 (.slice ao n cap) n (ints l)) (hl:n≤100000000000) :
 Calls Tryz.prog 176 #[.slice ao n cap] w fun e w'=>∃ a3 c3,e=.returned (.slice a3 n c3)∧Own w' 2 1 (.slice a3 n c3) n (ints l)∧Chg [] w w'∧∀ b∈abl a3,w.heap.size≤b:=by
 have hu:∀ (w:World) (a:Option Addr) (n c n' c':Nat),(binOp .eql 100 (.slice a n c) (.slice none n' c')).run Tryz.prog w=.ok (.bool a.isNone) w:=fun w a n c n' c'=>Lib.run_eql_slice_nil w _ _ a n c n' c' under_ints
 cases ao with
 | none =>
   obtain ⟨hx,ao,cp,h0,h1⟩:=hrd
   simp only [Value.slice.injEq] at h0
   obtain ⟨rfl,-,-⟩:=h0
   obtain rfl:n=0:=by
    rcases h1 with h1|⟨_,_,h1,_⟩
    ·exact h1
    ·simp at h1
   have hxl:l=[]:=List.eq_nil_of_length_eq_zero (by simpa using hx)
   subst hxl
   go_enter Tryz.func176,Tryz.ntmps176
   go_wp2
   go_ret
   exact ⟨none,0,rfl,Own.nil _ _ _,Chg.refl _ _,by simp⟩
 | some a =>
   go_enter Tryz.func176,Tryz.ntmps176
   go_wp2_with (at_builtin;go_must (refine wpList_append_src _ rfl (.tmp 5) (.tmp 6) 100 100 rfl 2 _ 1 8 under_ints info_i64 rfl (by decide) (.slice (some ⟨w.heap.size,0,none⟩) 0 0) 0 (ints []) rfl (Own.lit w 2 1 0 #[] rfl (by unfold maxLen;omega)) (.slice (some a) n cap) n (ints l) rfl (Src.of_rd under_ints (hrd.alloc _)) (ints_oneCell _) (by unfold maxLen;omega) (by omega) ?_;intro a5 c5 w2 ho2 hg2 hf2))
   go_ret
   rw [Nat.zero_add] at ho2
   refine ⟨a5,c5,by simp,by simpa [ints] using ho2,((Chg.refl [] w).alloc _).trans' hg2 (by simp),fun b hb => ?_⟩
   rcases hf2 b hb with h|h
   ·simp at h;omega
   ·simp at h;omega
set_option maxRecDepth 100000 in
set_option maxHeartbeats 1000000 in
theorem clone_t (w:World) (ao:Option Addr) (cap n:Nat) (l:List Tp) (hrd:Rd w 3 (.slice ao n cap) n (tpCells l)) (hl:n≤100000000000) :
 Calls Tryz.prog 175 #[.slice ao n cap] w fun e w'=>∃ a3 c3,e=.returned (.slice a3 n c3)∧Own w' 194 3 (.slice a3 n c3) n (tpCells l)∧Chg [] w w'∧∀ b∈abl a3,w.heap.size≤b:=by
 have hu:∀ (w:World) (a:Option Addr) (n c n' c':Nat),(binOp .eql 189 (.slice a n c) (.slice none n' c')).run Tryz.prog w=.ok (.bool a.isNone) w:=fun w a n c n' c'=>Lib.run_eql_slice_nil w _ _ a n c n' c' under_tuples
 cases ao with
 | none =>
   obtain ⟨hx,ao,cp,h0,h1⟩:=hrd
   simp only [Value.slice.injEq] at h0
   obtain ⟨rfl,-,-⟩:=h0
   obtain rfl:n=0:=by
    rcases h1 with h1|⟨_,_,h1,_⟩
    ·exact h1
    ·simp at h1
   have hxl:l=[]:=List.eq_nil_of_length_eq_zero (by rw [tpCells_len] at hx;omega)
   subst hxl
   go_enter Tryz.func175,Tryz.ntmps175
   go_wp2
   go_ret
   exact ⟨none,0,rfl,Own.nil _ _ _,Chg.refl _ _,by simp⟩
 | some a =>
   go_enter Tryz.func175,Tryz.ntmps175
   go_wp2_with (at_builtin;go_must (refine wpList_append_src _ rfl (.tmp 5) (.tmp 6) 189 189 rfl 194 _ 3 24 under_tuples info_tuple rfl (by decide) (.slice (some ⟨w.heap.size,0,none⟩) 0 0) 0 (tpCells []) rfl (Own.lit w 194 3 0 #[] rfl (by unfold maxLen;omega)) (.slice (some a) n cap) n (tpCells l) rfl (Src.of_rd under_tuples (hrd.alloc _)) (tpCells_oneCell _) (by unfold maxLen;omega) (by omega) ?_;intro a5 c5 w2 ho2 hg2 hf2))
   go_ret
   rw [Nat.zero_add] at ho2
   refine ⟨a5,c5,by simp,by simpa [tpCells] using ho2,((Chg.refl [] w).alloc _).trans' hg2 (by simp),fun b hb => ?_⟩
   rcases hf2 b hb with h|h
   ·simp at h;omega
   ·simp at h;omega
set_option maxRecDepth 100000 in
set_option maxHeartbeats 2000000 in
theorem gk_row (w:World) (p:Nat) (rv wv:Value) (D:GkD) (h:Gk w p rv wv D) (n m:Nat) (hn:n=D.row.length) (hm:m=D.waits.length) (hl:n≤3000000000) (hl2:m≤100) :
 Calls Tryz.prog 111 #[.pointer (some ⟨p,0,none⟩)] w fun e w'=>∃ a1 c1 a2 c2,e=.returned (.tuple #[.slice a1 n c1,.slice a2 m c2])∧Own w' 194 3 (.slice a1 n c1) n (tpCells D.row)∧Own w' 2 1 (.slice a2 m c2) m (ints D.waits)∧Chg [] w w'∧(∀ b∈abl a1,w.heap.size≤b)∧∀ b∈abl a2,w.heap.size≤b:=by
 obtain ⟨ro,rc,hrv⟩:=h.row.shape
 obtain ⟨wo,wc,hwv⟩:=h.wait.shape
 subst hrv hwv
 rw [←hn,←hm] at h
 obtain ⟨-,-,c2,c3,-⟩:=h.cells
 have hb:=h.blk
 have HR:=Lib.hid (fun u (hu:Chg [] w u)=>clone_t u ro rc n D.row (by have h1:=(h.chg hu (by simp)).row.rd;rw [←hn] at h1;exact h1) (by omega))
 have HW:=Lib.hid (fun u (hu:Chg [] w u)=>clone_i u wo wc m D.waits (by have h1:=(h.chg hu (by simp)).wait.rd;rw [←hm] at h1;exact h1) (by omega))
 have HC:=Lib.hid (fun u (hu:Chg [] w u)=>show u.cell? ⟨p,2,none⟩=some (.slice ro n rc)∧u.cell? ⟨p,3,none⟩=some (.slice wo m wc) from by
  obtain ⟨-,-,c2,c3,-⟩:=(h.chg hu (by simp)).cells
  exact ⟨c2,c3⟩)
 clear h hb hn hm
 go_enter Tryz.func111,Tryz.ntmps111
 go_wp2_with fail
 go_region_with (first|(go_at_call 175;refine (HR.out _ (by with_reducible (repeat (first|exact Chg.refl _ _|apply Chg.drew)))).mono ?_;rintro e w1 ⟨a1,c1,rfl,ho1,hc1,hf1⟩;(have h1w:Chg [] w w1:=Chg.trans (by with_reducible (repeat (first|exact Chg.refl _ _|apply Chg.drew))) hc1);obtain ⟨q2,q3⟩:=HC.out _ h1w)|(go_at_call 176;refine (HW.out _ (by with_reducible (repeat (first|exact h1w|apply Chg.drew)))).mono ?_;rintro e w2 ⟨a2,c2',rfl,ho2,hc2,hf2⟩))
 all_goals
  go_wp2_with fail
  go_ret2
  exact ⟨a1,c1,a2,c2',rfl,ho1.chg hc2 (by simp),ho2,h1w.trans hc2,hf1,fun b hb=>Nat.le_trans h1w.size (hf2 b hb)⟩
set_option maxRecDepth 100000 in
theorem gk_put_zero (w:World) (p:Nat) (x:Int):Calls Tryz.prog 110 #[.pointer (some ⟨p,0,none⟩),.int .i64 x,.int .u64 0] w fun e w'=>e=.returned (.int .i64 1)∧w=w':=by
 go_enter Tryz.func110,Tryz.ntmps110
 go_wp2
 go_ret
 exact ⟨rfl,rfl⟩
end Go.Proofs.YthoolcpcmhhkpaaGreatDoor
namespace Go.Proofs.YthoolcpcmhhkpaaGreatDoor
def tupB (p:Tp):List UInt8:=natB (zig p.x)++(natB p.st++natB p.sl)
def putGk (D:GkD):List UInt8:=natB D.num++(natB D.den++(natB D.row.length++(D.row.flatMap tupB++(natB D.waits.length++intsB D.waits))))
structure Tp.fit (p:Tp):Prop where
 x:InR p.x
 s1:1≤p.st
 s2:p.st≤9223372036854775807
 sl:p.sl≤9223372036854775807
theorem tupB_len {p:Tp} (h:p.fit):3≤(tupB p).length∧(tupB p).length≤30:=by
 have h1:=natB_len10 (n:=zig p.x) (by have:=h.x.zig;omega)
 have h2:=natB_len10 (n:=p.st) (by have:=h.s2;omega)
 have h3:=natB_len10 (n:=p.sl) (by have:=h.sl;omega)
 have g:∀ n,1≤(natB n).length:=fun n=>by
  rw [natB]
  split<;>simp
 have g1:=g (zig p.x)
 have g2:=g p.st
 have g3:=g p.sl
 unfold tupB
 simp only [List.length_append]
 omega
theorem tupsB_len (l:List Tp) (h:∀ p∈l,p.fit):3*l.length≤(l.flatMap tupB).length∧(l.flatMap tupB).length≤30*l.length:=by
 induction l with
 | nil=>simp
 | cons p l ih =>
   have h1:=ih (fun q hq=>h q (by simp [hq]))
   have h2:=tupB_len (h p (by simp))
   simp only [List.flatMap_cons,List.length_append,List.length_cons] at h1 ⊢
   omega
structure GkD.inr (D:GkD):Prop where
 row:∀ p∈D.row,InR p.x
 waits:∀ x∈D.waits,InR x
theorem sqStep_from {m i:Nat} {r:List Tp} {p:Tp} (hi:i+1<r.length) (hm:p∈sqStep m i r):∃ q∈r,q.x=p.x:=by
 unfold sqStep at hm
 split at hm
 ·simp only [List.mem_append,List.mem_cons,List.not_mem_nil,or_false] at hm
  rcases hm with (hm|rfl)|hm
  ·exact ⟨p,List.mem_of_mem_take hm,rfl⟩
  ·exact ⟨_,getD_memT hi,rfl⟩
  ·exact ⟨p,List.mem_of_mem_drop hm,rfl⟩
 ·exact ⟨p,hm,rfl⟩
theorem sqStep_len2 {m i:Nat} {r:List Tp} (h:i+1<r.length):i<(sqStep m i r).length:=by
 unfold sqStep
 split
 ·simp only [List.length_append,List.length_take,List.length_drop,List.length_cons,List.length_nil]
  omega
 ·omega
theorem sqTo_from {m:Nat}:∀ (i:Nat) (r:List Tp) (p:Tp),(0<i→i+1<r.length)→p∈sqTo m i r→∃ q∈r,q.x=p.x
 | 0,r,p,_,h=>⟨p,h,rfl⟩
 | i+1,r,p,hi,h=>by
   have h1:=hi (by omega)
   obtain ⟨q,hq,e⟩:=sqTo_from i (sqStep m (i+1) r) p (fun h0=>by have:=sqStep_len2 (m:=m) (i:=i+1) h1;omega) h
   obtain ⟨q2,hq2,e2⟩:=sqStep_from h1 hq
   exact ⟨q2,hq2,e2.trans e⟩
theorem sqT_from {m:Nat} {r:List Tp} {p:Tp} (h:p∈sqT m r):∃ q∈r,q.x=p.x:=sqTo_from _ r p (fun _=>by omega) h
theorem ins1_from {r:List Tp} {x:Int} {p:Tp} (h:p∈ins1 r x):p.x=x∨∃ q∈r,q.x=p.x:=by
 unfold ins1 insT at h
 simp only [List.mem_append,List.mem_cons,List.not_mem_nil,or_false] at h
 rcases h with (h|rfl)|h
 ·exact .inr ⟨p,List.mem_of_mem_take h,rfl⟩
 ·exact .inl rfl
 ·exact .inr ⟨p,List.mem_of_mem_drop h,rfl⟩
theorem insAll_inr:∀ (ws:List Int) {r:List Tp},(∀ p∈r,InR p.x)→(∀ x∈ws,InR x)→∀ p∈insAll r ws,InR p.x
 | [],_,h,_=>h
 | x::ws,r,h,hw=>insAll_inr ws (r:=ins1 r x) (fun p hp=>by
    rcases ins1_from hp with e|⟨q,hq,e⟩
    ·rw [e];exact hw x (by simp)
    ·rw [←e];exact h q hq) (fun y hy=>hw y (by simp [hy]))
theorem sortL_memG (l:List Int) (x:Int):x∈sortL l↔x∈l:=by
 have h1:=GkD.upC_sort l
 have key:∀ (a:List Int),x∈a↔upC a (x-1)<upC a x:=fun a=>by
  induction a with
  | nil=>simp [upC]
  | cons y a ih =>
    have e:∀ z,upC (y::a) z=(if y≤z then 1 else 0)+upC a z:=fun z=>by
     unfold upC
     rw [List.countP_cons]
     simp only [decide_eq_true_eq]
     omega
    have hmono:upC a (x-1)≤upC a x:=by
     unfold upC
     apply List.countP_mono_left
     intro z _ hz
     simp only [decide_eq_true_eq] at hz ⊢
     omega
    rw [e,e,List.mem_cons,ih]
    constructor
    ·rintro (rfl|h)
     ·rw [if_neg (by omega),if_pos (by omega)];omega
     ·by_cases c:y≤x-1
      ·rw [if_pos c,if_pos (by omega)];omega
      ·rw [if_neg c];omega
    ·intro h
     by_cases c:y=x
     ·exact .inl c.symm
     ·right
      by_cases c2:y≤x-1
      ·rw [if_pos c2,if_pos (by omega)] at h;omega
      ·rw [if_neg c2,if_neg (by omega)] at h;omega
 rw [key,key,h1,h1]
namespace GkD.inr
variable {D O:GkD}
theorem flush (h:D.inr):D.flush.inr:=by
 unfold GkD.flush
 split
 ·exact h
 ·refine ⟨fun p hp => ?_,by simp⟩
  obtain ⟨q,hq,e⟩:=sqT_from hp
  rw [←e]
  exact insAll_inr _ h.row (fun x hx=>h.waits x ((sortL_memG _ x).1 hx)) q hq
theorem put1 (h:D.inr) {x:Int} (hx:InR x):(D.put1 x).inr:=by
 have hw:(D.wait x).inr:=⟨h.row,fun y hy=>by
  rcases List.mem_append.1 hy with hy|hy
  ·exact h.waits y hy
  ·rw [List.mem_singleton.1 hy];exact hx⟩
 unfold GkD.put1
 split
 ·exact hw.flush
 ·exact hw
theorem putN (h:D.inr) {x:Int} (hx:InR x) (k:Nat):(D.putN x k).inr:=by
 induction k with
 | zero=>exact h
 | succ k ih=>exact put1 ih hx
theorem new (num den:Nat):(GkD.new num den).inr:=⟨by simp [GkD.new],by simp [GkD.new]⟩
end GkD.inr
theorem limG_le {num den n:Nat} (hg:goodK num den=true) (hn:1≤n):limG num den n≤n:=by
 have h:=of_decide_eq_true hg
 have h1:2*num≤den:=by omega
 have h2:2*num*n / den≤n:=by
  apply Nat.div_le_of_le_mul
  exact Nat.mul_le_mul_right n h1
 unfold limG
 omega
theorem GkD.ok.fit {D:GkD} (h:D.ok) (hr:D.inr) (hg:goodK D.num D.den=true) (hn:D.total≤9223372036854775807):∀ p∈D.row,p.fit∧p.st+p.sl≤D.total:=fun p hp=>by
 have h0:1≤D.vals.length:=Nat.le_trans (by cases hd:D.row with|nil=>rw [hd] at hp;simp at hp|cons a l=>simp) h.len
 have h1:=h.tight p hp
 have h2:=limG_le hg h0
 have h3:=h.fine.pos p hp
 have h4:D.total=D.vals.length+D.waits.length:=rfl
 exact ⟨⟨hr.row p hp,h3,by omega,by omega⟩,by omega⟩
theorem natB_len3 {n:Nat} (h:n≤2000000):(natB n).length≤3:=natB_len 2 n (by omega)
theorem putGk_len {D:GkD} (h:D.ok) (hr:D.inr) (hg:goodK D.num D.den=true) (hn:D.total≤16000):(putGk D).length≤260000:=by
 have hgd:=of_decide_eq_true hg
 have hf:=h.fit hr hg (by omega)
 have hl:=h.len
 have hw:=h.few
 have ht:D.total=D.vals.length+D.waits.length:=rfl
 have e1:=natB_len10 (n:=D.num) (by omega)
 have e2:=natB_len10 (n:=D.den) (by omega)
 have e3:=natB_len10 (n:=D.row.length) (by omega)
 have e4:=natB_len10 (n:=D.waits.length) (by omega)
 have e5:=intsB_len D.waits hr.waits
 have e6:∀ (l:List Tp),(∀ p∈l,p.fit∧p.st+p.sl≤D.total)→(l.flatMap tupB).length≤16*l.length:=fun l hl=>by
  induction l with
  | nil=>simp
  | cons p l ih =>
    have h1:=ih (fun q hq=>hl q (by simp [hq]))
    obtain ⟨h2,h3⟩:=hl p (by simp)
    have g1:=natB_len10 (n:=zig p.x) (by have:=h2.x.zig;omega)
    have g2:=natB_len3 (n:=p.st) (by omega)
    have g3:=natB_len3 (n:=p.sl) (by omega)
    simp only [List.flatMap_cons,List.length_append,List.length_cons,tupB] at h1 ⊢
    omega
 have e7:=e6 D.row hf
 unfold putGk
 simp only [List.length_append]
 omega
structure GkR where
 num:Nat
 den:Nat
 row:Option (List Tp)
 waits:List Int
def GkD.told (D:GkD):GkR:=⟨D.num,D.den,some D.row,D.waits⟩
end Go.Proofs.YthoolcpcmhhkpaaGreatDoor
namespace Go.Proofs.YthoolcpcmhhkpaaGreatDoor
open Go.RowKit
end Go.Proofs.YthoolcpcmhhkpaaGreatDoor
namespace Go.Proofs.YthoolcpcmhhkpaaGreatDoor
namespace GkD
def ends (D:GkD):List Int:=if D.row=[] then D.waits else D.waits++[(D.row.getD 0 default).x,(D.row.getD (D.row.length-1) default).x]
end GkD
end Go.Proofs.YthoolcpcmhhkpaaGreatDoor
namespace Go.Proofs.YthoolcpcmhhkpaaGreatDoor
open Go.RowKit
set_option maxRecDepth 100000 in
theorem gk_part (w:World) (p:Nat) (rv wv:Value) (D:GkD) (h:Gk w p rv wv D) :
 Calls Tryz.prog 380 #[.pointer (some ⟨p,0,none⟩)] w fun e w'=>e=.returned (.agg #[.int .u64 (D.num:Nat),.int .u64 (D.den:Nat)])∧Chg [] w w':=by
 obtain ⟨c0,c1,-,-,-⟩:=(h.chg ((Chg.refl [] w).alloc (.cells #[.int .u64 0,.int .u64 0] 25)) (by simp)).cells
 have hb:=Blk.alloc_new w #[.int .u64 0,.int .u64 0] 25
 have z0:=hb.cell 0
 have z1:=hb.cell 1
 have f0:=hb.free 0
 have f1:=hb.free 1
 go_enter Tryz.func380,Tryz.ntmps380
 go_wp2
 have hb2:=Blk.alloc_new w #[.int .u64 (D.num:Nat),.int .u64 (D.den:Nat)] 25
 have y0:=hb2.cell 0
 have y1:=hb2.cell 1
 refine bodyPost_ret (v:=.agg #[.int .u64 (D.num:Nat),.int .u64 (D.den:Nat)]) (by simp [results,Tryz.results380,go_sem,y0,y1]) rfl ⟨rfl,?_⟩
 with_reducible (repeat (first|exact Chg.refl _ _|apply Chg.alloc))
end Go.Proofs.YthoolcpcmhhkpaaGreatDoor
namespace Go.Proofs.YthoolcpcmhhkpaaGreatDoor
open Go.RowKit
theorem enters_gwpart:∀ (args:Array Value) (w:World),(callFunc 380 args).run Tryz.prog w=.ok (.enter 380 args) w:=enters_of Tryz.func380 (by kernel_rfl) rfl
theorem fa_rat0 (u:World) (a b:Int):(Instr.field 25 (.agg #[.int .u64 a,.int .u64 b]) 0).run Tryz.prog u=.ok (.int .u64 a) u:=by kernel_rfl
theorem fa_rat1 (u:World) (a b:Int):(Instr.field 25 (.agg #[.int .u64 a,.int .u64 b]) 1).run Tryz.prog u=.ok (.int .u64 b) u:=by kernel_rfl
theorem flatMap_takeT {α:Type} (f:α→List UInt8) (l:List α) (k:Nat) (h:k<l.length):(l.take (k+1)).flatMap f=(l.take k).flatMap f++f l[k]:=by
 rw [List.take_succ_eq_append_getElem h,List.flatMap_append];simp
set_option maxRecDepth 100000 in
set_option maxHeartbeats 4000000 in
theorem gk_write (w:World) (p:Nat) (rv wv:Value) (D:GkD) (d:Gk w p rv wv D) (hok:D.ok) (hinr:D.inr) (hg:goodK D.num D.den=true) (hs:D.total≤40000) (q:Nat) (F:List Nat) (l:List UInt8) (hl:l.length≤1000) (hql:Qul w q F l) :
 Calls Tryz.prog 378 #[.agg #[.pointer (some ⟨p,0,none⟩)],.pointer (some ⟨q,0,none⟩)] w fun e w'=>e=.returned (.tuple #[])∧∃ F',Qul w' q F' (l++putGk D)∧Mv F w F' w':=by
 obtain ⟨n,hn⟩:∃ n,n=D.row.length:=⟨_,rfl⟩
 obtain ⟨m,hm⟩:∃ n,n=D.waits.length:=⟨_,rfl⟩
 have hgd:=of_decide_eq_true hg
 have hfit:=hok.fit hinr hg (by omega)
 have hlen:=hok.len
 have hfew:=hok.few
 have hn5:n≤40000:=by unfold GkD.total at hs;omega
 have hm16:m<16:=by omega
 have HRW:=Lib.hid (fun u (hu:Chg [] w u)=>gk_row u p rv wv D (d.chg hu (by simp)) n m hn hm (by omega) (by omega))
 have HPT:=Lib.hid (fun u (hu:Chg [] w u)=>gk_part u p rv wv D (d.chg hu (by simp)))
 have HFIT:=Lib.hid hfit
 have HTB:=Lib.hid (fun k=>show ((D.row.take k).flatMap tupB).length≤30*40000 from by
  have h1:=(tupsB_len (D.row.take k) (fun p hp=>(hfit p (List.mem_of_mem_take hp)).1)).2
  have h2:(D.row.take k).length≤D.row.length:=by rw [List.length_take];omega
  omega)
 have HWR:=Lib.hid hinr.waits
 have HQL:=Lib.hid (fun u (hu:Chg [] w u)=>hql.chg hu (by simp))
 have HFL:=Lib.hid (show ∀ b∈F,b<w.heap.size from hql.lt)
 have HPD:=Lib.hid (show putGk D=natB D.num++(natB D.den++(natB D.row.length++(D.row.flatMap tupB++(natB D.waits.length++intsB D.waits)))) from rfl)
 rw [←hn,←hm] at HPD
 have HN:=Lib.hid (And.intro hn hm)
 generalize putGk D=PD at *
 obtain ⟨nu,hnu⟩:∃ x,x=D.num:=⟨_,rfl⟩
 obtain ⟨de,hde⟩:∃ x,x=D.den:=⟨_,rfl⟩
 rw [←hnu,←hde] at HPT HPD hgd
 obtain ⟨b0,hb0⟩:∃ z,z=w.heap.size:=⟨_,rfl⟩
 have HB:=Lib.hid (show Blk (w.alloc (.cells #[.pointer (some ⟨p,0,none⟩)] 223)) b0 #[.pointer (some ⟨p,0,none⟩)] 223 from by rw [hb0];exact Blk.alloc_new _ _ _)
 have HC0:=Lib.hid ((Chg.refl [] w).alloc (.cells #[.pointer (some ⟨p,0,none⟩)] 223))
 have HB0:=Lib.hid (show w.heap.size≤b0 from by omega)
 have hwn:IntKind.u64.wrap (n:Int)=(n:Int):=IntWalk.u64_in _ (by omega)
 have hwm:IntKind.u64.wrap (m:Int)=(m:Int):=IntWalk.u64_in _ (by omega)
 have HDF:=Lib.hid (show nu≤2147483648∧de≤2147483648∧n≤40000∧m<16 from ⟨by omega,by omega,hn5,hm16⟩)
 clear d hok hql hinr hg hs hn hm hgd hfit hlen hfew hnu hde
 go_enter Tryz.func378,Tryz.ntmps378
 go_wp2_with fail
 rw [←hb0]
 clear hb0
 generalize w.alloc (.cells #[.pointer (some ⟨p,0,none⟩)] 223)=w0 at *
 have hc0:=HB.out.cell 0
 simp only [List.getElem?_toArray,List.getElem?_cons_zero] at hc0
 go_wp2_with fail
 refine (HRW.out _ HC0.out).mono ?_
 rintro e w1 ⟨a1,k1,a2,k2,rfl,ho1,ho2,hc1,hf1,hf2⟩
 have HC1:=Lib.hid (HC0.out.trans hc1)
 have HB1:=Lib.hid (HB.out.chg hc1 (by simp))
 have HOW:=Lib.hid (And.intro ho1 ho2)
 have HFR:=Lib.hid (show (∀ b∈abl a1,w.heap.size≤b)∧∀ b∈abl a2,w.heap.size≤b from ⟨fun b hb=>Nat.le_trans HC0.out.size (hf1 b hb),fun b hb=>Nat.le_trans HC0.out.size (hf2 b hb)⟩)
 clear hc0 hc1 ho1 ho2 hf1 hf2 HB HC0 HRW
 have hc0:=HB1.out.cell 0
 simp only [List.getElem?_toArray,List.getElem?_cons_zero] at hc0
 go_wp2_with fail
 have fa0:=fa_rat0
 have fa1:=fa_rat1
 have hSS:w1.drew.cell? ⟨b0,0,none⟩=some (.pointer (some ⟨p,0,none⟩)):=hc0
 have HKS:=Lib.hid ((Chg.refl [] w1).drew)
 refine startN (S:=fun wx=>wx.cell? ⟨b0,0,none⟩=some (.pointer (some ⟨p,0,none⟩))) (by kernel_rfl) hSS (fun hHeld => ?_)
 refine takeN (i:=0) (v:=?va0) rfl (by kernel_rfl) (by kernel_rfl) (by kernel_rfl) (fun _ _ _ h=>h) (Or.inl ⟨by rfl,?ya0⟩) hSS ?ra0
 case ya0=>(intro w hSw;(try dsimp only at hSw);go_simp;first|done|with_reducible rfl)
 try simp only [Act.put,jI,jZ,jS]
 refine takeN (i:=1) (v:=?va1) rfl (by kernel_rfl) (by kernel_rfl) (by kernel_rfl) (fun _ _ _ h=>h) (Or.inl ⟨by rfl,?ya1⟩) hSS ?ra1
 case ya1=>(intro w hSw;(try dsimp only at hSw);go_simp;first|done|with_reducible rfl)
 try simp only [Act.put,jI,jZ,jS]
 refine takeN (i:=2) (v:=?va2) rfl (by kernel_rfl) (by kernel_rfl) (by kernel_rfl) (fun _ _ _ h=>h) (Or.inl ⟨by rfl,?ya2⟩) hSS ?ra2
 case ya2=>(intro w hSw;(try dsimp only at hSw);go_simp;first|done|with_reducible rfl)
 try simp only [Act.put,jI,jZ,jS]
 refine takeN (i:=5) (v:=?va5) rfl (by kernel_rfl) (by kernel_rfl) (by kernel_rfl) (fun _ _ _ h=>h) (Or.inl ⟨by rfl,?ya5⟩) hSS ?ra5
 case ya5=>(intro w hSw;(try dsimp only at hSw);go_simp;first|done|with_reducible rfl)
 try simp only [Act.put,jI,jZ,jS]
 refine takeN (i:=6) (v:=?va6) rfl (by kernel_rfl) (by kernel_rfl) (by kernel_rfl) (fun _ _ _ h=>h) (Or.inl ⟨by rfl,?ya6⟩) hSS ?ra6
 case ya6=>(intro w hSw;(try dsimp only at hSw);go_simp;first|done|with_reducible rfl)
 try simp only [Act.put,jI,jZ,jS]
 refine takeN (i:=9) (v:=?va9) rfl (by kernel_rfl) (by kernel_rfl) (by kernel_rfl) (fun _ _ _ h=>h) (Or.inl ⟨by rfl,?ya9⟩) hSS ?ra9
 case ya9=>(intro w hSw;(try dsimp only at hSw);go_simp;first|done|with_reducible rfl)
 try simp only [Act.put,jI,jZ,jS]
 refine takeN (i:=10) (v:=?va10) rfl (by kernel_rfl) (by kernel_rfl) (by kernel_rfl) (fun _ _ _ h=>h) (Or.inl ⟨by rfl,?ya10⟩) hSS ?ra10
 case ya10=>(intro w hSw;(try dsimp only at hSw);go_simp;first|done|with_reducible rfl)
 try simp only [Act.put,jI,jZ,jS]
 refine takeN (i:=11) (v:=?va11) rfl (by kernel_rfl) (by kernel_rfl) (by kernel_rfl) (fun _ _ _ h=>h) (Or.inl ⟨by rfl,?ya11⟩) hSS ?ra11
 case ya11=>(intro w hSw;(try dsimp only at hSw);go_simp;first|done|with_reducible rfl)
 try simp only [Act.put,jI,jZ,jS]
 refine readyN (rs:=[3]) (by kernel_rfl) (by simp) (consN rfl (fun K hK => ?_) nilN)
 refine step_callsG (by rfl) 380 _ _ rfl enters_gwpart _ #[.pointer (some ⟨p,0,none⟩)] (by simp [Act.eval]) (HPT.out _ (HC1.out.trans HKS.out)) ?_;rintro e wa ⟨rfl,hccwa⟩;refine ⟨_,rfl,?_⟩
 have HKwa:=Lib.hid (HKS.out.trans hccwa)
 have hSwa:wa.cell? ⟨b0,0,none⟩=some (.pointer (some ⟨p,0,none⟩)):=hccwa.cell hSS (by simp)
 clear hccwa
 refine hK.out _ _ hSwa (fun hHeld => ?_)
 clear hK K hHeld
 try simp only [Act.put,jI,jZ,jS]
 refine takeN (i:=4) (v:=?va4) rfl (by kernel_rfl) (by kernel_rfl) (by kernel_rfl) (fun _ _ _ h=>h) (Or.inl ⟨by rfl,?ya4⟩) hSwa ?ra4
 case ya4=>(intro w hSw;(try dsimp only at hSw);go_simp;first|done|with_reducible rfl)
 try simp only [Act.put,jI,jZ,jS]
 refine readyN (rs:=[7]) (by kernel_rfl) (by simp) (consN rfl (fun K hK => ?_) nilN)
 refine step_callsG (by rfl) 380 _ _ rfl enters_gwpart _ #[.pointer (some ⟨p,0,none⟩)] (by simp [Act.eval]) (HPT.out _ (HC1.out.trans HKwa.out)) ?_;rintro e wb ⟨rfl,hccwb⟩;refine ⟨_,rfl,?_⟩
 have HKwb:=Lib.hid (HKwa.out.trans hccwb)
 have hSwb:wb.cell? ⟨b0,0,none⟩=some (.pointer (some ⟨p,0,none⟩)):=hccwb.cell hSwa (by simp)
 clear hccwb
 refine hK.out _ _ hSwb (fun hHeld => ?_)
 clear hK K hHeld
 try simp only [Act.put,jI,jZ,jS]
 refine takeN (i:=8) (v:=?va8) rfl (by kernel_rfl) (by kernel_rfl) (by kernel_rfl) (fun _ _ _ h=>h) (Or.inl ⟨by rfl,?ya8⟩) hSwb ?ra8
 case ya8=>(intro w hSw;(try dsimp only at hSw);go_simp;first|done|with_reducible rfl)
 try simp only [Act.put,jI,jZ,jS]
 refine readyN (rs:=[12]) (by kernel_rfl) (by simp) (consN rfl (fun K hK => ?_) nilN)
 refine step_bU3 rfl 18 22 25 rfl nu de n (by simp [Act.eval]) (by simp [Act.eval]) (by simp [Act.eval]) ?_;intro gb wc hrc hcc hgc
 have hSwc:wc.cell? ⟨b0,0,none⟩=some (.pointer (some ⟨p,0,none⟩)):=hcc.cell hSwb (by simp)
 have HKwc:=Lib.hid (HKwb.out.trans hcc)
 have HRC:=Lib.hid hrc
 have HGC:=Lib.hid (show w.heap.size≤gb from Nat.le_trans HC1.out.size (Nat.le_trans HKwb.out.size hgc))
 clear hcc hrc hgc
 refine hK.out _ _ hSwc (fun hHeld => ?_)
 clear hK K hHeld
 try simp only [Act.put,jI,jZ,jS]
 refine readyN (rs:=[13]) (by kernel_rfl) (by simp) (consN rfl (fun K hK => ?_) nilN)
 refine step_callsG (by rfl) 135 _ _ rfl enters_qnat _ #[.pointer (some ⟨q,0,none⟩),.slice (some ⟨gb,0,none⟩) 3 3] (by simp [Act.eval]) (qn_rd wc q F l (HQL.out _ (HC1.out.trans HKwc.out)) [nu,de,n] (by have:=HDF.out;intro u hu;simp only [List.mem_cons,List.not_mem_nil,or_false] at hu;rcases hu with rfl|rfl|rfl<;>omega) (by simp only [List.length_cons,List.length_nil];omega) 3 rfl gb HRC.out (fun e=>by have h1:=HFL.out gb e;have h2:=HGC.out;omega)) ?_;rintro e wd ⟨rfl,F3,T3,hq3,hT3,hL3,hm3⟩;refine ⟨_,rfl,?_⟩
 have HQ3:=Lib.hid (And.intro hq3 (And.intro hT3 hL3))
 have HM3:=Lib.hid ((Mv.of_chg (HKwc.out.mono (by simp)):Mv F w1 F wc).trans hm3)
 have hSwd:wd.cell? ⟨b0,0,none⟩=some (.pointer (some ⟨p,0,none⟩)):=hm3.chg.cell hSwc (fun e=>by have h1:=HFL.out b0 e;have h2:=HB0.out;omega)
 clear hq3 hm3 hT3 hL3
 refine hK.out _ _ hSwd (fun hHeld => ?_)
 clear hK K hHeld
 try simp only [Act.put,jI,jZ,jS]
 refine doneN (by kernel_rfl) ?_ _
 clear hSS hSwa hSwb hSwc hSwd HKS HKwa HKwb HKwc HRC HGC HPT hwn fa0 fa1 hc0
 have HAP:=Lib.hid (show (∀ b∈abl a1,b∉F)∧∀ b∈abl a2,b∉F from ⟨fun b hb e=>by have h1:=HFR.out.1 b hb;have h2:=HFL.out b e;omega,fun b hb e=>by have h1:=HFR.out.2 b hb;have h2:=HFL.out b e;omega⟩)
 have HLT:=Lib.hid (show (∀ b∈abl a1,b<w1.heap.size)∧∀ b∈abl a2,b<w1.heap.size from ⟨fun b hb=>HOW.out.1.lt b (by simpa using hb),fun b hb=>HOW.out.2.lt b (by simpa using hb)⟩)
 have HT3:=Lib.hid (show T3.length≤1030 from by have:=HQ3.out.2.2;omega)
 go_wp2_with fail
 go_loopw [30] (fun i wx=>∃ (k:Nat) (F':List Nat),k≤n∧i=.int .i64 (k:Nat)∧Hid (Qul wx q F' (T3++(D.row.take k).flatMap tupB)∧Mv F w1 F' wx)) (fun i _=>n-(intOf i).toNat)
 case atStart=>exact ⟨0,F3,Nat.zero_le _,rfl,Lib.hid ⟨by simpa using HQ3.out.1,HM3.out⟩⟩
 case round =>
  obtain ⟨k,F4,hk,rfl,HX⟩:=hrel
  by_cases hlt:k<n
  ·have hkl:k<D.row.length:=by have:=HN.out.1;omega
   have hrd:=HOW.out.1.rd.chg HX.out.2.chg (fun b hb e=>HAP.out.1 b (by simpa using hb) e)
   obtain ⟨g,o,rfl,hc⟩:=hrd.addr (by omega)
   obtain ⟨d0,d1,d2⟩:=tp_at (l:=D.row) (fun j hj=>hc j (by rw [HN.out.1];exact hj)) hkl
   have HFI:=Lib.hid (HFIT.out _ (List.getElem_mem hkl)).1
   have HFT:=Lib.hid (flatMap_takeT tupB D.row k hkl)
   obtain ⟨Z,hZ⟩:∃ Z,Z=T3++(D.row.take k).flatMap tupB:=⟨_,rfl⟩
   have hZl:Z.length≤2000000:=by
    rw [hZ]
    have h1:=HT3.out
    have h2:=HTB.out k
    simp only [List.length_append]
    omega
   have HZ:=Lib.hid hZ
   generalize D.row[k]=y at *
   obtain ⟨b6,hb6⟩:∃ z,z=wr.heap.size:=⟨_,rfl⟩
   have HB6:=Lib.hid (show Blk (wr.alloc (.cells #[.int .i64 y.x,.int .u64 (y.st:Nat),.int .u64 (y.sl:Nat)] 194)) b6 #[.int .i64 y.x,.int .u64 (y.st:Nat),.int .u64 (y.sl:Nat)] 194 from by rw [hb6];exact Blk.alloc_new _ _ _)
   have HC6:=Lib.hid ((Chg.refl [] wr).alloc (.cells #[.int .i64 y.x,.int .u64 (y.st:Nat),.int .u64 (y.sl:Nat)] 194))
   have hq4:=HX.out.1.chg HC6.out (by simp)
   rw [←hZ] at hq4
   have HQ4:=Lib.hid hq4
   have HM4:=Lib.hid (HX.out.2.trans (Mv.of_chg (HC6.out.nil (F:=F4))))
   have H64:=Lib.hid (show b6∉F4 from fun hb=>by have:=HX.out.1.lt _ hb;omega)
   clear hc hrd hZ hq4 HX
   go_wp2_with fail
   rw [←hb6]
   clear d0 d1 d2
   have HSZ:=Lib.hid (show (wr.alloc (.cells #[.int .i64 y.x,.int .u64 (y.st:Nat),.int .u64 (y.sl:Nat)] 194)).heap.size=b6+1 from by rw [World.size_alloc,hb6])
   clear hb6 HC6
   generalize wr.alloc (.cells #[.int .i64 y.x,.int .u64 (y.st:Nat),.int .u64 (y.sl:Nat)] 194)=w6 at *
   have z0:=HB6.out.cell 0
   have z1:=HB6.out.cell 1
   have z2:=HB6.out.cell 2
   simp only [List.getElem?_toArray,List.getElem?_cons_zero,List.getElem?_cons_succ] at z0 z1 z2
   have HQI:=Lib.hid (qi_lit w6 q F4 Z HQ4.out [y.x] (by intro u hu;simp only [List.mem_cons,List.not_mem_nil,or_false] at hu;rcases hu with rfl;exact HFI.out.x) (by simp only [List.length_cons,List.length_nil];omega) _ rfl 1 rfl (b6+1) HSZ.out.symm)
   go_wp2_with fail
   refine HQI.out.mono ?_
   rintro e w7 ⟨rfl,F7,T7,hq7,hT7,hL7,hm7⟩
   have HB7:=Lib.hid (HB6.out.chg hm7.chg H64.out)
   have HQ7:=Lib.hid (And.intro hq7 (And.intro hT7 hL7))
   have HM7:=Lib.hid (HM4.out.trans hm7)
   clear hq7 hm7 hT7 hL7 HQI z0 z1 z2 HB6
   have z1:=HB7.out.cell 1
   have z2:=HB7.out.cell 2
   simp only [List.getElem?_toArray,List.getElem?_cons_zero,List.getElem?_cons_succ] at z1 z2
   go_wp2_with fail
   refine (qn_lit w7 q F7 T7 HQ7.out.1 [y.st,y.sl] (by have h1:=HFI.out.s2;have h2:=HFI.out.sl;intro u hu;simp only [List.mem_cons,List.not_mem_nil,or_false] at hu;rcases hu with rfl|rfl<;>omega) (by have:=HQ7.out.2.2;simp only [List.length_cons,List.length_nil];omega) _ rfl 2 rfl _ rfl).mono ?_
   rintro e w8 ⟨rfl,F8,T8,hq8,hT8,hL8,hm8⟩
   have HM8:=Lib.hid (HM7.out.trans hm8)
   have HQ8:=Lib.hid (show Qul w8 q F8 (T3++(D.row.take (k+1)).flatMap tupB) from by
    have e:T8=T3++(D.row.take (k+1)).flatMap tupB:=by
     rw [HFT.out,←List.append_assoc,←HZ.out,hT8,HQ7.out.2.1]
     simp [tupB]
    rw [←e]
    exact hq8)
   clear hq8 hm8 hT8 hL8 z1 z2
   go_wp2_with fail
   exact ⟨⟨k+1,F8,by omega,by go_num,Lib.hid ⟨HQ8.out,HM8.out⟩⟩,by simp [intOf];omega⟩
  ·obtain rfl:k=n:=by omega
   have hfull:D.row.take k=D.row:=List.take_of_length_le (by have:=HN.out.1;omega)
   have hx:=HX.out
   rw [hfull] at hx
   obtain ⟨Z,hZ⟩:∃ Z,Z=T3++D.row.flatMap tupB:=⟨_,rfl⟩
   have hZl:Z.length≤2000000:=by
    rw [hZ]
    have h1:=HT3.out
    have h2:=HTB.out k
    rw [hfull] at h2
    simp only [List.length_append]
    omega
   rw [←hZ] at hx
   have HZ:=Lib.hid hZ
   have HE:=Lib.hid hx
   clear hx hfull HX hZ
   go_wp2_with fail
   refine (qn_lit wr q F4 Z HE.out.1 [m] (by have:=HDF.out;intro u hu;simp only [List.mem_cons,List.not_mem_nil,or_false] at hu;rcases hu with rfl;omega) (by simp only [List.length_cons,List.length_nil];omega) _ rfl 1 rfl _ rfl).mono ?_
   rintro e w9 ⟨rfl,F9,T9,hq9,hT9,hL9,hm9⟩
   have HM9:=Lib.hid (HE.out.2.trans hm9)
   have HQ9:=Lib.hid (And.intro hq9 (And.intro hT9 hL9))
   have hrw:=HOW.out.2.rd.chg HM9.out.chg (fun b hb e=>HAP.out.2 b (by simpa using hb) e)
   rw [HN.out.2] at hrw
   have HQI:=Lib.hid (quill_int w9 q F9 T9 a2 k2 D.waits (fun x hx=>HWR.out x hx) hq9 hrw (fun b hb e=>by
    rcases HM9.out.fr b e with h1|h1
    ·exact HAP.out.2 b hb h1
    ·have:=HLT.out.2 b hb;omega) (by have h1:=HN.out.2;have h2:=HDF.out;omega))
   rw [←HN.out.2] at HQI
   clear hq9 hT9 hL9 hm9 hrw
   go_wp2_with fail
   refine HQI.out.mono ?_
   rintro e w10 ⟨rfl,F10,hq10,hm10⟩
   have HQ10:=Lib.hid hq10
   have HM10:=Lib.hid hm10
   clear hq10 hm10 HQI
   go_wp2
   go_end0
   refine ⟨rfl,F10,?_,(Mv.of_chg (HC1.out.nil (F:=F))).trans (HM9.out.trans HM10.out)⟩
   have h1:=HQ10.out
   have e:T9++D.waits.flatMap (fun x=>natB (zig x))=l++PD:=by
    rw [HPD.out,HQ9.out.2.1,HZ.out,HQ3.out.2.1]
    simp [intsB]
   rw [←e]
   exact h1
set_option maxRecDepth 100000 in
set_option maxHeartbeats 4000000 in
theorem sk_enc_green (w:World) (s p:Nat) (c:Cf) (h:Sk w s c 223 p) (kk:UInt8) (hkk:c.kind=(kk.toNat:Nat)) (X:List UInt8)
 (HW0:∀ u q F,Chg [] w u→Qul u q F []→(∀ b∈F,w.heap.size≤b)→Calls Tryz.prog 378 #[.agg #[.pointer (some ⟨p,0,none⟩)],.pointer (some ⟨q,0,none⟩)] u fun e w'=>e=.returned (.tuple #[])∧∃ F',Qul w' q F' X∧Mv F u F' w') :
 Calls Tryz.prog 23 #[.pointer (some ⟨s,0,none⟩)] w fun e w'=>e=.returned (.tuple #[.string ⟨(encS kk X).toArray⟩,.int .i64 (encE X)])∧Chg [] w w':=by
 obtain ⟨S,hS⟩:∃ S,S=encS kk X:=⟨_,rfl⟩
 obtain ⟨E,hE⟩:∃ E,E=encE X:=⟨_,rfl⟩
 have HFC:=Lib.hid (fun u=>frame_closeV u kk X S E hS hE)
 rw [←hS,←hE]
 clear hS hE
 have HW:=Lib.hid HW0
 have hwk:=u8_kind hkk
 have HS:=Lib.hid (fun u (hu:Chg [] w u)=>(⟨(h.nil hu).kind,(h.nil hu).core⟩:_∧_))
 obtain ⟨k,hk⟩:∃ k,k=c.kind:=⟨_,rfl⟩
 rw [←hk] at HS hwk
 obtain ⟨q,hq⟩:∃ q,q=w.heap.size:=⟨_,rfl⟩
 have HQ0:=Lib.hid (show Qul (w.alloc (.cells #[.slice none 0 0] 120)) q [q] [] from by rw [hq];exact Qul.new w)
 have HC0:=Lib.hid ((Chg.refl [] w).alloc (.cells #[.slice none 0 0] 120))
 have HQN:=Lib.hid (show ∀ b∈[q],w.heap.size≤b from by intro b hb;rw [List.mem_singleton.1 hb,hq];exact Nat.le_refl _)
 obtain ⟨-,c11⟩:=HS.out _ HC0.out
 clear HW0 h hkk hk
 go_enter Tryz.func23,Tryz.ntmps23
 go_wp2_with fail
 rw [←hq]
 clear hq
 generalize w.alloc (.cells #[.slice none 0 0] 120)=w0 at *
 refine (HW.out w0 q [q] HC0.out HQ0.out HQN.out).mono ?_
 rintro e w1 ⟨rfl,F1,hq1,hm1⟩
 have HQ1:=Lib.hid hq1
 have HC1:=Lib.hid (hm1.chg_own HC0.out HQN.out)
 clear hq1 hm1 HQ0 HC0 HQN HW c11
 obtain ⟨c0,-⟩:=HS.out _ HC1.out
 go_wp2_with fail
 have hSS:w1.drew.cell? ⟨s,0,none⟩=some (.int .i64 k):=c0
 refine startN (S:=fun wx=>wx.cell? ⟨s,0,none⟩=some (.int .i64 k)) (by kernel_rfl) hSS (fun hHeld => ?_)
 refine takeN (i:=0) (v:=?va0) rfl (by kernel_rfl) (by kernel_rfl) (by kernel_rfl) (fun _ _ _ h=>h) (Or.inl ⟨by rfl,?ya0⟩) hSS ?ra0
 case ya0=>(intro w hSw;(try dsimp only at hSw);go_simp;first|done|with_reducible rfl)
 try simp only [Act.put,jI,jZ,jS]
 refine takeN (i:=1) (v:=?va1) rfl (by kernel_rfl) (by kernel_rfl) (by kernel_rfl) (fun _ _ _ h=>h) (Or.inl ⟨by rfl,?ya1⟩) hSS ?ra1
 case ya1=>(intro w hSw;(try dsimp only at hSw);go_simp;first|done|with_reducible rfl)
 try simp only [Act.put,jI,jZ,jS]
 refine takeN (i:=2) (v:=?va2) rfl (by kernel_rfl) (by kernel_rfl) (by kernel_rfl) (fun _ _ _ h=>h) (Or.inl ⟨by rfl,?ya2⟩) hSS ?ra2
 case ya2=>(intro w hSw;(try dsimp only at hSw);go_simp;first|done|with_reducible rfl)
 try simp only [Act.put,jI,jZ,jS]
 refine takeN (i:=3) (v:=?va3) rfl (by kernel_rfl) (by kernel_rfl) (by kernel_rfl) (fun _ _ _ h=>h) (Or.inl ⟨by rfl,?ya3⟩) hSS ?ra3
 case ya3=>(intro w hSw;(try dsimp only at hSw);go_simp;first|done|with_reducible rfl)
 try simp only [Act.put,jI,jZ,jS]
 refine takeN (i:=4) (v:=?va4) rfl (by kernel_rfl) (by kernel_rfl) (by kernel_rfl) (fun _ _ _ h=>h) (Or.inl ⟨by rfl,?ya4⟩) hSS ?ra4
 case ya4=>(intro w hSw;(try dsimp only at hSw);go_simp;first|done|with_reducible rfl)
 try simp only [Act.put,jI,jZ,jS]
 refine takeN (i:=5) (v:=?va5) rfl (by kernel_rfl) (by kernel_rfl) (by kernel_rfl) (fun _ _ _ h=>h) (Or.inl ⟨by rfl,?ya5⟩) hSS ?ra5
 case ya5=>(intro w hSw;(try dsimp only at hSw);go_simp;first|done|with_reducible rfl)
 try simp only [Act.put,jI,jZ,jS]
 refine takeN (i:=6) (v:=?va6) rfl (by kernel_rfl) (by kernel_rfl) (by kernel_rfl) (fun _ _ _ h=>h) (Or.inl ⟨by rfl,?ya6⟩) hSS ?ra6
 case ya6=>(intro w hSw;(try dsimp only at hSw);go_simp;first|done|with_reducible rfl)
 try simp only [Act.put,jI,jZ,jS]
 refine readyN (rs:=[7]) (by kernel_rfl) (by simp) (consN rfl (fun K hK => ?_) nilN)
 refine step_callsG (by rfl) 68 _ _ rfl enters_etext _ #[.pointer (some ⟨q,0,none⟩)] (by simp [Act.eval]) (quill_text _ q F1 X (HQ1.out.chg (G:=[]) ((Chg.refl [] _).drew) (by simp))) ?_;rintro e w' ⟨rfl,rfl⟩;refine ⟨_,rfl,?_⟩
 refine hK.out _ _ hSS (fun hHeld => ?_)
 clear hK K hHeld
 try simp only [Act.put,jI,jZ,jS]
 refine readyN (rs:=[8]) (by kernel_rfl) (by simp) (consN rfl (fun K hK => ?_) nilN)
 refine step_callsG (by rfl) 67 _ _ rfl enters_eclose _ #[.int .u8 (kk.toNat:Nat),.string ⟨X.toArray⟩] (by simp [Act.eval]) (HFC.out _) ?_;rintro e w2 ⟨rfl,hc2⟩;refine ⟨_,rfl,?_⟩
 have hS2:w2.cell? ⟨s,0,none⟩=some (.int .i64 k):=hc2.cell hSS (by simp)
 have HC2:=Lib.hid (HC1.out.drew.trans hc2)
 clear hc2
 refine hK.out _ _ hS2 (fun hHeld => ?_)
 clear hK K hHeld
 try simp only [Act.put,jI,jZ,jS]
 refine takeN (i:=9) (v:=?va9) rfl (by kernel_rfl) (by kernel_rfl) (by kernel_rfl) (fun _ _ _ h=>h) (Or.inl ⟨by rfl,?ya9⟩) hS2 ?ra9
 case ya9=>(intro w hSw;(try dsimp only at hSw);go_simp;first|done|with_reducible rfl)
 try simp only [Act.put,jI,jZ,jS]
 refine takeN (i:=10) (v:=?va10) rfl (by kernel_rfl) (by kernel_rfl) (by kernel_rfl) (fun _ _ _ h=>h) (Or.inl ⟨by rfl,?ya10⟩) hS2 ?ra10
 case ya10=>(intro w hSw;(try dsimp only at hSw);go_simp;first|done|with_reducible rfl)
 try simp only [Act.put,jI,jZ,jS]
 refine takeN (i:=11) (v:=?va11) rfl (by kernel_rfl) (by kernel_rfl) (by kernel_rfl) (fun _ _ _ h=>h) (Or.inl ⟨by rfl,?ya11⟩) hS2 ?ra11
 case ya11=>(intro w hSw;(try dsimp only at hSw);go_simp;first|done|with_reducible rfl)
 try simp only [Act.put,jI,jZ,jS]
 refine takeN (i:=12) (v:=?va12) rfl (by kernel_rfl) (by kernel_rfl) (by kernel_rfl) (fun _ _ _ h=>h) (Or.inl ⟨by rfl,?ya12⟩) hS2 ?ra12
 case ya12=>(intro w hSw;(try dsimp only at hSw);go_simp;first|done|with_reducible rfl)
 try simp only [Act.put,jI,jZ,jS]
 refine doneN (by kernel_rfl) ?_ _
 go_wp2_with fail
 go_ret2
 exact ⟨rfl,HC2.out⟩
end Go.Proofs.YthoolcpcmhhkpaaGreatDoor
