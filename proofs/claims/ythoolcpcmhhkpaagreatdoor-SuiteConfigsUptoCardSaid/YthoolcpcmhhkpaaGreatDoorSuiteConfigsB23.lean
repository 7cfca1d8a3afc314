/-
  Parts of a proof, pressed. Conditions: the form's own reach.
-/
import Derived.Test.YthoolcpcmhhkpaaGreatDoorSuiteConfigsB21
import Derived.Test.YthoolcpcmhhkpaaGreatDoorSuiteConfigsB3
import Derived.Test.YthoolcpcmhhkpaaGreatDoorSuiteConfigsB22
import Derived.RangeFuncBox
import Derived.RangeFuncLeaves
import Derived.Shelf.Abstract
import Derived.OwnWalkIn
import Derived.TacticsInMore
import Derived.LoopNIn
import Derived.LoopIn
import Derived.Shelf.SlIter.Sorted
import Derived.Sort.OwnSorted
import Derived.Test.YthoolcpcmhhkpaaGreatDoorSuiteConfigsB9
namespace Go.Proofs.YthoolcpcmhhkpaaGreatDoor
open Go.RowKit Go.Maps Go.Sort Go.Shelf
attribute [local go_sem] Oper.semAt_some
theorem set_of_ints {w:World} {b o:Nat} {l:List Int} (hc:∀ j,j<l.length*1→w.cell? ⟨b,o+j,none⟩=(ints l)[j]?):∀ j,j<l.length→w.cell? ⟨b,o+j,none⟩=some (.int .i64 (l[j]?.getD 0)):=fun j hj=>by
 rw [ints_at hc j hj];simp [hj]
set_option maxRecDepth 100000 in
set_option maxHeartbeats 2000000 in
theorem values1_in (F:Fence) (n:Nat) (h7:F.fn 292) (hro:F.round=none) (hn:1≤n) (l Bs len cap:Nat) (ao:Option Addr) (zs:List Int) (hlz:zs.length=len) (hreach:len*8≤140737488351232) (w0:World) (J:List Int→World→Prop)
 (hJb:∀ pre W,J pre W→Below w0.heap.size w0 W)
 (hY:∀ pre x W,J pre W→pre.length<len→YieldAt F (n-1) Tryz.prog l #[.int .i64 x] W fun e W'=>e=.returned (.bool true)∧J (pre++[x]) W'∧KeepsWalks W W')
 (W:World) (hBs:W.cell? ⟨Bs,0,none⟩=some (.slice ao len cap)) (hA:len=0∨∃ b off,ao=some ⟨b,off,none⟩∧b<w0.heap.size∧∀ j,j<len→w0.cell? ⟨b,off+j,none⟩=some (.int .i64 (zs[j]?.getD 0))) (h0:J [] W) :
 CallsIn F n Tryz.prog 292 #[.func (.yield l) #[] #[],.pointer (some ⟨Bs,0,none⟩)] W fun e W'=>(∃ v,e=.returned v)∧∃ ys,ys=zs∧J ys W':=by
 refine callsIn_of_wp Tryz.func292 rfl h7 ?_ hro
 simp only [Tryz.ntmps292,List.size_toArray,List.length_cons,List.length_nil,Nat.reduceAdd,Nat.reduceSub,Array.replicate_succ,Array.replicate_zero,List.push_toArray,List.append_toArray,List.nil_append,List.cons_append]
 gi_wp2
 gi_loopw [7] (fun i wr=>∃ k:Nat,k≤len∧i=.int .i64 k∧J (zs.take k) wr)
  (fun i _=>len-(intOf i).toNat)
 case atStart=>exact ⟨0,Nat.zero_le _,rfl,by simpa using h0⟩
 case round =>
  obtain ⟨k,hk,rfl,hJs⟩:=hrel
  have hnx:=hJb _ _ hJs
  by_cases hlt:k<len
  ·have hkz:k<zs.length:=by omega
   rcases hA with hA|⟨b,off,rfl,hb,hc⟩
   ·omega
   have hcx':=(hnx.cell (p:=⟨b,off+k,none⟩) hb).trans (hc k hlt)
   rw [show zs[k]?.getD 0=zs[k] from by simp [hkz]] at hcx'
   obtain ⟨fn,tmps,assign,body,hy,hR⟩:=hY _ zs[k] wr hJs (by rw [List.length_take];omega)
   have HT:=Lib.hid (List.take_succ_eq_append_getElem hkz)
   generalize zs[k]=z at *
   clear hc
   gi_wp2
   refine hR.mono ?_
   rintro e W3 ⟨rfl,hJ3,_⟩
   gi_wp2
   go_roundw
   case rel=>exact ⟨k+1,by omega,by simp,by rw [HT.out];exact hJ3⟩
   case measure=>simp [intOf];omega
  ·obtain rfl:k=len:=by omega
   gi_wp2
   go_end0
   exact ⟨⟨_,rfl⟩,_,rfl,by rwa [List.take_of_length_le (by omega)] at hJs⟩
def GivesBelow (F:Fence) (n:Nat) (P:Program) (g:Nat) (lb:Array Value) (S:List Int→Prop) (N:Nat) (w:World):Prop:=
 ∀ (l:Nat) (J:List Int→World→Prop) (W:World),Below w.heap.size w W→(∀ pre W1,J pre W1→Below w.heap.size w W1) →
   (∀ pre x W1,J pre W1→pre.length<N→YieldAt F (n-1) P l #[encZ x] W1 fun e W'=>e=.returned (.bool true)∧J (pre++[x]) W'∧KeepsWalks W1 W') →
   J [] W→CallsIn F n P g (#[.func (.yield l) #[] #[]]++lb) W fun e W'=>(∃ v,e=.returned v)∧∃ xs,S xs∧J xs W'
set_option maxRecDepth 100000 in
set_option maxHeartbeats 2000000 in
theorem appendSeq_below {P:Program} {ρ:Ren} (L:SlLaysZI.n11 P ρ) (F:Fence) (n:Nat) (h11:F.fn (ρ.f 11)) (hro:F.round=none) (hn:2≤n) (g:Nat) (lb:Array Value) (hFg:F.fn g) (eg:∀ args w,(callFunc g args).run P w=.ok (.enter g args) w)
 (S:List Int→Prop) (N:Nat) (hN:N≤maxLen) (hNb:N*8≤140737488355328) (w:World) (hseq:GivesBelow F (n-1) P g lb S N w) :
 CallsIn F n P (ρ.f 11) #[.slice none 0 0,.func (.func g) #[] lb] w fun e w'=>∃ (v:Value) (ss:List Int),e=.returned v∧S ss∧w'.ownsRow w.heap.size (ρ.t 26) 1 v ss.length (ss.map encZ)∧(v=.slice none 0 0↔ss=[])∧Below w.heap.size w w':=by
 have h1:1≤n:=by omega
 have mixed:=L.mixed;have t0:=L.t0;have a0:=L.a0;have z0:=L.z0;have v0:=L.v0;have t24:=L.t24;have a24:=L.a24;have z24:=L.z24;have v24:=L.v24;have t26:=L.t26;have a26:=L.a26;have z26:=L.z26;have v26:=L.v26;have t28:=L.t28;have a28:=L.a28;have z28:=L.z28;have v28:=L.v28
 have hne:ρ.t 24≠ρ.t 26:=fun e=>by have h:=L.t24;rw [e,L.t26] at h;cases h
 have u0:=run_underlying L.t0;have u24:=run_underlying L.t24;have u26:=run_underlying L.t26;have u28:=run_underlying L.t28
 obtain ⟨_,_,FG⟩:=L.f11
 refine callsIn_of_wp_marks FG rfl h11 ?_ hro
 simp only [SlBodyZ.n11_ntmps ρ,List.size_toArray,List.length_cons,List.length_nil,Nat.reduceAdd,Nat.reduceSub,Array.replicate_succ,Array.replicate_zero,List.push_toArray,List.append_toArray,List.nil_append,List.cons_append]
 gi_wp2
 refine wpIn_rangeFunc ?_
 intro fn hfn
 rw [hro]
 obtain ⟨W0,hW0⟩:∃ W0,w.alloc (.cells #[.slice none 0 0] (ρ.t 24))=W0:=⟨_,rfl⟩
 have hs0:W0.heap.size=w.heap.size+1:=by rw [←hW0];simp
 have hv0:W0.heap[w.heap.size]? = some (.cells #[.slice none 0 0] (ρ.t 24) (0,0)):=by rw [←hW0];exact World.alloc_heap_new w _
 have hb0:Below w.heap.size w W0:=by rw [←hW0];exact (Below.refl _ w).alloc (Nat.le_refl _) _
 rw [hW0]
 obtain ⟨W1,hW1⟩:∃ W1,(W0.alloc (.deferred (some []))).alloc (.loop (AnyZI.apRec ρ fn (.func (.func g) #[] lb) w.heap.size W0.heap.size .ready none))=W1:=⟨_,rfl⟩
 have hold:∀ k,k<W0.heap.size→W1.heap[k]? = W0.heap[k]?:=fun k hk=>by
  rw [←hW1];exact (Below.heap_alloc _ _ k (by simp;omega)).trans (Below.heap_alloc _ _ k hk)
 have hb1:Below w.heap.size w W1:=by rw [←hW1];exact (hb0.alloc hb0.size _).alloc (by have:=hb0.size;simp;omega) _
 have hs1:W1.heap.size=W0.heap.size+2:=by rw [←hW1];simp
 have hM:AnyZI.ApAt ρ w fn (.func (.func g) #[] lb) w.heap.size (W0.heap.size+1) W0.heap.size [] W1:=
  ⟨⟨_,(hold w.heap.size (by omega)).trans hv0,⟨rfl,.inl ⟨rfl,rfl⟩⟩,by simp⟩,
   by rw [←hW1];have:=World.alloc_heap_new (W0.alloc (.deferred (some []))) (.loop (AnyZI.apRec ρ fn (.func (.func g) #[] lb) w.heap.size W0.heap.size .ready none));rwa [World.size_alloc] at this,
   by rw [←hW1];exact (Below.heap_alloc _ _ _ (by simp)).trans (World.alloc_heap_new W0 _),hb1⟩
 refine ⟨W0.heap.size+1,[{ target:=.collected W0.heap.size,args:=#[] }],W1,{ target:=.fn (.func g) lb,args:=#[.func (.yield (W0.heap.size+1)) #[] #[]] },W1,g,
  #[.func (.yield (W0.heap.size+1)) #[] #[]]++lb,W1,?_,?_,?_,?_,fun _=>h1,?_⟩
 ·rw [←hW1];exact run_enterLoop_outer _ _ _ _ _
 ·simp [resolve,go_sem]
 ·intro f' hf';simp [Target.leads] at hf';subst hf';exact hFg
 ·simp [invoke,go_sem,eg]
 ·refine (hseq (W0.heap.size+1) (AnyZI.ApAt ρ w fn (.func (.func g) #[] lb) w.heap.size (W0.heap.size+1) W0.heap.size) W1 hb1 (fun pre W h=>h.below)
   (fun pre x W hJ hl=>AnyZI.apYield { L with } F (n-1-1) w fn hfn _ w.heap.size (W0.heap.size+1) W0.heap.size (by omega) (by omega) (by omega) (Nat.le_refl _) (by omega) N hN hNb pre x W hJ hl) hM).mono ?_
  rintro e W2 ⟨⟨v0,rfl⟩,ss,hS,h2⟩
  obtain ⟨v,hv,hrow,hnil⟩:=h2.box
  have hend:=run_endLoop (P:=P) h2.L (by simp [AnyZI.apRec])
  obtain ⟨W3,hW3⟩:∃ W3,W2.putObj (W0.heap.size+1) (.loop { AnyZI.apRec ρ fn (.func (.func g) #[] lb) w.heap.size W0.heap.size .ready none with state:=.exhausted })=W3:=⟨_,rfl⟩
  rw [hW3] at hend
  have hg3:W2.grownBy W3 (some (W0.heap.size+1)):=by rw [←hW3];exact grownBy_putObj_a _ _ _
  have hv3:W3.heap[w.heap.size]? = some (.cells #[v] (ρ.t 24) (0,0)):=by rw [←hW3];exact (World.putObj_heap_other (by omega)).trans hv
  have hK3:W3.heap[W0.heap.size]? = some (.deferred (some [])):=by rw [←hW3];exact (World.putObj_heap_other (by omega)).trans h2.K
  have hrow3:=hrow.kept hg3 (ownsRow_ne_a hrow h2.L (fun cur e=>by first|cases e|exact hne (Obj.cells.inj e).2.1))
  have hb3:Below w.heap.size w W3:=h2.below.grown hg3 h2.below.size (fun k e=>by cases e;omega)
  obtain ⟨hc3,hf3⟩:=cell_of_box_a hv3
  clear hW3
  refine ⟨none,W3,hend,?_⟩
  gi_wp2
  rw [←hs0]
  refine ⟨by simp,.inl ⟨_,_,rfl,run_takeDeferred hK3,?_⟩⟩
  exact ⟨_,results_tmp rfl _ _ _,v,ss,rfl,hS,hrow3.kept (grownBy_putObj_a _ _ _) (ownsRow_ne_a hrow3 hK3 (fun cur e=>by first|cases e|exact hne (Obj.cells.inj e).2.1)),hnil,hb3.grown (grownBy_putObj_a _ _ _) hb3.size (fun k e=>by cases e;omega)⟩
set_option maxHeartbeats 1000000 in
theorem collect_below {P:Program} {ρ:Ren} (L:SlLaysZI.n8 P ρ) (F:Fence) (n:Nat) (h8:F.fn (ρ.f 8)) (h11:F.fn (ρ.f 11)) (hro:F.round=none) (hn:3≤n) (g:Nat) (lb:Array Value) (hFg:F.fn g) (eg:∀ args w,(callFunc g args).run P w=.ok (.enter g args) w)
 (S:List Int→Prop) (N:Nat) (hN:N≤maxLen) (hNb:N*8≤140737488355328) (w:World) (hseq:GivesBelow F (n-1-1) P g lb S N w) :
 CallsIn F n P (ρ.f 8) #[.func (.func g) #[] lb] w fun e w'=>∃ (v:Value) (ss:List Int),e=.returned v∧S ss∧w'.ownsRow w.heap.size (ρ.t 26) 1 v ss.length (ss.map encZ)∧(v=.slice none 0 0↔ss=[])∧Below w.heap.size w w':=by
 have h1:1≤n:=by omega
 have e11:∀ args w,(callFunc (ρ.f 11) args).run P w=.ok (.enter (ρ.f 11) args) w:=L.f11.enters rfl
 have mixed:=L.mixed;have t0:=L.t0;have a0:=L.a0;have z0:=L.z0;have v0:=L.v0;have t24:=L.t24;have a24:=L.a24;have z24:=L.z24;have v24:=L.v24;have t26:=L.t26;have a26:=L.a26;have z26:=L.z26;have v26:=L.v26;have t28:=L.t28;have a28:=L.a28;have z28:=L.z28;have v28:=L.v28
 have u0:=run_underlying L.t0;have u24:=run_underlying L.t24;have u26:=run_underlying L.t26;have u28:=run_underlying L.t28
 obtain ⟨_,_,FG⟩:=L.f8
 refine callsIn_of_wp FG rfl h8 ?_ hro
 simp only [SlBodyZ.n8_ntmps ρ,List.size_toArray,List.length_cons,List.length_nil,Nat.reduceAdd,Nat.reduceSub,Array.replicate_succ,Array.replicate_zero,List.push_toArray,List.append_toArray,List.nil_append,List.cons_append]
 gi_wp2_with (gi_at_fn (ρ.f 11);refine (appendSeq_below { L with } F (n-1) h11 hro (by omega) g lb hFg eg S N hN hNb _ hseq).mono ?_;rintro e w' ⟨v,ss,rfl,hS,hrow,hnil,hb⟩)
 go_ret
 exact ⟨v,ss,rfl,hS,hrow,hnil,hb⟩
set_option maxRecDepth 100000 in
set_option maxHeartbeats 2000000 in
theorem sorted_below {P:Program} {ρ:Ren} (L:SlLaysZI.n6 P ρ) (F:Fence) (n:Nat) (h6:F.fn (ρ.f 6)) (h8:F.fn (ρ.f 8)) (h9:F.fn (ρ.f 9)) (h11:F.fn (ρ.f 11)) (hro:F.round=none) (hn:4≤n) (hsort:AnyZI.SortsIn P ρ F (n-1)) (e9:∀ args w,(callFunc (ρ.f 9) args).run P w=.ok (.enter (ρ.f 9) args) w) (g:Nat) (lb:Array Value) (hFg:F.fn g) (eg:∀ args w,(callFunc g args).run P w=.ok (.enter g args) w)
 (S:List Int→Prop) (N:Nat) (hN:N≤maxLen) (hNb:N*8≤140737488355328) (w:World) (hseq:GivesBelow F (n-1-1-1) P g lb (fun s=>S s∧s.length≤N) N w) :
 CallsIn F n P (ρ.f 6) #[.func (.func g) #[] lb] w fun e w'=>∃ (v:Value) (ss:List Int),e=.returned v∧S ss ∧
  w'.ownsRow w.heap.size (ρ.t 26) 1 v ss.length ((ss.mergeSort (fun x y=>decide (x≤y))).map encZ)∧(v=.slice none 0 0↔ss=[])∧Below w.heap.size w w':=by
 have h1:1≤n:=by omega
 have e8:∀ args w,(callFunc (ρ.f 8) args).run P w=.ok (.enter (ρ.f 8) args) w:=L.f8.enters rfl
 have mixed:=L.mixed;have t0:=L.t0;have a0:=L.a0;have z0:=L.z0;have v0:=L.v0;have t24:=L.t24;have a24:=L.a24;have z24:=L.z24;have v24:=L.v24;have t26:=L.t26;have a26:=L.a26;have z26:=L.z26;have v26:=L.v26;have t28:=L.t28;have a28:=L.a28;have z28:=L.z28;have v28:=L.v28
 have u0:=run_underlying L.t0;have u24:=run_underlying L.t24;have u26:=run_underlying L.t26;have u28:=run_underlying L.t28
 obtain ⟨_,_,FG⟩:=L.f6
 refine callsIn_of_wp FG rfl h6 ?_ hro
 simp only [SlBodyZ.n6_ntmps ρ,List.size_toArray,List.length_cons,List.length_nil,Nat.reduceAdd,Nat.reduceSub,Array.replicate_succ,Array.replicate_zero,List.push_toArray,List.append_toArray,List.nil_append,List.cons_append]
 gi_wp2_with (gi_at_fn (ρ.f 8);refine (collect_below { L with } F (n-1) h8 h11 hro (by omega) g lb hFg eg _ N hN hNb _ hseq).mono ?_;rintro e W ⟨v,ss,rfl,⟨hS,hlen⟩,hrow,hnil,hb⟩)
 rcases hrow.2 with ⟨rfl,hz⟩|⟨gb,cap,cur,rfl,hbase,hgb,r1,r2,r3,r4⟩
 ·-- nothing came: the nil slice is sorted and handed back
  have hss:ss=[]:=List.eq_nil_of_length_eq_zero hz
  subst hss
  gi_wp2_with (gi_at_fn (ρ.f 9);refine (hsort.2 none 0 W).mono ?_;rintro e w' ⟨rfl,rfl⟩)
  go_ret
  exact ⟨.slice none 0 0,[],rfl,hS,by simpa using hrow,by simp,hb⟩
 ·have hH:Holds encZ W gb 0 ss.toArray:=holds_of_block_i hgb (by simpa using r4)
  have hgl:gb<W.heap.size:=(Array.getElem?_eq_some_iff.1 hgb).1
  have hsz:ss.length<4611686018427387904:=by omega
  have cS:=hsort.1 gb 0 cap ss W hH hgl hsz
  gi_wp2_with (gi_at_fn (ρ.f 9);refine cS.mono ?_;rintro e w' ⟨rfl,nn,os,rfl⟩)
  go_ret
  exact ⟨_,ss,rfl,hS,ownsRow_sorted_i (by simp) hbase hgb r1 r2 r3,hnil,hb.grown (grownBy_sorted_i _) hb.size (fun j hj=>by cases hj;exact hbase)⟩
set_option maxRecDepth 100000 in
theorem slices_values (w:World) (a:Option Addr) (len cap:Nat) :
 Calls Tryz.prog 254 #[.slice a len cap] w fun e w'=>e=.returned (.func (.func 292) #[] #[.pointer (some ⟨w.heap.size,0,none⟩)])∧w.alloc (.cells #[.slice a len cap] 100)=w':=by
 go_enter Tryz.func254,Tryz.ntmps254
 go_wp2
 go_ret
 exact ⟨rfl,rfl⟩
theorem sorts_in (m:Nat):AnyZI.SortsIn Tryz.prog sortedL_ren Fence.wide m:=
 ⟨fun blk off cap ss W hH hblk hsz=>callsIn_wide.2 (AnyM.slices_Sort_int sortL5 blk off cap ss W hH hblk hsz),
  fun p cap W=>callsIn_wide.2 (AnyM.slices_Sort_int_none sortL5 p cap W)⟩
set_option maxHeartbeats 1000000 in
theorem slices_sorted (w:World) (Bs:Nat) (ao:Option Addr) (cap:Nat) (l:List Int) (hB:w.cell? ⟨Bs,0,none⟩=some (.slice ao l.length cap)) (hr:Rd w 1 (.slice ao l.length cap) l.length (ints l)) (hl:l.length*8≤140737488351232) :
 Calls Tryz.prog 253 #[.func (.func 292) #[] #[.pointer (some ⟨Bs,0,none⟩)]] w fun e w'=>∃ a3 c3,e=.returned (.slice a3 l.length c3) ∧
  Own w' 2 1 (.slice a3 l.length c3) l.length (ints (sortL l))∧Chg [] w w'∧∀ b∈abl a3,w.heap.size≤b:=by
 refine (callsIn_wide (n:=6)).1 ?_
 have hBl:Bs<w.heap.size:=World.block_lt_of_cell? w _ hB
 have hA:l.length=0∨∃ b off,ao=some ⟨b,off,none⟩∧b<w.heap.size∧∀ j,j<l.length→w.cell? ⟨b,off+j,none⟩=some (.int .i64 (l[j]?.getD 0)):=by
  by_cases h0:l.length=0
  ·exact .inl h0
  ·obtain ⟨b,o,rfl,hc⟩:=hr.addr (by omega)
   refine .inr ⟨b,o,rfl,?_,set_of_ints hc⟩
   exact World.block_lt_of_cell? w _ (set_of_ints hc 0 (by omega))
 have hseq:GivesBelow Fence.wide (6-1-1-1) Tryz.prog 292 #[.pointer (some ⟨Bs,0,none⟩)] (fun s=>s=l∧s.length≤l.length) l.length w:=fun L J W hW hJb hY h0 =>
  (values1_in Fence.wide (6-1-1-1) trivial rfl (by omega) L Bs l.length cap ao l rfl hl w J hJb hY W ((hW.cell (p:=⟨Bs,0,none⟩) hBl).trans hB) hA h0).mono fun e W' ⟨he,ys,hy,hj⟩=>⟨he,ys,⟨hy,by rw [hy];exact Nat.le_refl _⟩,hj⟩
 refine (sorted_below sortedL Fence.wide 6 trivial trivial trivial trivial rfl (by omega) (sorts_in _) (enters_of Tryz.func215 (by kernel_rfl) rfl) 292 #[.pointer (some ⟨Bs,0,none⟩)] trivial (enters_of Tryz.func292 (by kernel_rfl) rfl) (fun s=>s=l) l.length (by unfold maxLen;omega) (by omega) w hseq).mono ?_
 rintro e w' ⟨v,ss,rfl,hS,hrow,_,hb⟩
 subst hS
 rw [msort_eq] at hrow
 have hi:ints (sortL ss)=(sortL ss).map encZ:=rfl
 rw [←hi] at hrow
 obtain ⟨hx,⟨rfl,h0⟩|⟨g,c,cur,rfl,hg,hh,h1,h2,h3,h4⟩⟩:=hrow
 ·refine ⟨none,0,by rw [h0],⟨hx,.inl ⟨by rw [h0],h0⟩⟩,Chg.of_below hb,by simp⟩
 ·exact ⟨some ⟨g,0,none⟩,c,rfl,⟨hx,.inr ⟨g,0,c,cur,rfl,hh,h1,h2,by omega,h4⟩⟩,Chg.of_below hb,by simpa using hg⟩
end Go.Proofs.YthoolcpcmhhkpaaGreatDoor
namespace Go.Proofs.YthoolcpcmhhkpaaGreatDoor
open Go.RowKit
def keepI (n:Nat) (k:Int):Nat:=keepN n k.toNat
theorem Own.cut {w:World} {e:TypeId} {g o n c:Nat} {xs:List Int} (h:Own w e 1 (.slice (some ⟨g,o,none⟩) n c) n (ints xs)) {m:Nat} (hm:m≤n) :
 Own w e 1 (.slice (some ⟨g,o,none⟩) m m) m (ints (xs.take m))∧∀ c',Rd w 1 (.slice (some ⟨g,o+m,none⟩) (n-m) c') (n-m) (ints (xs.drop m)):=by
 have hl:xs.length=n:=by simpa using h.1
 have hcell:=fun j hj=>h.cells j hj
 obtain ⟨hx,⟨h0,_⟩|⟨g',o',cp,cur,h0,hg,h1,h2,h3,h4⟩⟩:=h
 ·simp at h0
 ·simp only [Value.slice.injEq,Option.some.injEq,Addr.mk.injEq,true_and,and_true] at h0
  obtain ⟨⟨rfl,rfl⟩,rfl⟩:=h0
  refine ⟨⟨by simp;omega,.inr ⟨g,o,m,cur,rfl,hg,Nat.le_refl _,by omega,by omega,?_⟩⟩,fun c'=>⟨by simp;omega,_,_,rfl,.inr ⟨g,o+m,rfl,fun j hj => ?_⟩⟩⟩
  ·have e1:(cur.toList.drop o).take (m*1)=((cur.toList.drop o).take (n*1)).take m:=by rw [List.take_take];congr 1;omega
   rw [e1,h4]
   simp [ints,List.map_take]
  ·rw [Nat.add_assoc,hcell (m+j) (by omega),ints_drop]
def SplitP (w w':World) (l:List Int) (n m:Nat) (e:Ending):Prop:=
 ∃ a3 c3 a4 c4,e=.returned (.tuple #[.slice a3 m c3,.slice a4 (n-m) c4]) ∧
    Own w' 2 1 (.slice a3 m c3) m (ints ((sortL l).take m))∧Rd w' 1 (.slice a4 (n-m) c4) (n-m) (ints ((sortL l).drop m))∧Chg [] w w'∧(∀ b∈abl a3,w.heap.size≤b)∧(∀ b∈abl a4,w.heap.size≤b) ∧
    (∃ c5,Own w' 2 1 (.slice a3 n c5) n (ints (sortL l)))∧(n-m=0∨∃ g o,a3=some ⟨g,o,none⟩∧a4=some ⟨g,o+m,none⟩)∧c3=m
set_option maxRecDepth 100000 in
set_option maxHeartbeats 1000000 in
theorem coins_split (w:World) (ao:Option Addr) (cap:Nat) (l:List Int) (n:Nat) (hn:n=l.length) (k:Int) (m:Nat) (hm:m=keepI n k) (hr:Rd w 1 (.slice ao n cap) n (ints l)) (hl:n≤1000000) :
 Calls Tryz.prog 219 #[.slice ao n cap,.int .i64 k] w fun e w'=>SplitP w w' l n m e:=by
 have hB:=(Blk.alloc_new w #[.slice ao n cap] 100).cell 0
 have HS:=Lib.hid (slices_sorted (w.alloc (.cells #[.slice ao n cap] 100)) w.heap.size ao cap l (by rw [←hn];exact hB) (by rw [←hn];exact hr.alloc _) (by omega))
 rw [←hn] at HS
 have HN:=Lib.hid hn
 clear hB hn
 have hkb:=keepN_le (n:=n) (k:=min k.toNat n) (Nat.min_le_right _ _)
 go_enter Tryz.func219,Tryz.ntmps219
 go_wp2_with fail
 refine (slices_values w ao n cap).mono ?_
 rintro e w1 ⟨rfl,rfl⟩
 go_wp2_with fail
 refine HS.out.mono ?_
 rintro e w2 ⟨a3,c3,rfl,ho,hc,hab⟩
 have hcc:=((Chg.refl [] w).alloc _).trans hc
 clear HS
 have hck:k.toNat=(max k 0).toNat:=by omega
 have hmn:m≤n:=by rw [hm,keepI,keepN];split<;>omega
 have hval1:((n:Int)-min (max k 0) (n:Int)) % 2=1→min (max k 0) (n:Int)+1=(m:Int):=fun h=>by
  rw [hm,keepI,keepN,if_pos (by omega)];omega
 have hval2:¬((n:Int)-min (max k 0) (n:Int)) % 2=1→min (max k 0) (n:Int)=(m:Int):=fun h=>by
  rw [hm,keepI,keepN,if_neg (by omega)];omega
 have HV1:=Lib.hid hval1
 have HV2:=Lib.hid hval2
 clear hval1 hval2 hck hkb hm
 have HO:=Lib.hid ho
 obtain ⟨hx,⟨h0,rfl⟩|⟨g,o,cp,cur,h0,hg,h1,h2,h3,h4⟩⟩:=ho
 ·simp only [Value.slice.injEq] at h0
  obtain ⟨rfl,_,rfl⟩:=h0
  obtain rfl:m=0:=by omega
  have hp:¬(((0:Nat):Int)-min (max k 0) ((0:Nat):Int)) % 2=1:=by omega
  have hv:=HV2.out hp
  have hpb:((((0:Nat):Int)-min (max k 0) ((0:Nat):Int)) % 2==1)=false:=by rw [beq_eq_false_iff_ne];exact hp
  simp only [Int.natCast_zero] at hv hpb
  have HE:=Lib.hid (show sortL l=[] from List.eq_nil_of_length_eq_zero (by simpa using hx))
  clear hp HV1 HV2 hx
  go_wp2
  go_quiet (fail)
  go_wp2
  go_ret2
  rw [SplitP,HE.out]
  exact ⟨none,0,none,0,rfl,Own.nil _ _ _,(Own.nil w2 2 1).rd,hcc.drewN _,by simp,by simp,⟨0,by rw [ints];exact Own.nil _ _ _⟩,.inl (by omega),rfl⟩
 ·simp only [Value.slice.injEq,true_and] at h0
  obtain ⟨rfl,rfl⟩:=h0
  have hmc:(m:Int)≤(c3:Int):=by omega
  have hmc2:(n:Int)≤(c3:Int):=by omega
  have hmn2:(m:Int)≤(n:Int):=by omega
  have hm0:(0:Int)≤(m:Int):=by omega
  have HF:=Lib.hid (HO.out.cut hmn)
  have hgw:w.heap.size≤g:=by have:=hab g (by simp);simp at this;omega
  clear hg h2 h3 h4 hx
  have HZ:=Lib.hid (show ∀ nq c',c3=m→Rd (w2.drewN nq) 1 (.slice (some ⟨g,o,none⟩) (n-m) c') (n-m) (ints ((sortL l).drop m)) from fun nq c' hc=>by
   have h0:n-m=0:=by omega
   have hs:(sortL l).length=n:=by rw [(sort_ok l).2.2,HN.out]
   exact ⟨by simp;omega,_,_,rfl,.inl h0⟩)
  have HFD:=Lib.hid (fun nq=>(⟨HF.out.1.chg ((Chg.refl [] w2).drewN nq) (by simp),fun c'=>(HF.out.2 c').chg ((Chg.refl [] w2).drewN nq) (by simp)⟩:Own (w2.drewN nq) 2 1 (.slice (some ⟨g,o,none⟩) m m) m (ints ((sortL l).take m))∧∀ c',Rd (w2.drewN nq) 1 (.slice (some ⟨g,o+m,none⟩) (n-m) c') (n-m) (ints ((sortL l).drop m))))
  by_cases hp:((n:Int)-min (max k 0) (n:Int)) % 2=1
  ·have hpb:(((n:Int)-min (max k 0) (n:Int)) % 2==1)=true:=by rw [beq_iff_eq];exact hp
   have hv:=HV1.out hp
   clear hp
   go_wp2
   go_quiet (fail)
   go_wp2
   ·go_ret2
    exact ⟨_,_,_,_,rfl,(HFD.out nq).1,HZ.out nq _ (by assumption),hcc.drewN _,by simpa using hgw,by simpa using hgw,⟨c3,HO.out.chg ((Chg.refl [] w2).drewN nq) (by simp)⟩,.inl (by omega),by first|rfl|assumption⟩
   ·go_ret2
    exact ⟨_,_,_,_,rfl,(HFD.out nq).1,(HFD.out nq).2 _,hcc.drewN _,by simpa using hgw,by simpa using hgw,⟨c3,HO.out.chg ((Chg.refl [] w2).drewN nq) (by simp)⟩,.inr ⟨g,o,rfl,rfl⟩,rfl⟩
  ·have hpb:(((n:Int)-min (max k 0) (n:Int)) % 2==1)=false:=by rw [beq_eq_false_iff_ne];exact hp
   have hv:=HV2.out hp
   clear hp
   go_wp2
   go_quiet (fail)
   go_wp2
   ·go_ret2
    exact ⟨_,_,_,_,rfl,(HFD.out nq).1,HZ.out nq _ (by assumption),hcc.drewN _,by simpa using hgw,by simpa using hgw,⟨c3,HO.out.chg ((Chg.refl [] w2).drewN nq) (by simp)⟩,.inl (by omega),by first|rfl|assumption⟩
   ·go_ret2
    exact ⟨_,_,_,_,rfl,(HFD.out nq).1,(HFD.out nq).2 _,hcc.drewN _,by simpa using hgw,by simpa using hgw,⟨c3,HO.out.chg ((Chg.refl [] w2).drewN nq) (by simp)⟩,.inr ⟨g,o,rfl,rfl⟩,rfl⟩
end Go.Proofs.YthoolcpcmhhkpaaGreatDoor
namespace Go.Proofs.YthoolcpcmhhkpaaGreatDoor
open Go.RowKit
theorem under_rowsT:Tryz.prog.underlying 203=some (.slice 100):=by kernel_rfl
theorem info_intsT:(Tryz.prog.info? 100).map (fun i=>(i.zero,i.size,i.bytes))=some (some (.slice none 0 0),1,24):=by kernel_rfl
def RowsW (w:World) (vs:List Value) (rows:List (List Int)):Prop:=
 vs.length=rows.length∧(∀ j (h:j<vs.length) (h':j<rows.length),Own w 2 1 vs[j] rows[j].length (ints rows[j])) ∧
 ∀ j k (h:j<vs.length) (h':k<vs.length),j≠k→∀ b∈blkOf vs[j],b∉blkOf vs[k]
theorem RowsW.lt {w:World} {vs:List Value} {rows:List (List Int)} (h:RowsW w vs rows) (k:Nat) (hk:k<vs.length):∀ b∈blkOf vs[k],b<w.heap.size:=
 (h.2.1 k hk (by rw [←h.1];exact hk)).lt
theorem RowsW.turn {w w1:World} {vs:List Value} {rows:List (List Int)} {F:List Nat} (h:RowsW w vs rows) (k:Chg F w w1) (j:Nat) (hj:j<vs.length) (hF:∀ i (hi:i<vs.length),i≠j→∀ b∈blkOf vs[i],b∉F)
 {v:Value} {r:List Int} (ho:Own w1 2 1 v r.length (ints r)) (hd:∀ i (hi:i<vs.length),i≠j→∀ b∈blkOf v,b∉blkOf vs[i]):RowsW w1 (vs.set j v) (rows.set j r):=by
 refine ⟨by simpa using h.1,fun i hi hi' => ?_,fun i i2 hi hi2 hne b hb => ?_⟩
 ·simp only [List.length_set] at hi hi'
  by_cases hij:i=j
  ·subst hij
   simpa using ho
  ·rw [List.getElem_set_ne (by omega),List.getElem_set_ne (by omega)]
   exact (h.2.1 i hi hi').chg k (hF i hi hij)
 ·have hiL:i<vs.length:=by simpa using hi
  have hiL2:i2<vs.length:=by simpa using hi2
  by_cases hij:i=j
  ·subst hij
   rw [List.getElem_set_self] at hb
   rw [List.getElem_set_ne hne]
   exact hd i2 hiL2 (by omega) b hb
  ·rw [List.getElem_set_ne (by omega)] at hb
   by_cases hi2j:i2=j
   ·subst hi2j
    rw [List.getElem_set_self]
    intro hb2
    exact hd i hiL hij b hb2 hb
   ·rw [List.getElem_set_ne (by omega)]
    exact h.2.2 i i2 hiL hiL2 hne b hb
theorem RowsW.chg {w w1:World} {vs:List Value} {rows:List (List Int)} {F:List Nat} (h:RowsW w vs rows) (k:Chg F w w1) (hF:∀ v∈vs,∀ b∈blkOf v,b∉F):RowsW w1 vs rows:=
 ⟨h.1,fun i hi hi'=>(h.2.1 i hi hi').chg k (hF _ (List.getElem_mem hi)),h.2.2⟩
theorem RowsW.push {w:World} {vs:List Value} {rows:List (List Int)} (h:RowsW w vs rows):RowsW w (vs++[.slice none 0 0]) (rows++[[]]):=by
 refine ⟨by simp [h.1],fun i hi hi' => ?_,fun i i2 hi hi2 hne b hb => ?_⟩
 ·by_cases hil:i<vs.length
  ·have hil':i<rows.length:=by rw [←h.1];exact hil
   rw [List.getElem_append_left hil,List.getElem_append_left hil']
   exact h.2.1 i hil hil'
  ·have h1:=h.1
   obtain rfl:i=vs.length:=by simp at hi;omega
   have e2:(rows++[[]])[vs.length]=[]:=by rw [List.getElem_append_right (by omega)];simp
   rw [e2]
   simp only [List.getElem_concat_length]
   exact Own.nil _ _ _
 ·by_cases hil:i<vs.length
  ·rw [List.getElem_append_left hil] at hb
   by_cases hil2:i2<vs.length
   ·rw [List.getElem_append_left hil2]
    exact h.2.2 i i2 hil hil2 hne b hb
   ·obtain rfl:i2=vs.length:=by simp at hi2;omega
    simp
  ·obtain rfl:i=vs.length:=by simp at hi;omega
   simp at hb
structure TwD where
 W:Nat
 word:Nat
 used:Nat
 total:Nat
 rows:List (List Int)
 least:Int
 most:Int
def twCells (tp:Nat) (rv:Value) (D:TwD):Array Value:=
 #[.int .i64 (D.W:Nat),.int .u64 (D.word:Nat),.pointer (some ⟨tp,0,none⟩),rv,.int .u64 (D.total:Nat),.int .i64 D.least,.int .i64 D.most]
structure Tow (w:World) (p tp:Nat) (rv:Value) (vs:List Value) (D:TwD):Prop where
 blk:Blk w p (twCells tp rv D) 276
 tape:Tape w tp D.word D.used
 own:Own w 100 1 rv D.rows.length vs
 rows:RowsW w vs D.rows
def fp (p tp:Nat) (rv:Value) (vs:List Value):List Nat:=p::tp::(blkOf rv++vs.flatMap blkOf)
namespace Tow
variable {w w1:World} {p tp:Nat} {rv:Value} {vs:List Value} {D:TwD}
theorem lt (h:Tow w p tp rv vs D):∀ b∈fp p tp rv vs,b<w.heap.size:=by
 intro b hb
 simp only [fp,List.mem_cons,List.mem_append,List.mem_flatMap] at hb
 rcases hb with rfl|rfl|hb|⟨v,hv,hb⟩
 ·exact h.blk.lt
 ·exact Blk.lt h.tape
 ·exact h.own.lt b hb
 ·obtain ⟨k,hk,rfl⟩:=List.getElem_of_mem hv
  exact h.rows.lt k hk b hb
theorem chg {F:List Nat} (h:Tow w p tp rv vs D) (k:Chg F w w1) (hF:∀ b∈fp p tp rv vs,b∉F):Tow w1 p tp rv vs D:=
 ⟨h.blk.chg k (hF p (by simp [fp])),h.tape.chg k (hF tp (by simp [fp])),h.own.chg k (fun b hb=>hF b (by simp [fp,hb])),
  h.rows.chg k (fun v hv b hb=>hF b (by simp only [fp,List.mem_cons,List.mem_append,List.mem_flatMap];exact .inr (.inr (.inr ⟨v,hv,hb⟩))))⟩
theorem ne_tape (h:Tow w p tp rv vs D):p≠tp:=by
 intro e
 have h1:=h.blk
 have h2:=h.tape
 simp only [Tape,Blk,←e] at h1 h2
 rw [h1] at h2
 simp at h2
theorem p_rv (h:Tow w p tp rv vs D):p∉blkOf rv:=h.own.ne_blk h.blk (by decide)
theorem tp_rv (h:Tow w p tp rv vs D):tp∉blkOf rv:=h.own.ne_blk h.tape (by decide)
theorem p_row (h:Tow w p tp rv vs D) (k:Nat) (hk:k<vs.length):p∉blkOf vs[k]:=(h.rows.2.1 k hk (by rw [←h.rows.1];exact hk)).ne_blk h.blk (by decide)
theorem tp_row (h:Tow w p tp rv vs D) (k:Nat) (hk:k<vs.length):tp∉blkOf vs[k]:=(h.rows.2.1 k hk (by rw [←h.rows.1];exact hk)).ne_blk h.tape (by decide)
theorem rv_row (h:Tow w p tp rv vs D) (k:Nat) (hk:k<vs.length):∀ b∈blkOf rv,b∉blkOf vs[k]:=h.own.apart (h.rows.2.1 k hk (by rw [←h.rows.1];exact hk)) (by decide)
theorem cells (h:Tow w p tp rv vs D):w.cell? ⟨p,0,none⟩=some (.int .i64 (D.W:Nat))∧w.cell? ⟨p,1,none⟩=some (.int .u64 (D.word:Nat))∧w.cell? ⟨p,2,none⟩=some (.pointer (some ⟨tp,0,none⟩)) ∧
 w.cell? ⟨p,3,none⟩=some rv∧w.cell? ⟨p,4,none⟩=some (.int .u64 (D.total:Nat))∧w.cell? ⟨p,5,none⟩=some (.int .i64 D.least)∧w.cell? ⟨p,6,none⟩=some (.int .i64 D.most):=
 ⟨h.blk.cell 0,h.blk.cell 1,h.blk.cell 2,h.blk.cell 3,h.blk.cell 4,h.blk.cell 5,h.blk.cell 6⟩
theorem mem_rv (_h:Tow w p tp rv vs D):∀ b∈blkOf rv,b∈fp p tp rv vs:=fun b hb=>by simp [fp,hb]
theorem mem_row (_h:Tow w p tp rv vs D) (k:Nat) (hk:k<vs.length):∀ b∈blkOf vs[k],b∈fp p tp rv vs:=fun b hb=>by
 simp only [fp,List.mem_cons,List.mem_append,List.mem_flatMap]
 exact .inr (.inr (.inr ⟨vs[k],List.getElem_mem hk,hb⟩))
end Tow
theorem Own.at1 {w:World} {e:TypeId} {rv:Value} {n:Nat} {vs:List Value} (h:Own w e 1 rv n vs) {j:Nat} (hj:j<n) (hj':j<vs.length) :
 ∃ g o cap,rv=.slice (some ⟨g,o,none⟩) n cap∧w.cell? ⟨g,o+j,none⟩=some vs[j]∧w.frozen? ⟨g,o+j,none⟩=false∧n≤cap:=by
 have h':=h
 obtain ⟨_,⟨_,h0⟩|⟨g,o,cap,cur,rfl,_,h1,_⟩⟩:=h
 ·omega
 ·exact ⟨g,o,cap,rfl,by rw [h'.cells j (by omega),List.getElem?_eq_getElem hj'],h'.free _,h1⟩
theorem Rd.lt {w:World} {size n:Nat} {v:Value} {xs:List Value} (h:Rd w size v n xs) (hs:0<size):n=0∨∀ b∈blkOf v,b<w.heap.size:=by
 by_cases h0:n=0
 ·exact .inl h0
 ·refine .inr fun x hx => ?_
  obtain ⟨ao,cap,rfl⟩:=h.shape
  obtain ⟨b,o,rfl,hc⟩:=h.addr (by omega)
  simp only [blkOf_some,List.mem_singleton] at hx
  subst hx
  have hp:0<n*size:=Nat.mul_pos (by omega) hs
  have h1:=hc 0 hp
  rw [List.getElem?_eq_getElem (by rw [h.1];exact hp)] at h1
  exact World.block_lt_of_cell? w _ h1
theorem Rd.keep {w w1:World} {F:List Nat} {size n:Nat} {v:Value} {xs:List Value} (h:Rd w size v n xs) (k:Chg F w w1) (hn:n=0∨∀ b∈blkOf v,b∉F):Rd w1 size v n xs:=by
 rcases hn with h0|hn
 ·obtain ⟨h1,ao,cap,rfl,_⟩:=h
  exact ⟨h1,ao,cap,rfl,.inl h0⟩
 ·exact h.chg k hn
namespace Tow
variable {w w1:World} {p tp:Nat} {rv:Value} {vs:List Value} {D:TwD}
theorem tape' (h:Tow w p tp rv vs D) {u:Nat} (k:Chg [tp] w w1) (ht:Tape w1 tp D.word u):Tow w1 p tp rv vs { D with used:=u }:=
 ⟨h.blk.chg k (by simpa using h.ne_tape),ht,h.own.chg k (fun b hb e=>by simp at e;subst e;exact h.tp_rv hb),
  h.rows.chg k (fun v hv b hb e=>by
   simp at e;subst e
   obtain ⟨i,hi,rfl⟩:=List.getElem_of_mem hv
   exact h.tp_row i hi hb)⟩
theorem push (h:Tow w p tp rv vs D) {rv2:Value} (k:Chg (blkOf rv) w w1) (ho:Own w1 100 1 rv2 (D.rows.length+1) (vs++[.slice none 0 0])) :
 Tow (w1.setCell ⟨p,3,none⟩ rv2) p tp rv2 (vs++[.slice none 0 0]) { D with rows:=D.rows++[[]] }:=by
 have hb:=h.blk.chg k h.p_rv
 have k2:Chg [p] w1 (w1.setCell ⟨p,3,none⟩ rv2):=(Chg.refl _ w1).setCell (.inl (by simp)) _
 refine ⟨hb.setCell 3 rv2,(Blk.chg h.tape k h.tp_rv).setCell_other (by simp only;exact h.ne_tape.symm) _,?_,?_⟩
 ·simp only [List.length_append,List.length_cons,List.length_nil,Nat.zero_add]
  exact ho.chg k2 (fun b hb2 e=>by simp at e;subst e;exact ho.ne_blk hb (by decide) hb2)
 ·refine ((h.rows.chg k (fun v hv b hb2 e => ?_)).chg k2 (fun v hv b hb2 e => ?_)).push
  ·obtain ⟨i,hi,rfl⟩:=List.getElem_of_mem hv
   exact h.rv_row i hi b e hb2
  ·simp at e;subst e
   obtain ⟨i,hi,rfl⟩:=List.getElem_of_mem hv
   exact h.p_row i hi hb2
theorem turn {g o n c j:Nat} (h:Tow w p tp (.slice (some ⟨g,o,none⟩) n c) vs D) (hj:j<vs.length) {F:List Nat} (k:Chg F w w1) (hF:∀ b∈F,b∈blkOf vs[j]∨w.heap.size≤b)
 {v:Value} {r:List Int} (hv:Own w1 2 1 v r.length (ints r)) (hd:∀ i (hi:i<vs.length),i≠j→∀ b∈blkOf v,b∉blkOf vs[i]) :
 Tow (w1.setCell ⟨g,o+j,none⟩ v) p tp (.slice (some ⟨g,o,none⟩) n c) (vs.set j v) { D with rows:=D.rows.set j r }:=by
 have hout:∀ b,b<w.heap.size→b∉blkOf vs[j]→b∉F:=fun b h1 h2 h3=>by
  rcases hF b h3 with h4|h4
  ·exact h2 h4
  ·omega
 have hgr:g∉blkOf vs[j]:=h.rv_row j hj g (by simp)
 have hgn:n=D.rows.length:=by
  obtain ⟨_,⟨h0,_⟩|⟨_,_,_,_,h0,_⟩⟩:=h.own
  ·simp at h0
  ·simp only [Value.slice.injEq] at h0;omega
 subst hgn
 have k2:Chg [g] w1 (w1.setCell ⟨g,o+j,none⟩ v):=(Chg.refl _ w1).setCell (.inl (by simp)) _
 have hown1:=h.own.chg k (fun b hb=>hout b (h.own.lt b hb) (h.rv_row j hj b hb))
 have hpg:p≠g:=fun e=>h.p_rv (by simp [e])
 have htg:tp≠g:=fun e=>h.tp_rv (by simp [e])
 refine ⟨(h.blk.chg k (hout p h.blk.lt (h.p_row j hj))).setCell_other (by simp only;exact hpg) _,(Blk.chg h.tape k (hout tp (Blk.lt h.tape) (h.tp_row j hj))).setCell_other (by simp only;exact htg) _,?_,?_⟩
 ·simp only [List.length_set]
  exact hown1.set j v
 ·have k3:Chg (g::F) w (w1.setCell ⟨g,o+j,none⟩ v):=(k.mono (F1:=g::F) (fun b hb=>.inl (by simp [hb]))).setCell (a:=⟨g,o+j,none⟩) (.inl (by simp)) v
  refine h.rows.turn k3 j hj (fun i hi hij b hb e => ?_) (hv.chg k2 (fun b hb e => ?_)) hd
  ·rcases List.mem_cons.1 e with rfl|e
   ·exact h.rv_row i hi b (by simp) hb
   ·exact hout b (h.rows.lt i hi b hb) (h.rows.2.2 i j hi hj hij b hb) e
  ·simp at e;subst e
   exact hown1.apart hv (by decide) b (by simp) hb
theorem at2 {g o n c j:Nat} (h:Tow w p tp (.slice (some ⟨g,o,none⟩) n c) vs D) (hj:j<vs.length) :
 w.cell? ⟨g,o+j,none⟩=some vs[j]∧w.frozen? ⟨g,o+j,none⟩=false∧w.cell? ⟨p,3,none⟩=some (.slice (some ⟨g,o,none⟩) n c)∧w.cell? ⟨p,2,none⟩=some (.pointer (some ⟨tp,0,none⟩)):=by
 have hr:=h.rows.1
 refine ⟨by rw [h.own.cells j (by omega),List.getElem?_eq_getElem hj],h.own.free _,h.blk.cell 3,h.blk.cell 2⟩
theorem at3 {g o n c j:Nat} (h:Tow w p tp (.slice (some ⟨g,o,none⟩) n c) vs D) (hj:j<vs.length) {v:Value} (hv:vs[j]=v) (k:Chg (blkOf v) w w1) :
 w1.cell? ⟨g,o+j,none⟩=some v∧w1.frozen? ⟨g,o+j,none⟩=false∧w1.cell? ⟨p,3,none⟩=some (.slice (some ⟨g,o,none⟩) n c):=by
 have hr:=h.rows.1
 subst hv
 have ho:=h.own.chg k (fun b hb e=>h.rv_row j hj b hb e)
 exact ⟨by rw [ho.cells j (by omega),List.getElem?_eq_getElem hj],ho.free _,(h.blk.chg k (h.p_row j hj)).cell 3⟩
end Tow
theorem coins_halve' (w:World) (ao:Option Addr) (cap n:Nat) (l:List Int) (hn:n=l.length) (s:Bool) (hr:Rd w 1 (.slice ao n cap) n (ints l)) (hl:n≤1000000) (H:List Int) (hH:H=halveL l s) (k:Nat) (hk:k=H.length) :
 Calls Tryz.prog 220 #[.slice ao n cap,.bool s] w fun e w'=>∃ a3 c3,e=.returned (.slice a3 k c3) ∧
  Own w' 2 1 (.slice a3 k c3) k (ints H)∧Chg [] w w'∧∀ b∈abl a3,w.heap.size≤b:=by
 subst hn
 subst hk
 subst hH
 exact coins_halve w ao cap l s hr hl
theorem stepR_eq {W:Nat} {c:Nat→Bool} {ix u m:Nat} {rows rowsP:List (List Int)} {r:List Int} (hlt:ix<rows.length) (hr:rows[ix]=r) (hs:¬r.length<W) (hm:m=keepN r.length (W / 2)) (hP:rowsP=if ix+1=rows.length then rows++[[]] else rows) (hx:ix+1<rowsP.length) :
 stepR W c ix (u,rows)=(u+1,(rowsP.set ix ((sortL r).take m)).set (ix+1) (((rowsP.set ix ((sortL r).take m))[ix+1]'(by simpa using hx))++halveL ((sortL r).drop m) (c u))):=by
 have e1:rows.getD ix []=r:=by rw [List.getD,List.getElem?_eq_getElem hlt,hr];rfl
 unfold stepR
 simp only [e1]
 rw [if_neg hs,←hm,←hP]
 rw [List.getElem_set_ne (by omega)]
 rw [List.getD,List.getElem?_eq_getElem hx]
 rfl
def TwD.at (D:TwD) (s:Nat × List (List Int)):TwD:={ D with used:=s.1,rows:=s.2 }
def TwD.settled (D:TwD):TwD:=D.at (settle D.W (coinB D.word) (D.used,D.rows))
end Go.Proofs.YthoolcpcmhhkpaaGreatDoor
