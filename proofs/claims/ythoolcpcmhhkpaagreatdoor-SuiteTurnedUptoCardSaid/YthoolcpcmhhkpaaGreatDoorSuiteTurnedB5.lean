/-
  Parts of a proof, pressed. Conditions: the form's own reach.
-/
import Derived.Test.YthoolcpcmhhkpaaGreatDoorProg
import Derived.Test.YthoolcpcmhhkpaaGreatDoorSuiteTurnedB1
import Derived.Test.YthoolcpcmhhkpaaGreatDoorSuiteTurnedB4
import Derived.Handy
import Derived.Deep.DeepMust
import Derived.Laws.BitsAllLaws
import Derived.WalkKit
import Derived.ScopeJumps
namespace Go.Proofs.YthoolcpcmhhkpaaGreatDoor
open Go.RowKit
def Qul (w:World) (q:Nat) (F:List Nat) (l:List UInt8):Prop:=
 ∃ ao cap,F=q::abl ao∧Blk w q #[.slice ao l.length cap] 120∧Own w 5 1 (.slice ao l.length cap) l.length (u8s l)
theorem under_bytes:Tryz.prog.underlying 37=some (.slice 5):=by kernel_rfl
theorem info_u8:(Tryz.prog.info? 5).map (fun i=>(i.zero,i.size,i.bytes))=some (some (.int .u8 0),1,1):=by kernel_rfl
theorem Qul.push {w w3:World} {q:Nat} {a2 a3:Option Addr} {c2 c3 m:Nat} {l2 x:List UInt8} (hb:Blk w q #[.slice a2 l2.length c2] 120) (ho:Own w 5 1 (.slice a2 l2.length c2) l2.length (u8s l2))
 (ho3:Own w3 5 1 (.slice a3 (l2.length+m) c3) (l2.length+m) (u8s l2++u8s x)) (hm:x.length=m) (hch:Chg (abl a2) w w3) (hf:∀ b∈abl a3,b∈abl a2∨w.heap.size≤b) :
 Qul (w3.setCell ⟨q,0,none⟩ (.slice a3 (l2.length+m) c3)) q (q::abl a3) (l2++x)∧Mv (q::abl a2) w (q::abl a3) (w3.setCell ⟨q,0,none⟩ (.slice a3 (l2.length+m) c3)):=by
 subst hm
 have hq2:q∉abl a2:=by simpa using ho.ne_blk hb (by decide)
 have hq3:q∉abl a3:=fun h=>by
  rcases hf q h with h1|h1
  ·exact hq2 h1
  ·have:=hb.lt;omega
 have hb3:Blk w3 q #[.slice a2 l2.length c2] 120:=hb.chg hch hq2
 refine ⟨⟨a3,c3,rfl,?_,?_⟩,⟨(hch.mono (fun b hb=>.inl (by simp [hb]))).setCell (.inl (by simp)) _,fun b hb => ?_⟩⟩
 ·have:=hb3.setCell 0 (.slice a3 (l2.length+x.length) c3)
  simpa using this
 ·have:=ho3.chg (F:=[q]) ((Chg.refl [q] w3).setCell (a:=⟨q,0,none⟩) (.inl (by simp)) (.slice a3 (l2.length+x.length) c3)) (fun b hb=>by
   simp only [blkOf_slice] at hb
   simp only [List.mem_singleton]
   intro h;subst h;exact hq3 ‹_›)
  simpa using this
 ·rcases List.mem_cons.1 hb with rfl|hb
  ·exact .inl (by simp)
  ·rcases hf b hb with h|h
   ·exact .inl (by simp [h])
   ·exact .inr h
theorem flat10 (us:List Nat) (h:∀ u∈us,u<2^64) (k:Nat):((us.take k).flatMap natB).length≤10*k:=by
 have gen:∀ vs:List Nat,(∀ u∈vs,u<2^64)→(vs.flatMap natB).length≤10*vs.length:=by
  intro vs
  induction vs with
  | nil=>intro _;simp
  | cons a r ih =>
    intro hv
    have h1:=natB_len10 (hv a (by simp))
    have h2:=ih (fun u hu=>hv u (by simp [hu]))
    simp only [List.flatMap_cons,List.length_append,List.length_cons]
    omega
 have h1:=gen (us.take k) (fun u hu=>h u (List.mem_of_mem_take hu))
 have h2:(us.take k).length≤k:=List.length_take_le _ _
 omega
set_option maxRecDepth 100000 in
set_option maxHeartbeats 400000 in
theorem quill_nat (w:World) (q:Nat) (F:List Nat) (l:List UInt8) (ao:Option Addr) (cap:Nat) (us:List Nat) (hus:∀ u∈us,u<2^64)
 (hq:Qul w q F l) (hr:Rd w 1 (.slice ao us.length cap) us.length (u64s us)) (hap:∀ b∈abl ao,b∉F) (hroom:l.length+10*us.length≤70368744177664) :
 Calls Tryz.prog 135 #[.pointer (some ⟨q,0,none⟩),.slice ao us.length cap] w fun e w'=>e=.returned (.tuple #[]) ∧
  ∃ F',Qul w' q F' (l++us.flatMap natB)∧Mv F w F' w':=by
 go_enter Tryz.func135,Tryz.ntmps135
 go_wp2
 go_loopw [5,8] (fun _ i wr=>∃ k F1,k≤us.length∧i=.int .i64 (k:Nat)∧Qul wr q F1 (l++(us.take k).flatMap natB)∧Mv F w F1 wr) (fun _ i _=>us.length-(intOf i).toNat)
 case atStart=>exact ⟨0,F,Nat.zero_le _,rfl,by simpa using hq,Mv.refl _ _⟩
 case round =>
  obtain ⟨k,F1,hk,rfl,hq1,hm1⟩:=hrel
  by_cases hlt:k<us.length
  ·have hr1:=hr.chg hm1.chg (by simpa using hap)
   obtain ⟨b,o,rfl,hc⟩:=hr1.addr (by omega)
   have hck:=hc k (by omega)
   have hu:=hus us[k] (List.getElem_mem _)
   rw [u64s,List.getElem?_map,List.getElem?_eq_getElem hlt,Option.map_some] at hck
   generalize hgu:us[k]=u at *
   clear hr1 hr hc
   go_wp2
   have htk:us.take (k+1)=us.take k++[u]:=by rw [List.take_succ_eq_append_getElem hlt,hgu]
   have hlen:(l++(us.take k).flatMap natB).length+10≤70368744177664:=by
    have:=flat10 us hus k
    simp only [List.length_append]
    omega
   have HTK:=Lib.hid htk
   clear htk hgu
   obtain ⟨wo,rfl⟩:∃ wo:World,wo=wr:=⟨_,rfl⟩
   go_loopw [5] (fun x wi=>∃ m F2 l2,x=.int .u64 (m:Nat)∧m<2^64∧Qul wi q F2 l2∧Mv F1 wo F2 wi∧l2++natB m=l++(us.take k).flatMap natB++natB u) (fun x _=>(intOf x).toNat)
   case atStart=>exact ⟨u,F1,_,rfl,hu,hq1,Mv.refl _ _,rfl⟩
   case round =>
    obtain ⟨m,F2,l2,rfl,hm,hq2,hm2,hl2⟩:=hrel
    have HL:Hid (l2++natB m=l++(us.take k).flatMap natB++natB u):=hl2
    have hlen2:l2.length≤70368744177664:=by
     have h1:=congrArg List.length hl2
     have h2:=natB_len10 hu
     have h3:=natB_pos m
     simp only [List.length_append] at h1 hlen
     omega
    clear hl2
    obtain ⟨a2,c2,rfl,hb2,ho2⟩:=hq2
    have hc2:=hb2.cell 0
    have hq2:q∉abl a2:=by simpa using ho2.ne_blk hb2 (by decide)
    by_cases hge:128≤m
    ·obtain ⟨c,hc⟩:∃ c,c=UInt8.ofNat (128+m % 128):=⟨_,rfl⟩
     have hor:=or_128 m
     rw [←hc] at hor
     have HC:=Lib.hid hc
     clear hc
     go_wp2_with (at_builtin;go_must (refine wpList_append_src _ rfl (.tmp 18) (.tmp 22) 37 37 rfl 5 (.int .u8 0) 1 1 under_bytes info_u8 rfl (by decide) (.slice a2 l2.length c2) l2.length (u8s l2) rfl (ho2.alloc _) _ 1 (u8s [c]) rfl (Src.of_rd under_bytes (Rd.lit1 _ _ _ _)) (u8s_oneCell _) (by unfold maxLen;omega) (by omega) ?_;intro a3 c3 w3 ho3 hg3 hf3;have hb3:=(hb2.alloc _).chg hg3 (by simpa using hq2);have hc3:=hb3.cell 0;have hz3:=hb3.free 0))
     have R:=Qul.push hb2 ho2 ho3 (x:=[c]) rfl (((Chg.refl (abl a2) wr).alloc _).trans (by simpa using hg3)) (fun b hb=>by rcases hf3 b hb with h|h;exact .inl (by simpa using h);right;simp at h;omega)
     refine ⟨⟨m / 128,_,_,by go_num,by omega,R.1,hm2.trans R.2,?_⟩,by simp [intOf];omega⟩
     rw [←HL.out,natB_ge hge,HC.out]
     simp
    ·obtain ⟨c,hc⟩:∃ c,c=UInt8.ofNat m:=⟨_,rfl⟩
     have hR:Rd (wr.alloc (.cells #[.int .u8 (m:Int)] 5)) 1 (.slice (some ⟨wr.heap.size,0,none⟩) 1 1) 1 (u8s [c]):=by
      rw [show u8s [c]=[.int .u8 (m:Int)] from by rw [hc,u8s,List.map_singleton,toNat_ofNat (by omega)]]
      exact Rd.lit1 _ _ _ _
     have HC:=Lib.hid hc
     clear hc
     go_wp2_with (at_builtin;go_must (refine wpList_append_src _ rfl (.tmp 32) (.tmp 35) 37 37 rfl 5 (.int .u8 0) 1 1 under_bytes info_u8 rfl (by decide) (.slice a2 l2.length c2) l2.length (u8s l2) rfl (ho2.alloc _) _ 1 (u8s [c]) rfl (Src.of_rd under_bytes hR) (u8s_oneCell _) (by unfold maxLen;omega) (by omega) ?_;intro a3 c3 w3 ho3 hg3 hf3;have hb3:=(hb2.alloc _).chg hg3 (by simpa using hq2);have hc3:=hb3.cell 0;have hz3:=hb3.free 0))
     have R:=Qul.push hb2 ho2 ho3 (x:=[c]) rfl (((Chg.refl (abl a2) wr).alloc _).trans (by simpa using hg3)) (fun b hb=>by rcases hf3 b hb with h|h;exact .inl (by simpa using h);right;simp at h;omega)
     refine ⟨⟨k+1,_,by omega,by go_num,?_,(hm1.trans hm2).trans R.2⟩,by simp [intOf];omega⟩
     have e:l++(us.take (k+1)).flatMap natB=l2++[c]:=by
      rw [HTK.out,List.flatMap_append,List.flatMap_singleton,←List.append_assoc,←HL.out,natB_lt (by omega),HC.out]
     rw [e]
     exact R.1
  ·obtain rfl:k=us.length:=by omega
   go_wp2
   go_end0
   exact ⟨rfl,F1,by simpa using hq1,hm1⟩
theorem Qul.chg {w w1:World} {q:Nat} {F G:List Nat} {l:List UInt8} (h:Qul w q F l) (k:Chg G w w1) (hn:∀ b∈F,b∉G):Qul w1 q F l:=by
 obtain ⟨ao,cap,rfl,hb,ho⟩:=h
 exact ⟨ao,cap,rfl,hb.chg k (hn q (by simp)),ho.chg k (fun b hb=>hn b (by simpa using .inr (by simpa using hb)))⟩
theorem Qul.alloc {w:World} {q:Nat} {F:List Nat} {l:List UInt8} (h:Qul w q F l) (o:Obj):Qul (w.alloc o) q F l:=h.chg ((Chg.refl [] w).alloc o) (by simp)
theorem Qul.lt {w:World} {q:Nat} {F:List Nat} {l:List UInt8} (h:Qul w q F l):∀ b∈F,b<w.heap.size:=by
 obtain ⟨ao,cap,rfl,hb,ho⟩:=h
 intro b hb'
 rcases List.mem_cons.1 hb' with rfl|h1
 ·exact hb.lt
 ·exact ho.lt b (by simpa using h1)
theorem quill_nat1 (w:World) (q:Nat) (F:List Nat) (l:List UInt8) (u:Nat) (hu:u<18446744073709551616) (hq:Qul w q F l) (b0:Nat) (hb0:b0=w.heap.size) (hroom:l.length+10≤70368744177664) :
 Calls Tryz.prog 135 #[.pointer (some ⟨q,0,none⟩),.slice (some ⟨b0,0,none⟩) 1 1] (w.alloc (.cells #[.int .u64 u] 23)) fun e w'=>e=.returned (.tuple #[]) ∧
  ∃ F',Qul w' q F' (l++natB u)∧Mv F w F' w':=by
 subst hb0
 refine (quill_nat (w.alloc (.cells #[.int .u64 u] 23)) q F l (some ⟨w.heap.size,0,none⟩) 1 [u] (by simpa using hu) (hq.alloc _) (Rd.lit1 _ _ _ _) (fun b hb => ?_) (by simpa using hroom)).mono ?_
 ·have hlt:=hq.lt
  simp only [abl_some,List.mem_singleton] at hb
  intro hF
  have:=hlt b hF
  omega
 ·rintro e w' ⟨rfl,F',h1,h2⟩
  exact ⟨rfl,F',by simpa using h1,(Mv.alloc F w _).trans h2⟩
end Go.Proofs.YthoolcpcmhhkpaaGreatDoor
namespace Go.Proofs.YthoolcpcmhhkpaaGreatDoor
open Go.RowKit
set_option maxHeartbeats 400000 in
theorem sign_zig (w:World) (x:Int) (h0:-9223372036854775808≤x) (h1:x<9223372036854775808) :
 Calls Tryz.prog 357 #[.int .i64 x] w fun e w'=>e=.returned (.int .u64 (zig x))∧w=w':=by
 go_enter Tryz.func357,Tryz.ntmps357
 go_wp2
 go_ret
 exact ⟨ret_int (zig_bits x h0 h1),rfl⟩
def i64s (us:List Int):List Value:=us.map fun u:Int=>Value.int .i64 u
set_option maxRecDepth 100000 in
set_option maxHeartbeats 400000 in
theorem quill_int (w:World) (q:Nat) (F:List Nat) (l:List UInt8) (ao:Option Addr) (cap:Nat) (us:List Int) (hus:∀ u∈us,-9223372036854775808≤u∧u<9223372036854775808)
 (hq:Qul w q F l) (hr:Rd w 1 (.slice ao us.length cap) us.length (i64s us)) (hap:∀ b∈abl ao,b∉F) (hroom:l.length+10*us.length+10≤70368744177664) :
 Calls Tryz.prog 354 #[.pointer (some ⟨q,0,none⟩),.slice ao us.length cap] w fun e w'=>e=.returned (.tuple #[]) ∧
  ∃ F',Qul w' q F' (l++us.flatMap fun x=>natB (zig x))∧Mv F w F' w':=by
 go_enter Tryz.func354,Tryz.ntmps354
 go_wp2
 go_loopw [8] (fun i wr=>∃ k F1,k≤us.length∧i=.int .i64 (k:Nat)∧Qul wr q F1 (l++(us.take k).flatMap fun x=>natB (zig x))∧Mv F w F1 wr) (fun i _=>us.length-(intOf i).toNat)
 case atStart=>exact ⟨0,F,Nat.zero_le _,rfl,by simpa using hq,Mv.refl _ _⟩
 case round =>
  obtain ⟨k,F1,hk,rfl,hq1,hm1⟩:=hrel
  by_cases hlt:k<us.length
  ·have hr1:=hr.chg hm1.chg (by simpa using hap)
   obtain ⟨b,o,rfl,hc⟩:=hr1.addr (by omega)
   have hck:=hc k (by omega)
   obtain ⟨hu0,hu1⟩:=hus us[k] (List.getElem_mem _)
   rw [i64s,List.getElem?_map,List.getElem?_eq_getElem hlt,Option.map_some] at hck
   have hlen:(l++(us.take k).flatMap fun x=>natB (zig x)).length+10≤70368744177664:=by
    have h1:=flat10 (us.map zig) (fun u hu=>by
     obtain ⟨x,hx,rfl⟩:=List.mem_map.1 hu
     exact zig_lt (hus x hx).1 (hus x hx).2) k
    rw [←List.map_take,List.flatMap_map] at h1
    simp only [List.length_append]
    omega
   have htk:us.take (k+1)=us.take k++[us[k]]:=List.take_succ_eq_append_getElem hlt
   generalize us[k]=u at *
   have HTK:=Lib.hid htk
   clear hr1 hr hc htk
   go_wp2_with fail
   refine (sign_zig _ u hu0 hu1).mono ?_
   rintro e w' ⟨rfl,rfl⟩
   go_wp2_with fail
   refine (quill_nat1 wr q F1 _ (zig u) (zig_lt hu0 hu1) hq1 _ rfl hlen).mono ?_
   rintro e w2 ⟨rfl,F2,hq2,hm2⟩
   go_wp2
   refine ⟨⟨k+1,F2,by omega,by go_num,?_,hm1.trans hm2⟩,by simp [intOf];omega⟩
   rw [HTK.out,List.flatMap_append,List.flatMap_singleton,←List.append_assoc]
   exact hq2
  ·obtain rfl:k=us.length:=by omega
   go_wp2
   go_end0
   exact ⟨rfl,F1,by simpa using hq1,hm1⟩
theorem quill_int1 (w:World) (q:Nat) (F:List Nat) (l:List UInt8) (x:Int) (h0:-9223372036854775808≤x) (h1:x<9223372036854775808) (hq:Qul w q F l) (b0:Nat) (hb0:b0=w.heap.size) (hroom:l.length+20≤70368744177664) :
 Calls Tryz.prog 354 #[.pointer (some ⟨q,0,none⟩),.slice (some ⟨b0,0,none⟩) 1 1] (w.alloc (.cells #[.int .i64 x] 2)) fun e w'=>e=.returned (.tuple #[]) ∧
  ∃ F',Qul w' q F' (l++natB (zig x))∧Mv F w F' w':=by
 subst hb0
 refine (quill_int (w.alloc (.cells #[.int .i64 x] 2)) q F l (some ⟨w.heap.size,0,none⟩) 1 [x] (by simpa using ⟨h0,h1⟩) (hq.alloc _) (Rd.lit1 _ _ _ _) (fun b hb => ?_) (by simp;omega)).mono ?_
 ·have hlt:=hq.lt
  simp only [abl_some,List.mem_singleton] at hb
  intro hF
  have:=hlt b hF
  omega
 ·rintro e w' ⟨rfl,F',h1,h2⟩
  exact ⟨rfl,F',by simpa using h1,(Mv.alloc F w _).trans h2⟩
theorem under_string:Tryz.prog.underlying 9=some .string:=by kernel_rfl
theorem under_u8:Tryz.prog.underlying 5=some (.int .u8):=by kernel_rfl
set_option maxHeartbeats 400000 in
theorem quill_raw (w:World) (q:Nat) (F:List Nat) (l s:List UInt8) (hq:Qul w q F l) (hroom:l.length+s.length≤70368744177664) :
 Calls Tryz.prog 134 #[.pointer (some ⟨q,0,none⟩),.string ⟨s.toArray⟩] w fun e w'=>e=.returned (.tuple #[]) ∧
  ∃ F',Qul w' q F' (l++s)∧Mv F w F' w':=by
 obtain ⟨a2,c2,rfl,hb2,ho2⟩:=hq
 have hc2:=hb2.cell 0
 have hq2:q∉abl a2:=by simpa using ho2.ne_blk hb2 (by decide)
 go_enter Tryz.func134,Tryz.ntmps134
 go_wp2_with (at_builtin;go_must (refine wpList_append_src _ rfl (.tmp 8) (.tmp 9) 37 9 rfl 5 (.int .u8 0) 1 1 under_bytes info_u8 rfl (by decide) (.slice a2 l.length c2) l.length (u8s l) rfl ho2 (.string ⟨s.toArray⟩) s.length (u8s s) rfl (Src.of_string under_string s) (u8s_oneCell _) (by unfold maxLen;omega) (by omega) ?_;intro a3 c3 w3 ho3 hg3 hf3;have hb3:=hb2.chg hg3 (by simpa using hq2);have hc3:=hb3.cell 0;have hz3:=hb3.free 0))
 have R:=Qul.push hb2 ho2 ho3 (x:=s) rfl (by simpa using hg3) (by simpa using hf3)
 go_end0
 exact ⟨rfl,_,R.1,R.2⟩
set_option maxHeartbeats 400000 in
theorem quill_text (w:World) (q:Nat) (F:List Nat) (l:List UInt8) (hq:Qul w q F l) :
 Calls Tryz.prog 68 #[.pointer (some ⟨q,0,none⟩)] w fun e w'=>e=.returned (.string ⟨l.toArray⟩)∧w=w':=by
 obtain ⟨a2,c2,rfl,hb2,ho2⟩:=hq
 have hc2:=hb2.cell 0
 have hcv:=run_string_rd (P:=Tryz.prog) (dst:=9) under_bytes under_u8 under_string ho2.rd
 go_enter Tryz.func68,Tryz.ntmps68
 go_wp2
 go_ret
 exact ⟨rfl,rfl⟩
def EyeAt (w:World) (e:Nat) (st:Option (List UInt8)):Prop:=Blk w e #[.string ⟨(st.getD []).toArray⟩,.bool st.isNone] 131
theorem EyeAt.chg {w w1:World} {e:Nat} {F:List Nat} {st:Option (List UInt8)} (h:EyeAt w e st) (k:Chg F w w1) (hn:e∉F):EyeAt w1 e st:=Blk.chg h k hn
set_option maxHeartbeats 400000 in
theorem eye_on (w:World) (s:List UInt8) :
 Calls Tryz.prog 33 #[.string ⟨s.toArray⟩] w fun r w'=>r=.returned (.pointer (some ⟨w.heap.size,0,none⟩))∧EyeAt w' w.heap.size (some s)∧Chg [] w w':=by
 go_enter Tryz.func33,Tryz.ntmps33
 go_wp2
 go_ret
 exact ⟨rfl,Blk.alloc_new _ _ _,(Chg.refl _ _).alloc _⟩
set_option maxHeartbeats 400000 in
theorem eye_shut (w:World) (e:Nat) (st:Option (List UInt8)) (he:EyeAt w e st) :
 Calls Tryz.prog 136 #[.pointer (some ⟨e,0,none⟩)] w fun r w'=>r=.returned (.tuple #[])∧EyeAt w' e none∧Chg [e] w w':=by
 have c0:=he.cell 0
 have c1:=he.cell 1
 have z0:=he.free 0
 have z1:=he.free 1
 go_enter Tryz.func136,Tryz.ntmps136
 go_wp2
 go_end0
 exact ⟨rfl,by simpa [EyeAt] using (he.setCell 0 (.string ⟨#[]⟩)).setCell 1 (.bool true),((Chg.refl _ _).setCell (.inl (by simp)) _).setCell (.inl (by simp)) _⟩
attribute [local go_sem] ByteArray.extract_mk
set_option maxHeartbeats 400000 in
theorem eye_raw (w:World) (e:Nat) (st:Option (List UInt8)) (n:Int) (he:EyeAt w e st) (hl:∀ l,st=some l→l.length≤70368744177664) :
 Calls Tryz.prog 71 #[.pointer (some ⟨e,0,none⟩),.int .i64 n] w fun r w'=>r=.returned (.string ⟨(eRaw n st).1.toArray⟩)∧EyeAt w' e (eRaw n st).2∧Chg [e] w w':=by
 have bad:∀ st':Option (List UInt8),EyeAt ((w.setCell ⟨e,0,none⟩ (.string ⟨#[]⟩)).setCell ⟨e,1,none⟩ (.bool true)) e none∧Chg [e] w ((w.setCell ⟨e,0,none⟩ (.string ⟨#[]⟩)).setCell ⟨e,1,none⟩ (.bool true)):=fun _ =>
  ⟨by simpa [EyeAt] using (he.setCell 0 (.string ⟨#[]⟩)).setCell 1 (.bool true),((Chg.refl _ _).setCell (.inl (by simp)) _).setCell (.inl (by simp)) _⟩
 have HB:=Lib.hid bad
 clear bad
 have c0:=he.cell 0
 have c1:=he.cell 1
 have z0:=he.free 0
 have z1:=he.free 1
 cases st with
 | none =>
   go_enter Tryz.func71,Tryz.ntmps71
   go_wp2
   go_ret
   exact ⟨rfl,HB.out none⟩
 | some l =>
   have hl':=hl l rfl
   clear hl
   by_cases h0:0≤n
   ·by_cases h1:n≤l.length
    ·have HF:=Lib.hid (show eRaw n (some l)=(l.take n.toNat,some (l.drop n.toNat)) from if_pos ⟨h0,h1⟩)
     obtain ⟨n,rfl⟩:=Int.eq_ofNat_of_zero_le h0
     have h2:n≤l.length:=by omega
     go_enter Tryz.func71,Tryz.ntmps71
     go_wp2
     go_ret
     rw [HF.out]
     refine ⟨by simp,?_,(Chg.refl _ _).setCell (.inl (by simp)) _⟩
     have:=he.setCell 0 (.string ⟨(l.drop n).toArray⟩)
     rw [show (l.drop n).take (l.length-n)=l.drop n from List.take_of_length_le (by simp)]
     simpa [EyeAt] using this
    ·have HF:=Lib.hid (show eRaw n (some l)=([],none) from if_neg (by omega))
     obtain ⟨n,rfl⟩:=Int.eq_ofNat_of_zero_le h0
     have h2:¬n≤l.length:=by omega
     go_enter Tryz.func71,Tryz.ntmps71
     go_wp2
     go_ret
     rw [HF.out]
     exact ⟨rfl,HB.out none⟩
   ·have HF:=Lib.hid (show eRaw n (some l)=([],none) from if_neg (by omega))
    have h2:n<0:=by omega
    go_enter Tryz.func71,Tryz.ntmps71
    go_wp2
    go_ret
    rw [HF.out]
    exact ⟨rfl,HB.out none⟩
theorem eye_over (w:World) (e:Nat) (st:Option (List UInt8)) (he:EyeAt w e st) :
 Calls Tryz.prog 35 #[.pointer (some ⟨e,0,none⟩)] w fun r w'=>r=.returned (.bool (st==some []))∧w=w':=by
 have c0:=he.cell 0
 have c1:=he.cell 1
 rcases st with _|_|⟨a,l⟩
 all_goals
  go_enter Tryz.func35,Tryz.ntmps35
  go_wp2
  go_ret
  exact ⟨rfl,rfl⟩
end Go.Proofs.YthoolcpcmhhkpaaGreatDoor
namespace Go.Proofs.YthoolcpcmhhkpaaGreatDoor
open Go.RowKit
theorem and_one32 (c:Nat) (h:c<4294967296):bits .and .u32 (c:Int) 1=((c % 2:Nat):Int):=by
 have:=u32_and_nat c 1 h (by omega)
 rw [Nat.and_one_is_mod] at this
 exact this
theorem crcT_odd {c:Nat} (h:c % 2=1) (hc:c<4294967296):bits .xor .u32 ((c:Int) / 2) 3988292384=(crcT c:Int):=by
 have:=u32_xor_nat (c / 2) 3988292384 (by omega) (by omega)
 rw [crcT,if_pos h]
 simpa using this
theorem crcT_ev {c:Nat} (h:¬c % 2=1):(c:Int) / 2=(crcT c:Int):=by rw [crcT,if_neg h];simp
set_option maxRecDepth 100000 in
theorem frame_step (w:World) (c:Nat) (b:UInt8) (hc:c<4294967296) :
 Calls Tryz.prog 138 #[.int .u32 c,.int .u8 (b.toNat:Nat)] w fun e w'=>e=.returned (.int .u32 (crcStep c b:Nat))∧w=w':=by
 have hb:=b.toNat_lt
 have hx:=u32_xor_nat c b.toNat hc (by omega)
 have hw:IntKind.u32.wrap (b.toNat:Int)=(b.toNat:Int):=by simp [IntKind.wrap,IntKind.bits,IntKind.signed];omega
 have hlt:=xor_byte_lt hc b
 generalize hd:c ^^^ b.toNat=d at *
 rw [crcStep,hd]
 generalize b.toNat=u at *
 clear hd
 go_enter Tryz.func138,Tryz.ntmps138
 go_wp2
 go_loopw [0,9] (fun c i wx=>∃ k,k≤8∧i=.int .i64 (k:Nat)∧c=.int .u32 (crcTN k d:Nat)∧w=wx) (fun _ i _=>8-(intOf i).toNat)
 case atStart=>exact ⟨0,by omega,rfl,rfl,rfl⟩
 case round =>
  obtain ⟨k,hk,rfl,rfl,rfl⟩:=hrel
  have hcl:=crcTN_lt hlt k
  have hand:=and_one32 _ hcl
  have hs:crcTN (k+1) d=crcT (crcTN k d):=rfl
  by_cases h8:k<8
  ·by_cases ho:crcTN k d % 2=1
   ·have hx:=crcT_odd ho hcl
    rw [←hs] at hx
    obtain ⟨n2,hn2⟩:∃ n2,n2=crcTN (k+1) d:=⟨_,rfl⟩
    rw [←hn2] at hx
    have HS:=Lib.hid hn2
    clear hs hn2
    generalize crcTN k d=n1 at *
    go_wp2
    exact ⟨⟨k+1,by omega,by go_num,by rw [HS.out],trivial⟩,by simp [intOf];omega⟩
   ·have hx:=crcT_ev ho
    rw [←hs] at hx
    obtain ⟨n2,hn2⟩:∃ n2,n2=crcTN (k+1) d:=⟨_,rfl⟩
    rw [←hn2] at hx
    have HS:=Lib.hid hn2
    clear hs hn2
    generalize crcTN k d=n1 at *
    go_wp2
    exact ⟨⟨k+1,by omega,by go_num,by rw [HS.out],trivial⟩,by simp [intOf];omega⟩
  ·obtain rfl:k=8:=by omega
   go_wp2
   go_ret
   exact ⟨rfl,rfl⟩
theorem crc_not (c:Nat) (h:c<4294967296):bits .xor .u32 IntKind.u32.max (c:Int)=((4294967295-c:Nat):Int):=by
 have:=u32_xor_nat 4294967295 c (by omega) h
 rw [show (4294967295:Nat) ^^^ c=4294967295-c from by
  rw [Nat.xor_comm]
  have h1:c ^^^ (4294967295-c)=4294967295:=xor_ones32 c h
  have h2:=congrArg (c ^^^ ·) h1
  simp only [←Nat.xor_assoc,Nat.xor_self,Nat.zero_xor] at h2
  exact h2.symm] at this
 exact this
set_option maxRecDepth 100000 in
theorem frame_sum (w:World) (s:List UInt8) (hs:s.length≤70368744177664) :
 Calls Tryz.prog 74 #[.string ⟨s.toArray⟩] w fun e w'=>e=.returned (.int .u32 (crcSum s:Nat))∧w=w':=by
 go_enter Tryz.func74,Tryz.ntmps74
 go_wp2
 go_loopw [3,7] (fun c i wx=>∃ k,k≤s.length∧i=.int .i64 (k:Nat)∧c=.int .u32 (crcOf 4294967295 (s.take k):Nat)∧w=wx) (fun _ i _=>s.length-(intOf i).toNat)
 case atStart=>exact ⟨0,by omega,rfl,rfl,rfl⟩
 case round =>
  obtain ⟨k,hk,rfl,rfl,rfl⟩:=hrel
  have hcl:=crcOf_lt (c:=4294967295) (by omega) (s.take k)
  by_cases hlt:k<s.length
  ·have HS:=Lib.hid (crcOf_take_succ 4294967295 s k hlt)
   have hg:s.toArray.getD k 0=s[k]:=by simp [hlt]
   generalize crcOf 4294967295 (s.take k)=c at *
   go_wp2_with fail
   refine (frame_step w c s[k] hcl).mono ?_
   rintro e w1 ⟨rfl,rfl⟩
   go_wp2
   exact ⟨⟨k+1,by omega,by go_num,by rw [HS.out],trivial⟩,by simp [intOf];omega⟩
  ·obtain rfl:k=s.length:=by omega
   rw [List.take_length] at hcl ⊢
   have hn:=crc_not _ hcl
   rw [show 4294967295-crcOf 4294967295 s=crcSum s from rfl] at hn
   generalize crcOf 4294967295 s=c at *
   go_wp2
   go_ret
   exact ⟨rfl,rfl⟩
theorem u8_of (x m:Nat):IntKind.u8.wrap ((x:Int) / (m:Nat))=((UInt8.ofNat (x / m % 256)).toNat:Int):=by
 rw [toNat_ofNat (by omega)]
 simp [IntKind.wrap,IntKind.bits,IntKind.signed]
theorem u8_of1 (x:Nat):IntKind.u8.wrap (x:Int)=((UInt8.ofNat (x % 256)).toNat:Int):=by
 have:=u8_of x 1
 simpa using this
set_option maxRecDepth 100000 in
theorem frame_four (w:World) (c:Nat) :
 Calls Tryz.prog 73 #[.int .u32 c] w fun e w'=>e=.returned (.string ⟨(fourB c).toArray⟩)∧Chg [] w w':=by
 have h0:=u8_of1 c
 have h1:IntKind.u8.wrap ((c:Int) / 256)=_:=u8_of c 256
 have h2:IntKind.u8.wrap ((c:Int) / 65536)=_:=u8_of c 65536
 have h3:IntKind.u8.wrap ((c:Int) / 16777216)=_:=u8_of c 16777216
 rw [fourB]
 generalize UInt8.ofNat (c % 256)=b0 at *
 generalize UInt8.ofNat (c / 256 % 256)=b1 at *
 generalize UInt8.ofNat (c / 65536 % 256)=b2 at *
 generalize UInt8.ofNat (c / 16777216 % 256)=b3 at *
 have hr:=Rd.lit w #[.int .u8 b0.toNat,.int .u8 b1.toNat,.int .u8 b2.toNat,.int .u8 b3.toNat] 5 1 4 4 (by simp)
 have hcv:=run_string_rd (P:=Tryz.prog) (dst:=9) under_bytes under_u8 under_string (l:=[b0,b1,b2,b3]) (by simpa [u8s] using hr)
 go_enter Tryz.func73,Tryz.ntmps73
 go_wp2
 go_ret
 exact ⟨rfl,(Chg.refl [] w).alloc _⟩
end Go.Proofs.YthoolcpcmhhkpaaGreatDoor
namespace Go.Proofs.YthoolcpcmhhkpaaGreatDoor
open Go.RowKit
def jumps (J:Nat→Act→World→Prop) (Q:Exit→Act→World→Prop):Exit→Act→World→Prop
 | .goto l,a,w=>J l a w
 | e,a,w=>Q e a w
section
variable {J:Nat→Act→World→Prop} {Q:Exit→Act→World→Prop} {a:Act} {w:World}
@[go_sem] theorem jumps_goto (l:Nat):jumps J Q (.goto l) a w=J l a w:=rfl
@[go_sem] theorem jumps_normal:jumps J Q .normal a w=Q .normal a w:=rfl
@[go_sem] theorem jumps_exit (id:Nat):jumps J Q (.exit id) a w=Q (.exit id) a w:=rfl
@[go_sem] theorem jumps_ret:jumps J Q .ret a w=Q .ret a w:=rfl
@[go_sem] theorem jumps_panic (ch:List PanicEntry):jumps J Q (.panic ch) a w=Q (.panic ch) a w:=rfl
theorem wp_scope_labels {P:Program} {c:Code} (J:Nat→Act→World→Prop) (μ:Nat→Act→World→Nat)
 (first:c.wp P (jumps J Q) a w)
 (pass:∀ l a w,J l a w→∃ R,findLabel c l=some (.seq .skip R)∧R.wp P (jumps (fun l' a' w'=>J l' a' w'∧μ l' a' w'<μ l a w) Q) a w):(Code.scope c).wp P Q a w:=by
 intro b k cs
 have hg:∀ l rest,findLabel c l=some rest→gotoIn l (.inScope c::k)=some (.code rest :: .inScope c::k):=fun l rest hf=>by simp [gotoIn,hf]
 have key:∀ n l a w rest,μ l a w=n→J l a w→findLabel c l=some rest→∃ e a' w',Q e a' w'∧Arrives P (lone (b.at a (.code rest :: .inScope c::k)) cs w) b k cs e a' w':=by
  intro n
  induction n using Nat.strongRecOn with
  | _ n ih =>
    intro l a w rest hn hJ hf
    obtain ⟨R,hf',hp0⟩:=pass l a w hJ
    rw [hf] at hf'
    obtain rfl:=Option.some.inj hf'
    have hp:=wp_seq (x:=Code.skip) (y:=R) (wp_skip (P:=P) (Q:=Exit.then (R.wp P _) _) (a:=a) (w:=w) hp0)
    obtain ⟨e,a₁,w₁,hq,harr⟩:=hp b (.inScope c::k) cs
    cases e with
    | normal=>exact ⟨.normal,a₁,w₁,hq,Steps.trans harr (.one step_inScope)⟩
    | exit id=>exact ⟨.exit id,a₁,w₁,hq,fun k' hk=>harr k' (by simp [exitTo,hk])⟩
    | goto l' =>
      obtain ⟨hJ',hlt⟩:=hq
      obtain ⟨rest2,hf2,_⟩:=pass l' a₁ w₁ hJ'
      obtain ⟨e₂,a₂,w₂,hq₂,harr₂⟩:=ih _ (by omega) l' a₁ w₁ _ rfl hJ' hf2
      exact ⟨e₂,a₂,w₂,hq₂,.of_steps (harr _ (hg l' _ hf2)) harr₂⟩
    | ret=>exact ⟨_,a₁,w₁,hq,harr⟩
    | panic ch=>exact ⟨_,a₁,w₁,hq,harr⟩
    | outgrown=>exact ⟨_,a₁,w₁,hq,harr⟩
 obtain ⟨e,a₁,w₁,hq,harr⟩:=first b (.inScope c::k) cs
 cases e with
 | normal=>exact ⟨.normal,a₁,w₁,hq,.head step_scope (Steps.trans harr (.one step_inScope))⟩
 | exit id=>exact ⟨.exit id,a₁,w₁,hq,fun k' hk=>.head step_scope (harr k' (by simp [exitTo,hk]))⟩
 | goto l' =>
   obtain ⟨rest2,hf2,_⟩:=pass l' a₁ w₁ hq
   obtain ⟨e₂,a₂,w₂,hq₂,harr₂⟩:=key _ l' a₁ w₁ _ rfl hq hf2
   exact ⟨e₂,a₂,w₂,hq₂,.of_steps (.head step_scope (harr _ (hg l' _ hf2))) harr₂⟩
 | ret=>exact ⟨_,a₁,w₁,hq,.of_steps (.one step_scope) harr⟩
 | panic ch=>exact ⟨_,a₁,w₁,hq,.of_steps (.one step_scope) harr⟩
 | outgrown=>exact ⟨_,a₁,w₁,hq,.of_steps (.one step_scope) harr⟩
end
end Go.Proofs.YthoolcpcmhhkpaaGreatDoor
namespace Go.Proofs.YthoolcpcmhhkpaaGreatDoor
open Go.RowKit
def finNat (i u most:Nat) (l:List UInt8):Nat × Option (List UInt8):=
 match leb i l with
 | some (v,r)=>if u+v*128^i≤most then (u+v*128^i,some r) else (0,none)
 | none=>(0,none)
def natFrame (e most u:Nat) (sh:Value) (f:Nat→Value):Act:=
 { tmps:=#[.pointer (some ⟨e,0,none⟩),.int .u64 most,undef,undef,.int .u64 0,.int .u64 u,sh,f 7,f 8,f 9,f 10,f 11,f 12,f 13,f 14,f 15,f 16,f 17,f 18,f 19,f 20,f 21,f 22,f 23,f 24,f 25,f 26,f 27,f 28,f 29,f 30,f 31,f 32,f 33,f 34,f 35,f 36,f 37,f 38,f 39,f 40,f 41,f 42,f 43,f 44,f 45,f 46,f 47,f 48],defers:=[] }
def natJ (w:World) (e most:Nat) (st:Option (List UInt8)):Nat→Act→World→Prop
 | 0,a,wr=>∃ (i u:Nat) (l:List UInt8),i≤9∧u<128^i∧l.length≤70368744177664∧EyeAt wr e (some l)∧Chg [e] w wr ∧
    a=natFrame e most u (.int .i64 (7*(i:Int))) (fun k=>a.tmps.getD k undef)∧finNat i u most l=eNat most st
 | 1,a,wr=>∃ (u:Nat) (sh:Value) (st':Option (List UInt8)),EyeAt wr e st'∧Chg [e] w wr∧a=natFrame e most u sh (fun k=>a.tmps.getD k undef)∧eNat most st=(0,none)
 | _,_,_=>False
def natM:Nat→Act→World→Nat
 | 0,a,_=>100-(intOf (a.tmps.getD 6 undef)).toNat
 | _,_,_=>0
theorem finNat_zero (most:Nat) (l:List UInt8):finNat 0 0 most l=eNat most (some l):=by
 unfold finNat eNat
 cases hl:leb 0 l<;>simp [hl]
theorem finNat_nil (i u most:Nat):finNat i u most []=(0,none):=by simp [finNat,leb]
theorem finNat_bad {i u most:Nat} {c:UInt8} {r:List UInt8} (h:i=9∧1<c.toNat∨c.toNat=0∧0<i):finNat i u most (c::r)=(0,none):=by
 simp only [finNat,leb,if_pos h]
theorem finNat_more {i u most:Nat} {c:UInt8} {r:List UInt8} (h:¬(i=9∧1<c.toNat∨c.toNat=0∧0<i)) (h1:128≤c.toNat) :
 finNat i u most (c::r)=finNat (i+1) (u+c.toNat % 128*128^i) most r:=by
 simp only [finNat,leb,if_neg h,if_pos h1]
 cases hl:leb (i+1) r with
 | none=>rfl
 | some p =>
   have e:u+(c.toNat % 128+128*p.1)*128^i=u+c.toNat % 128*128^i+p.1*128^(i+1):=by
    rw [Nat.pow_succ,Nat.add_mul,Nat.add_assoc,Nat.mul_comm 128 p.1,Nat.mul_assoc,Nat.mul_comm 128 (128^i)]
   simp only [Option.map_some,e]
theorem finNat_last {i u most:Nat} {c:UInt8} {r:List UInt8} (h:¬(i=9∧1<c.toNat∨c.toNat=0∧0<i)) (h1:¬128≤c.toNat) :
 finNat i u most (c::r)=if u+c.toNat % 128*128^i≤most then (u+c.toNat % 128*128^i,some r) else (0,none):=by
 simp only [finNat,leb,if_neg h,if_neg h1]
 rw [Nat.mod_eq_of_lt (by omega)]
set_option maxRecDepth 100000 in
set_option maxHeartbeats 2000000 in
theorem eye_nat (w:World) (e most:Nat) (st:Option (List UInt8)) (_hmost:most<18446744073709551616) (he:EyeAt w e st) (hl:∀ l,st=some l→l.length≤70368744177664) :
 Calls Tryz.prog 137 #[.pointer (some ⟨e,0,none⟩),.int .u64 most] w fun r w'=>r=.returned (.int .u64 (eNat most st).1)∧EyeAt w' e (eNat most st).2∧Chg [e] w w':=by
 go_enter Tryz.func137,Tryz.ntmps137
 go_wp2
 refine (fun pass=>wp_scope_labels (natJ w e most st) natM ?_ pass) ?_
 ·go_wp2
  rename_i K hK
  refine wp_label (hK _ _ ?_)
  cases st with
  | none =>
    clear pass hK hl
    go_wp2_with fail
    refine (eye_raw w e none 1 he (by simp)).mono ?_
    rintro r w1 ⟨rfl,he1,hc1⟩
    have e1:eRaw 1 none=([],none):=rfl
    rw [e1] at he1 ⊢
    go_wp2
    go_step3
    exact ⟨0,_,none,he1,hc1,rfl,rfl⟩
  | some l =>
    obtain ⟨R,hf,hp⟩:=pass 0 (natFrame e most 0 (.int .i64 (7*((0:Nat):Int))) (fun _=>undef)) w ⟨0,0,l,by omega,by omega,hl l rfl,he,Chg.refl _ _,rfl,finNat_zero most l⟩
    obtain rfl:=(Code.seq.inj (Option.some.inj hf)).2
    refine wp_mono hp (fun ex a1 w1 hq => ?_)
    cases ex<;>first|exact hq.1|exact hq
 ·intro lb a wr hJ
  match lb with
  | 0 =>
    obtain ⟨i,u,l,hi,hu,hll,hel,hch,ha,hfin⟩:=hJ
    generalize (fun k=>a.tmps.getD k undef)=f at ha
    subst ha
    refine ⟨_,rfl,?_⟩
    have HFin:=Lib.hid hfin
    clear hfin hl he
    unfold natFrame
    go_wp2_with fail
    refine (eye_raw wr e (some l) 1 hel (by intro l' h;cases h;exact hll)).mono ?_
    rintro r w1 ⟨rfl,he1,hc1⟩
    have hch1:=hch.trans hc1
    clear hc1 hch hel
    cases l with
    | nil =>
      have e1:eRaw 1 (some [])=([],none):=rfl
      rw [e1] at he1 ⊢
      go_wp2
      go_step3
      exact ⟨⟨u,_,none,he1,hch1,rfl,HFin.out.symm.trans (finNat_nil _ _ _)⟩,by simp [natM,intOf];omega⟩
    | cons c rest =>
      have e1:eRaw 1 (some (c::rest))=([c],some rest):=by show (if _ then _ else _)=_;rw [if_pos (by simp;omega)];rfl
      rw [e1] at he1 ⊢
      clear e1
      have hc256:=c.toNat_lt
      have hll':rest.length≤70368744177664:=by simp at hll;omega
      clear hll
      by_cases h9:i=9∧1<c.toNat∨c.toNat=0∧0<i
      ·have HB:=Lib.hid (HFin.out.symm.trans (finNat_bad h9))
       clear HFin
       rcases h9 with ⟨h91,h92⟩|⟨h91,h92⟩
       ·subst h91
        go_wp2
        go_step3
        exact ⟨⟨u,_,some rest,he1,hch1,rfl,HB.out⟩,by simp [natM,intOf]⟩
       ·have h93:((c.toNat:Int)==0)=true:=by simp;omega
        clear h91
        go_wp2
        all_goals go_step3
        all_goals exact ⟨⟨u,_,some rest,he1,hch1,rfl,HB.out⟩,by simp [natM,intOf];omega⟩
      ·have hcb:i=9→c.toNat % 128≤1:=by omega
       have hor:=or_shl u i c.toNat hi (by omega) hcb hu
       have hu2:u+c.toNat % 128*128^i<128^(i+1):=by
        have:c.toNat % 128*128^i≤127*128^i:=Nat.mul_le_mul_right _ (by omega)
        rw [Nat.pow_succ]
        omega
       by_cases h128:128≤c.toNat
       ·have HB:=Lib.hid ((finNat_more h9 h128).symm.trans HFin.out)
        clear HFin
        have hi9:i<9:=by omega
        clear h9 hcb
        generalize u+c.toNat % 128*128^i=u2 at *
        go_wp2
        go_step3
        exact ⟨⟨i+1,u2,rest,by omega,hu2,hll',he1,hch1,by rw [show 7*((i+1:Nat):Int)=7*(i:Int)+7 from by omega];rfl,HB.out⟩,by simp [natM,intOf];omega⟩
       ·have HB:=Lib.hid (HFin.out.symm.trans (finNat_last h9 h128))
        clear HFin
        generalize u+c.toNat % 128*128^i=u2 at *
        by_cases h99:i=9
        ·subst h99
         have hc1:(c.toNat:Int)≤1:=by omega
         have hor':bits .or .u64 (u:Int) (IntKind.u64.wrap (IntKind.u64.wrap (bits .and .u8 (c.toNat:Int) 127)*9223372036854775808))=(u2:Int):=hor
         clear hor
         have hc0:((c.toNat:Int)==0)=false:=by simp;omega
         clear h9 hcb
         go_wp2
         all_goals first
          | (have hle:u2≤most:=by assumption
             go_ret
             rw [HB.out,if_pos hle]
             exact ⟨rfl,he1,hch1⟩)
          | (have hle:¬u2≤most:=by assumption
             have HE:=Lib.hid (HB.out.trans (if_neg hle))
             clear HB
             go_step3
             go_wp2_with fail
             refine (eye_shut w1 e _ he1).mono ?_
             rintro r w2 ⟨rfl,he2,hc2⟩
             go_wp2
             go_ret
             rw [HE.out]
             exact ⟨rfl,he2,hch1.trans hc2⟩)
        ·by_cases hc:c.toNat=0
         ·obtain rfl:i=0:=by omega
          have hc0:((c.toNat:Int)==0)=true:=by simp;omega
          rw [show ((2:Int)^(7*0))=1 from rfl,Int.mul_one] at hor
          clear h9 hcb h99 hc
          go_wp2
          all_goals first
           | (have hle:u2≤most:=by assumption
              go_ret
              rw [HB.out,if_pos hle]
              exact ⟨rfl,he1,hch1⟩)
           | (have hle:¬u2≤most:=by assumption
              have HE:=Lib.hid (HB.out.trans (if_neg hle))
              clear HB
              go_step3
              go_wp2_with fail
              refine (eye_shut w1 e _ he1).mono ?_
              rintro r w2 ⟨rfl,he2,hc2⟩
              go_wp2
              go_ret
              rw [HE.out]
              exact ⟨rfl,he2,hch1.trans hc2⟩)
         ·have hc0:((c.toNat:Int)==0)=false:=by simp;omega
          have h70:((7*(i:Int))==63)=false:=by simp;omega
          clear h9 hcb h99 hc
          go_wp2
          all_goals first
           | (have hle:u2≤most:=by assumption
              go_ret
              rw [HB.out,if_pos hle]
              exact ⟨rfl,he1,hch1⟩)
           | (have hle:¬u2≤most:=by assumption
              have HE:=Lib.hid (HB.out.trans (if_neg hle))
              clear HB
              go_step3
              go_wp2_with fail
              refine (eye_shut w1 e _ he1).mono ?_
              rintro r w2 ⟨rfl,he2,hc2⟩
              go_wp2
              go_ret
              rw [HE.out]
              exact ⟨rfl,he2,hch1.trans hc2⟩)
  | 1 =>
    obtain ⟨u,sh,st',hel,hch,ha,hfin⟩:=hJ
    generalize (fun k=>a.tmps.getD k undef)=f at ha
    subst ha
    refine ⟨_,rfl,?_⟩
    have HFin:=Lib.hid hfin
    clear hfin hl he
    unfold natFrame
    go_wp2_with fail
    refine (eye_shut wr e st' hel).mono ?_
    rintro r w1 ⟨rfl,he1,hc1⟩
    go_wp2
    go_ret
    rw [HFin.out]
    exact ⟨rfl,he1,hch.trans hc1⟩
  | _+2=>exact hJ.elim
set_option maxRecDepth 100000 in
theorem eye_small (w:World) (e:Nat) (st:Option (List UInt8)) (most:Int) (hm:most<9223372036854775808) (he:EyeAt w e st) (hl:∀ l,st=some l→l.length≤70368744177664) :
 Calls Tryz.prog 72 #[.pointer (some ⟨e,0,none⟩),.int .i64 most] w fun r w'=>r=.returned (.int .i64 (eNat most.toNat st).1)∧EyeAt w' e (eNat most.toNat st).2∧Chg [e] w w':=by
 have hb:=eNat_le most.toNat st
 rcases Int.lt_or_le most 0 with h|h
 ·have e0:most.toNat=0:=by omega
  rw [e0] at hb ⊢
  have hb2:(eNat 0 st).1<9223372036854775808:=by omega
  clear hb e0
  go_enter Tryz.func72,Tryz.ntmps72
  go_wp2_with fail
  try rw [show max most 0=0 from by omega]
  refine (eye_nat w e 0 st (by omega) he hl).mono ?_
  rintro r w1 ⟨rfl,he1,hc1⟩
  go_wp2
  go_ret
  exact ⟨rfl,he1,hc1⟩
 ·obtain ⟨m,rfl⟩:=Int.eq_ofNat_of_zero_le h
  have hb2:(eNat m st).1<9223372036854775808:=by simp only [Int.toNat_natCast] at hb;omega
  rw [Int.toNat_natCast]
  clear hb
  go_enter Tryz.func72,Tryz.ntmps72
  go_wp2_with fail
  try rw [show max (m:Int) 0=m from by omega]
  refine (eye_nat w e m st (by omega) he hl).mono ?_
  rintro r w1 ⟨rfl,he1,hc1⟩
  go_wp2
  go_ret
  exact ⟨rfl,he1,hc1⟩
end Go.Proofs.YthoolcpcmhhkpaaGreatDoor
namespace Go.Proofs.YthoolcpcmhhkpaaGreatDoor
open Go.RowKit
set_option maxRecDepth 100000 in
set_option maxHeartbeats 400000 in
theorem ref_zig (w:World) (x:Int) (h0:-9223372036854775808≤x) (h1:x<9223372036854775808) :
 Calls Tryz.prog 203 #[.int .i64 x] w fun e w'=>e=.returned (.int .u64 (zig x))∧w=w':=by
 go_enter Tryz.func203,Tryz.ntmps203
 go_wp2
 all_goals go_ret
 all_goals refine ⟨ret_int ?_,rfl⟩
 all_goals unfold zig;split<;>omega
theorem run_one_byte (w:World) (x:Int) (c:UInt8) (hx:x=(c.toNat:Int)) :
 (convert 37 9 (.slice (some ⟨w.heap.size,0,none⟩) 1 1)).run Tryz.prog (w.alloc (.cells #[.int .u8 x] 5))=.ok (.string ⟨[c].toArray⟩) (w.alloc (.cells #[.int .u8 x] 5)):=by
 subst hx
 exact run_string_rd under_bytes under_u8 under_string (l:=[c]) (Rd.lit1 w (.int .u8 c.toNat) 5 1)
set_option maxRecDepth 100000 in
set_option maxHeartbeats 400000 in
theorem ref_nat (w:World) (n:Nat) (hn:n<18446744073709551616) :
 Calls Tryz.prog 64 #[.int .u64 n] w fun e w'=>e=.returned (.string ⟨(natB n).toArray⟩)∧Chg [] w w':=by
 go_enter Tryz.func64,Tryz.ntmps64
 go_wp2
 go_loopw [0,3] (fun x s wr=>∃ (m:Nat) (l:List UInt8),x=.int .u64 m∧s=.string ⟨l.toArray⟩∧m<18446744073709551616∧l++natB m=natB n∧Chg [] w wr) (fun x _ _=>(intOf x).toNat)
 case atStart=>exact ⟨n,[],rfl,rfl,hn,rfl,Chg.refl _ _⟩
 case round =>
  obtain ⟨m,l,rfl,rfl,hm,hl,hc⟩:=hrel
  have hlen:l.length≤10:=by
   have h1:=congrArg List.length hl
   have h2:=natB_len10 (n:=n) (by omega)
   simp only [List.length_append] at h1
   omega
  have HL:=Lib.hid hl
  clear hl
  by_cases h:127<m
  ·obtain ⟨c,hcc⟩:∃ c,c=UInt8.ofNat (128+m % 128):=⟨_,rfl⟩
   have hcv:=run_one_byte wr (128+(m:Int) % 128) c (by rw [hcc,toNat_ofNat (by omega)];omega)
   have HC:=Lib.hid hcc
   clear hcc
   go_wp2
   refine ⟨⟨m / 128,l++[c],by go_num,by simp [ByteArray.mk_append_mk],by omega,?_,hc.alloc _⟩,by simp [intOf];omega⟩
   rw [←HL.out,natB_ge (n:=m) (by omega),HC.out]
   simp
  ·obtain ⟨c,hcc⟩:∃ c,c=UInt8.ofNat m:=⟨_,rfl⟩
   have hcv:=run_one_byte wr (m:Int) c (by rw [hcc,toNat_ofNat (by omega)])
   have HC:=Lib.hid hcc
   clear hcc
   go_wp2
   go_ret
   refine ⟨?_,hc.alloc _⟩
   rw [←HL.out,natB_lt (n:=m) (by omega),HC.out]
   simp [ByteArray.mk_append_mk]
attribute [local go_sem] ByteArray.extract_mk
end Go.Proofs.YthoolcpcmhhkpaaGreatDoor
namespace Go.Proofs.YthoolcpcmhhkpaaGreatDoor
open Go.RowKit
structure Itm4 where
 k:Int
 u:Nat
 x:Int
 s:List UInt8
def Itm4.cells (i:Itm4):List Value:=[.int .i64 i.k,.int .u64 i.u,.int .i64 i.x,.string ⟨i.s.toArray⟩]
def Itm4.ok (i:Itm4):Prop:=-9223372036854775808≤i.k∧i.k<9223372036854775808∧i.u<18446744073709551616∧-9223372036854775808≤i.x∧i.x<9223372036854775808∧i.s.length≤140737488351232
def Itm4.enc (i:Itm4):List UInt8:=if i.k=0 then natB i.u else if i.k=1 then natB (zig i.x) else if i.k=2 then i.s else []
end Go.Proofs.YthoolcpcmhhkpaaGreatDoor
