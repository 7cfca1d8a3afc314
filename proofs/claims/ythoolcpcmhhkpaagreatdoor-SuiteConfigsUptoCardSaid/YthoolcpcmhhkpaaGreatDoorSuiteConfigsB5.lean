/-
  Parts of a proof, pressed. Conditions: the form's own reach.
-/
import Derived.Test.YthoolcpcmhhkpaaGreatDoorSuiteConfigsB4
import Derived.Laws.BitsAllLaws
import Derived.WalkKit
import Derived.ScopeJumps
import Derived.Test.YthoolcpcmhhkpaaGreatDoorSuiteConfigsB1
import Derived.Test.YthoolcpcmhhkpaaGreatDoorSuiteConfigsB2
import Derived.OwnWalk
import Derived.Test.YthoolcpcmhhkpaaGreatDoorSuiteConfigsB3
import Derived.Test.YthoolcpcmhhkpaaGreatDoorProg
import Derived.Shelf.Abstract
namespace Go.Proofs.YthoolcpcmhhkpaaGreatDoor
open Go.RowKit
set_option maxHeartbeats 400000 in
theorem sign_zig (w:World) (x:Int) (h0:-9223372036854775808≤x) (h1:x<9223372036854775808) :
 Calls Tryz.prog 357 #[.int .i64 x] w fun e w'=>e=.returned (.int .u64 (zig x))∧w=w':=by
 go_enter Tryz.func357,Tryz.ntmps357
 go_wp2
 go_ret
 exact ⟨ret_int (zig_bits x h0 h1),rfl⟩
def i64s (us:List Int):List Value:=us.map fun u:Int=>Value.int .i64 u
set_option maxRecDepth 100000 in
set_option maxHeartbeats 400000 in
theorem quill_int (w:World) (q:Nat) (F:List Nat) (l:List UInt8) (ao:Option Addr) (cap:Nat) (us:List Int) (hus:∀ u∈us,-9223372036854775808≤u∧u<9223372036854775808)
 (hq:Qul w q F l) (hr:Rd w 1 (.slice ao us.length cap) us.length (i64s us)) (hap:∀ b∈abl ao,b∉F) (hroom:l.length+10*us.length+10≤70368744177664) :
 Calls Tryz.prog 354 #[.pointer (some ⟨q,0,none⟩),.slice ao us.length cap] w fun e w'=>e=.returned (.tuple #[]) ∧
  ∃ F',Qul w' q F' (l++us.flatMap fun x=>natB (zig x))∧Mv F w F' w':=by
 go_enter Tryz.func354,Tryz.ntmps354
 go_wp2
 go_loopw [8] (fun i wr=>∃ k F1,k≤us.length∧i=.int .i64 (k:Nat)∧Qul wr q F1 (l++(us.take k).flatMap fun x=>natB (zig x))∧Mv F w F1 wr) (fun i _=>us.length-(intOf i).toNat)
 case atStart=>exact ⟨0,F,Nat.zero_le _,rfl,by simpa using hq,Mv.refl _ _⟩
 case round =>
  obtain ⟨k,F1,hk,rfl,hq1,hm1⟩:=hrel
  by_cases hlt:k<us.length
  ·have hr1:=hr.chg hm1.chg (by simpa using hap)
   obtain ⟨b,o,rfl,hc⟩:=hr1.addr (by omega)
   have hck:=hc k (by omega)
   obtain ⟨hu0,hu1⟩:=hus us[k] (List.getElem_mem _)
   rw [i64s,List.getElem?_map,List.getElem?_eq_getElem hlt,Option.map_some] at hck
   have hlen:(l++(us.take k).flatMap fun x=>natB (zig x)).length+10≤70368744177664:=by
    have h1:=flat10 (us.map zig) (fun u hu=>by
     obtain ⟨x,hx,rfl⟩:=List.mem_map.1 hu
     exact zig_lt (hus x hx).1 (hus x hx).2) k
    rw [←List.map_take,List.flatMap_map] at h1
    simp only [List.length_append]
    omega
   have htk:us.take (k+1)=us.take k++[us[k]]:=List.take_succ_eq_append_getElem hlt
   generalize us[k]=u at *
   have HTK:=Lib.hid htk
   clear hr1 hr hc htk
   go_wp2_with fail
   refine (sign_zig _ u hu0 hu1).mono ?_
   rintro e w' ⟨rfl,rfl⟩
   go_wp2_with fail
   refine (quill_nat1 wr q F1 _ (zig u) (zig_lt hu0 hu1) hq1 _ rfl hlen).mono ?_
   rintro e w2 ⟨rfl,F2,hq2,hm2⟩
   go_wp2
   refine ⟨⟨k+1,F2,by omega,by go_num,?_,hm1.trans hm2⟩,by simp [intOf];omega⟩
   rw [HTK.out,List.flatMap_append,List.flatMap_singleton,←List.append_assoc]
   exact hq2
  ·obtain rfl:k=us.length:=by omega
   go_wp2
   go_end0
   exact ⟨rfl,F1,by simpa using hq1,hm1⟩
theorem quill_int1 (w:World) (q:Nat) (F:List Nat) (l:List UInt8) (x:Int) (h0:-9223372036854775808≤x) (h1:x<9223372036854775808) (hq:Qul w q F l) (b0:Nat) (hb0:b0=w.heap.size) (hroom:l.length+20≤70368744177664) :
 Calls Tryz.prog 354 #[.pointer (some ⟨q,0,none⟩),.slice (some ⟨b0,0,none⟩) 1 1] (w.alloc (.cells #[.int .i64 x] 2)) fun e w'=>e=.returned (.tuple #[]) ∧
  ∃ F',Qul w' q F' (l++natB (zig x))∧Mv F w F' w':=by
 subst hb0
 refine (quill_int (w.alloc (.cells #[.int .i64 x] 2)) q F l (some ⟨w.heap.size,0,none⟩) 1 [x] (by simpa using ⟨h0,h1⟩) (hq.alloc _) (Rd.lit1 _ _ _ _) (fun b hb => ?_) (by simp;omega)).mono ?_
 ·have hlt:=hq.lt
  simp only [abl_some,List.mem_singleton] at hb
  intro hF
  have:=hlt b hF
  omega
 ·rintro e w' ⟨rfl,F',h1,h2⟩
  exact ⟨rfl,F',by simpa using h1,(Mv.alloc F w _).trans h2⟩
theorem under_string:Tryz.prog.underlying 9=some .string:=by kernel_rfl
theorem under_u8:Tryz.prog.underlying 5=some (.int .u8):=by kernel_rfl
set_option maxHeartbeats 400000 in
theorem quill_raw (w:World) (q:Nat) (F:List Nat) (l s:List UInt8) (hq:Qul w q F l) (hroom:l.length+s.length≤70368744177664) :
 Calls Tryz.prog 134 #[.pointer (some ⟨q,0,none⟩),.string ⟨s.toArray⟩] w fun e w'=>e=.returned (.tuple #[]) ∧
  ∃ F',Qul w' q F' (l++s)∧Mv F w F' w':=by
 obtain ⟨a2,c2,rfl,hb2,ho2⟩:=hq
 have hc2:=hb2.cell 0
 have hq2:q∉abl a2:=by simpa using ho2.ne_blk hb2 (by decide)
 go_enter Tryz.func134,Tryz.ntmps134
 go_wp2_with (at_builtin;go_must (refine wpList_append_src _ rfl (.tmp 8) (.tmp 9) 37 9 rfl 5 (.int .u8 0) 1 1 under_bytes info_u8 rfl (by decide) (.slice a2 l.length c2) l.length (u8s l) rfl ho2 (.string ⟨s.toArray⟩) s.length (u8s s) rfl (Src.of_string under_string s) (u8s_oneCell _) (by unfold maxLen;omega) (by omega) ?_;intro a3 c3 w3 ho3 hg3 hf3;have hb3:=hb2.chg hg3 (by simpa using hq2);have hc3:=hb3.cell 0;have hz3:=hb3.free 0))
 have R:=Qul.push hb2 ho2 ho3 (x:=s) rfl (by simpa using hg3) (by simpa using hf3)
 go_end0
 exact ⟨rfl,_,R.1,R.2⟩
set_option maxHeartbeats 400000 in
theorem quill_text (w:World) (q:Nat) (F:List Nat) (l:List UInt8) (hq:Qul w q F l) :
 Calls Tryz.prog 68 #[.pointer (some ⟨q,0,none⟩)] w fun e w'=>e=.returned (.string ⟨l.toArray⟩)∧w=w':=by
 obtain ⟨a2,c2,rfl,hb2,ho2⟩:=hq
 have hc2:=hb2.cell 0
 have hcv:=run_string_rd (P:=Tryz.prog) (dst:=9) under_bytes under_u8 under_string ho2.rd
 go_enter Tryz.func68,Tryz.ntmps68
 go_wp2
 go_ret
 exact ⟨rfl,rfl⟩
def EyeAt (w:World) (e:Nat) (st:Option (List UInt8)):Prop:=Blk w e #[.string ⟨(st.getD []).toArray⟩,.bool st.isNone] 131
theorem EyeAt.chg {w w1:World} {e:Nat} {F:List Nat} {st:Option (List UInt8)} (h:EyeAt w e st) (k:Chg F w w1) (hn:e∉F):EyeAt w1 e st:=Blk.chg h k hn
attribute [local go_sem] ByteArray.extract_mk
end Go.Proofs.YthoolcpcmhhkpaaGreatDoor
namespace Go.Proofs.YthoolcpcmhhkpaaGreatDoor
open Go.RowKit
theorem and_one32 (c:Nat) (h:c<4294967296):bits .and .u32 (c:Int) 1=((c % 2:Nat):Int):=by
 have:=u32_and_nat c 1 h (by omega)
 rw [Nat.and_one_is_mod] at this
 exact this
theorem crcT_odd {c:Nat} (h:c % 2=1) (hc:c<4294967296):bits .xor .u32 ((c:Int) / 2) 3988292384=(crcT c:Int):=by
 have:=u32_xor_nat (c / 2) 3988292384 (by omega) (by omega)
 rw [crcT,if_pos h]
 simpa using this
theorem crcT_ev {c:Nat} (h:¬c % 2=1):(c:Int) / 2=(crcT c:Int):=by rw [crcT,if_neg h];simp
set_option maxRecDepth 100000 in
theorem frame_step (w:World) (c:Nat) (b:UInt8) (hc:c<4294967296) :
 Calls Tryz.prog 138 #[.int .u32 c,.int .u8 (b.toNat:Nat)] w fun e w'=>e=.returned (.int .u32 (crcStep c b:Nat))∧w=w':=by
 have hb:=b.toNat_lt
 have hx:=u32_xor_nat c b.toNat hc (by omega)
 have hw:IntKind.u32.wrap (b.toNat:Int)=(b.toNat:Int):=by simp [IntKind.wrap,IntKind.bits,IntKind.signed];omega
 have hlt:=xor_byte_lt hc b
 generalize hd:c ^^^ b.toNat=d at *
 rw [crcStep,hd]
 generalize b.toNat=u at *
 clear hd
 go_enter Tryz.func138,Tryz.ntmps138
 go_wp2
 go_loopw [0,9] (fun c i wx=>∃ k,k≤8∧i=.int .i64 (k:Nat)∧c=.int .u32 (crcTN k d:Nat)∧w=wx) (fun _ i _=>8-(intOf i).toNat)
 case atStart=>exact ⟨0,by omega,rfl,rfl,rfl⟩
 case round =>
  obtain ⟨k,hk,rfl,rfl,rfl⟩:=hrel
  have hcl:=crcTN_lt hlt k
  have hand:=and_one32 _ hcl
  have hs:crcTN (k+1) d=crcT (crcTN k d):=rfl
  by_cases h8:k<8
  ·by_cases ho:crcTN k d % 2=1
   ·have hx:=crcT_odd ho hcl
    rw [←hs] at hx
    obtain ⟨n2,hn2⟩:∃ n2,n2=crcTN (k+1) d:=⟨_,rfl⟩
    rw [←hn2] at hx
    have HS:=Lib.hid hn2
    clear hs hn2
    generalize crcTN k d=n1 at *
    go_wp2
    exact ⟨⟨k+1,by omega,by go_num,by rw [HS.out],trivial⟩,by simp [intOf];omega⟩
   ·have hx:=crcT_ev ho
    rw [←hs] at hx
    obtain ⟨n2,hn2⟩:∃ n2,n2=crcTN (k+1) d:=⟨_,rfl⟩
    rw [←hn2] at hx
    have HS:=Lib.hid hn2
    clear hs hn2
    generalize crcTN k d=n1 at *
    go_wp2
    exact ⟨⟨k+1,by omega,by go_num,by rw [HS.out],trivial⟩,by simp [intOf];omega⟩
  ·obtain rfl:k=8:=by omega
   go_wp2
   go_ret
   exact ⟨rfl,rfl⟩
theorem crc_not (c:Nat) (h:c<4294967296):bits .xor .u32 IntKind.u32.max (c:Int)=((4294967295-c:Nat):Int):=by
 have:=u32_xor_nat 4294967295 c (by omega) h
 rw [show (4294967295:Nat) ^^^ c=4294967295-c from by
  rw [Nat.xor_comm]
  have h1:c ^^^ (4294967295-c)=4294967295:=xor_ones32 c h
  have h2:=congrArg (c ^^^ ·) h1
  simp only [←Nat.xor_assoc,Nat.xor_self,Nat.zero_xor] at h2
  exact h2.symm] at this
 exact this
set_option maxRecDepth 100000 in
theorem frame_sum (w:World) (s:List UInt8) (hs:s.length≤70368744177664) :
 Calls Tryz.prog 74 #[.string ⟨s.toArray⟩] w fun e w'=>e=.returned (.int .u32 (crcSum s:Nat))∧w=w':=by
 go_enter Tryz.func74,Tryz.ntmps74
 go_wp2
 go_loopw [3,7] (fun c i wx=>∃ k,k≤s.length∧i=.int .i64 (k:Nat)∧c=.int .u32 (crcOf 4294967295 (s.take k):Nat)∧w=wx) (fun _ i _=>s.length-(intOf i).toNat)
 case atStart=>exact ⟨0,by omega,rfl,rfl,rfl⟩
 case round =>
  obtain ⟨k,hk,rfl,rfl,rfl⟩:=hrel
  have hcl:=crcOf_lt (c:=4294967295) (by omega) (s.take k)
  by_cases hlt:k<s.length
  ·have HS:=Lib.hid (crcOf_take_succ 4294967295 s k hlt)
   have hg:s.toArray.getD k 0=s[k]:=by simp [hlt]
   generalize crcOf 4294967295 (s.take k)=c at *
   go_wp2_with fail
   refine (frame_step w c s[k] hcl).mono ?_
   rintro e w1 ⟨rfl,rfl⟩
   go_wp2
   exact ⟨⟨k+1,by omega,by go_num,by rw [HS.out],trivial⟩,by simp [intOf];omega⟩
  ·obtain rfl:k=s.length:=by omega
   rw [List.take_length] at hcl ⊢
   have hn:=crc_not _ hcl
   rw [show 4294967295-crcOf 4294967295 s=crcSum s from rfl] at hn
   generalize crcOf 4294967295 s=c at *
   go_wp2
   go_ret
   exact ⟨rfl,rfl⟩
theorem u8_of (x m:Nat):IntKind.u8.wrap ((x:Int) / (m:Nat))=((UInt8.ofNat (x / m % 256)).toNat:Int):=by
 rw [toNat_ofNat (by omega)]
 simp [IntKind.wrap,IntKind.bits,IntKind.signed]
theorem u8_of1 (x:Nat):IntKind.u8.wrap (x:Int)=((UInt8.ofNat (x % 256)).toNat:Int):=by
 have:=u8_of x 1
 simpa using this
set_option maxRecDepth 100000 in
theorem frame_four (w:World) (c:Nat) :
 Calls Tryz.prog 73 #[.int .u32 c] w fun e w'=>e=.returned (.string ⟨(fourB c).toArray⟩)∧Chg [] w w':=by
 have h0:=u8_of1 c
 have h1:IntKind.u8.wrap ((c:Int) / 256)=_:=u8_of c 256
 have h2:IntKind.u8.wrap ((c:Int) / 65536)=_:=u8_of c 65536
 have h3:IntKind.u8.wrap ((c:Int) / 16777216)=_:=u8_of c 16777216
 rw [fourB]
 generalize UInt8.ofNat (c % 256)=b0 at *
 generalize UInt8.ofNat (c / 256 % 256)=b1 at *
 generalize UInt8.ofNat (c / 65536 % 256)=b2 at *
 generalize UInt8.ofNat (c / 16777216 % 256)=b3 at *
 have hr:=Rd.lit w #[.int .u8 b0.toNat,.int .u8 b1.toNat,.int .u8 b2.toNat,.int .u8 b3.toNat] 5 1 4 4 (by simp)
 have hcv:=run_string_rd (P:=Tryz.prog) (dst:=9) under_bytes under_u8 under_string (l:=[b0,b1,b2,b3]) (by simpa [u8s] using hr)
 go_enter Tryz.func73,Tryz.ntmps73
 go_wp2
 go_ret
 exact ⟨rfl,(Chg.refl [] w).alloc _⟩
end Go.Proofs.YthoolcpcmhhkpaaGreatDoor
namespace Go.Proofs.YthoolcpcmhhkpaaGreatDoor
open Go.RowKit
def jumps (J:Nat→Act→World→Prop) (Q:Exit→Act→World→Prop):Exit→Act→World→Prop
 | .goto l,a,w=>J l a w
 | e,a,w=>Q e a w
section
variable {J:Nat→Act→World→Prop} {Q:Exit→Act→World→Prop} {a:Act} {w:World}
@[go_sem] theorem jumps_goto (l:Nat):jumps J Q (.goto l) a w=J l a w:=rfl
@[go_sem] theorem jumps_normal:jumps J Q .normal a w=Q .normal a w:=rfl
@[go_sem] theorem jumps_exit (id:Nat):jumps J Q (.exit id) a w=Q (.exit id) a w:=rfl
@[go_sem] theorem jumps_ret:jumps J Q .ret a w=Q .ret a w:=rfl
@[go_sem] theorem jumps_panic (ch:List PanicEntry):jumps J Q (.panic ch) a w=Q (.panic ch) a w:=rfl
theorem wp_scope_labels {P:Program} {c:Code} (J:Nat→Act→World→Prop) (μ:Nat→Act→World→Nat)
 (first:c.wp P (jumps J Q) a w)
 (pass:∀ l a w,J l a w→∃ R,findLabel c l=some (.seq .skip R)∧R.wp P (jumps (fun l' a' w'=>J l' a' w'∧μ l' a' w'<μ l a w) Q) a w):(Code.scope c).wp P Q a w:=by
 intro b k cs
 have hg:∀ l rest,findLabel c l=some rest→gotoIn l (.inScope c::k)=some (.code rest :: .inScope c::k):=fun l rest hf=>by simp [gotoIn,hf]
 have key:∀ n l a w rest,μ l a w=n→J l a w→findLabel c l=some rest→∃ e a' w',Q e a' w'∧Arrives P (lone (b.at a (.code rest :: .inScope c::k)) cs w) b k cs e a' w':=by
  intro n
  induction n using Nat.strongRecOn with
  | _ n ih =>
    intro l a w rest hn hJ hf
    obtain ⟨R,hf',hp0⟩:=pass l a w hJ
    rw [hf] at hf'
    obtain rfl:=Option.some.inj hf'
    have hp:=wp_seq (x:=Code.skip) (y:=R) (wp_skip (P:=P) (Q:=Exit.then (R.wp P _) _) (a:=a) (w:=w) hp0)
    obtain ⟨e,a₁,w₁,hq,harr⟩:=hp b (.inScope c::k) cs
    cases e with
    | normal=>exact ⟨.normal,a₁,w₁,hq,Steps.trans harr (.one step_inScope)⟩
    | exit id=>exact ⟨.exit id,a₁,w₁,hq,fun k' hk=>harr k' (by simp [exitTo,hk])⟩
    | goto l' =>
      obtain ⟨hJ',hlt⟩:=hq
      obtain ⟨rest2,hf2,_⟩:=pass l' a₁ w₁ hJ'
      obtain ⟨e₂,a₂,w₂,hq₂,harr₂⟩:=ih _ (by omega) l' a₁ w₁ _ rfl hJ' hf2
      exact ⟨e₂,a₂,w₂,hq₂,.of_steps (harr _ (hg l' _ hf2)) harr₂⟩
    | ret=>exact ⟨_,a₁,w₁,hq,harr⟩
    | panic ch=>exact ⟨_,a₁,w₁,hq,harr⟩
    | outgrown=>exact ⟨_,a₁,w₁,hq,harr⟩
 obtain ⟨e,a₁,w₁,hq,harr⟩:=first b (.inScope c::k) cs
 cases e with
 | normal=>exact ⟨.normal,a₁,w₁,hq,.head step_scope (Steps.trans harr (.one step_inScope))⟩
 | exit id=>exact ⟨.exit id,a₁,w₁,hq,fun k' hk=>.head step_scope (harr k' (by simp [exitTo,hk]))⟩
 | goto l' =>
   obtain ⟨rest2,hf2,_⟩:=pass l' a₁ w₁ hq
   obtain ⟨e₂,a₂,w₂,hq₂,harr₂⟩:=key _ l' a₁ w₁ _ rfl hq hf2
   exact ⟨e₂,a₂,w₂,hq₂,.of_steps (.head step_scope (harr _ (hg l' _ hf2))) harr₂⟩
 | ret=>exact ⟨_,a₁,w₁,hq,.of_steps (.one step_scope) harr⟩
 | panic ch=>exact ⟨_,a₁,w₁,hq,.of_steps (.one step_scope) harr⟩
 | outgrown=>exact ⟨_,a₁,w₁,hq,.of_steps (.one step_scope) harr⟩
end
end Go.Proofs.YthoolcpcmhhkpaaGreatDoor
namespace Go.Proofs.YthoolcpcmhhkpaaGreatDoor
open Go.RowKit
end Go.Proofs.YthoolcpcmhhkpaaGreatDoor
namespace Go.Proofs.YthoolcpcmhhkpaaGreatDoor
open Go.RowKit
set_option maxRecDepth 100000 in
set_option maxHeartbeats 400000 in
theorem ref_zig (w:World) (x:Int) (h0:-9223372036854775808≤x) (h1:x<9223372036854775808) :
 Calls Tryz.prog 203 #[.int .i64 x] w fun e w'=>e=.returned (.int .u64 (zig x))∧w=w':=by
 go_enter Tryz.func203,Tryz.ntmps203
 go_wp2
 all_goals go_ret
 all_goals refine ⟨ret_int ?_,rfl⟩
 all_goals unfold zig;split<;>omega
theorem run_one_byte (w:World) (x:Int) (c:UInt8) (hx:x=(c.toNat:Int)) :
 (convert 37 9 (.slice (some ⟨w.heap.size,0,none⟩) 1 1)).run Tryz.prog (w.alloc (.cells #[.int .u8 x] 5))=.ok (.string ⟨[c].toArray⟩) (w.alloc (.cells #[.int .u8 x] 5)):=by
 subst hx
 exact run_string_rd under_bytes under_u8 under_string (l:=[c]) (Rd.lit1 w (.int .u8 c.toNat) 5 1)
set_option maxRecDepth 100000 in
set_option maxHeartbeats 400000 in
theorem ref_nat (w:World) (n:Nat) (hn:n<18446744073709551616) :
 Calls Tryz.prog 64 #[.int .u64 n] w fun e w'=>e=.returned (.string ⟨(natB n).toArray⟩)∧Chg [] w w':=by
 go_enter Tryz.func64,Tryz.ntmps64
 go_wp2
 go_loopw [0,3] (fun x s wr=>∃ (m:Nat) (l:List UInt8),x=.int .u64 m∧s=.string ⟨l.toArray⟩∧m<18446744073709551616∧l++natB m=natB n∧Chg [] w wr) (fun x _ _=>(intOf x).toNat)
 case atStart=>exact ⟨n,[],rfl,rfl,hn,rfl,Chg.refl _ _⟩
 case round =>
  obtain ⟨m,l,rfl,rfl,hm,hl,hc⟩:=hrel
  have hlen:l.length≤10:=by
   have h1:=congrArg List.length hl
   have h2:=natB_len10 (n:=n) (by omega)
   simp only [List.length_append] at h1
   omega
  have HL:=Lib.hid hl
  clear hl
  by_cases h:127<m
  ·obtain ⟨c,hcc⟩:∃ c,c=UInt8.ofNat (128+m % 128):=⟨_,rfl⟩
   have hcv:=run_one_byte wr (128+(m:Int) % 128) c (by rw [hcc,toNat_ofNat (by omega)];omega)
   have HC:=Lib.hid hcc
   clear hcc
   go_wp2
   refine ⟨⟨m / 128,l++[c],by go_num,by simp [ByteArray.mk_append_mk],by omega,?_,hc.alloc _⟩,by simp [intOf];omega⟩
   rw [←HL.out,natB_ge (n:=m) (by omega),HC.out]
   simp
  ·obtain ⟨c,hcc⟩:∃ c,c=UInt8.ofNat m:=⟨_,rfl⟩
   have hcv:=run_one_byte wr (m:Int) c (by rw [hcc,toNat_ofNat (by omega)])
   have HC:=Lib.hid hcc
   clear hcc
   go_wp2
   go_ret
   refine ⟨?_,hc.alloc _⟩
   rw [←HL.out,natB_lt (n:=m) (by omega),HC.out]
   simp [ByteArray.mk_append_mk]
attribute [local go_sem] ByteArray.extract_mk
end Go.Proofs.YthoolcpcmhhkpaaGreatDoor
namespace Go.Proofs.YthoolcpcmhhkpaaGreatDoor
open Go.RowKit
structure Itm4 where
 k:Int
 u:Nat
 x:Int
 s:List UInt8
def Itm4.cells (i:Itm4):List Value:=[.int .i64 i.k,.int .u64 i.u,.int .i64 i.x,.string ⟨i.s.toArray⟩]
def Itm4.ok (i:Itm4):Prop:=-9223372036854775808≤i.k∧i.k<9223372036854775808∧i.u<18446744073709551616∧-9223372036854775808≤i.x∧i.x<9223372036854775808∧i.s.length≤140737488351232
def Itm4.enc (i:Itm4):List UInt8:=if i.k=0 then natB i.u else if i.k=1 then natB (zig i.x) else if i.k=2 then i.s else []
theorem new_quill (w:World):Qul (w.alloc (.cells #[.slice none 0 0] 120)) w.heap.size [w.heap.size] []:=⟨none,0,rfl,Blk.alloc_new _ _ _,Own.nil _ _ _⟩
instance:Inhabited Pr:=⟨⟨0,0⟩⟩
def gapN (p q:Int):Nat:=((p-q-1) % 18446744073709551616).toNat
theorem gapN_lt (p q:Int):gapN p q<18446744073709551616:=by unfold gapN;omega
def pairB (l:List Pr) (k:Nat):List UInt8:=(if k=0 then natB (zig (l.getD k default).i) else natB (gapN (l.getD k default).i (l.getD (k-1) default).i))++natB (l.getD k default).c
def bodyTo (l:List Pr) (k:Nat):List UInt8:=((List.range k).map (pairB l)).flatten
def putB (l:List Pr):List UInt8:=natB l.length++bodyTo l l.length
theorem bodyTo_succ (l:List Pr) (k:Nat):bodyTo l (k+1)=bodyTo l k++pairB l k:=by
 simp [bodyTo,List.range_succ]
theorem pairB_len (l:List Pr) (hok:∀ p∈l,p.ok) (k:Nat) (h:k<l.length):(pairB l k).length≤20:=by
 have hg:l.getD k default=l[k]:=by simp [List.getD,h]
 have hp:=hok l[k] (List.getElem_mem _)
 unfold pairB
 rw [hg,List.length_append]
 have h1:=natB_len10 (n:=l[k].c) (by have:=hp.2.2;omega)
 split
 ·have:=natB_len10 (zig_lt hp.1 hp.2.1);omega
 ·have:=natB_len10 (n:=gapN l[k].i (l.getD (k-1) default).i) (by have:=gapN_lt l[k].i (l.getD (k-1) default).i;omega)
  omega
theorem bodyTo_len (l:List Pr) (hok:∀ p∈l,p.ok) (k:Nat) (h:k≤l.length):(bodyTo l k).length≤20*k:=by
 induction k with
 | zero=>simp [bodyTo]
 | succ k ih =>
   have:=ih (by omega)
   have:=pairB_len l hok k (by omega)
   rw [bodyTo_succ,List.length_append]
   omega
end Go.Proofs.YthoolcpcmhhkpaaGreatDoor
namespace Go.Proofs.YthoolcpcmhhkpaaGreatDoor
def markB:List UInt8:=[79,71,1]
def headF (k:UInt8) (t:List UInt8):List UInt8:=markB++[k]++natB t.length++t
def closeB (k:UInt8) (t:List UInt8):List UInt8:=headF k t++fourB (crcSum (headF k t))
theorem headF_len (k:UInt8) (t:List UInt8):(headF k t).length=4+(natB t.length).length+t.length:=by
 simp [headF,markB]
 omega
end Go.Proofs.YthoolcpcmhhkpaaGreatDoor
namespace Go.Proofs.YthoolcpcmhhkpaaGreatDoor
open Go.RowKit
set_option maxRecDepth 100000 in
set_option maxHeartbeats 1000000 in
theorem frame_close (w:World) (k:UInt8) (t:List UInt8) (ht:t.length≤262144) :
 Calls Tryz.prog 67 #[.int .u8 (k.toNat:Nat),.string ⟨t.toArray⟩] w fun e w'=>e=.returned (.tuple #[.string ⟨(closeB k t).toArray⟩,.int .i64 0])∧Chg [] w w':=by
 have hd:decide ((262144:Int)<(t.length:Int))=false:=decide_eq_false (by omega)
 have HL:=Lib.hid (natB_len10 (n:=t.length) (by omega))
 have HQ:=Lib.hid (new_quill w)
 go_enter Tryz.func67,Tryz.ntmps67
 go_wp2_with fail
 refine (quill_raw _ w.heap.size [w.heap.size] [] [79,71,1] HQ.out (by simp)).mono ?_
 rintro e w1 ⟨rfl,F1,hq1,hm1⟩
 have hc1:=hm1.chg_own ((Chg.refl [] w).alloc _) (by simp)
 have hF1:=hm1.own ((Chg.refl [] w).alloc _) (by simp)
 have hcv:=run_one_byte w1 _ k rfl
 clear hm1
 go_wp2_with fail
 refine (quill_raw _ w.heap.size F1 _ [k] (hq1.alloc _) (by simp)).mono ?_
 rintro e w2 ⟨rfl,F2,hq2,hm2⟩
 have hc2:=hm2.chg_own (hc1.alloc _) hF1
 have hF2:=hm2.own (hc1.alloc _) hF1
 clear hm2 hcv hq1
 go_wp2_with fail
 refine (quill_nat1 w2 w.heap.size F2 _ t.length (by omega) hq2 _ (by simp) (by simp)).mono ?_
 rintro e w3 ⟨rfl,F3,hq3,hm3⟩
 have hc3:=hm3.chg_own hc2 hF2
 have hF3:=hm3.own hc2 hF2
 clear hm3 hq2
 have hl3:(([]:List UInt8)++[79,71,1]++[k]++natB t.length).length+t.length≤300000:=by have:=HL.out;simp;omega
 go_wp2_with fail
 refine (quill_raw _ w.heap.size F3 _ t hq3 (by omega)).mono ?_
 rintro e w4 ⟨rfl,F4,hq4,hm4⟩
 have hc4:=hm4.chg_own hc3 hF3
 have hF4:=hm4.own hc3 hF3
 have hl4:(headF k t).length≤300000:=by simpa [headF,markB,Nat.add_assoc,Nat.add_comm,Nat.add_left_comm] using hl3
 have hq4:Qul w4 w.heap.size F4 (headF k t):=by simpa [headF,markB] using hq4
 clear hm4 hq3
 have HCL:=Lib.hid (show closeB k t=headF k t++fourB (crcSum (headF k t)) from rfl)
 generalize headF k t=H at *
 go_wp2_with fail
 refine (quill_text w4 w.heap.size F4 _ hq4).mono ?_
 rintro e w5 ⟨rfl,rfl⟩
 go_wp2_with fail
 refine (frame_sum w4 H (by omega)).mono ?_
 rintro e w5 ⟨rfl,rfl⟩
 go_wp2_with fail
 refine (frame_four w4 (crcSum H)).mono ?_
 rintro e w5 ⟨rfl,hc5⟩
 have hl5:(fourB (crcSum H)).length=4:=rfl
 go_wp2_with fail
 refine (quill_raw w5 w.heap.size F4 _ _ (hq4.chg hc5 (by simp)) (by omega)).mono ?_
 rintro e w6 ⟨rfl,F6,hq6,hm6⟩
 have hc6:=hm6.chg_own (hc4.trans hc5) hF4
 rw [←HCL.out] at hq6
 go_wp2_with fail
 refine (quill_text w6 w.heap.size F6 _ hq6).mono ?_
 rintro e w7 ⟨rfl,rfl⟩
 go_wp2
 go_ret2
 exact ⟨rfl,hc6⟩
theorem frame_close_long (w:World) (k:UInt8) (t:List UInt8) (ht:262144<t.length) :
 Calls Tryz.prog 67 #[.int .u8 (k.toNat:Nat),.string ⟨t.toArray⟩] w fun e w'=>e=.returned (.tuple #[.string ⟨#[]⟩,.int .i64 3])∧w=w':=by
 have hd:decide ((262144:Int)<(t.length:Int))=true:=decide_eq_true (by omega)
 go_enter Tryz.func67,Tryz.ntmps67
 go_wp2
 go_ret2
 exact ⟨rfl,rfl⟩
attribute [local go_sem] ByteArray.extract_mk
end Go.Proofs.YthoolcpcmhhkpaaGreatDoor
namespace Go.Proofs.YthoolcpcmhhkpaaGreatDoor
open Go.RowKit
end Go.Proofs.YthoolcpcmhhkpaaGreatDoor
namespace Go.Proofs.YthoolcpcmhhkpaaGreatDoor
open Go.RowKit
end Go.Proofs.YthoolcpcmhhkpaaGreatDoor
namespace Go.Proofs.YthoolcpcmhhkpaaGreatDoor
open Go.RowKit
end Go.Proofs.YthoolcpcmhhkpaaGreatDoor
namespace Go.Proofs.YthoolcpcmhhkpaaGreatDoor
open Go.RowKit
end Go.Proofs.YthoolcpcmhhkpaaGreatDoor
namespace Go.Proofs.YthoolcpcmhhkpaaGreatDoor
open Go.RowKit
section
variable {P:Program} {ops:Array Oper} {Q:Exit→Act→World→Prop} {md:Region.Mode} {S:World→Prop} {st:Nat}
end
section
variable {P:Program} {l:List Oper} {Q:Exit→Act→World→Prop} {md:Region.Mode} {S:World→Prop} {st:Nat}
end
end Go.Proofs.YthoolcpcmhhkpaaGreatDoor
namespace Go.Proofs.YthoolcpcmhhkpaaGreatDoor
open Go.RowKit
end Go.Proofs.YthoolcpcmhhkpaaGreatDoor
namespace Go.Proofs.YthoolcpcmhhkpaaGreatDoor
open Go.RowKit
section
variable {P:Program} {ops:Array Oper} {Q:Exit→Act→World→Prop} {md:Region.Mode} {S:World→Prop}
def wpN (P:Program) (md:Region.Mode) (ops:Array Oper) (Q:Exit→Act→World→Prop) (S:World→Prop):Nat→Array Bool→Act→World→Prop
 | 0,seen,a,w=>Region.ready md ops seen=[]∧Q .normal a w
 | m+1,seen,a,w=>(Region.ready md ops seen=[]→Q .normal a w) ∧
   ∀ j∈Region.ready md ops seen,wpOp P ops Q j (fun b u=>S u∧wpN P md ops Q S m (seen.setIfInBounds j true) b u) a w
theorem wpN_any:∀ (m:Nat) (seen:Array Bool) (a:Act) (w:World),wpN P md ops Q S m seen a w→wpAny P md ops Q m seen a w
 | 0,_,_,_,h=>h
 | m+1,_,_,_,h=>⟨h.1,fun j hj=>wpOp_mono (fun b u k=>wpN_any m _ b u k.2) (h.2 j hj)⟩
theorem wpN_first {i:Nat} {oi:Oper} {v:Value} (hi:ops[i]? = some oi) (hno:Region.noSelect ops=true)
 (hQ:∀ c a w,Q (.panic c) (a.put oi.dst v) w→Q (.panic c) a w) :
 ∀ (m:Nat) (seen:Array Bool) (a:Act) (w:World),
   (∀ j oj,ops[j]? = some oj→j≠i→seen.getD j true=false→(∀ e∈oj.after,Region.binds md e=true→e.on≠i)→oi.apart ops oj=true) →
   i∈Region.ready md ops seen→YieldsIf P ops S oi v a→S w →
   wpN P md ops Q S m (seen.setIfInBounds i true) (a.put oi.dst v) w→wpN P md ops Q S (m+1) seen a w
 | m,seen,a,w=>fun hap hr hy hS H=>by
   have hun:=(mem_ready.1 hr).1
   refine ⟨fun h=>(by rw [h] at hr;cases hr),fun j hj => ?_⟩
   rcases Decidable.em (j=i) with rfl|hji
   ·exact hy.wpOp hi hS ⟨hS,H⟩
   ·obtain ⟨hjun,oj,hoj,hall⟩:=mem_ready.1 hj
    have hwait:∀ e∈oj.after,Region.binds md e=true→e.on≠i:=fun e he hb heq=>by
     have h1:=hall e he hb
     rw [heq] at h1
     by_cases hlt:i<seen.size
     ·simp [hlt] at hun h1
      rw [hun] at h1
      cases h1
     ·simp [Array.getElem?_eq_none (Nat.le_of_not_lt hlt)] at h1
    match m,H with
    | 0,H =>
      have h1:=ready_mono hj hji
      rw [H.1] at h1
      cases h1
    | m+1,H =>
      have h2:=wpOp_putIf hoj (hap j oj hoj hji hjun hwait) (fun cs b=>Region.noSelect_spec hno i oi cs b hi) (fun cs b=>Region.noSelect_spec hno j oj cs b hoj) hQ hy (H.2 j (ready_mono hj hji))
      refine wpOp_mono (fun b u h3=>⟨h3.2.1,wpN_first hi hno hQ m (seen.setIfInBounds j true) b u (fun k ok hk hki hkun hkno => ?_) (ready_mono hr (Ne.symm hji)) h3.1 h3.2.1 ?_⟩) h2
      ·refine hap k ok hk hki ?_ hkno
       by_cases hjk:j=k
       ·subst hjk;exact hjun
       ·rw [getD_set_ne true hjk] at hkun;exact hkun
      ·rw [Array.setIfInBounds_comm _ _ hji]
       exact h3.2.2
end
section
variable {P:Program} {l:List Oper} {Q:Exit→Act→World→Prop} {md:Region.Mode} {S:World→Prop}
theorem startN {id:Nat} {a:Act} {w:World} (hm:P.follows .mixedOrders=true) (hS:S w.drew)
 (h:S w.drew→wpN P .any l.toArray Q S l.toArray.size (Array.replicate l.toArray.size false) a w.drew):(Code.region id l.toArray true).wp P Q a w:=
 wp_region_any hm (wpN_any _ _ _ _ (h hS))
theorem takeN {i:Nat} {oi:Oper} {v:Value} {m:Nat} {seen:Array Bool} {a:Act} {w:World} (hi:l[i]? = some oi)
 (hno:Region.noSelect l.toArray=true) (hf:Region.free md l.toArray seen i=true) (hr:(Region.ready md l.toArray seen).contains i=true)
 (hQ:∀ c a w,Q (.panic c) (a.put oi.dst v) w→Q (.panic c) a w) (hy:YieldsIf P l.toArray S oi v a) (hS:S w)
 (h:wpN P md l.toArray Q S m (seen.setIfInBounds i true) (a.put oi.dst v) w):wpN P md l.toArray Q S (m+1) seen a w:=by
 have hi':l.toArray[i]? = some oi:=by simpa using hi
 exact wpN_first hi' hno hQ m seen a w (Region.free_spec hi' hf) (by simpa using hr) hy hS h
def WaysN (P:Program) (md:Region.Mode) (l:List Oper) (Q:Exit→Act→World→Prop) (S:World→Prop) (m:Nat) (seen:Array Bool) (a:Act) (w:World) (rs:List Nat):Prop:=
 ∀ i∈rs,wpOp P l.toArray Q i (fun b u=>S u∧wpN P md l.toArray Q S m (seen.setIfInBounds i true) b u) a w
theorem nilN {m:Nat} {seen:Array Bool} {a:Act} {w:World}:WaysN P md l Q S m seen a w []:=fun _ h=>by cases h
theorem consN {m:Nat} {seen:Array Bool} {a:Act} {w:World} {i:Nat} {o:Oper} {rs:List Nat} (ho:l[i]? = some o)
 (h:∀ K':Act→World→Prop,Shut (∀ b u,S u→(S u→wpN P md l.toArray Q S m (seen.setIfInBounds i true) b u)→K' b u)→if Region.wanted o (yielded l.toArray a.tmps)=true then Oper.wp P o a w K' Q else K' (a.put o.dst undef) w)
 (hs:WaysN P md l Q S m seen a w rs):WaysN P md l Q S m seen a w (i::rs):=fun j hj=>by
 rcases List.mem_cons.1 hj with rfl|hj
 ·exact wpOp_step (by simpa using ho) (fun K' hK=>h K' (fun b u hS hW=>hK b u ⟨hS,hW hS⟩))
 ·exact hs j hj
theorem readyN {rs:List Nat} {m:Nat} {seen:Array Bool} {a:Act} {w:World} (hr:Region.ready md l.toArray seen=rs) (hne:rs≠[])
 (h:WaysN P md l Q S m seen a w rs):wpN P md l.toArray Q S (m+1) seen a w:=⟨fun h0=>absurd (hr ▸ h0) hne,hr ▸ h⟩
theorem doneN {seen:Array Bool} {a:Act} {w:World} (hr:Region.ready md l.toArray seen=[]) (h:Q .normal a w):∀ m,wpN P md l.toArray Q S m seen a w
 | 0=>⟨hr,h⟩
 | _+1=>⟨fun _=>h,by rw [hr];simp⟩
end
end Go.Proofs.YthoolcpcmhhkpaaGreatDoor
namespace Go.Proofs.YthoolcpcmhhkpaaGreatDoor
open Go.RowKit
def encS (k:UInt8) (X:List UInt8):List UInt8:=if X.length≤262144 then closeB k X else []
def encE (X:List UInt8):Int:=if X.length≤262144 then 0 else 3
theorem frame_closeV (w:World) (k:UInt8) (t:List UInt8) (S:List UInt8) (E:Int) (hS:S=encS k t) (hE:E=encE t) :
 Calls Tryz.prog 67 #[.int .u8 (k.toNat:Nat),.string ⟨t.toArray⟩] w fun e w'=>e=.returned (.tuple #[.string ⟨S.toArray⟩,.int .i64 E])∧Chg [] w w':=by
 subst hS hE
 by_cases h:t.length≤262144
 ·rw [encS,if_pos h,encE,if_pos h]
  exact frame_close w k t h
 ·rw [encS,if_neg h,encE,if_neg h]
  refine (frame_close_long w k t (by omega)).mono ?_
  rintro e w' ⟨rfl,rfl⟩
  exact ⟨rfl,Chg.refl _ _⟩
theorem Qul.new (w:World):Qul (w.alloc (.cells #[.slice none 0 0] 120)) w.heap.size [w.heap.size] []:=
 ⟨none,0,rfl,Blk.alloc_new _ _ _,Own.nil _ _ _⟩
theorem enters_etext:∀ (args:Array Value) (w:World),(callFunc 68 args).run Tryz.prog w=.ok (.enter 68 args) w:=enters_of Tryz.func68 (by kernel_rfl) rfl
theorem enters_eclose:∀ (args:Array Value) (w:World),(callFunc 67 args).run Tryz.prog w=.ok (.enter 67 args) w:=enters_of Tryz.func67 (by kernel_rfl) rfl
theorem u8_kind {k:Int} {kk:UInt8} (h:k=(kk.toNat:Nat)):IntKind.u8.wrap k=(kk.toNat:Int):=by
 have:=kk.toNat_lt
 have e:∀ n:Int,IntKind.u8.wrap n=n % 256:=fun n=>by simp [IntKind.wrap,IntKind.bits,IntKind.signed]
 rw [h,e]
 omega
structure Vl where
 x:Int
 n:Nat
def Vl.cells (p:Vl):List Value:=[.int .i64 p.x,.int .u64 p.n]
def Vl.ok (p:Vl):Prop:=-9223372036854775808≤p.x∧p.x<9223372036854775808∧p.n<18446744073709551616
def vlCells (l:List Vl):List Value:=(l.map Vl.cells).flatten
theorem vlCells_get (l:List Vl) (k j:Nat) (hk:k<l.length) (hj:j<2):(vlCells l)[k*2+j]? = (l[k].cells)[j]?:=by
 induction l generalizing k with
 | nil=>simp at hk
 | cons a r ih =>
   cases k with
   | zero =>
     simp only [vlCells,List.map_cons,List.flatten_cons,Nat.zero_mul,Nat.zero_add,List.getElem_cons_zero]
     rw [List.getElem?_append_left (by simpa [Vl.cells] using hj)]
   | succ k =>
     have:=ih k (by simpa using hk)
     simp only [vlCells,List.map_cons,List.flatten_cons,List.getElem_cons_succ] at *
     rw [List.getElem?_append_right (by simp [Vl.cells];omega),←this]
     congr 1
     simp [Vl.cells]
     omega
theorem vl_at {w:World} {b o k:Nat} {l:List Vl} (hc:∀ j,j<l.length*2→w.cell? ⟨b,o+j,none⟩=(vlCells l)[j]?) (h:k<l.length) :
 w.cell? ⟨b,o+k*2,none⟩=some (.int .i64 l[k].x)∧w.cell? ⟨b,o+k*2+1,none⟩=some (.int .u64 l[k].n):=by
 have g:∀ j,j<2→w.cell? ⟨b,o+k*2+j,none⟩=(l[k].cells)[j]?:=fun j hj=>by
  rw [←vlCells_get l k j h hj,←hc (k*2+j) (by omega),Nat.add_assoc]
 exact ⟨g 0 (by omega),g 1 (by omega)⟩
def sumS:List Vl→Nat
 | []=>0
 | v::l=>v.n+sumS l
def upS (x:Int):List Vl→Nat
 | []=>0
 | v::l=>(if v.x≤x then v.n else 0)+upS x l
theorem sumS_app (a b:List Vl):sumS (a++b)=sumS a+sumS b:=by
 induction a with
 | nil=>simp [sumS]
 | cons v a ih=>simp only [List.cons_append,sumS,ih];omega
theorem upS_app (x:Int) (a b:List Vl):upS x (a++b)=upS x a+upS x b:=by
 induction a with
 | nil=>simp [upS]
 | cons v a ih=>simp only [List.cons_append,upS,ih];omega
def loV:List Vl→Int
 | []=>0
 | v::l=>l.foldl (fun m u=>min m u.x) v.x
def hiV:List Vl→Int
 | []=>0
 | v::l=>l.foldl (fun m u=>max m u.x) v.x
theorem fold_min (l:List Vl) (a b:Int):l.foldl (fun m u=>min m u.x) (min a b)=min a (l.foldl (fun m u=>min m u.x) b):=by
 induction l generalizing b with
 | nil=>rfl
 | cons v l ih=>simp only [List.foldl_cons];rw [←ih];congr 1;omega
theorem fold_max (l:List Vl) (a b:Int):l.foldl (fun m u=>max m u.x) (max a b)=max a (l.foldl (fun m u=>max m u.x) b):=by
 induction l generalizing b with
 | nil=>rfl
 | cons v l ih=>simp only [List.foldl_cons];rw [←ih];congr 1;omega
theorem loV_app (a b:List Vl):loV (a++b)=if a=[] then loV b else if b=[] then loV a else min (loV a) (loV b):=by
 rcases a with _|⟨v,a⟩
 ·simp
 rcases b with _|⟨u,b⟩
 ·simp
 simp only [List.cons_append,loV,List.foldl_append,List.foldl_cons,reduceCtorEq,if_false]
 rw [fold_min]
theorem hiV_app (a b:List Vl):hiV (a++b)=if a=[] then hiV b else if b=[] then hiV a else max (hiV a) (hiV b):=by
 rcases a with _|⟨v,a⟩
 ·simp
 rcases b with _|⟨u,b⟩
 ·simp
 simp only [List.cons_append,hiV,List.foldl_append,List.foldl_cons,reduceCtorEq,if_false]
 rw [fold_max]
end Go.Proofs.YthoolcpcmhhkpaaGreatDoor
namespace Go.Proofs.YthoolcpcmhhkpaaGreatDoor
def InR (x:Int):Prop:=-9223372036854775808≤x∧x<9223372036854775808
theorem InR.zig {x:Int} (h:InR x):zig x<18446744073709551616:=by
 have:=zig_lt h.1 h.2
 omega
def intsB (l:List Int):List UInt8:=l.flatMap fun x=>natB (zig x)
theorem intsB_len (l:List Int) (h:∀ x∈l,InR x):(intsB l).length≤10*l.length:=by
 induction l with
 | nil=>simp [intsB]
 | cons x l ih =>
   have h1:=ih (fun y hy=>h y (by simp [hy]))
   have h2:=natB_len10 (n:=zig x) (by have:=(h x (by simp)).zig;omega)
   simp only [intsB,List.flatMap_cons,List.length_append,List.length_cons] at h1 ⊢
   omega
end Go.Proofs.YthoolcpcmhhkpaaGreatDoor
namespace Go.Proofs.YthoolcpcmhhkpaaGreatDoor
open Go.RowKit
def PutK (P:World→Nat→List Nat→Prop) (err:Int) (s:Nat) (F:List Nat) (w:World) (e:Ending) (w':World):Prop:=
 e=.returned (.int .i64 err)∧∃ F',P w' s F'∧Mv F w F' w'
structure Kb (c:Cf) where
 S:Type
 P:World→Nat→List Nat→S→Prop
 sz:S→Nat
 init:S
 ok:Bool
 put:S→Int→Nat→S
 putE:S→Int→Nat→Int
 enc:S→List UInt8
 tot:S→Nat
 kk:UInt8
 kind:c.kind=(kk.toNat:Nat)
 lt:∀ {w s F st},P w s F st→∀ b∈F,b<w.heap.size
 chg:∀ {w w1 s F st G},P w s F st→Chg G w w1→(∀ b∈F,b∉G)→P w1 s F st
 sz0:sz init=0
 szp:∀ st x n,sz (put st x n)≤sz st+n∧sz (put st x n)≤sz st+1024
 new:∀ w,Tens4 w→Calls Tryz.prog 27 #[c.val] w fun e w'=>NewK (fun w s F=>P w s F init) ok w e w'
 putC:∀ {w s F st},P w s F st→sz st≤2000000000→∀ (x:Int) (n:Nat),InR x→n<18446744073709551616 →
  Calls Tryz.prog 21 #[.pointer (some ⟨s,0,none⟩),.int .i64 x,.int .u64 (n:Nat)] w fun e w'=>PutK (fun w s F=>P w s F (put st x n)) (putE st x n) s F w e w'
 encC:∀ {w s F st},P w s F st→sz st≤40000 →
  Calls Tryz.prog 23 #[.pointer (some ⟨s,0,none⟩)] w fun e w'=>e=.returned (.tuple #[.string ⟨(encS kk (enc st)).toArray⟩,.int .i64 (encE (enc st))])∧Chg [] w w'
 fit:∀ {w s F st},P w s F st→sz st≤16000→(enc st).length≤262144
 totC:∀ {w s F st},P w s F st→Calls Tryz.prog 20 #[.pointer (some ⟨s,0,none⟩)] w fun e w'=>e=.returned (.int .u64 (tot st:Nat))∧Chg [] w w'
 tot0:tot init=0
 reset:∀ {w s F st},P w s F st→ok=true→Tens4 w→Calls Tryz.prog 22 #[.pointer (some ⟨s,0,none⟩)] w fun e w'=>e=.returned (.tuple #[])∧∃ F',P w' s F' init∧Mv F w F' w'
end Go.Proofs.YthoolcpcmhhkpaaGreatDoor
