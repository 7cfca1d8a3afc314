/-
  Parts of a proof, pressed. Conditions: the form's own reach.
-/
import Derived.Test.YthoolcpcmhhkpaaGreatDoorSuiteConfigsB23
import Derived.Test.YthoolcpcmhhkpaaGreatDoorSuiteConfigsB22
import Derived.Test.YthoolcpcmhhkpaaGreatDoorSuiteConfigsB24
import Derived.Test.YthoolcpcmhhkpaaGreatDoorSuiteConfigsB5
import Derived.Test.YthoolcpcmhhkpaaGreatDoorSuiteConfigsB21
import Derived.Test.YthoolcpcmhhkpaaGreatDoorSuiteConfigsB3
import Derived.Laws.StructEq
namespace Go.Proofs.YthoolcpcmhhkpaaGreatDoor
open Go.RowKit
set_option maxRecDepth 100000 in
set_option maxHeartbeats 1000000 in
theorem req_total (w:World) (p tp:Nat) (rv:Value) (vs:List Value) (D:TwD) (ht:Tow w p tp rv vs D) :
 Calls Tryz.prog 123 #[.pointer (some ⟨p,0,none⟩)] w fun e w'=>e=.returned (.int .u64 (D.total:Nat))∧w=w':=by
 obtain ⟨c0,c1,c2,c3,c4,c5,c6⟩:=ht.cells
 go_enter Tryz.func123,Tryz.ntmps123
 go_wp2
 go_ret
 exact ⟨rfl,rfl⟩
set_option maxRecDepth 100000 in
set_option maxHeartbeats 1000000 in
theorem req_most (w:World) (p tp:Nat) (rv:Value) (vs:List Value) (D:TwD) (ht:Tow w p tp rv vs D) (hW:D.W≤64) :
 Calls Tryz.prog 182 #[.pointer (some ⟨p,0,none⟩)] w fun e w'=>e=.returned (.int .u64 (D.W*1024:Nat))∧w=w':=by
 obtain ⟨c0,c1,c2,c3,c4,c5,c6⟩:=ht.cells
 have e1:IntKind.u64.wrap (D.W:Int)=(D.W:Int):=IntWalk.u64_in _ (by omega)
 have e2:IntKind.u64.wrap ((D.W:Int)*1024)=((D.W*1024:Nat):Int):=by rw [IntKind.wrap_u64];omega
 go_enter Tryz.func182,Tryz.ntmps182
 go_wp2
 go_ret
 refine ⟨?_,rfl⟩
 rw [show ((D.W*1024:Nat):Int)=(D.W:Int)*1024 from by omega]
 rfl
set_option maxRecDepth 100000 in
set_option maxHeartbeats 1000000 in
theorem req_used (w:World) (p tp:Nat) (rv:Value) (vs:List Value) (D:TwD) (ht:Tow w p tp rv vs D) :
 Calls Tryz.prog 121 #[.pointer (some ⟨p,0,none⟩)] w fun e w'=>e=.returned (.int .i64 (D.used:Nat))∧w=w':=by
 obtain ⟨c0,c1,c2,c3,c4,c5,c6⟩:=ht.cells
 have HU:=Lib.hid (coins_used w tp D.word D.used ht.tape)
 go_enter Tryz.func121,Tryz.ntmps121
 go_wp2_with fail
 refine HU.out.mono ?_
 rintro e w' ⟨rfl,hw⟩
 subst hw
 go_wp2
 go_ret
 exact ⟨rfl,rfl⟩
def TwD.ends (D:TwD) (lo hi:Int):TwD:=if D.total=0 then { D with least:=lo,most:=hi } else { D with least:=min D.least lo,most:=max D.most hi }
set_option maxRecDepth 100000 in
set_option maxHeartbeats 2000000 in
theorem req_ends (w:World) (p tp:Nat) (rv:Value) (vs:List Value) (D:TwD) (ht:Tow w p tp rv vs D) (lo hi:Int) :
 Calls Tryz.prog 183 #[.pointer (some ⟨p,0,none⟩),.int .i64 lo,.int .i64 hi] w fun e w'=>e=.returned (.tuple #[])∧Tow w' p tp rv vs (D.ends lo hi)∧Chg [p] w w':=by
 obtain ⟨c0,c1,c2,c3,c4,c5,c6⟩:=ht.cells
 have f5:=ht.blk.free 5
 have f6:=ht.blk.free 6
 have HE:=Lib.hid (fun a b=>show Tow ((w.setCell ⟨p,5,none⟩ (.int .i64 a)).setCell ⟨p,6,none⟩ (.int .i64 b)) p tp rv vs { D with least:=a,most:=b } from by
  have k:Chg [p] w ((w.setCell ⟨p,5,none⟩ (.int .i64 a)).setCell ⟨p,6,none⟩ (.int .i64 b)):=((Chg.refl _ w).setCell (a:=⟨p,5,none⟩) (.inl (by simp)) _).setCell (a:=⟨p,6,none⟩) (.inl (by simp)) _
  exact ⟨(ht.blk.setCell 5 _).setCell 6 _,ht.tape.chg k (by simpa using ht.ne_tape.symm),ht.own.chg k (fun b hb e=>by simp at e;subst e;exact ht.p_rv hb),
   ht.rows.chg k (fun v hv b hb e=>by simp at e;subst e;obtain ⟨i,hi,rfl⟩:=List.getElem_of_mem hv;exact ht.p_row i hi hb)⟩)
 have HK:=Lib.hid (fun a b=>show Chg [p] w ((w.setCell ⟨p,5,none⟩ (.int .i64 a)).setCell ⟨p,6,none⟩ (.int .i64 b)) from ((Chg.refl _ w).setCell (a:=⟨p,5,none⟩) (.inl (by simp)) _).setCell (a:=⟨p,6,none⟩) (.inl (by simp)) _)
 by_cases h0:D.total=0
 ·have hz:((D.total:Int)==0)=true:=by rw [beq_iff_eq];omega
  have HV:=Lib.hid (show D.ends lo hi={ D with least:=lo,most:=hi } from if_pos h0)
  clear h0
  go_enter Tryz.func183,Tryz.ntmps183
  go_wp2
  refine bodyPost_ret (results_none rfl _ _ _) rfl ?_
  rw [HV.out]
  exact ⟨rfl,HE.out _ _,HK.out _ _⟩
 ·have hz:((D.total:Int)==0)=false:=by rw [beq_eq_false_iff_ne];omega
  have HV:=Lib.hid (show D.ends lo hi={ D with least:=min D.least lo,most:=max D.most hi } from if_neg h0)
  clear h0
  go_enter Tryz.func183,Tryz.ntmps183
  go_wp2_with fail
  go_region_with (fail)
  all_goals
   go_end0
   rw [HV.out]
   exact ⟨rfl,(HE.out _ _).chg ((Chg.refl [] _).drew) (by simp),(HK.out _ _).drew⟩
end Go.Proofs.YthoolcpcmhhkpaaGreatDoor
namespace Go.Proofs.YthoolcpcmhhkpaaGreatDoor
open Go.RowKit
theorem make_rows (w:World):(Instr.makeSlice 203 (.int .i64 1) (.int .i64 1)).run Tryz.prog w=.ok (.slice (some ⟨w.heap.size,0,none⟩) 1 1) (w.alloc (.cells #[.slice none 0 0] 100)):=by
 obtain ⟨i,hi,hz0,hz1,hz2⟩:=info_parts info_intsT
 have h:=run_makeSlice (P:=Tryz.prog) w 203 100 i (.slice none 0 0) under_rowsT hi hz0 .i64 .i64 1 1 (by omega) (by omega) (by rw [hz1];decide) (by rw [hz2];decide) (by omega)
 rw [hz1] at h
 have e:madeCells (Value.slice none 0 0).cells ((1:Int).toNat*1)=#[.slice none 0 0]:=by
  apply Array.toList_inj.1
  have:=toList_madeCells_one (Value.slice none 0 0) 1
  simpa [Value.cells] using this
 rw [e] at h
 simpa using h
def TwD.new (W word:Nat):TwD:=⟨W,word,0,0,[[]],0,0⟩
theorem rows_nil (w:World):RowsW w [.slice none 0 0] [[]]:=
 ⟨rfl,fun j h h'=>by
  obtain rfl:j=0:=by simp at h;omega
  exact Own.nil _ _ _,fun j k h h' hne=>by simp at h h';omega⟩
set_option maxRecDepth 100000 in
set_option maxHeartbeats 2000000 in
theorem req_new (w:World) (W word:Nat) (hW:4≤W) (hW2:W≤64) (hW4:W % 4=0) :
 Calls Tryz.prog 117 #[.agg #[.int .i64 W,.int .u64 word]] w fun e w'=>∃ p tp rv,e=.returned (.tuple #[.pointer (some ⟨p,0,none⟩),.int .i64 0]) ∧
  Tow w' p tp rv [.slice none 0 0] (TwD.new W word)∧Chg [] w w'∧∀ b∈fp p tp rv [.slice none 0 0],w.heap.size≤b:=by
 have e1:decide ((W:Int)<4)=false:=decide_eq_false (by omega)
 have e2:decide ((64:Int)<(W:Int))=false:=decide_eq_false (by omega)
 have e3:((W:Int).tmod 4 != 0)=false:=by rw [bne_eq_false_iff_eq,Int.tmod_eq_emod_of_nonneg (by omega)];omega
 have e4:((W:Int) % 4 != 0)=false:=by rw [bne_eq_false_iff_eq];omega
 have hbx:=Blk.alloc_new w #[.int .i64 W,.int .u64 word] 201
 have c0:=hbx.cell 0
 have c1:=hbx.cell 1
 have hmk:=make_rows
 clear hW4
 go_enter Tryz.func117,Tryz.ntmps117
 go_wp2_with fail
 go_region_law (refine step_calls rfl 181 _ _ rfl (enters_of Tryz.func181 (by kernel_rfl) rfl) _ #[.int .u64 word] (by simp [Act.eval]) (coins_new _ word) ?_;rintro e w1 ⟨rfl,ht1,hc1⟩;refine ⟨_,rfl,?_⟩;have hcc:Chg [] (w.alloc (.cells #[.int .i64 W,.int .u64 word] 201)) w1:=Chg.trans (by with_reducible (repeat (first|exact Chg.refl _ _|apply Chg.drew|apply Chg.alloc))) hc1;have c0':=(hbx.chg hcc (by simp)).cell 0;have c1':=(hbx.chg hcc (by simp)).cell 1;have ca0:=fun o=>((hbx.chg hcc (by simp)).alloc o).cell 0;have ca1:=fun o=>((hbx.chg hcc (by simp)).alloc o).cell 1)
 all_goals
  clear hmk ca0 ca1 c0' c1' e1 e2 e3 e4 c0 c1
  go_wp2
  go_ret2
 all_goals
  have hs1:=hcc.size
  simp only [World.size_alloc] at hs1
  first
  | (refine ⟨w1.heap.size+1,w.heap.size+1,.slice (some ⟨w1.heap.size,0,none⟩) 1 1,rfl,⟨?_,?_,?_,rows_nil _⟩,?_,?_⟩
     ·have:=Blk.alloc_new (w1.alloc (.cells #[.slice none 0 0] 100)) (twCells (w.heap.size+1) (.slice (some ⟨w1.heap.size,0,none⟩) 1 1) (TwD.new W word)) 276
      rw [World.size_alloc] at this
      exact this
     ·have h2:Tape w1 (w.heap.size+1) word 0:=by simpa using ht1
      exact h2.chg (((Chg.refl [] w1).alloc _).alloc _) (by simp)
     ·exact (Own.lit w1 100 1 1 #[.slice none 0 0] rfl (by unfold maxLen;omega)).alloc _
     ·exact ((((Chg.refl [] w).alloc _).trans hcc).alloc _).alloc _
     ·intro b hb
      simp [fp] at hb
      omega)
  | (refine ⟨w1.heap.size,w.heap.size+1+1,.slice (some ⟨w.heap.size+1,0,none⟩) 1 1,rfl,⟨?_,?_,?_,rows_nil _⟩,?_,?_⟩
     ·exact Blk.alloc_new w1 (twCells (w.heap.size+1+1) (.slice (some ⟨w.heap.size+1,0,none⟩) 1 1) (TwD.new W word)) 276
     ·have h2:Tape w1 (w.heap.size+1+1) word 0:=by simpa using ht1
      exact h2.chg ((Chg.refl [] w1).alloc _) (by simp)
     ·have h3:=Own.lit (w.alloc (.cells #[.int .i64 W,.int .u64 word] 201)) 100 1 1 #[.slice none 0 0] rfl (by unfold maxLen;omega)
      rw [World.size_alloc] at h3
      exact (h3.drew.chg hc1 (by simp)).alloc _
     ·exact (((Chg.refl [] w).alloc _).trans hcc).alloc _
     ·intro b hb
      simp [fp] at hb
      omega)
  | trace_state
end Go.Proofs.YthoolcpcmhhkpaaGreatDoor
namespace Go.Proofs.YthoolcpcmhhkpaaGreatDoor
def TwD.add (D:TwD) (x:Int):TwD:={ D with rows:=D.rows.set 0 (D.rows.getD 0 []++[x]),total:=D.total+1 }
def TwD.put1 (D:TwD) (x:Int):TwD:=(D.add x).settled
def TwD.putN (D:TwD) (x:Int):Nat→TwD
 | 0=>D
 | k+1=>(D.putN x k).put1 x
def TwD.fits (D:TwD) (M:Nat):Prop:=1≤D.rows.length∧D.rows.length≤D.used+1∧D.used+D.rows.flatten.length≤M
theorem TwD.put1_fits {D:TwD} {M:Nat} (x:Int) (hW:4≤D.W) (h:D.fits M):(D.put1 x).fits (M+1):=by
 obtain ⟨h1,h2,h3⟩:=h
 have hs:=settle_fits (W:=D.W) (c:=coinB D.word) hW (s:=(D.used,D.rows.set 0 (D.rows.getD 0 []++[x]))) (by simpa using h1) (by simpa using h2)
 have e:(D.rows.set 0 (D.rows.getD 0 []++[x])).flatten.length=D.rows.flatten.length+1:=by
  cases hr:D.rows with
  | nil=>rw [hr] at h1;simp at h1
  | cons r l=>simp;omega
 simp only at hs
 rw [e] at hs
 exact ⟨hs.1,hs.2.1,by have:=hs.2.2;show _≤_;simp only [TwD.put1,TwD.settled,TwD.at,TwD.add];omega⟩
theorem TwD.putN_W (D:TwD) (x:Int) (k:Nat):(D.putN x k).W=D.W∧(D.putN x k).word=D.word∧(D.putN x k).total=D.total+k:=by
 induction k with
 | zero=>exact ⟨rfl,rfl,rfl⟩
 | succ k ih=>exact ⟨ih.1,ih.2.1,by show (D.putN x k).total+1=_;omega⟩
theorem TwD.add_size {D:TwD} (x:Int) (h1:1≤D.rows.length):(D.add x).rows.flatten.length=D.rows.flatten.length+1∧(D.add x).rows.length=D.rows.length:=by
 unfold TwD.add
 cases hr:D.rows with
 | nil=>rw [hr] at h1;simp at h1
 | cons r l=>simp;omega
end Go.Proofs.YthoolcpcmhhkpaaGreatDoor
namespace Go.Proofs.YthoolcpcmhhkpaaGreatDoor
theorem halveL_mem {y:Int}:∀ (l:List Int) (b:Bool),y∈halveL l b→y∈l
 | [],b,h=>by cases b<;>simp [halveL] at h
 | x::l,false,h=>by
   rw [halveL,List.mem_cons] at h
   rcases h with rfl|h
   ·simp
   ·exact List.mem_cons_of_mem _ (halveL_mem l _ h)
 | x::l,true,h=>by
   rw [halveL] at h
   exact List.mem_cons_of_mem _ (halveL_mem l _ h)
theorem put1_mem {l:List Int} {x y:Int} (h:y∈put1 l x):y∈l∨y=x:=by
 unfold put1 at h
 simp only [List.append_assoc,List.mem_append,List.mem_cons,List.not_mem_nil,or_false] at h
 rcases h with h|h|h
 ·exact .inl (List.mem_of_mem_take h)
 ·exact .inr h
 ·exact .inl (List.mem_of_mem_drop h)
theorem sortL_mem {l:List Int} {y:Int} (h:y∈sortL l):y∈l:=by
 have gen:∀ (r acc:List Int),y∈r.foldl put1 acc→y∈acc∨y∈r:=by
  intro r
  induction r with
  | nil=>intro acc h;exact .inl h
  | cons x r ih =>
    intro acc h
    rw [List.foldl_cons] at h
    rcases ih _ h with h|h
    ·rcases put1_mem h with h|rfl
     ·exact .inl h
     ·exact .inr (by simp)
    ·exact .inr (List.mem_cons_of_mem _ h)
 rcases gen l [] h with h|h
 ·simp at h
 ·exact h
theorem settle_all {W:Nat} {c:Nat→Bool} (hW:4≤W) (Q:Int→Prop) (s:Nat × List (List Int)) (h:∀ r∈s.2,∀ v∈r,Q v):∀ r∈(settle W c s).2,∀ v∈r,Q v:=by
 obtain ⟨h',hi,hn⟩:=settleF_inv (c:=c) hW (fun _ t=>∀ r∈t.2,∀ v∈r,Q v)
  (fun h t hi hh=>by
    obtain ⟨u,l⟩:=t
    obtain ⟨A,r,B,rfl,rfl⟩:=split_at hh
    rw [stepR_split]
    split
    ·exact hi
    ·next hlt =>
     simp only [List.mem_append,List.mem_cons] at hi
     have hr:=hi r (.inr (.inl rfl))
     intro q hq v hv
     simp only [List.mem_append,List.mem_cons] at hq
     rcases hq with hq|rfl|rfl|hq
     ·exact hi q (.inl hq) v hv
     ·exact hr v (sortL_mem (List.mem_of_mem_take hv))
     ·rcases List.mem_append.1 hv with hv|hv
      ·cases B with
       | nil=>simp at hv
       | cons b B=>exact hi b (.inr (.inr (by simp))) v (by simpa using hv)
      ·exact hr v (sortL_mem (List.mem_of_mem_drop (halveL_mem _ _ hv)))
     ·exact hi q (.inr (.inr (List.mem_of_mem_tail hq))) v hv) (needF 0 s) 0 s (Nat.le_refl _) h
 exact hi
theorem upL_all {r:List Int} {x:Int} (h:∀ v∈r,v≤x):upL r x=r.length:=by
 rw [upL,List.countP_eq_length]
 intro v hv
 simpa using h v hv
structure TwD.ok (D:TwD) (W word n:Nat):Prop where
 W_eq:D.W=W
 word_eq:D.word=word
 tot:D.total=n
 fit:D.fits n
 sum:totR D.rows=n
 short:∀ r∈D.rows,r.length<W
 full:∀ r∈D.rows.tail,1≤r.length
 low:∀ r∈D.rows,∀ v∈r,v≤9223372036854775807
theorem TwD.new_ok {W word:Nat} (hW:4≤W):(TwD.new W word).ok W word 0:=
 ⟨rfl,rfl,rfl,⟨by simp [TwD.new],by simp [TwD.new],by simp [TwD.new]⟩,rfl,by simp [TwD.new];omega,by simp [TwD.new],by simp [TwD.new]⟩
theorem TwD.ends_ok {D:TwD} {W word n:Nat} (h:D.ok W word n) (x y:Int):(D.ends x y).ok W word n:=by
 unfold TwD.ends
 split<;>exact ⟨h.1,h.2,h.3,h.4,h.5,h.6,h.7,h.8⟩
theorem TwD.put1_ok {D:TwD} {W word n:Nat} (hW:4≤W) (h:D.ok W word n) {x:Int} (hx:x≤9223372036854775807):(D.put1 x).ok W word (n+1):=by
 obtain ⟨rfl,rfl,rfl,h4,h5,h6,h7,h8⟩:=h
 obtain ⟨r,l,hr⟩:∃ r l,D.rows=r::l:=by
  obtain ⟨q1,_⟩:=h4
  cases hr:D.rows with
  | nil=>rw [hr] at q1;simp at q1
  | cons r l=>exact ⟨r,l,rfl⟩
 have e1:(D.add x).rows=(r++[x])::l:=by simp [TwD.add,hr]
 have hs:(D.put1 x).rows=(settle D.W (coinB D.word) (D.used,(r++[x])::l)).2:=by
  show (settle D.W (coinB D.word) (D.used,(D.add x).rows)).2=_
  rw [e1]
 refine ⟨rfl,rfl,rfl,TwD.put1_fits x hW h4,?_,?_,?_,?_⟩
 ·rw [hs,settle_tot hW]
  rw [hr] at h5
  simp only [totR,wsum,List.length_append,List.length_cons,List.length_nil] at h5 ⊢
  omega
 ·rw [hs];exact settle_short hW _
 ·rw [hs]
  exact settle_full hW _ (by rw [hr] at h7;simpa using h7)
 ·rw [hs]
  refine settle_all hW _ _ ?_
  rw [hr] at h8
  intro q hq v hv
  simp only [List.mem_cons] at hq
  rcases hq with rfl|hq
  ·rcases List.mem_append.1 hv with hv|hv
   ·exact h8 r (by simp) v hv
   ·simp at hv;subst hv;exact hx
  ·exact h8 q (by simp [hq]) v hv
theorem TwD.putN_ok {D:TwD} {W word n:Nat} (hW:4≤W) (h:D.ok W word n) {x:Int} (hx:x≤9223372036854775807) (k:Nat):(D.putN x k).ok W word (n+k):=by
 induction k with
 | zero=>exact h
 | succ k ih=>exact TwD.put1_ok hW ih hx
end Go.Proofs.YthoolcpcmhhkpaaGreatDoor
namespace Go.Proofs.YthoolcpcmhhkpaaGreatDoor
open Go.RowKit
theorem flat_le0 {l:List (List Int)} (h:0<l.length):l[0].length≤l.flatten.length:=by
 cases l with
 | nil=>simp at h
 | cons r l=>simp
theorem Tow.setTotal {w:World} {p tp:Nat} {rv:Value} {vs:List Value} {D:TwD} (ht:Tow w p tp rv vs D) (t:Nat):Tow (w.setCell ⟨p,4,none⟩ (.int .u64 (t:Nat))) p tp rv vs { D with total:=t }∧Chg [p] w (w.setCell ⟨p,4,none⟩ (.int .u64 (t:Nat))):=by
 have k:Chg [p] w (w.setCell ⟨p,4,none⟩ (.int .u64 (t:Nat))):=(Chg.refl _ w).setCell (a:=⟨p,4,none⟩) (.inl (by simp)) _
 exact ⟨⟨ht.blk.setCell 4 _,ht.tape.chg k (by simpa using ht.ne_tape.symm),ht.own.chg k (fun b hb e=>by simp at e;subst e;exact ht.p_rv hb),
  ht.rows.chg k (fun v hv b hb e=>by simp at e;subst e;obtain ⟨i,hi,rfl⟩:=List.getElem_of_mem hv;exact ht.p_row i hi hb)⟩,k⟩
end Go.Proofs.YthoolcpcmhhkpaaGreatDoor
namespace Go.Proofs.YthoolcpcmhhkpaaGreatDoor
open Go.RowKit
end Go.Proofs.YthoolcpcmhhkpaaGreatDoor
namespace Go.Proofs.YthoolcpcmhhkpaaGreatDoor
open Go.RowKit
end Go.Proofs.YthoolcpcmhhkpaaGreatDoor
namespace Go.Proofs.YthoolcpcmhhkpaaGreatDoor
open Go.RowKit
namespace RT
variable {w w1:World} {p W word used:Nat} {rv:Value} {vs:List Value} {rows:List (List Int)}
end RT
end Go.Proofs.YthoolcpcmhhkpaaGreatDoor
namespace Go.Proofs.YthoolcpcmhhkpaaGreatDoor
open Go.RowKit
theorem Rd.cap {w:World} {size n m c:Nat} {ao:Option Addr} {xs:List Value} (h:Rd w size (.slice ao m c) n xs) (c':Nat):Rd w size (.slice ao m c') n xs:=by
 obtain ⟨h1,ao',cap,hv,h2⟩:=h
 simp only [Value.slice.injEq] at hv
 obtain ⟨rfl,rfl,rfl⟩:=hv
 exact ⟨h1,ao,c',rfl,h2⟩
end Go.Proofs.YthoolcpcmhhkpaaGreatDoor
namespace Go.Proofs.YthoolcpcmhhkpaaGreatDoor
open Go.RowKit
end Go.Proofs.YthoolcpcmhhkpaaGreatDoor
namespace Go.Proofs.YthoolcpcmhhkpaaGreatDoor
open Go.RowKit
end Go.Proofs.YthoolcpcmhhkpaaGreatDoor
namespace Go.Proofs.YthoolcpcmhhkpaaGreatDoor
open Go.RowKit
end Go.Proofs.YthoolcpcmhhkpaaGreatDoor
namespace Go.Proofs.YthoolcpcmhhkpaaGreatDoor
open Go.RowKit
def goodW (W:Int):Bool:=decide (4≤W∧W≤64∧W % 4=0)
def TwD.vals (D:TwD) (l:List Vl):TwD:=l.foldl (fun D v=>(D.ends v.x v.x).putN v.x v.n) D
theorem TwD.ends_same (D:TwD) (x y:Int):(D.ends x y).W=D.W∧(D.ends x y).word=D.word∧(D.ends x y).total=D.total∧(D.ends x y).rows=D.rows∧(D.ends x y).used=D.used:=by
 unfold TwD.ends;split<;>exact ⟨rfl,rfl,rfl,rfl,rfl⟩
set_option maxRecDepth 100000 in
theorem req_config (w:World) (p tp:Nat) (rv:Value) (vs:List Value) (D:TwD) (ht:Tow w p tp rv vs D):Calls Tryz.prog 392 #[.pointer (some ⟨p,0,none⟩)] w fun e w'=>e=.returned (.agg #[.int .i64 (D.W:Nat),.int .u64 (D.word:Nat)])∧Chg [] w w':=by
 obtain ⟨c0,c1,-,-,-,-,-⟩:=(ht.chg ((Chg.refl [] w).alloc (.cells #[.int .i64 0,.int .u64 0] 201)) (by simp)).cells
 have hb:=Blk.alloc_new w #[.int .i64 0,.int .u64 0] 201
 have z0:=hb.cell 0
 have z1:=hb.cell 1
 have f0:=hb.free 0
 have f1:=hb.free 1
 go_enter Tryz.func392,Tryz.ntmps392
 go_wp2
 have hb2:=Blk.alloc_new w #[.int .i64 (D.W:Nat),.int .u64 (D.word:Nat)] 201
 have y0:=hb2.cell 0
 have y1:=hb2.cell 1
 refine bodyPost_ret (v:=.agg #[.int .i64 (D.W:Nat),.int .u64 (D.word:Nat)]) (by simp [results,Tryz.results392,go_sem,y0,y1]) rfl ⟨rfl,?_⟩
 with_reducible (repeat (first|exact Chg.refl _ _|apply Chg.alloc))
def NewR (w w':World) (W:Int) (word:Nat) (e:Ending):Prop:=
 (goodW W=false∧e=.returned (.tuple #[.pointer none,.int .i64 1])∧Chg [] w w') ∨
 (goodW W=true∧∃ p tp rv,e=.returned (.tuple #[.pointer (some ⟨p,0,none⟩),.int .i64 0])∧Tow w' p tp rv [.slice none 0 0] (TwD.new W.toNat word)∧Chg [] w w'∧∀ b∈fp p tp rv [.slice none 0 0],w.heap.size≤b)
set_option maxRecDepth 100000 in
theorem req_newF (w:World) (W:Int) (word:Nat):Calls Tryz.prog 117 #[.agg #[.int .i64 W,.int .u64 (word:Nat)]] w fun e w'=>NewR w w' W word e:=by
 by_cases h:goodW W=true
 ·have hw:4≤W∧W≤64∧W % 4=0:=by simpa [goodW] using h
  obtain ⟨Wn,rfl⟩:=Int.eq_ofNat_of_zero_le (show 0≤W by omega)
  refine (req_new w Wn word (by omega) (by omega) (by omega)).mono ?_
  rintro e w' ⟨p,tp,rv,rfl,h1,h2,h3⟩
  exact .inr ⟨h,p,tp,rv,rfl,h1,h2,h3⟩
 ·have hf:goodW W=false:=by simpa using h
  have hw:¬(4≤W∧W≤64∧W % 4=0):=by simpa [goodW] using h
  have HF:=Lib.hid hf
  have hc:=(Chg.refl [] w).alloc (.cells #[.int .i64 W,.int .u64 (word:Nat)] 201)
  have hb:=Blk.alloc_new w #[.int .i64 W,.int .u64 (word:Nat)] 201
  have b0:=hb.cell 0
  have b1:=hb.cell 1
  clear h hf
  by_cases h1:W<4
  ·have d1:decide (W<4)=true:=decide_eq_true h1
   go_enter Tryz.func117,Tryz.ntmps117
   go_wp2
   go_ret2
   exact .inl ⟨HF.out,rfl,hc⟩
  ·have d1:decide (W<4)=false:=decide_eq_false h1
   by_cases h2:64<W
   ·have d2:decide (64<W)=true:=decide_eq_true h2
    go_enter Tryz.func117,Tryz.ntmps117
    go_wp2
    go_ret2
    exact .inl ⟨HF.out,rfl,hc⟩
   ·have d2:decide (64<W)=false:=decide_eq_false h2
    have d3:W.tmod 4=W % 4:=Int.tmod_eq_emod_of_nonneg (by omega)
    have d4:(W % 4 != 0)=true:=by rw [bne_iff_ne];omega
    go_enter Tryz.func117,Tryz.ntmps117
    go_wp2
    go_ret2
    exact .inl ⟨HF.out,rfl,hc⟩
set_option maxRecDepth 100000 in
theorem req_put_zero (w:World) (p:Nat) (x:Int):Calls Tryz.prog 118 #[.pointer (some ⟨p,0,none⟩),.int .i64 x,.int .u64 0] w fun e w'=>e=.returned (.int .i64 1)∧w=w':=by
 go_enter Tryz.func118,Tryz.ntmps118
 go_wp2
 go_ret
 exact ⟨rfl,rfl⟩
end Go.Proofs.YthoolcpcmhhkpaaGreatDoor
namespace Go.Proofs.YthoolcpcmhhkpaaGreatDoor
structure TwD.fine (D:TwD) (W word n:Nat):Prop where
 W_eq:D.W=W
 word_eq:D.word=word
 tot:D.total=n
 ne:1≤D.rows.length
 sum:totR D.rows=n
 short:∀ r∈D.rows,r.length<W
 full:∀ r∈D.rows.tail,1≤r.length
 low:∀ r∈D.rows,∀ v∈r,v≤9223372036854775807
theorem TwD.ok.fine {D:TwD} {W word n:Nat} (h:D.ok W word n):D.fine W word n:=⟨h.1,h.2,h.3,h.4.1,h.5,h.6,h.7,h.8⟩
theorem settle_ne {W:Nat} {c:Nat→Bool} (hW:4≤W) (s:Nat × List (List Int)) (h1:1≤s.2.length):1≤(settle W c s).2.length:=by
 obtain ⟨h',hi,_⟩:=settleF_inv (c:=c) hW (fun _ t=>1≤t.2.length)
  (fun h t hi hh=>by
    obtain ⟨u,l⟩:=t
    obtain ⟨A,r,B,rfl,rfl⟩:=split_at hh
    rw [stepR_split]
    split
    ·exact hi
    ·simp;omega) (needF 0 s) 0 s (Nat.le_refl _) h1
 exact hi
theorem TwD.fine.few {D:TwD} {W word n:Nat} (h:D.fine W word n):2^D.rows.length≤n+2:=by
 have:=rows_few h.full
 rw [h.sum] at this
 exact this
def lowR (x:Int) (m W:Nat) (rows:List (List Int)):Prop:=m≤W / 2→upL (rows.headD []) x=m∧∀ r∈rows.tail,upL r x=0
def nearR (x:Int) (m W:Nat) (rows:List (List Int)):Prop:=rankR x rows*(W / 2)≤m*(W / 2)+aboveR rows∧m*(W / 2)≤rankR x rows*(W / 2)+aboveR rows
theorem upL_zero {l:List Int} {x:Int}:upL l x=0↔∀ v∈l,¬v≤x:=by
 rw [upL,List.countP_eq_zero];simp
theorem up_drop {l:List Int} (h:up l) {x:Int} {k:Nat} (hk:upL l x≤k):upL (l.drop k) x=0:=by
 rw [upL_zero]
 intro v hv hx
 obtain ⟨i,hi,rfl⟩:=List.getElem_of_mem hv
 rw [List.getElem_drop] at hx
 have hl:k+i<l.length:=by simp at hi;omega
 have h1:upL (l.take (k+i+1)) x=k+i+1:=by
  have:∀ u∈l.take (k+i+1),u≤x:=fun u hu=>by
   obtain ⟨j,hj,rfl⟩:=List.getElem_of_mem hu
   rw [List.getElem_take]
   have hj2:j<k+i+1:=by simp at hj;omega
   rcases Nat.lt_or_ge j (k+i) with h3|h3
   ·have h4:=h j (k+i) h3 hl
    omega
   ·obtain rfl:j=k+i:=by omega
    exact hx
  rw [upL_all this];simp;omega
 have h2:=upL_app (l.take (k+i+1)) (l.drop (k+i+1)) x
 rw [List.take_append_drop] at h2
 omega
theorem upL_half {l:List Int} {x:Int} {b:Bool} (h:upL l x=0):upL (halveL l b) x=0:=by
 rw [upL_zero] at *
 exact fun v hv=>h v (halveL_mem _ _ hv)
theorem upL_parts {r:List Int} {x:Int} {m:Nat} (h:upL r x=0):upL ((sortL r).take m) x=0∧upL ((sortL r).drop m) x=0:=by
 have:=sort_parts r m x
 omega
theorem headD_zero {B:List (List Int)} {x:Int} (h:∀ r∈B,upL r x=0):upL (B.headD []) x=0:=by
 cases B with
 | nil=>rfl
 | cons b B=>exact h b (by simp)
theorem low_step {x:Int} {m W:Nat} {c:Nat→Bool} {h:Nat} {s:Nat × List (List Int)} (_hW:4≤W) (hh:h<s.2.length) (hl:lowR x m W s.2):lowR x m W (stepR W c h s).2:=by
 obtain ⟨u,l⟩:=s
 obtain ⟨A,r,B,rfl,rfl⟩:=split_at hh
 rw [stepR_split]
 split
 ·exact hl
 ·next hlt =>
  intro hm
  obtain ⟨h1,h2⟩:=hl hm
  have hk:=keepN_le (n:=r.length) (k:=W / 2) (by omega)
  cases A with
  | nil =>
    simp only [List.nil_append,List.headD_cons,List.tail_cons] at h1 h2 ⊢
    have h3:upL ((sortL r).drop (keepN r.length (W / 2))) x=0:=up_drop (sort_ok r).1 (by rw [(sort_ok r).2.1 x];omega)
    have h4:=sort_parts r (keepN r.length (W / 2)) x
    refine ⟨by omega,fun q hq => ?_⟩
    simp only [List.mem_cons] at hq
    rcases hq with rfl|hq
    ·rw [upL_app,headD_zero h2,upL_half h3]
    ·exact h2 q (List.mem_of_mem_tail hq)
  | cons a A =>
    simp only [List.cons_append,List.headD_cons,List.tail_cons] at h1 h2 ⊢
    have h3:=upL_parts (m:=keepN r.length (W / 2)) (h2 r (by simp))
    refine ⟨h1,fun q hq => ?_⟩
    simp only [List.mem_append,List.mem_cons] at hq
    rcases hq with hq|rfl|rfl|hq
    ·exact h2 q (by simp [hq])
    ·exact h3.1
    ·rw [upL_app,headD_zero (fun q hq=>h2 q (by simp [hq])),upL_half h3.2]
    ·exact h2 q (by simp [List.mem_of_mem_tail hq])
theorem near_step {x:Int} {m W:Nat} {c:Nat→Bool} {h:Nat} {s:Nat × List (List Int)} (hW:4≤W) (h4:W % 4=0) (hh:h<s.2.length) (hl:nearR x m W s.2):nearR x m W (stepR W c h s).2:=by
 obtain ⟨u,l⟩:=s
 obtain ⟨A,r,B,rfl,rfl⟩:=split_at hh
 by_cases hlt:r.length<W
 ·rw [stepR_split,if_pos hlt];exact hl
 ·obtain ⟨d,hd,hr,-⟩:=step_rank c x A r B u hlt
  have ha:=step_above c A r B u hW h4 hlt
  obtain ⟨l1,l2⟩:=hl
  unfold nearR
  simp only at l1 l2 ⊢
  generalize rankR x (stepR W c A.length (u,A++r::B)).2=R1 at *
  generalize aboveR (stepR W c A.length (u,A++r::B)).2=A1 at *
  generalize rankR x (A++r::B)=R0 at *
  generalize aboveR (A++r::B)=A0 at *
  generalize W / 2=K at *
  generalize 2^A.length=T at *
  have e:T*d*K≤T*K:=by
   rcases (show d=0∨d=1 by omega) with rfl|rfl
   ·simp
   ·simp
  have hr2:R1*K+(if c u=true then T*d else 0)*K=R0*K+(if c u=true then 0 else T*d)*K:=by rw [←Nat.add_mul,hr,Nat.add_mul]
  split at hr2<;>simp only [Nat.zero_mul,Nat.add_zero] at hr2<;>omega
theorem settle_low {x:Int} {m W:Nat} {c:Nat→Bool} (hW:4≤W) (s:Nat × List (List Int)) (h:lowR x m W s.2):lowR x m W (settle W c s).2:=by
 obtain ⟨h',hi,_⟩:=settleF_inv (c:=c) hW (fun _ t=>lowR x m W t.2) (fun h t hi hh=>low_step hW hh hi) (needF 0 s) 0 s (Nat.le_refl _) h
 exact hi
theorem settle_near {x:Int} {m W:Nat} {c:Nat→Bool} (hW:4≤W) (h4:W % 4=0) (s:Nat × List (List Int)) (h:nearR x m W s.2):nearR x m W (settle W c s).2:=by
 obtain ⟨h',hi,_⟩:=settleF_inv (c:=c) hW (fun _ t=>nearR x m W t.2) (fun h t hi hh=>near_step hW h4 hh hi) (needF 0 s) 0 s (Nat.le_refl _) h
 exact hi
def TwD.tells (D:TwD) (x:Int) (m:Nat):Prop:=lowR x m D.W D.rows∧nearR x m D.W D.rows
theorem low_mono {x:Int} {m k W:Nat} {r s:List Int} {l:List (List Int)} (h:lowR x m W (r::l)) (hs:upL s x=k):lowR x (m+k) W ((r++s)::l):=fun hm=>by
 obtain ⟨h1,h2⟩:=h (by omega)
 exact ⟨by simp only [List.headD_cons] at h1 ⊢;rw [upL_app,h1,hs],h2⟩
theorem near_mono {x:Int} {m k W:Nat} {r s:List Int} {l:List (List Int)} (h:nearR x m W (r::l)) (hs:upL s x=k):nearR x (m+k) W ((r++s)::l):=by
 have e:rankR x ((r++s)::l)=rankR x (r::l)+k:=by simp only [rankR,wsum,upL_app,hs];omega
 have e2:aboveR ((r++s)::l)=aboveR (r::l):=rfl
 obtain ⟨h1,h2⟩:=h
 unfold nearR
 rw [e,e2,Nat.add_mul,Nat.add_mul]
 omega
theorem TwD.ends_tells {D:TwD} {x:Int} {m:Nat} (h:D.tells x m) (a b:Int):(D.ends a b).tells x m:=by
 obtain ⟨e1,-,-,e4,-⟩:=D.ends_same a b
 unfold TwD.tells
 rw [e1,e4]
 exact h
theorem TwD.put1_tells {D:TwD} {x:Int} {m:Nat} (hW:4≤D.W) (h4:D.W % 4=0) (hn:1≤D.rows.length) (h:D.tells x m) (y:Int):(D.put1 y).tells x (m+if y≤x then 1 else 0):=by
 obtain ⟨r,l,hr⟩:∃ r l,D.rows=r::l:=by
  cases hr:D.rows with
  | nil=>rw [hr] at hn;simp at hn
  | cons r l=>exact ⟨r,l,rfl⟩
 have e1:(D.add y).rows=(r++[y])::l:=by simp [TwD.add,hr]
 have hs:(D.put1 y).rows=(settle D.W (coinB D.word) (D.used,(r++[y])::l)).2:=by
  show (settle D.W (coinB D.word) (D.used,(D.add y).rows)).2=_
  rw [e1]
 have hu:upL [y] x=if y≤x then 1 else 0:=by simp [upL,List.countP_cons]
 obtain ⟨h1,h2⟩:=h
 rw [hr] at h1 h2
 unfold TwD.tells
 rw [hs]
 exact ⟨settle_low hW _ (low_mono h1 hu),settle_near hW h4 _ (near_mono h2 hu)⟩
end Go.Proofs.YthoolcpcmhhkpaaGreatDoor
namespace Go.Proofs.YthoolcpcmhhkpaaGreatDoor
open Go.RowKit
set_option maxRecDepth 100000 in
set_option maxHeartbeats 1000000 in
theorem clone_ints (w:World) (ao:Option Addr) (cap n:Nat) (l:List Int) (ho:Own w 2 1 (.slice ao n cap) n (ints l)) (hl:n≤1000000) :
 Calls Tryz.prog 176 #[.slice ao n cap] w fun e w'=>∃ a3 c3,e=.returned (.slice a3 n c3)∧Own w' 2 1 (.slice a3 n c3) n (ints l)∧Chg [] w w'∧∀ b∈abl a3,w.heap.size≤b:=by
 have hrd:=ho.rd
 have hu:∀ (w:World) (a:Option Addr) (n c n' c':Nat),(binOp .eql 100 (.slice a n c) (.slice none n' c')).run Tryz.prog w=.ok (.bool a.isNone) w:=fun w a n c n' c'=>Lib.run_eql_slice_nil w _ _ a n c n' c' under_ints
 obtain ⟨hx,⟨h0,rfl⟩|⟨g,o,cp,cur,h0,hg,h1,h2,h3,h4⟩⟩:=ho
 ·simp only [Value.slice.injEq] at h0
  obtain ⟨rfl,_,rfl⟩:=h0
  have hxl:l=[]:=List.eq_nil_of_length_eq_zero (by simpa using hx)
  subst hxl
  go_enter Tryz.func176,Tryz.ntmps176
  go_wp2
  go_ret
  exact ⟨none,0,rfl,Own.nil _ _ _,Chg.refl _ _,by simp⟩
 ·simp only [Value.slice.injEq,true_and] at h0
  obtain ⟨rfl,rfl⟩:=h0
  clear hg h1 h2 h3 h4 hx
  go_enter Tryz.func176,Tryz.ntmps176
  go_wp2_with (at_builtin;go_must (refine wpList_append_src _ rfl (.tmp 5) (.tmp 6) 100 100 rfl 2 _ 1 8 under_ints info_i64 rfl (by decide) (.slice (some ⟨w.heap.size,0,none⟩) 0 0) 0 (ints []) rfl (Own.lit w 2 1 0 #[] rfl (by unfold maxLen;omega)) (.slice (some ⟨g,o,none⟩) n cap) n (ints l) rfl (Src.of_rd under_ints (hrd.alloc _)) (ints_oneCell _) (by unfold maxLen;omega) (by omega) ?_;intro a5 c5 w2 ho2 hg2 hf2))
  go_ret
  rw [Nat.zero_add] at ho2
  refine ⟨a5,c5,by simp,by simpa [ints] using ho2,((Chg.refl [] w).alloc _).trans' hg2 (by simp),fun b hb => ?_⟩
  rcases hf2 b hb with h|h
  ·simp at h;omega
  ·simp at h;omega
theorem flat_leT {l:List (List Int)} {h:Nat} (hh:h<l.length):l[h].length≤l.flatten.length:=by
 obtain ⟨A,r,B,rfl,rfl⟩:=split_at hh
 simp
 omega
def RowsC (w:World) (B:Nat) (rv:Value) (vs:List Value) (rows:List (List Int)):Prop:=
 Own w 100 1 rv rows.length vs∧RowsW w vs rows∧(∀ b∈blkOf rv,B≤b)∧∀ v∈vs,∀ b∈blkOf v,B≤b
theorem RowsW.snoc {w:World} {vs:List Value} {rows:List (List Int)} (h:RowsW w vs rows) {v:Value} {r:List Int} (ho:Own w 2 1 v r.length (ints r)) (hd:∀ u∈vs,∀ b∈blkOf v,b∉blkOf u):RowsW w (vs++[v]) (rows++[r]):=by
 have h1:=h.push
 have h2:=h1.turn (Chg.refl [] w) vs.length (by simp) (by simp) ho (fun i hi hne b hb=>by
  have hil:i<vs.length:=by simp at hi;omega
  rw [List.getElem_append_left hil]
  exact hd _ (List.getElem_mem hil) b hb)
 have e1:(vs++[Value.slice none 0 0]).set vs.length v=vs++[v]:=by
  rw [List.set_append_right _ _ (Nat.le_refl _),Nat.sub_self];rfl
 have e2:(rows++[[]]).set vs.length r=rows++[r]:=by
  rw [h.1,List.set_append_right _ _ (Nat.le_refl _),Nat.sub_self];rfl
 rw [e1,e2] at h2
 exact h2
set_option maxRecDepth 100000 in
set_option maxHeartbeats 2000000 in
theorem req_rows (w:World) (p tp:Nat) (rv:Value) (vs:List Value) (D:TwD) (ht:Tow w p tp rv vs D) (hN:D.rows.flatten.length≤100000) (hR:D.rows.length≤100000) :
 Calls Tryz.prog 122 #[.pointer (some ⟨p,0,none⟩)] w fun e w'=>∃ ro rc vs',e=.returned (.slice ro D.rows.length rc)∧RowsC w' w.heap.size (.slice ro D.rows.length rc) vs' D.rows∧Chg [] w w':=by
 obtain ⟨-,-,-,c3,-,-,-⟩:=ht.cells
 obtain ⟨ro,rc,hrv⟩:=ht.own.shape
 subst hrv
 have HT:=Lib.hid ht
 have hvl:=Lib.hid (show vs.length=D.rows.length from ht.rows.1)
 have hoc:∀ v∈vs,v.oneCell'=true:=fun v hv=>by
  obtain ⟨i,hi,rfl⟩:=List.getElem_of_mem hv
  obtain ⟨a,c,h⟩:=(ht.rows.2.1 i hi (by rw [←ht.rows.1];exact hi)).shape
  rw [h];rfl
 have HNN:=Lib.hid hN
 generalize hrl:D.rows.length=n at *
 have HRL:=Lib.hid hrl
 clear ht hrl hN hoc
 go_enter Tryz.func122,Tryz.ntmps122
 go_wp2
 go_loopw [3,13] (fun out i wx=>∃ (k:Nat) (r1:Option Addr) (c1:Nat) (us:List Value),k≤n∧i=.int .i64 (k:Nat)∧out=.slice r1 k c1∧Own wx 100 1 (.slice r1 k c1) k us∧Hid (RowsW wx us (D.rows.take k)) ∧
  (∀ b∈abl r1,w.heap.size≤b)∧Hid (∀ v∈us,∀ b∈blkOf v,w.heap.size≤b)∧Chg [] w wx) (fun _ i _=>n-(intOf i).toNat)
 case atStart=>exact ⟨0,none,0,[],Nat.zero_le _,rfl,rfl,Own.nil _ _ _,Lib.hid ⟨by simp,fun j h=>by simp at h,fun j k h=>by simp at h⟩,by simp,Lib.hid (by simp),Chg.refl _ _⟩
 case round =>
  obtain ⟨k,r1,c1,us,hk,rfl,rfl,ho,HR,hb1,HB,hch⟩:=hrel
  by_cases hlt:k<n
  ·have hkr:k<D.rows.length:=by have:=HRL.out;omega
   have hkv:k<vs.length:=by have:=hvl.out;have:=HRL.out;omega
   have HT1:=HT.out.chg hch (by simp)
   obtain ⟨g,o,cp,hsl,d0,-,-⟩:=HT1.own.at1 (j:=k) hkr hkv
   rw [HRL.out] at hsl
   simp only [Value.slice.injEq,true_and] at hsl
   obtain ⟨rfl,rfl⟩:=hsl
   have hrow:=HT1.rows.2.1 k hkv hkr
   obtain ⟨so,sc,hsv⟩:=hrow.shape
   rw [hsv] at d0 hrow
   have hrn:D.rows[k].length≤100000:=Nat.le_trans (flat_leT hkr) HNN.out
   have HTK:=Lib.hid (show D.rows.take (k+1)=D.rows.take k++[D.rows[k]] from List.take_succ_eq_append_getElem hkr)
   generalize D.rows[k]=r at *
   obtain ⟨m,hm⟩:∃ m,m=r.length:=⟨_,rfl⟩
   rw [←hm] at d0 hrow hrn
   have HM:=Lib.hid hm
   have HCL:=Lib.hid (fun W h=>clone_ints W so sc m r h (by omega))
   have HRW:=Lib.hid hrow
   clear HT1 hsv hm hrow
   go_wp2_with fail
   refine (HCL.out wr HRW.out).mono ?_
   rintro e w2 ⟨a3,c3,rfl,ho3,hc3,hf3⟩
   have ho':=ho.chg hc3 (by simp)
   have HR':=Lib.hid (HR.out.chg hc3 (by simp))
   have hsz:=hch.size
   have hlt3:∀ b∈abl a3,b<w2.heap.size:=fun b hb=>ho3.lt b (by simpa using hb)
   have HUL:=Lib.hid (show ∀ u∈us,∀ b∈blkOf u,b<wr.heap.size from fun u hu b hb=>by
    obtain ⟨i,hi,rfl⟩:=List.getElem_of_mem hu
    exact HR.out.lt i hi b hb)
   have hrd:Rd (w2.alloc (.cells #[.slice a3 m c3] 100)) 1 (.slice (some ⟨w2.heap.size,0,none⟩) 1 1) 1 [.slice a3 m c3]:=Rd.lit1 w2 (.slice a3 m c3) 100 1
   have hoc1:∀ y∈[Value.slice a3 m c3],y.oneCell'=true:=fun y hy=>by simp at hy;subst hy;rfl
   have hch2:=hch.trans hc3
   have hne:∀ b∈abl r1,b∉abl a3:=fun b hb hb2=>ho'.apart ho3 (by decide) b (by simpa using hb) (by simpa using hb2)
   clear HCL HRW ho hch hc3 hrn
   go_wp2_with (at_builtin;go_must (refine wpList_append_src _ rfl (.tmp 17) (.tmp 20) 203 203 rfl 100 _ 1 24 under_rowsT info_intsT rfl (by decide) (.slice r1 k c1) k us rfl (ho'.alloc _) (.slice (some ⟨w2.heap.size,0,none⟩) 1 1) 1 [.slice a3 m c3] rfl (Src.of_rd under_rowsT hrd) hoc1 (by unfold maxLen;omega) (by omega) ?_;intro a5 c5 w7 ho7 hg7 hf7))
   have hk7:Chg (abl r1) w2 w7:=by have:=((Chg.refl (abl r1) w2).alloc (.cells #[.slice a3 m c3] 100)).trans' hg7 (fun b hb=>.inl (by simpa using hb));exact this
   refine ⟨⟨k+1,a5,c5,us++[.slice a3 m c3],by omega,by go_num,rfl,ho7,Lib.hid ?_,?_,Lib.hid ?_,hch2.trans' hk7 (fun b hb=>.inr (hb1 b hb))⟩,by simp [intOf];omega⟩
   ·rw [HTK.out]
    refine (HR'.out.chg hk7 (fun v hv b hb e => ?_)).snoc ?_ (fun u hu b hb e => ?_)
    ·obtain ⟨i,hi,rfl⟩:=List.getElem_of_mem hv
     exact ho'.apart (HR'.out.2.1 i hi (by rw [←HR'.out.1];exact hi)) (by decide) b (by simpa using e) hb
    ·rw [←HM.out]
     exact ho3.chg hk7 (fun b hb e=>hne b e (by simpa using hb))
    ·have h1:=HUL.out u hu b e
     have h2:=hf3 b (by simpa using hb)
     omega
   ·intro b hb
    rcases hf7 b hb with h|h
    ·exact hb1 b (by simpa using h)
    ·simp at h
     have:=hch2.size
     omega
   ·intro v hv b hb
    rcases List.mem_append.1 hv with h|h
    ·exact HB.out v h b hb
    ·simp at h;subst h
     have:=hf3 b (by simpa using hb)
     omega
  ·obtain rfl:k=n:=by omega
   have HRR:=Lib.hid (show RowsW wr us D.rows from by have:=HR.out;rw [List.take_of_length_le (by have:=HRL.out;omega)] at this;exact this)
   clear HR
   go_wp2
   go_ret
   exact ⟨r1,c1,us,rfl,⟨by rw [HRL.out];exact ho,HRR.out,by simpa using hb1,HB.out⟩,hch⟩
end Go.Proofs.YthoolcpcmhhkpaaGreatDoor
namespace Go.Proofs.YthoolcpcmhhkpaaGreatDoor
open Go.RowKit
structure RowsR (w:World) (rv:Value) (n:Nat) (vs:List Value) (rows:List (List Int)):Prop where
 top:Rd w 1 rv n vs
 n_eq:n=rows.length
 len:vs.length=rows.length
 rd:∀ j (h:j<vs.length) (h':j<rows.length),Rd w 1 vs[j] rows[j].length (ints rows[j])
theorem RowsR.chg {w w1:World} {rv:Value} {n:Nat} {vs:List Value} {rows:List (List Int)} {F:List Nat} (h:RowsR w rv n vs rows) (k:Chg F w w1) (h1:∀ b∈blkOf rv,b∉F) (h2:∀ v∈vs,∀ b∈blkOf v,b∉F):RowsR w1 rv n vs rows:=
 ⟨h.top.chg k h1,h.n_eq,h.len,fun j hj hj'=>(h.rd j hj hj').chg k (h2 _ (List.getElem_mem hj))⟩
theorem RowsR.nil {w w1:World} {rv:Value} {n:Nat} {vs:List Value} {rows:List (List Int)} (h:RowsR w rv n vs rows) (k:Chg [] w w1):RowsR w1 rv n vs rows:=h.chg k (by simp) (by simp)
theorem RowsR.at {w:World} {rv:Value} {n:Nat} {vs:List Value} {rows:List (List Int)} (h:RowsR w rv n vs rows) {j:Nat} (hj:j<rows.length) :
 ∃ g o c so sc,rv=.slice (some ⟨g,o,none⟩) n c∧w.cell? ⟨g,o+j,none⟩=some (.slice so rows[j].length sc)∧Rd w 1 (.slice so rows[j].length sc) rows[j].length (ints rows[j]):=by
 have hl:=h.len
 have hn:=h.n_eq
 have hj':j<vs.length:=by omega
 obtain ⟨ao,cap,hv⟩:=h.top.shape
 subst hv
 obtain ⟨b,o,rfl,hc⟩:=h.top.addr (by omega)
 obtain ⟨so,sc,hs⟩:=(h.rd j hj' hj).shape
 refine ⟨b,o,cap,so,sc,rfl,?_,hs ▸ h.rd j hj' hj⟩
 rw [hc j (by omega),List.getElem?_eq_getElem hj',hs]
end Go.Proofs.YthoolcpcmhhkpaaGreatDoor
namespace Go.Proofs.YthoolcpcmhhkpaaGreatDoor
open Go.RowKit
def TwD.rw (D:TwD) (rows:List (List Int)):TwD:={ D with rows:=rows }
end Go.Proofs.YthoolcpcmhhkpaaGreatDoor
namespace Go.Proofs.YthoolcpcmhhkpaaGreatDoor
open Go.RowKit
end Go.Proofs.YthoolcpcmhhkpaaGreatDoor
