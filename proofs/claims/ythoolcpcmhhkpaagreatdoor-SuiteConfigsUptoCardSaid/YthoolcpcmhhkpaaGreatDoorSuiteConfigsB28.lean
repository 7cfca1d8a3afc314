/-
  Parts of a proof, pressed. Conditions: the form's own reach.
-/
import Derived.Test.YthoolcpcmhhkpaaGreatDoorSuiteConfigsB17
import Derived.Test.YthoolcpcmhhkpaaGreatDoorSuiteConfigsB9
namespace Go.Proofs.YthoolcpcmhhkpaaGreatDoor
open Go.RowKit
def stmCells (most:Int) (rv:Value) (T:Nat):Array Value:=#[.int .i64 most,rv,.int .u64 (T:Nat)]
structure StM (w:World) (s:Nat) (most:Int) (rv:Value) (r:List Pr):Prop where
 blk:Blk w s (stmCells most rv (totP r)) 258
 row:Own w 183 2 rv r.length (prCells r)
namespace StM
variable {w w1:World} {s:Nat} {most:Int} {rv:Value} {r:List Pr}
theorem lt (h:StM w s most rv r):∀ b∈fpT s rv,b<w.heap.size:=by
 intro b hb
 simp only [fpT,List.mem_cons] at hb
 rcases hb with rfl|hb
 ·exact h.blk.lt
 ·exact h.row.lt b hb
theorem chg {F:List Nat} (h:StM w s most rv r) (k:Chg F w w1) (hF:∀ b∈fpT s rv,b∉F):StM w1 s most rv r:=
 ⟨h.blk.chg k (hF s (by simp [fpT])),h.row.chg k (fun b hb=>hF b (by simp [fpT,hb]))⟩
theorem s_rv (h:StM w s most rv r):s∉blkOf rv:=h.row.ne_blk h.blk (by decide)
theorem cells (h:StM w s most rv r):w.cell? ⟨s,0,none⟩=some (.int .i64 most)∧w.cell? ⟨s,1,none⟩=some rv∧w.cell? ⟨s,2,none⟩=some (.int .u64 (totP r:Nat)):=⟨h.blk.cell 0,h.blk.cell 1,h.blk.cell 2⟩
theorem row' (h:StM w s most rv r) {rv2:Value} {r2:List Pr} (k:Chg (blkOf rv) w w1) (ho:Own w1 183 2 rv2 r2.length (prCells r2)) (hf:∀ b∈blkOf rv2,b∈blkOf rv∨w.heap.size≤b) (T:Nat) (hT:T=totP r2) :
 StM ((w1.setCell ⟨s,1,none⟩ rv2).setCell ⟨s,2,none⟩ (.int .u64 (T:Nat))) s most rv2 r2∧Mv (fpT s rv) w (fpT s rv2) ((w1.setCell ⟨s,1,none⟩ rv2).setCell ⟨s,2,none⟩ (.int .u64 (T:Nat))):=by
 subst hT
 have hb:=h.blk.chg k h.s_rv
 have k2:Chg [s] w1 ((w1.setCell ⟨s,1,none⟩ rv2).setCell ⟨s,2,none⟩ (.int .u64 (totP r2:Nat))):=((Chg.refl _ w1).setCell (a:=⟨s,1,none⟩) (.inl (by simp)) _).setCell (a:=⟨s,2,none⟩) (.inl (by simp)) _
 refine ⟨⟨?_,?_⟩,?_,?_⟩
 ·exact (hb.setCell 1 rv2).setCell 2 _
 ·exact ho.chg k2 (fun b hb2 e=>by simp at e;subst e;exact ho.ne_blk hb (by decide) hb2)
 ·exact ((k.mono (F1:=fpT s rv) (fun b hb=>.inl (by simp [fpT,hb]))).setCell (a:=⟨s,1,none⟩) (.inl (by simp [fpT])) _).setCell (a:=⟨s,2,none⟩) (.inl (by simp [fpT])) _
 ·intro b hb2
  simp only [fpT,List.mem_cons] at hb2 ⊢
  rcases hb2 with rfl|hb2
  ·exact .inl (.inl rfl)
  ·rcases hf b hb2 with h1|h1
   ·exact .inl (.inr h1)
   ·exact .inr h1
end StM
def NewSt (w w':World) (most:Int) (e:Ending):Prop:=
 (¬(1≤most∧most≤4096)∧e=.returned (.tuple #[.pointer none,.int .i64 1])∧Chg [] w w') ∨
 ((1≤most∧most≤4096)∧∃ s,e=.returned (.tuple #[.pointer (some ⟨s,0,none⟩),.int .i64 0])∧StM w' s most (.slice none 0 0) []∧Chg [] w w'∧w.heap.size≤s)
set_option maxRecDepth 100000 in
theorem stm_new (w:World) (most:Int):Calls Tryz.prog 92 #[.int .i64 most] w fun e w'=>NewSt w w' most e:=by
 by_cases h:1≤most∧most≤4096
 ·have d1:decide (most<1)=false:=decide_eq_false (by omega)
  have d2:decide ((4096:Int)<most)=false:=decide_eq_false (by omega)
  have H:=Lib.hid h
  clear h
  go_enter Tryz.func92,Tryz.ntmps92
  go_wp2
  go_ret2
  exact .inr ⟨H.out,_,rfl,⟨Blk.alloc_new _ _ _,Own.nil _ _ _⟩,(Chg.refl [] w).alloc _,Nat.le_refl _⟩
 ·have H:=Lib.hid h
  by_cases h1:most<1
  ·have d1:decide (most<1)=true:=decide_eq_true h1
   clear h h1
   go_enter Tryz.func92,Tryz.ntmps92
   go_wp2
   go_ret2
   exact .inl ⟨H.out,rfl,Chg.refl _ _⟩
  ·have d1:decide (most<1)=false:=decide_eq_false h1
   have d2:decide ((4096:Int)<most)=true:=decide_eq_true (by omega)
   clear h h1
   go_enter Tryz.func92,Tryz.ntmps92
   go_wp2
   go_ret2
   exact .inl ⟨H.out,rfl,Chg.refl _ _⟩
set_option maxRecDepth 100000 in
theorem stm_total (w:World) (s:Nat) (most:Int) (rv:Value) (r:List Pr) (h:StM w s most rv r):Calls Tryz.prog 100 #[.pointer (some ⟨s,0,none⟩)] w fun e w'=>e=.returned (.int .u64 (totP r:Nat))∧w=w':=by
 obtain ⟨c0,c1,c2⟩:=h.cells
 go_enter Tryz.func100,Tryz.ntmps100
 go_wp2
 go_ret
 exact ⟨rfl,rfl⟩
set_option maxRecDepth 100000 in
theorem stm_len (w:World) (s:Nat) (most:Int) (rv:Value) (r:List Pr) (h:StM w s most rv r) (n:Nat) (hn:n=r.length):Calls Tryz.prog 96 #[.pointer (some ⟨s,0,none⟩)] w fun e w'=>e=.returned (.int .i64 (n:Nat))∧w=w':=by
 obtain ⟨c0,c1,c2⟩:=h.cells
 obtain ⟨ro,rc,hrv⟩:=h.row.shape
 subst hrv
 rw [←hn] at c1
 clear hn h
 go_enter Tryz.func96,Tryz.ntmps96
 go_wp2
 go_ret
 exact ⟨rfl,rfl⟩
set_option maxRecDepth 100000 in
theorem stm_pairs (w:World) (s:Nat) (most:Int) (rv:Value) (r:List Pr) (h:StM w s most rv r) (n:Nat) (hn:n=r.length) (hl:n≤5000):Calls Tryz.prog 99 #[.pointer (some ⟨s,0,none⟩)] w fun e w'=>∃ a3 c3,e=.returned (.slice a3 n c3)∧Own w' 183 2 (.slice a3 n c3) n (prCells r)∧Chg [] w w'∧∀ b∈abl a3,w.heap.size≤b:=by
 obtain ⟨c0,c1,c2⟩:=h.cells
 obtain ⟨ro,rc,hrv⟩:=h.row.shape
 subst hrv
 have hrd:=h.row.rd
 rw [←hn] at c1 hrd
 have HCL:=Lib.hid (clone_p w ro rc n r hrd (by omega))
 clear hn h hrd
 go_enter Tryz.func99,Tryz.ntmps99
 go_wp2_with fail
 refine HCL.out.mono ?_
 rintro e w1 ⟨a3,c3,rfl,h1,h2,h3⟩
 go_wp2_with fail
 go_ret
 exact ⟨a3,c3,rfl,h1,h2,h3⟩
set_option maxRecDepth 100000 in
set_option maxHeartbeats 1000000 in
theorem stm_at (w:World) (s:Nat) (most:Int) (rv:Value) (r:List Pr) (h:StM w s most rv r) (hrs:rises r) (hl:r.length≤5000) (i:Int):Calls Tryz.prog 95 #[.pointer (some ⟨s,0,none⟩),.int .i64 i] w fun e w'=>e=.returned (.int .u64 (cntI r i:Nat))∧Chg [] w w':=by
 obtain ⟨c0,c1,c2⟩:=h.cells
 obtain ⟨ro,rc,hrv⟩:=h.row.shape
 subst hrv
 have HH:=Lib.hid h
 obtain ⟨n,hn⟩:∃ n,n=r.length:=⟨_,rfl⟩
 have HN:=Lib.hid hn
 have HF:=Lib.hid (runs_find w ro rc r i hrs h.row.rd (by omega))
 rw [←hn] at c1 HF
 have hfc:=find_cnt (i:=i) hrs
 obtain ⟨C,hC⟩:∃ C,C=cntI r i:=⟨_,rfl⟩
 rw [←hC] at hfc ⊢
 clear hrs hn hC h hl
 go_enter Tryz.func95,Tryz.ntmps95
 go_wp2_with fail
 refine HF.out.mono ?_
 rintro e w1 ⟨rfl,hc1⟩
 have HC1:=Lib.hid hc1
 rcases hfc with ⟨h1,rfl⟩|⟨h1,h2,h3⟩
 ·rw [h1]
  clear h1 HF hc1
  generalize cntLt r i=k at *
  go_wp2_with fail
  go_ret
  exact ⟨rfl,HC1.out⟩
 ·rw [h1]
  have HH1:=Lib.hid (HH.out.chg hc1 (by simp))
  obtain ⟨b,o,rfl,hcs⟩:=HH1.out.row.rd.addr (by have:=HN.out;omega)
  obtain ⟨d0,d1⟩:=pr_at hcs h2
  have e1:=HH1.out.cells.2.1
  rw [h3] at d1
  rw [←HN.out] at e1 h2
  clear h1 h3 HF hc1 hcs d0
  generalize cntLt r i=k at *
  have hkn:(k:Int)<(n:Int):=by omega
  have hk0:(0:Int)≤(k:Int):=by omega
  go_wp2_with fail
  go_ret
  exact ⟨rfl,HC1.out⟩
set_option maxRecDepth 100000 in
set_option maxHeartbeats 4000000 in
theorem stm_add (w:World) (s:Nat) (most:Int) (rv:Value) (r:List Pr) (h:StM w s most rv r) (hrs:rises r) (hpos:∀ p∈r,1≤p.c) (hl:r.length≤5000) (i:Int) (c:Nat) (hc1:1≤c) (hcm:totP r+c≤9223372036854775807) (hroom:hasI r i=true∨(r.length:Int)<most) :
 Calls Tryz.prog 98 #[.pointer (some ⟨s,0,none⟩),.int .i64 i,.int .u64 (c:Nat)] w fun e w'=>e=.returned (.int .i64 0)∧∃ rv',StM w' s most rv' (refAdd r i c)∧Mv (fpT s rv) w (fpT s rv') w':=by
 obtain ⟨c0,c1,c2⟩:=h.cells
 obtain ⟨ro,rc,hrv⟩:=h.row.shape
 subst hrv
 obtain ⟨n,hn⟩:∃ n,n=r.length:=⟨_,rfl⟩
 obtain ⟨T,hT⟩:∃ T,T=totP r:=⟨_,rfl⟩
 obtain ⟨S,hS⟩:∃ S,S=T+c:=⟨_,rfl⟩
 have HPL:=Lib.hid (fun u b0 hb0=>wide_plus2 u T c (by omega) (by omega) b0 hb0)
 have e:plusV [T,c]=.tuple #[.int .u64 (S:Nat),.bool true]:=by
  have e0:[T,c].sum=S:=by simp [hS]
  unfold plusV
  rw [e0,if_pos (by omega)]
 rw [e] at HPL
 have HFI:=Lib.hid (fun u (hu:Chg [] w u)=>runs_find u ro rc r i hrs (h.row.chg hu (by simp)).rd (by omega))
 have HAD:=Lib.hid (fun u (hu:Chg [] w u)=>runs_addL u ro rc r i c hrs (h.row.chg hu (by simp)) (by omega) (fun p hp=>by have:=mem_tot hp;omega) (by omega))
 rw [←add_same hrs hpos] at HAD
 have HH:=Lib.hid h
 have HCE:=Lib.hid (fun u (hu:Chg [] w u)=>show u.cell? ⟨s,0,none⟩=some (.int .i64 most)∧u.cell? ⟨s,1,none⟩=some (.slice ro n rc)∧u.cell? ⟨s,2,none⟩=some (.int .u64 (T:Nat)) from by
  obtain ⟨q0,q1,q2⟩:=(h.chg hu (by simp)).cells
  rw [←hn] at q1
  rw [←hT] at q2
  exact ⟨q0,q1,q2⟩)
 have HTR:=Lib.hid (show S=totP (refAdd r i c) from by rw [refAdd_tot hrs,hS,hT])
 have HN:=Lib.hid hn
 rw [←hn] at HAD HFI c1
 rw [←hT] at c2
 have hn1:n≤5000:=by omega
 have d0:((c:Int)==0)=false:=by rw [beq_eq_false_iff_ne];omega
 have HRM:=Lib.hid (show hasI r i=true∨(n:Int)<most from by rw [hn];exact hroom)
 generalize cntLt r i=k at *
 generalize hasI r i=B at *
 clear hroom
 obtain ⟨R,hR⟩:∃ R,R=refAdd r i c:=⟨_,rfl⟩
 rw [←hR] at HAD HTR ⊢
 clear h hrs hpos hl hcm hn hT hS e hR hc1
 go_enter Tryz.func98,Tryz.ntmps98
 go_wp2_with fail
 refine (HPL.out _ _ rfl).mono ?_
 rintro e w1 ⟨rfl,rfl⟩
 have HC1:=Lib.hid ((Chg.refl [] w).alloc (.cells #[.int .u64 (T:Nat),.int .u64 (c:Nat)] 23))
 clear HPL c0 c1 c2
 generalize w.alloc (.cells #[.int .u64 (T:Nat),.int .u64 (c:Nat)] 23)=w1 at *
 obtain ⟨c0,c1,c2⟩:=HCE.out _ HC1.out
 go_wp2_with fail
 refine (HFI.out _ HC1.out).mono ?_
 rintro e w2 ⟨rfl,hc2⟩
 have HC2:=Lib.hid (HC1.out.trans hc2)
 clear hc2 HC1 HFI c0 c1 c2
 obtain ⟨c0,c1,c2⟩:=HCE.out _ HC2.out
 cases B with
 | true =>
   go_wp2
   go_quiet (fail)
   go_wp2_with fail
   have HC3:=Lib.hid (show Chg [] w (w2.drewN nq) from by with_reducible (repeat (first|exact HC2.out|apply Chg.drew|apply Chg.drewN)))
   refine (HAD.out _ HC3.out).mono ?_
   rintro e w3 ⟨a3,c3,rfl,ho3,hc3,hf3⟩
   have hk:Chg (blkOf (.slice ro r.length rc)) w w3:=(HC3.out.nil).trans (by simpa using hc3)
   have hsz:=HC3.out.size
   have hb3:=HH.out.blk.chg hk HH.out.s_rv
   have f1:=hb3.free 1
   have f2:=hb3.free 2
   have g1:w3.cell? ⟨s,1,none⟩=some (.slice ro n rc):=by rw [HN.out];exact hb3.cell 1
   have g2:w3.cell? ⟨s,2,none⟩=some (.int .u64 (totP r:Nat)):=hb3.cell 2
   have HR:=Lib.hid (HH.out.row' (w1:=w3) (rv2:=.slice a3 R.length c3) (r2:=R) hk ho3 (fun b hb=>by
    rcases hf3 b (by simpa using hb) with h|h
    ·exact .inl (by simpa using h)
    ·exact .inr (Nat.le_trans hsz h)) S HTR.out)
   clear hk hsz hb3 ho3 hc3 hf3 HAD HTR c0 c1 c2
   go_wp2_with fail
   go_ret
   exact ⟨rfl,_,HR.out.1,HR.out.2⟩
 | false =>
   have d1:decide (most≤(n:Int))=false:=decide_eq_false (by rcases HRM.out with h|h;(exact absurd h (by decide));omega)
   go_wp2
   go_quiet (fail)
   go_wp2_with fail
   have HC3:=Lib.hid (show Chg [] w (w2.drewN nq) from by with_reducible (repeat (first|exact HC2.out|apply Chg.drew|apply Chg.drewN)))
   refine (HAD.out _ HC3.out).mono ?_
   rintro e w3 ⟨a3,c3,rfl,ho3,hc3,hf3⟩
   have hk:Chg (blkOf (.slice ro r.length rc)) w w3:=(HC3.out.nil).trans (by simpa using hc3)
   have hsz:=HC3.out.size
   have hb3:=HH.out.blk.chg hk HH.out.s_rv
   have f1:=hb3.free 1
   have f2:=hb3.free 2
   have g1:w3.cell? ⟨s,1,none⟩=some (.slice ro n rc):=by rw [HN.out];exact hb3.cell 1
   have g2:w3.cell? ⟨s,2,none⟩=some (.int .u64 (totP r:Nat)):=hb3.cell 2
   have HR:=Lib.hid (HH.out.row' (w1:=w3) (rv2:=.slice a3 R.length c3) (r2:=R) hk ho3 (fun b hb=>by
    rcases hf3 b (by simpa using hb) with h|h
    ·exact .inl (by simpa using h)
    ·exact .inr (Nat.le_trans hsz h)) S HTR.out)
   clear hk hsz hb3 ho3 hc3 hf3 HAD HTR c0 c1 c2
   go_wp2_with fail
   go_ret
   exact ⟨rfl,_,HR.out.1,HR.out.2⟩
end Go.Proofs.YthoolcpcmhhkpaaGreatDoor
namespace Go.Proofs.YthoolcpcmhhkpaaGreatDoor
open Go.RowKit
def z2:List Value:=[Value.int .i64 0,Value.int .u64 0]
theorem run_clear_pair (w:World) (ty:TypeId) (g o c:Nat) (cur:Array Value) (hg:w.heap[g]? = some (.cells cur 183 (0,0))) (hs:o+2≤cur.size) :
 (Builtin.clear_ #[92] ty #[.slice (some ⟨g,o,none⟩) 1 c]).run Tryz.prog w =
   .ok (.tuple #[]) (w.setRow g (cur.toList.take o++z2++cur.toList.drop (o+2)).toArray):=by
 obtain ⟨i0,hi0,hz0,hzs,hzb⟩:=info_parts info_pair
 have hst:=run_storeCells_at Tryz.prog g o 183 z2 0 cur w hg (by simpa [z2] using hs) (by simp [z2,Value.oneCell'])
 have hzc:(Builtin.zeroCells (Value.agg #[.int .i64 0,.int .u64 0]).cells 1).toList=z2:=by first|rfl|kernel_rfl|(simp [Builtin.zeroCells,z2,Value.cells];rfl)
 simp only [Nat.add_zero] at hst
 have hz2:z2.length=2:=rfl
 rw [hz2] at hst
 simp [Builtin.clear_,run_underlying under_pairs,zeroValue,typeInfo,hi0,hz0,hzc,hst]
set_option maxRecDepth 100000 in
set_option maxHeartbeats 1000000 in
theorem delete_pair (w:World) (g o cap:Nat) (l:List Pr) (k:Nat) (hk:k<l.length) (hl:l.length≤100000) (ho:Own w 183 2 (.slice (some ⟨g,o,none⟩) l.length cap) l.length (prCells l)) :
 Calls Tryz.prog 321 #[.slice (some ⟨g,o,none⟩) l.length cap,.int .i64 (k:Nat),.int .i64 ((k:Int)+1)] w fun e w' =>
  e=.returned (.slice (some ⟨g,o,none⟩) (l.length-1) cap) ∧
  Own w' 183 2 (.slice (some ⟨g,o,none⟩) (l.length-1) cap) (l.length-1) (prCells (l.take k++l.drop (k+1)))∧Chg [g] w w':=by
 obtain ⟨hlen,⟨hv0,_⟩|⟨g',o',cp,cur,hv1,hg,hnc,hm,hsz,hxs⟩⟩:=id ho
 ·simp at hv0
 simp only [Value.slice.injEq,Option.some.injEq,Addr.mk.injEq,true_and,and_true] at hv1
 obtain ⟨⟨rfl,rfl⟩,rfl⟩:=hv1
 obtain ⟨oa,hoa⟩:∃ oa,oa=if k+1=cap then o else o+(k+1)*2:=⟨_,rfl⟩
 have hrest0:Rd w 2 (.slice (some ⟨g,o+(k+1)*2,none⟩) (l.length-(k+1)) (cap-(k+1))) (l.length-(k+1)) (prCells (l.drop (k+1))):=by
  refine ⟨by rw [prCells_len,List.length_drop],_,_,rfl,.inr ⟨g,o+(k+1)*2,rfl,fun j hj => ?_⟩⟩
  have hb:Blk w g cur 183:=hg
  rw [hb.cell,Nat.add_assoc]
  have e:prCells l=prCells (l.take (k+1))++prCells (l.drop (k+1)):=by rw [←prCells_append,List.take_append_drop]
  have hlk:(prCells (l.take (k+1))).length=(k+1)*2:=by rw [prCells_len,List.length_take,Nat.min_eq_left (by omega)]
  have h1:(prCells l)[(k+1)*2+j]? = (prCells (l.drop (k+1)))[j]?:=by
   rw [e,List.getElem?_append_right (by omega),hlk,Nat.add_sub_cancel_left]
  rw [←h1,←hxs,List.getElem?_take,if_pos (by omega),List.getElem?_drop,Array.getElem?_toList]
 have hrest:Rd w 2 (.slice (some ⟨g,oa,none⟩) (l.length-(k+1)) (cap-(k+1))) (l.length-(k+1)) (prCells (l.drop (k+1))):=by
  by_cases hkc:k+1=cap
  ·refine ⟨by rw [prCells_len,List.length_drop],_,_,rfl,.inl (by omega)⟩
  ·rw [hoa,if_neg hkc]
   exact hrest0
 have hsplit:prCells l=prCells (l.take k)++prCells [l[k]]++prCells (l.drop (k+1)):=by
  rw [←prCells_append,←prCells_append]
  congr 1
  rw [List.append_assoc,List.singleton_append,←List.drop_eq_getElem_cons hk,List.take_append_drop]
 have hA:(prCells (l.take k)).length=k*2:=by rw [prCells_len,List.length_take,Nat.min_eq_left (by omega)]
 have hB:(prCells (l.drop (k+1))).length=(l.length-(k+1))*2:=by rw [prCells_len,List.length_drop]
 obtain ⟨i0,hi0,_,hzs,_⟩:=info_parts info_pair
 have happ:∀ ty,(Builtin.append_ #[92,92] ty #[.slice (some ⟨g,o,none⟩) k cap,.slice (some ⟨g,oa,none⟩) (l.length-(k+1)) (cap-(k+1))]).run Tryz.prog w.drew=_:=fun ty =>
  run_append_fit w.drew 92 92 ty 183 i0 2 under_pairs hi0 hzs g o k cap cur hg _ _ _ (Src.of_rd under_pairs (show Rd w.drew 2 _ _ _ from hrest)) (prCells_oneCell _) (by omega) hsz
 obtain ⟨C,hC⟩:∃ C,C=cur.toList:=⟨_,rfl⟩
 have hCl:C.length=cur.size:=by rw [hC,Array.length_toList]
 have hcut:=cut_rows C (prCells (l.take k)) (prCells [l[k]]) (prCells (l.drop (k+1))) o (k*2) 2 ((l.length-(k+1))*2) hA hB rfl (by rw [←hsplit,←hxs,hC];congr 1;omega) (by omega)
 rw [hB,←hC] at happ
 obtain ⟨hR1,hR2⟩:=hcut
 have hbR:=setRow_heap w.drew g cur (C.take (o+k*2)++prCells (l.drop (k+1))++C.drop (o+k*2+(l.length-(k+1))*2)).toArray 183 (0,0) hg
 have hcR:Chg [g] w (w.drew.setRow g (C.take (o+k*2)++prCells (l.drop (k+1))++C.drop (o+k*2+(l.length-(k+1))*2)).toArray):=(Chg.drew (Chg.refl [g] w)).setRow (.inl (by simp)) _
 generalize hRR:(C.take (o+k*2)++prCells (l.drop (k+1))++C.drop (o+k*2+(l.length-(k+1))*2))=R at *
 generalize w.drew.setRow g R.toArray=w1 at *
 have hpad:=pad_rows R _ z2 o (k*2+(l.length-(k+1))*2) 2 rfl hR2 (by have:z2.length=2:=rfl;omega)
 obtain ⟨hP1,hP2⟩:=hpad
 have hclr:=fun ty c=>run_clear_pair w1 ty g (o+(k*2+(l.length-(k+1))*2)) c R.toArray hbR (by simp only [List.size_toArray];omega)
 have hbP:=setRow_heap w1 g R.toArray (R.take (o+(k*2+(l.length-(k+1))*2))++z2++R.drop (o+(k*2+(l.length-(k+1))*2)+2)).toArray 183 (0,0) hbR
 have hcP:Chg [g] w (w1.setRow g (R.take (o+(k*2+(l.length-(k+1))*2))++z2++R.drop (o+(k*2+(l.length-(k+1))*2)+2)).toArray):=hcR.setRow (.inl (by simp)) _
 generalize hPP:(R.take (o+(k*2+(l.length-(k+1))*2))++z2++R.drop (o+(k*2+(l.length-(k+1))*2)+2))=PP at *
 have hfin:Own (w1.setRow g PP.toArray) 183 2 (.slice (some ⟨g,o,none⟩) (l.length-1) cap) (l.length-1) (prCells (l.take k++l.drop (k+1))):=by
  refine ⟨by rw [prCells_len];simp;omega,.inr ⟨g,o,cap,_,rfl,hbP,by omega,hm,by simp only [List.size_toArray];omega,?_⟩⟩
  rw [prCells_append,←hP2]
  congr 1
  omega
 generalize w1.setRow g PP.toArray=w2 at *
 have HF:=Lib.hid (And.intro hfin hcP)
 have HA:=Lib.hid happ
 have HC:=Lib.hid hclr
 have hk0:(0:Int)≤(k:Int):=by omega
 have hk1:(0:Int)≤(k:Int)+1:=by omega
 have hk2:(k:Int)+1≤(l.length:Int):=by omega
 have hk3:(k:Int)≤(l.length:Int):=by omega
 have hk4:(k:Int)≤(k:Int)+1:=by omega
 have hkne:((k:Int)==(k:Int)+1)=false:=by simp;omega
 have htn:((k:Int)+1).toNat=k+1:=by omega
 have hln:((k+(l.length-(k+1)):Nat):Int)=((l.length-1:Nat):Int):=by omega
 clear hfin hcP happ hclr hsplit hA hB hR1 hR2 hbR hcR hRR hP1 hP2 hbP hPP hxs hCl hrest hrest0 hg hm hlen hi0 hzs
 go_enter Tryz.func321,Tryz.ntmps321
 by_cases hkc:k+1=cap
 ·rw [if_pos hkc] at hoa
  subst hkc
  subst hoa
  have hll:l.length=k+1:=by omega
  have HA1:=Lib.hid (show ∀ ty,(Builtin.append_ #[92,92] ty #[.slice (some ⟨g,oa,none⟩) k (k+1),.slice (some ⟨g,oa,none⟩) 0 0]).run Tryz.prog w.drew=.ok (.slice (some ⟨g,oa,none⟩) k (k+1)) w1 from fun ty=>by
   have h:=HA.out ty
   rw [show l.length-(k+1)=0 from by omega,show k+1-(k+1)=0 from by omega,Nat.add_zero] at h
   exact h)
  have HC1:=Lib.hid (show ∀ ty c,(Builtin.clear_ #[92] ty #[.slice (some ⟨g,oa+k*2,none⟩) (l.length-k) c]).run Tryz.prog w1=.ok (.tuple #[]) w2 from fun ty c=>by
   have h:=HC.out ty c
   rw [show l.length-(k+1)=0 from by omega,Nat.zero_mul,Nat.add_zero] at h
   rw [show l.length-k=1 from by omega]
   exact h)
  rw [show l.length-1=k from by omega] at HF ⊢
  clear HA HC hll
  have hz:¬(k+1=k):=by omega
  have hz0:k+1-(k+1)=0:=by omega
  have hz1:l.length-(k+1)=0:=by omega
  have hkl2:k≤l.length:=by omega
  go_wp2
  go_region_law (refine step_append_runK rfl _ _ 92 92 rfl _ _ (by simp [Act.eval,Act.put]) (by simp [Act.eval,Act.put]) (HA1.out _) ?_)
  go_wp2_with (with_reducible refine wpList_clear_runK rfl (.tmp 31) 92 rfl _ rfl (HC1.out _ _) ?_)
  go_ret
  exact ⟨rfl,HF.out.1,HF.out.2⟩
 ·rw [if_neg hkc] at hoa
  subst hoa
  have hkc2:¬(cap=k+1):=fun h=>hkc h.symm
  have hkc3:k≤cap:=by omega
  have HA1:=Lib.hid (show ∀ ty,(Builtin.append_ #[92,92] ty #[.slice (some ⟨g,o,none⟩) k cap,.slice (some ⟨g,o+(k+1)*2,none⟩) (l.length-(k+1)) (cap-(k+1))]).run Tryz.prog w.drew=.ok (.slice (some ⟨g,o,none⟩) (l.length-1) cap) w1 from fun ty=>by
   have h:=HA.out ty
   rw [show k+(l.length-(k+1))=l.length-1 from by omega] at h
   exact h)
  have HC1:=Lib.hid (show ∀ ty c,(Builtin.clear_ #[92] ty #[.slice (some ⟨g,o+(l.length-1)*2,none⟩) (l.length-(l.length-1)) c]).run Tryz.prog w1=.ok (.tuple #[]) w2 from fun ty c=>by
   have h:=HC.out ty c
   rw [show k*2+(l.length-(k+1))*2=(l.length-1)*2 from by omega] at h
   rw [show l.length-(l.length-1)=1 from by omega]
   exact h)
  clear HA HC
  have hm1:¬(cap=l.length-1):=by omega
  have hm2:l.length-1≤l.length:=by omega
  have hm3:l.length-1≤cap:=by omega
  go_wp2
  go_region_law (refine step_append_runK rfl _ _ 92 92 rfl _ _ (by simp [Act.eval,Act.put]) (by simp [Act.eval,Act.put]) (HA1.out _) ?_)
  go_wp2_with (with_reducible refine wpList_clear_runK rfl (.tmp 31) 92 rfl _ rfl (HC1.out _ _) ?_)
  go_ret
  exact ⟨rfl,HF.out.1,HF.out.2⟩
end Go.Proofs.YthoolcpcmhhkpaaGreatDoor
