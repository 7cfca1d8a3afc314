/-
  Parts of a proof, pressed. Conditions: the form's own reach.
-/
import Derived.Test.YthoolcpcmhhkpaaGreatDoorSuiteConfigsB7
import Derived.Test.YthoolcpcmhhkpaaGreatDoorSuiteConfigsB8
import Derived.Test.YthoolcpcmhhkpaaGreatDoorSuiteConfigsB9
import Derived.Test.YthoolcpcmhhkpaaGreatDoorSuiteConfigsB3
import Derived.Test.YthoolcpcmhhkpaaGreatDoorSuiteConfigsB6
namespace Go.Proofs.YthoolcpcmhhkpaaGreatDoor
open Go.RowKit
theorem enters_lbsf:∀ (args:Array Value) (w:World),(callFunc 223 args).run Tryz.prog w=.ok (.enter 223 args) w:=enters_of Tryz.func223 (by kernel_rfl) rfl
theorem enters_lins:∀ (args:Array Value) (w:World),(callFunc 224 args).run Tryz.prog w=.ok (.enter 224 args) w:=enters_of Tryz.func224 (by kernel_rfl) rfl
structure Lms (w:World) (p:Nat) (rv:Value) (most:Int) (l:List Lp) (T:Nat):Prop where
 blk:Blk w p #[.int .i64 most,rv,.int .u64 (T:Nat)] 283
 own:Own w 213 3 rv l.length (lpCells l)
def fpL (p:Nat) (rv:Value):List Nat:=p::blkOf rv
namespace Lms
variable {w w1:World} {p:Nat} {rv:Value} {most:Int} {l:List Lp} {T:Nat}
theorem lt (h:Lms w p rv most l T):∀ b∈fpL p rv,b<w.heap.size:=fun b hb=>by
 rcases List.mem_cons.1 hb with rfl|hb
 ·exact h.blk.lt
 ·exact h.own.lt b hb
theorem chg {F:List Nat} (h:Lms w p rv most l T) (k:Chg F w w1) (hF:∀ b∈fpL p rv,b∉F):Lms w1 p rv most l T:=⟨h.blk.chg k (hF p (by simp [fpL])),h.own.chg k (fun b hb=>hF b (by simp [fpL,hb]))⟩
theorem p_rv (h:Lms w p rv most l T):p∉blkOf rv:=h.own.ne_blk h.blk (by decide)
theorem cells (h:Lms w p rv most l T):w.cell? ⟨p,0,none⟩=some (.int .i64 most)∧w.cell? ⟨p,1,none⟩=some rv∧w.cell? ⟨p,2,none⟩=some (.int .u64 (T:Nat)):=⟨h.blk.cell 0,h.blk.cell 1,h.blk.cell 2⟩
end Lms
set_option maxRecDepth 100000 in
theorem step_bL1 {ops:Array Oper} {w:World} {o:Oper} {a:Act} {K:Act→World→Prop} {Q:Exit→Act→World→Prop} {E:Prop} (hg:o.guard=none) (t:Tmp)
 (ho:o.op=.buildSlice 210 1 #[(0,.tmp t)]) (q:Lp) (hx:a.eval (.tmp t)=.agg #[.int .u64 (q.n:Nat),.int .i64 q.lo,.int .i64 q.hi])
 (h:∀ g w',Blk w' g #[.int .u64 (q.n:Nat),.int .i64 q.lo,.int .i64 q.hi] 213→Chg [] w w'→w.heap.size≤g→K (a.put o.dst (.slice (some ⟨g,0,none⟩) 1 1)) w') :
 if Region.wanted o (yielded ops a.tmps)=true then Oper.wp Tryz.prog o a w K Q else E:=by
 obtain ⟨dst,op,ty,pos,af,gd⟩:=o
 simp only at hg ho h
 subst hg ho
 have H:=h w.heap.size (w.alloc (.cells #[.int .u64 (q.n:Nat),.int .i64 q.lo,.int .i64 q.hi] 213)) (Blk.alloc_new _ _ _) ((Chg.refl [] w).alloc _) (Nat.le_refl _)
 clear h
 have hx':a.tmps[t]?.getD undef=.agg #[.int .u64 (q.n:Nat),.int .i64 q.lo,.int .i64 q.hi]:=by simpa [Act.eval] using hx
 clear hx
 go_simp
 exact H
theorem lpCells_setN (l:List Lp) (k:Nat) (h:k<l.length) (m:Nat):lpCells (l.set k ⟨m,l[k].lo,l[k].hi⟩)=(lpCells l).set (k*3) (.int .u64 (m:Nat)):=by
 induction l generalizing k with
 | nil=>simp at h
 | cons a r ih =>
   cases k with
   | zero=>simp [lpCells,Lp.cells]
   | succ k =>
     have e:(k+1)*3=k*3+1+1+1:=by omega
     have t:=ih k (by simpa using h)
     rw [e]
     simp only [lpCells,jS,List.map_cons,List.flatten_cons,Lp.cells,List.cons_append,List.nil_append,List.getElem_cons_succ] at *
     rw [t]
theorem Rd.of_len {w:World} {size n m:Nat} {v:Value} {xs:List Value} (h:Rd w size v m xs) (e:n=m):Rd w size v n xs:=by subst e;exact h
set_option maxRecDepth 100000 in
set_option maxHeartbeats 4000000 in
theorem lump_lay (w:World) (p:Nat) (ao:Option Addr) (cap n:Nat) (most:Int) (l:List Lp) (hn:n=l.length) (T:Nat) (ht:Lms w p (.slice ao n cap) most l T) (hrs:risesL l) (hl:n≤1000) (q:Lp) (htl:totL l≤T) (hT:T+q.n<18446744073709551616) :
 Calls Tryz.prog 188 #[.pointer (some ⟨p,0,none⟩),.agg #[.int .u64 (q.n:Nat),.int .i64 q.lo,.int .i64 q.hi]] w fun e w'=>e=.returned (.tuple #[])∧∃ a2 c2,Lms w' p (.slice a2 (layL l q).length c2) most (layL l q) (T+q.n)∧Mv (fpL p (.slice ao n cap)) w (fpL p (.slice a2 (layL l q).length c2)) w':=by
 have HN:=Lib.hid hn
 have HRS:=Lib.hid hrs
 obtain ⟨b3,hb3⟩:∃ z,z=w.heap.size:=⟨_,rfl⟩
 have HB:=Lib.hid (show Blk (w.alloc (.cells #[.int .u64 (q.n:Nat),.int .i64 q.lo,.int .i64 q.hi] 213)) b3 #[.int .u64 (q.n:Nat),.int .i64 q.lo,.int .i64 q.hi] 213 from by rw [hb3];exact Blk.alloc_new _ _ _)
 have HC0:=Lib.hid ((Chg.refl [] w).alloc (.cells #[.int .u64 (q.n:Nat),.int .i64 q.lo,.int .i64 q.hi] 213))
 have HT0:=Lib.hid (ht.chg ((Chg.refl [] w).alloc (.cells #[.int .u64 (q.n:Nat),.int .i64 q.lo,.int .i64 q.hi] 213)) (by simp))
 have HLT:=Lib.hid (show ∀ b∈fpL p (.slice ao n cap),b<b3 from by rw [hb3];exact ht.lt)
 have HBL:=Lib.hid (show w.heap.size≤b3 from by omega)
 have HTL:=Lib.hid (And.intro htl hT)
 clear hn hrs ht htl hT
 go_enter Tryz.func188,Tryz.ntmps188
 go_wp2_with fail
 rw [←hb3]
 clear hb3
 generalize w.alloc (.cells #[.int .u64 (q.n:Nat),.int .i64 q.lo,.int .i64 q.hi] 213)=w0 at *
 obtain ⟨pos,hpos⟩:∃ z,z=posL l q:=⟨_,rfl⟩
 obtain ⟨has,hhas⟩:∃ z,z=hasL l q:=⟨_,rfl⟩
 have HBS:=Lib.hid (fun u (hu:Chg [] w0 u)=>show Calls Tryz.prog 223 #[.slice ao n cap,.agg #[.int .u64 (q.n:Nat),.int .i64 q.lo,.int .i64 q.hi],.func (.func 199) #[] #[]] u fun e w'=>e=.returned (.tuple #[.int .i64 (pos:Nat),.bool has])∧Chg [] u w' from by rw [hpos,hhas];exact bsf_lumps u ao cap n l HN.out q HRS.out ((HT0.out.own.chg hu (by simp)).rd.of_len HN.out) (by omega))
 have HPOS:=Lib.hid (And.intro hpos hhas)
 clear hpos hhas
 have HS:=Lib.hid (fun wx (hu:Chg [] w0 wx)=>show wx.cell? ⟨p,1,none⟩=some (.slice ao n cap)∧wx.cell? ⟨b3,0,none⟩=some (.int .u64 (q.n:Nat))∧wx.cell? ⟨b3,1,none⟩=some (.int .i64 q.lo)∧wx.cell? ⟨b3,2,none⟩=some (.int .i64 q.hi) from ⟨(HT0.out.blk.chg hu (by simp)).cell 1,(HB.out.chg hu (by simp)).cell 0,(HB.out.chg hu (by simp)).cell 1,(HB.out.chg hu (by simp)).cell 2⟩)
 have hSS:=HS.out w0.drew (Chg.refl [] w0).drew
 refine startN (S:=fun wx=>wx.cell? ⟨p,1,none⟩=some (.slice ao n cap)∧wx.cell? ⟨b3,0,none⟩=some (.int .u64 (q.n:Nat))∧wx.cell? ⟨b3,1,none⟩=some (.int .i64 q.lo)∧wx.cell? ⟨b3,2,none⟩=some (.int .i64 q.hi)) (by kernel_rfl) hSS (fun hHeld => ?_)
 refine takeN (i:=0) (v:=?va0) rfl (by kernel_rfl) (by kernel_rfl) (by kernel_rfl) (fun _ _ _ h=>h) (Or.inl ⟨by rfl,?ya0⟩) hSS ?ra0
 case ya0=>(intro w hSw;(try dsimp only at hSw);go_simp;first|done|with_reducible rfl)
 try simp only [Act.put,jI,jZ,jS]
 refine takeN (i:=1) (v:=?va1) rfl (by kernel_rfl) (by kernel_rfl) (by kernel_rfl) (fun _ _ _ h=>h) (Or.inl ⟨by rfl,?ya1⟩) hSS ?ra1
 case ya1=>(intro w hSw;(try dsimp only at hSw);go_simp;first|done|with_reducible rfl)
 try simp only [Act.put,jI,jZ,jS]
 refine takeN (i:=2) (v:=?va2) rfl (by kernel_rfl) (by kernel_rfl) (by kernel_rfl) (fun _ _ _ h=>h) (Or.inl ⟨by rfl,?ya2⟩) hSS ?ra2
 case ya2=>(intro w hSw;(try dsimp only at hSw);go_simp;first|done|with_reducible rfl)
 try simp only [Act.put,jI,jZ,jS]
 refine takeN (i:=3) (v:=?va3) rfl (by kernel_rfl) (by kernel_rfl) (by kernel_rfl) (fun _ _ _ h=>h) (Or.inl ⟨by rfl,?ya3⟩) hSS ?ra3
 case ya3=>(intro w hSw;(try dsimp only at hSw);go_simp;first|done|with_reducible rfl)
 try simp only [Act.put,jI,jZ,jS]
 refine takeN (i:=4) (v:=?va4) rfl (by kernel_rfl) (by kernel_rfl) (by kernel_rfl) (fun _ _ _ h=>h) (Or.inl ⟨by rfl,?ya4⟩) hSS ?ra4
 case ya4=>(intro w hSw;(try dsimp only at hSw);go_simp;first|done|with_reducible rfl)
 try simp only [Act.put,jI,jZ,jS]
 refine readyN (rs:=[5]) (by kernel_rfl) (by simp) (consN rfl (fun K hK => ?_) nilN)
 refine step_callsG (by rfl) 223 _ _ rfl enters_lbsf _ #[.slice ao n cap,.agg #[.int .u64 (q.n:Nat),.int .i64 q.lo,.int .i64 q.hi],.func (.func 199) #[] #[]] (by simp [Act.eval]) (HBS.out _ (Chg.refl [] w0).drew) ?_;rintro e w1 ⟨rfl,hc1⟩;refine ⟨_,rfl,?_⟩
 have HC1:=Lib.hid ((Chg.refl [] w0).drew.trans hc1)
 have hS1:=HS.out w1 HC1.out
 clear hc1
 refine hK.out _ _ hS1 (fun hHeld => ?_)
 clear hK K hHeld
 try simp only [Act.put,jI,jZ,jS]
 refine takeN (i:=6) (v:=?va6) rfl (by kernel_rfl) (by kernel_rfl) (by kernel_rfl) (fun _ _ _ h=>h) (Or.inl ⟨by rfl,?ya6⟩) hS1 ?ra6
 case ya6=>(intro w hSw;(try dsimp only at hSw);go_simp;first|done|with_reducible rfl)
 try simp only [Act.put,jI,jZ,jS]
 refine takeN (i:=7) (v:=?va7) rfl (by kernel_rfl) (by kernel_rfl) (by kernel_rfl) (fun _ _ _ h=>h) (Or.inl ⟨by rfl,?ya7⟩) hS1 ?ra7
 case ya7=>(intro w hSw;(try dsimp only at hSw);go_simp;first|done|with_reducible rfl)
 try simp only [Act.put,jI,jZ,jS]
 refine takeN (i:=8) (v:=?va8) rfl (by kernel_rfl) (by kernel_rfl) (by kernel_rfl) (fun _ _ _ h=>h) (Or.inl ⟨by rfl,?ya8⟩) hS1 ?ra8
 case ya8=>(intro w hSw;(try dsimp only at hSw);go_simp;first|done|with_reducible rfl)
 try simp only [Act.put,jI,jZ,jS]
 refine takeN (i:=9) (v:=?va9) rfl (by kernel_rfl) (by kernel_rfl) (by kernel_rfl) (fun _ _ _ h=>h) (Or.inl ⟨by rfl,?ya9⟩) hS1 ?ra9
 case ya9=>(intro w hSw;(try dsimp only at hSw);go_simp;first|done|with_reducible rfl)
 try simp only [Act.put,jI,jZ,jS]
 refine takeN (i:=10) (v:=?va10) rfl (by kernel_rfl) (by kernel_rfl) (by kernel_rfl) (fun _ _ _ h=>h) (Or.inl ⟨by rfl,?ya10⟩) hS1 ?ra10
 case ya10=>(intro w hSw;(try dsimp only at hSw);go_simp;first|done|with_reducible rfl)
 try simp only [Act.put,jI,jZ,jS]
 refine doneN (by kernel_rfl) ?_ _
 have HT1:=Lib.hid (HT0.out.chg HC1.out (by simp))
 have HB1:=Lib.hid (HB.out.chg HC1.out (by simp))
 have HCW:=Lib.hid (HC0.out.trans HC1.out)
 clear hSS hS1 HS HBS HT0 HB HC0 HC1
 cases has with
 | true =>
   have HX:=Lib.hid (show ∃ x:Lp,l[pos]? = some x∧layL l q=l.set pos ⟨x.n+q.n,x.lo,x.hi⟩ from by
    obtain ⟨hk,-,hlay⟩:=lay_old HRS.out HPOS.out.2.symm
    rw [HPOS.out.1]
    exact ⟨l[posL l q],List.getElem?_eq_getElem hk,hlay⟩)
   obtain ⟨x,hx,hlay⟩:=HX.out
   obtain ⟨hk,hkx⟩:=List.getElem?_eq_some_iff.1 hx
   have hpn:pos<n:=by rw [HN.out];exact hk
   have HLAY:=Lib.hid hlay
   have HKX:=Lib.hid (show ∃ hk:pos<l.length,l[pos]=x from ⟨hk,hkx⟩)
   have hxs:x.n+q.n<18446744073709551616:=by have h1:=mem_totL (List.mem_of_getElem? hx);have h2:=HTL.out;omega
   obtain ⟨g,o,rfl⟩:∃ g o,ao=some ⟨g,o,none⟩:=by
    obtain ⟨b,o,h,-⟩:=HT1.out.own.rd.addr (by omega)
    exact ⟨b,o,h⟩
   have hc:w1.cell? ⟨g,o+pos*3,none⟩=some (.int .u64 (x.n:Nat)):=by
    rw [HT1.out.own.cells (pos*3) (by omega)]
    have t:=lpCells_get l pos 0 hk (by omega)
    rw [hkx] at t
    simpa [Lp.cells] using t
   have hf:w1.frozen? ⟨g,o+pos*3,none⟩=false:=HT1.out.own.free _
   clear hlay hx hkx hk HX
   have hS3:w1.drew.cell? ⟨p,1,none⟩=some (.slice (some ⟨g,o,none⟩) n cap)∧w1.drew.cell? ⟨b3,0,none⟩=some (.int .u64 (q.n:Nat))∧w1.drew.cell? ⟨g,o+pos*3,none⟩=some (.int .u64 (x.n:Nat))∧w1.drew.frozen? ⟨g,o+pos*3,none⟩=false:=⟨HT1.out.blk.cell 1,HB1.out.cell 0,hc,hf⟩
   clear hc hf hHeld
   go_wp2_with fail
   refine startG (S:=fun wx=>wx.cell? ⟨p,1,none⟩=some (.slice (some ⟨g,o,none⟩) n cap)∧wx.cell? ⟨b3,0,none⟩=some (.int .u64 (q.n:Nat))∧wx.cell? ⟨g,o+pos*3,none⟩=some (.int .u64 (x.n:Nat))∧wx.frozen? ⟨g,o+pos*3,none⟩=false) (st:=13) (by kernel_rfl) hS3 (fun hHeld => ?_)
   refine takeP (i:=0) (v:=?vc0) rfl (by kernel_rfl) (by kernel_rfl) (by kernel_rfl) (by decide) (fun _ _ _ h=>h) (Or.inl ⟨by rfl,?yc0⟩) hS3 ?rc0
   case yc0=>(intro w _;go_simp;first|done|with_reducible rfl)
   try simp only [Act.put,jI,jZ,jS]
   refine takeP (i:=1) (v:=?vc1) rfl (by kernel_rfl) (by kernel_rfl) (by kernel_rfl) (by decide) (fun _ _ _ h=>h) (Or.inl ⟨by rfl,?yc1⟩) hS3 ?rc1
   case yc1=>(intro w _;go_simp;first|done|with_reducible rfl)
   try simp only [Act.put,jI,jZ,jS]
   refine takeP (i:=2) (v:=?vc2) rfl (by kernel_rfl) (by kernel_rfl) (by kernel_rfl) (by decide) (fun _ _ _ h=>h) (Or.inl ⟨by rfl,?yc2⟩) hS3 ?rc2
   case yc2=>(intro w _;go_simp;first|done|with_reducible rfl)
   try simp only [Act.put,jI,jZ,jS]
   refine takeG (i:=3) (v:=?vc3) rfl (by kernel_rfl) (by kernel_rfl) (by kernel_rfl) (by decide) (by kernel_rfl) (by kernel_rfl) (fun _ _ _ h=>h) (Or.inl ⟨by rfl,?yc3⟩) hS3 ?rc3
   case yc3=>(intro w hSw;(try dsimp only at hSw);go_simp;first|done|with_reducible rfl)
   try simp only [Act.put,jI,jZ,jS]
   refine takeP (i:=4) (v:=?vc4) rfl (by kernel_rfl) (by kernel_rfl) (by kernel_rfl) (by decide) (fun _ _ _ h=>h) (Or.inl ⟨by rfl,?yc4⟩) hS3 ?rc4
   case yc4=>(intro w _;go_simp;first|done|with_reducible rfl)
   try simp only [Act.put,jI,jZ,jS]
   refine takeP (i:=5) (v:=?vc5) rfl (by kernel_rfl) (by kernel_rfl) (by kernel_rfl) (by decide) (fun _ _ _ h=>h) (Or.inl ⟨by rfl,?yc5⟩) hS3 ?rc5
   case yc5=>(intro w _;go_simp;first|done|with_reducible rfl)
   try simp only [Act.put,jI,jZ,jS]
   refine takeP (i:=6) (v:=?vc6) rfl (by kernel_rfl) (by kernel_rfl) (by kernel_rfl) (by decide) (fun _ _ _ h=>h) (Or.inl ⟨by rfl,?yc6⟩) hS3 ?rc6
   case yc6=>(intro w _;go_simp;first|done|with_reducible rfl)
   try simp only [Act.put,jI,jZ,jS]
   refine takeG (i:=7) (v:=?vc7) rfl (by kernel_rfl) (by kernel_rfl) (by kernel_rfl) (by decide) (by kernel_rfl) (by kernel_rfl) (fun _ _ _ h=>h) (Or.inl ⟨by rfl,?yc7⟩) hS3 ?rc7
   case yc7=>(intro w hSw;(try dsimp only at hSw);go_simp;first|done|with_reducible rfl)
   try simp only [Act.put,jI,jZ,jS]
   refine takeP (i:=8) (v:=?vc8) rfl (by kernel_rfl) (by kernel_rfl) (by kernel_rfl) (by decide) (fun _ _ _ h=>h) (Or.inl ⟨by rfl,?yc8⟩) hS3 ?rc8
   case yc8=>(intro w _;go_simp;first|done|with_reducible rfl)
   try simp only [Act.put,jI,jZ,jS]
   refine takeG (i:=9) (v:=?vc9) rfl (by kernel_rfl) (by kernel_rfl) (by kernel_rfl) (by decide) (by kernel_rfl) (by kernel_rfl) (fun _ _ _ h=>h) (Or.inl ⟨by rfl,?yc9⟩) hS3 ?rc9
   case yc9=>(intro w hSw;(try dsimp only at hSw);go_simp;first|done|with_reducible rfl)
   try simp only [Act.put,jI,jZ,jS]
   refine takeP (i:=10) (v:=?vc10) rfl (by kernel_rfl) (by kernel_rfl) (by kernel_rfl) (by decide) (fun _ _ _ h=>h) (Or.inl ⟨by rfl,?yc10⟩) hS3 ?rc10
   case yc10=>(intro w _;go_simp;first|done|with_reducible rfl)
   try simp only [Act.put,jI,jZ,jS]
   refine takeP (i:=11) (v:=?vc11) rfl (by kernel_rfl) (by kernel_rfl) (by kernel_rfl) (by decide) (fun _ _ _ h=>h) (Or.inl ⟨by rfl,?yc11⟩) hS3 ?rc11
   case yc11=>(intro w _;go_simp;first|done|with_reducible rfl)
   try simp only [Act.put,jI,jZ,jS]
   refine takeP (i:=12) (v:=?vc12) rfl (by kernel_rfl) (by kernel_rfl) (by kernel_rfl) (by decide) (fun _ _ _ h=>h) (Or.inl ⟨by rfl,?yc12⟩) hS3 ?rc12
   case yc12=>(intro w _;go_simp;first|done|with_reducible rfl)
   try simp only [Act.put,jI,jZ,jS]
   refine readyG (rs:=[13]) (by kernel_rfl) (by simp) (consG rfl (fun K hK => ?_) nilG)
   go_simp
   refine hK.out _ _ (fun h=>absurd rfl h) (fun hHeld => ?_)
   clear hK K hHeld
   try simp only [Act.put,jI,jZ,jS]
   refine doneG (by kernel_rfl) ?_ _
   have hww:IntKind.u64.wrap ((x.n:Int)+(q.n:Int))=((x.n+q.n:Nat):Int):=by rw [IntKind.wrap_u64];omega
   rw [hww]
   have hpg:p∉[g]:=HT1.out.p_rv
   have hbg:b3∉[g]:=by have:=HLT.out g (by simp [fpL]);simp;omega
   have hcs:Chg [g] w1 (w1.setCell ⟨g,o+pos*3,none⟩ (.int .u64 ((x.n+q.n:Nat):Int))).drew:=((Chg.refl [g] w1).setCell (by simp) _).drew
   have HT2:=Lib.hid (show Lms (w1.setCell ⟨g,o+pos*3,none⟩ (.int .u64 ((x.n+q.n:Nat):Int))).drew p (.slice (some ⟨g,o,none⟩) n cap) most (layL l q) T from ⟨HT1.out.blk.chg hcs hpg,by
    obtain ⟨hk,e⟩:=HKX.out
    have t:=lpCells_setN l pos hk (x.n+q.n)
    rw [e] at t
    have ho:=HT1.out.own
    rw [HLAY.out,List.length_set,t]
    rw [←HN.out] at ho ⊢
    exact Own.set ho (pos*3) _⟩)
   have HB2:=Lib.hid (HB1.out.chg hcs hbg)
   have HC2:=Lib.hid ((HCW.out.nil (F:=[g])).trans hcs)
   clear hcs hpg hbg hww hS3 HT1 HB1 HCW
   generalize (w1.setCell ⟨g,o+pos*3,none⟩ (.int .u64 ((x.n+q.n:Nat):Int))).drew=w2 at *
   go_wp2_with fail
   have hS5:w2.drew.cell? ⟨p,2,none⟩=some (.int .u64 (T:Nat))∧w2.drew.cell? ⟨b3,0,none⟩=some (.int .u64 (q.n:Nat))∧w2.drew.frozen? ⟨p,2,none⟩=false:=⟨HT2.out.blk.cell 2,HB2.out.cell 0,HT2.out.blk.free 2⟩
   refine startG (S:=fun wx=>wx.cell? ⟨p,2,none⟩=some (.int .u64 (T:Nat))∧wx.cell? ⟨b3,0,none⟩=some (.int .u64 (q.n:Nat))∧wx.frozen? ⟨p,2,none⟩=false) (st:=9) (by kernel_rfl) hS5 (fun hHeld => ?_)
   refine takeP (i:=0) (v:=?vd0) rfl (by kernel_rfl) (by kernel_rfl) (by kernel_rfl) (by decide) (fun _ _ _ h=>h) (Or.inl ⟨by rfl,?yd0⟩) hS5 ?rd0
   case yd0=>(intro w _;go_simp;first|done|with_reducible rfl)
   try simp only [Act.put,jI,jZ,jS]
   refine takeP (i:=1) (v:=?vd1) rfl (by kernel_rfl) (by kernel_rfl) (by kernel_rfl) (by decide) (fun _ _ _ h=>h) (Or.inl ⟨by rfl,?yd1⟩) hS5 ?rd1
   case yd1=>(intro w _;go_simp;first|done|with_reducible rfl)
   try simp only [Act.put,jI,jZ,jS]
   refine takeP (i:=2) (v:=?vd2) rfl (by kernel_rfl) (by kernel_rfl) (by kernel_rfl) (by decide) (fun _ _ _ h=>h) (Or.inl ⟨by rfl,?yd2⟩) hS5 ?rd2
   case yd2=>(intro w _;go_simp;first|done|with_reducible rfl)
   try simp only [Act.put,jI,jZ,jS]
   refine takeG (i:=3) (v:=?vd3) rfl (by kernel_rfl) (by kernel_rfl) (by kernel_rfl) (by decide) (by kernel_rfl) (by kernel_rfl) (fun _ _ _ h=>h) (Or.inl ⟨by rfl,?yd3⟩) hS5 ?rd3
   case yd3=>(intro w hSw;(try dsimp only at hSw);go_simp;first|done|with_reducible rfl)
   try simp only [Act.put,jI,jZ,jS]
   refine takeP (i:=4) (v:=?vd4) rfl (by kernel_rfl) (by kernel_rfl) (by kernel_rfl) (by decide) (fun _ _ _ h=>h) (Or.inl ⟨by rfl,?yd4⟩) hS5 ?rd4
   case yd4=>(intro w _;go_simp;first|done|with_reducible rfl)
   try simp only [Act.put,jI,jZ,jS]
   refine takeG (i:=5) (v:=?vd5) rfl (by kernel_rfl) (by kernel_rfl) (by kernel_rfl) (by decide) (by kernel_rfl) (by kernel_rfl) (fun _ _ _ h=>h) (Or.inl ⟨by rfl,?yd5⟩) hS5 ?rd5
   case yd5=>(intro w hSw;(try dsimp only at hSw);go_simp;first|done|with_reducible rfl)
   try simp only [Act.put,jI,jZ,jS]
   refine takeP (i:=6) (v:=?vd6) rfl (by kernel_rfl) (by kernel_rfl) (by kernel_rfl) (by decide) (fun _ _ _ h=>h) (Or.inl ⟨by rfl,?yd6⟩) hS5 ?rd6
   case yd6=>(intro w _;go_simp;first|done|with_reducible rfl)
   try simp only [Act.put,jI,jZ,jS]
   refine takeP (i:=7) (v:=?vd7) rfl (by kernel_rfl) (by kernel_rfl) (by kernel_rfl) (by decide) (fun _ _ _ h=>h) (Or.inl ⟨by rfl,?yd7⟩) hS5 ?rd7
   case yd7=>(intro w _;go_simp;first|done|with_reducible rfl)
   try simp only [Act.put,jI,jZ,jS]
   refine takeP (i:=8) (v:=?vd8) rfl (by kernel_rfl) (by kernel_rfl) (by kernel_rfl) (by decide) (fun _ _ _ h=>h) (Or.inl ⟨by rfl,?yd8⟩) hS5 ?rd8
   case yd8=>(intro w _;go_simp;first|done|with_reducible rfl)
   try simp only [Act.put,jI,jZ,jS]
   refine readyG (rs:=[9]) (by kernel_rfl) (by simp) (consG rfl (fun K hK => ?_) nilG)
   go_simp
   refine hK.out _ _ (fun h=>absurd rfl h) (fun hHeld => ?_)
   clear hK K hHeld
   try simp only [Act.put,jI,jZ,jS]
   refine doneG (by kernel_rfl) ?_ _
   have hww:IntKind.u64.wrap ((T:Int)+(q.n:Int))=((T+q.n:Nat):Int):=by have:=HTL.out;rw [IntKind.wrap_u64];omega
   rw [hww]
   have HE:=Lib.hid (show Lms (w2.setCell ⟨p,2,none⟩ (.int .u64 ((T+q.n:Nat):Int))).drew p (.slice (some ⟨g,o,none⟩) n cap) most (layL l q) (T+q.n) from ⟨by
    have:=HT2.out.blk.setCell 2 (.int .u64 ((T+q.n:Nat):Int))
    exact this,HT2.out.own.chg ((Chg.refl [p] w2).setCell (by simp) _).drew (fun b hb=>by simp only [List.mem_singleton];rintro rfl;exact HT2.out.p_rv hb)⟩)
   have HCE:=Lib.hid (show Chg (fpL p (.slice (some ⟨g,o,none⟩) n cap)) w (w2.setCell ⟨p,2,none⟩ (.int .u64 ((T+q.n:Nat):Int))).drew from ((HC2.out.mono (by simp [fpL])).setCell (by simp [fpL]) _).drew)
   clear hww hS5
   generalize (w2.setCell ⟨p,2,none⟩ (.int .u64 ((T+q.n:Nat):Int))).drew=w3 at *
   go_wp2_with fail
   go_end0
   have hlen:(layL l q).length=n:=by rw [HLAY.out,List.length_set,HN.out]
   rw [hlen]
   exact ⟨rfl,_,_,HE.out,HCE.out,fun b hb=>.inl hb⟩
 | false =>
   have HLAY:=Lib.hid (lay_new HRS.out HPOS.out.2.symm)
   have hpn:pos≤n:=by rw [HN.out,HPOS.out.1];exact posL_le l q
   have HRS4:=Lib.hid (fun wx (hu:Chg [] w1 wx)=>show wx.cell? ⟨p,1,none⟩=some (.slice ao n cap)∧wx.cell? ⟨b3,0,none⟩=some (.int .u64 (q.n:Nat))∧wx.cell? ⟨b3,1,none⟩=some (.int .i64 q.lo)∧wx.cell? ⟨b3,2,none⟩=some (.int .i64 q.hi)∧wx.frozen? ⟨p,1,none⟩=false from ⟨(HT1.out.blk.chg hu (by simp)).cell 1,(HB1.out.chg hu (by simp)).cell 0,(HB1.out.chg hu (by simp)).cell 1,(HB1.out.chg hu (by simp)).cell 2,(HT1.out.blk.chg hu (by simp)).free 1⟩)
   have hS4:=HRS4.out w1.drew (Chg.refl [] w1).drew
   clear hHeld
   go_wp2_with fail
   refine startG (S:=fun wx=>wx.cell? ⟨p,1,none⟩=some (.slice ao n cap)∧wx.cell? ⟨b3,0,none⟩=some (.int .u64 (q.n:Nat))∧wx.cell? ⟨b3,1,none⟩=some (.int .i64 q.lo)∧wx.cell? ⟨b3,2,none⟩=some (.int .i64 q.hi)∧wx.frozen? ⟨p,1,none⟩=false) (st:=11) (by kernel_rfl) hS4 (fun hHeld => ?_)
   refine takeP (i:=0) (v:=?ve0) rfl (by kernel_rfl) (by kernel_rfl) (by kernel_rfl) (by decide) (fun _ _ _ h=>h) (Or.inl ⟨by rfl,?ye0⟩) hS4 ?re0
   case ye0=>(intro w _;go_simp;first|done|with_reducible rfl)
   try simp only [Act.put,jI,jZ,jS]
   refine takeP (i:=1) (v:=?ve1) rfl (by kernel_rfl) (by kernel_rfl) (by kernel_rfl) (by decide) (fun _ _ _ h=>h) (Or.inl ⟨by rfl,?ye1⟩) hS4 ?re1
   case ye1=>(intro w _;go_simp;first|done|with_reducible rfl)
   try simp only [Act.put,jI,jZ,jS]
   refine takeP (i:=2) (v:=?ve2) rfl (by kernel_rfl) (by kernel_rfl) (by kernel_rfl) (by decide) (fun _ _ _ h=>h) (Or.inl ⟨by rfl,?ye2⟩) hS4 ?re2
   case ye2=>(intro w _;go_simp;first|done|with_reducible rfl)
   try simp only [Act.put,jI,jZ,jS]
   refine takeP (i:=3) (v:=?ve3) rfl (by kernel_rfl) (by kernel_rfl) (by kernel_rfl) (by decide) (fun _ _ _ h=>h) (Or.inl ⟨by rfl,?ye3⟩) hS4 ?re3
   case ye3=>(intro w _;go_simp;first|done|with_reducible rfl)
   try simp only [Act.put,jI,jZ,jS]
   refine takeG (i:=4) (v:=?ve4) rfl (by kernel_rfl) (by kernel_rfl) (by kernel_rfl) (by decide) (by kernel_rfl) (by kernel_rfl) (fun _ _ _ h=>h) (Or.inl ⟨by rfl,?ye4⟩) hS4 ?re4
   case ye4=>(intro w hSw;(try dsimp only at hSw);go_simp;first|done|with_reducible rfl)
   try simp only [Act.put,jI,jZ,jS]
   refine takeP (i:=5) (v:=?ve5) rfl (by kernel_rfl) (by kernel_rfl) (by kernel_rfl) (by decide) (fun _ _ _ h=>h) (Or.inl ⟨by rfl,?ye5⟩) hS4 ?re5
   case ye5=>(intro w _;go_simp;first|done|with_reducible rfl)
   try simp only [Act.put,jI,jZ,jS]
   refine takeG (i:=6) (v:=?ve6) rfl (by kernel_rfl) (by kernel_rfl) (by kernel_rfl) (by decide) (by kernel_rfl) (by kernel_rfl) (fun _ _ _ h=>h) (Or.inl ⟨by rfl,?ye6⟩) hS4 ?re6
   case ye6=>(intro w hSw;(try dsimp only at hSw);go_simp;first|done|with_reducible rfl)
   try simp only [Act.put,jI,jZ,jS]
   refine readyG (rs:=[7]) (by kernel_rfl) (by simp) (consG rfl (fun K hK => ?_) nilG)
   refine step_bL1 rfl 35 rfl q (by simp [Act.eval]) ?_;intro gb wc hrc hcc hgc
   have HHC:=Lib.hid ((Chg.refl [] w1).drew.trans hcc)
   have HRC:=Lib.hid hrc
   have hS4b:=HRS4.out wc HHC.out
   have HGC:=Lib.hid (show w1.heap.size≤gb from hgc)
   clear hrc hcc hgc hS4
   refine hK.out _ _ (fun _ _=>hS4b) (fun hHeld => ?_)
   clear hK K hHeld
   try simp only [Act.put,jI,jZ,jS]
   refine readyG (rs:=[8]) (by kernel_rfl) (by simp) (consG rfl (fun K hK => ?_) nilG)
   have HINS:=Lib.hid (insert_lump wc ao cap l pos (by have:=HN.out;omega) q gb (by have:=HN.out;omega) (by have ho:=HT1.out.own.chg HHC.out (by simp);rw [HN.out] at ho;exact ho) HRC.out (by intro hb;have h1:=HT1.out.own.lt gb (by simpa using hb);have h2:=HGC.out;omega))
   rw [←HN.out] at HINS
   refine step_callsG (by rfl) 224 _ _ rfl enters_lins _ #[.slice ao n cap,.int .i64 (pos:Nat),.slice (some ⟨gb,0,none⟩) 1 1] (by simp [Act.eval]) HINS.out ?_;rintro e w2 ⟨a3,c3,rfl,ho2,hc2,hf2⟩;refine ⟨_,rfl,?_⟩
   have HP2:=Lib.hid ((HT1.out.blk.chg HHC.out (by simp)).chg hc2 (by have:=HT1.out.p_rv;simpa using this))
   have HB2:=Lib.hid ((HB1.out.chg HHC.out (by simp)).chg hc2 (by intro hb;have:=HLT.out b3 (by simp only [fpL,blkOf_slice,List.mem_cons];exact Or.inr hb);omega))
   have hS4c:w2.cell? ⟨p,1,none⟩=some (.slice ao n cap)∧w2.cell? ⟨b3,0,none⟩=some (.int .u64 (q.n:Nat))∧w2.cell? ⟨b3,1,none⟩=some (.int .i64 q.lo)∧w2.cell? ⟨b3,2,none⟩=some (.int .i64 q.hi)∧w2.frozen? ⟨p,1,none⟩=false:=⟨HP2.out.cell 1,HB2.out.cell 0,HB2.out.cell 1,HB2.out.cell 2,HP2.out.free 1⟩
   have HO2:=Lib.hid ho2
   have HC2:=Lib.hid hc2
   have HF2:=Lib.hid hf2
   clear ho2 hc2 hf2 hS4b
   refine hK.out _ _ (fun _ _=>hS4c) (fun hHeld => ?_)
   clear hK K hHeld
   try simp only [Act.put,jI,jZ,jS]
   refine takeP (i:=9) (v:=?ve9) rfl (by kernel_rfl) (by kernel_rfl) (by kernel_rfl) (by decide) (fun _ _ _ h=>h) (Or.inl ⟨by rfl,?ye9⟩) hS4c ?re9
   case ye9=>(intro w _;go_simp;first|done|with_reducible rfl)
   try simp only [Act.put,jI,jZ,jS]
   refine takeP (i:=10) (v:=?ve10) rfl (by kernel_rfl) (by kernel_rfl) (by kernel_rfl) (by decide) (fun _ _ _ h=>h) (Or.inl ⟨by rfl,?ye10⟩) hS4c ?re10
   case ye10=>(intro w _;go_simp;first|done|with_reducible rfl)
   try simp only [Act.put,jI,jZ,jS]
   refine readyG (rs:=[11]) (by kernel_rfl) (by simp) (consG rfl (fun K hK => ?_) nilG)
   go_simp
   refine hK.out _ _ (fun h=>absurd rfl h) (fun hHeld => ?_)
   clear hK K hHeld
   try simp only [Act.put,jI,jZ,jS]
   refine doneG (by kernel_rfl) ?_ _
   have hszc:w1.heap.size≤wc.heap.size:=HHC.out.size
   have hsz1:w.heap.size≤w1.heap.size:=HCW.out.size
   have hpl:p<w1.heap.size:=HT1.out.blk.lt
   have hpa:∀ b∈abl a3,b≠p:=fun b hb e=>by
    rcases HF2.out b hb with h|h
    ·exact HT1.out.p_rv (by rw [blkOf_slice,←e];exact h)
    ·omega
   have hlen:(layL l q).length=n+1:=by
    rw [HLAY.out,←HPOS.out.1]
    have:=HN.out
    simp only [List.length_append,List.length_take,List.length_cons,List.length_nil,List.length_drop]
    omega
   have HLEN:=Lib.hid hlen
   have HT3:=Lib.hid (show Lms (w2.setCell ⟨p,1,none⟩ (.slice a3 (n+1) c3)) p (.slice a3 (n+1) c3) most (layL l q) T from ⟨by
    have:=HP2.out.setCell 1 (.slice a3 (n+1) c3)
    exact this,by
    rw [hlen,HLAY.out,←HPOS.out.1]
    exact HO2.out.chg ((Chg.refl [p] w2).setCell (by simp) _) (fun b hb=>by rw [blkOf_slice] at hb;simp only [List.mem_singleton];exact hpa b hb)⟩)
   have HB3:=Lib.hid (show Blk (w2.setCell ⟨p,1,none⟩ (.slice a3 (n+1) c3)) b3 #[.int .u64 (q.n:Nat),.int .i64 q.lo,.int .i64 q.hi] 213 from HB2.out.chg ((Chg.refl [p] w2).setCell (by simp) _) (by have:=HLT.out p (by simp [fpL]);simp;omega))
   have HC3:=Lib.hid (show Chg (fpL p (.slice ao n cap)) w (w2.setCell ⟨p,1,none⟩ (.slice a3 (n+1) c3)) from ((((HCW.out.trans HHC.out).nil (F:=fpL p (.slice ao n cap))).trans (HC2.out.mono (fun b hb=>.inl (by rw [fpL,blkOf_slice];exact List.mem_cons_of_mem _ hb)))).setCell (.inl (by simp [fpL])) _))
   have HF3:=Lib.hid (show ∀ b∈fpL p (.slice a3 (n+1) c3),b∈fpL p (.slice ao n cap)∨w.heap.size≤b from fun b hb=>by
    simp only [fpL,blkOf_slice,List.mem_cons] at hb ⊢
    rcases hb with rfl|hb
    ·exact .inl (.inl rfl)
    ·rcases HF2.out b hb with h|h
     ·exact .inl (.inr h)
     ·exact .inr (by omega))
   clear hS4c hlen hpa hpl hsz1 hszc HP2 HB2 HO2 HF2 HC2 HHC HRC HGC HINS HRS4 HT1 HB1 HCW
   generalize (w2.setCell ⟨p,1,none⟩ (.slice a3 (n+1) c3))=w3 at *
   go_wp2_with fail
   have hS5:w3.drew.cell? ⟨p,2,none⟩=some (.int .u64 (T:Nat))∧w3.drew.cell? ⟨b3,0,none⟩=some (.int .u64 (q.n:Nat))∧w3.drew.frozen? ⟨p,2,none⟩=false:=⟨HT3.out.blk.cell 2,HB3.out.cell 0,HT3.out.blk.free 2⟩
   refine startG (S:=fun wx=>wx.cell? ⟨p,2,none⟩=some (.int .u64 (T:Nat))∧wx.cell? ⟨b3,0,none⟩=some (.int .u64 (q.n:Nat))∧wx.frozen? ⟨p,2,none⟩=false) (st:=9) (by kernel_rfl) hS5 (fun hHeld => ?_)
   refine takeP (i:=0) (v:=?vf0) rfl (by kernel_rfl) (by kernel_rfl) (by kernel_rfl) (by decide) (fun _ _ _ h=>h) (Or.inl ⟨by rfl,?yf0⟩) hS5 ?rf0
   case yf0=>(intro w _;go_simp;first|done|with_reducible rfl)
   try simp only [Act.put,jI,jZ,jS]
   refine takeP (i:=1) (v:=?vf1) rfl (by kernel_rfl) (by kernel_rfl) (by kernel_rfl) (by decide) (fun _ _ _ h=>h) (Or.inl ⟨by rfl,?yf1⟩) hS5 ?rf1
   case yf1=>(intro w _;go_simp;first|done|with_reducible rfl)
   try simp only [Act.put,jI,jZ,jS]
   refine takeP (i:=2) (v:=?vf2) rfl (by kernel_rfl) (by kernel_rfl) (by kernel_rfl) (by decide) (fun _ _ _ h=>h) (Or.inl ⟨by rfl,?yf2⟩) hS5 ?rf2
   case yf2=>(intro w _;go_simp;first|done|with_reducible rfl)
   try simp only [Act.put,jI,jZ,jS]
   refine takeG (i:=3) (v:=?vf3) rfl (by kernel_rfl) (by kernel_rfl) (by kernel_rfl) (by decide) (by kernel_rfl) (by kernel_rfl) (fun _ _ _ h=>h) (Or.inl ⟨by rfl,?yf3⟩) hS5 ?rf3
   case yf3=>(intro w hSw;(try dsimp only at hSw);go_simp;first|done|with_reducible rfl)
   try simp only [Act.put,jI,jZ,jS]
   refine takeP (i:=4) (v:=?vf4) rfl (by kernel_rfl) (by kernel_rfl) (by kernel_rfl) (by decide) (fun _ _ _ h=>h) (Or.inl ⟨by rfl,?yf4⟩) hS5 ?rf4
   case yf4=>(intro w _;go_simp;first|done|with_reducible rfl)
   try simp only [Act.put,jI,jZ,jS]
   refine takeG (i:=5) (v:=?vf5) rfl (by kernel_rfl) (by kernel_rfl) (by kernel_rfl) (by decide) (by kernel_rfl) (by kernel_rfl) (fun _ _ _ h=>h) (Or.inl ⟨by rfl,?yf5⟩) hS5 ?rf5
   case yf5=>(intro w hSw;(try dsimp only at hSw);go_simp;first|done|with_reducible rfl)
   try simp only [Act.put,jI,jZ,jS]
   refine takeP (i:=6) (v:=?vf6) rfl (by kernel_rfl) (by kernel_rfl) (by kernel_rfl) (by decide) (fun _ _ _ h=>h) (Or.inl ⟨by rfl,?yf6⟩) hS5 ?rf6
   case yf6=>(intro w _;go_simp;first|done|with_reducible rfl)
   try simp only [Act.put,jI,jZ,jS]
   refine takeP (i:=7) (v:=?vf7) rfl (by kernel_rfl) (by kernel_rfl) (by kernel_rfl) (by decide) (fun _ _ _ h=>h) (Or.inl ⟨by rfl,?yf7⟩) hS5 ?rf7
   case yf7=>(intro w _;go_simp;first|done|with_reducible rfl)
   try simp only [Act.put,jI,jZ,jS]
   refine takeP (i:=8) (v:=?vf8) rfl (by kernel_rfl) (by kernel_rfl) (by kernel_rfl) (by decide) (fun _ _ _ h=>h) (Or.inl ⟨by rfl,?yf8⟩) hS5 ?rf8
   case yf8=>(intro w _;go_simp;first|done|with_reducible rfl)
   try simp only [Act.put,jI,jZ,jS]
   refine readyG (rs:=[9]) (by kernel_rfl) (by simp) (consG rfl (fun K hK => ?_) nilG)
   go_simp
   refine hK.out _ _ (fun h=>absurd rfl h) (fun hHeld => ?_)
   clear hK K hHeld
   try simp only [Act.put,jI,jZ,jS]
   refine doneG (by kernel_rfl) ?_ _
   have hww:IntKind.u64.wrap ((T:Int)+(q.n:Int))=((T+q.n:Nat):Int):=by have:=HTL.out;rw [IntKind.wrap_u64];omega
   rw [hww]
   have HE:=Lib.hid (show Lms (w3.setCell ⟨p,2,none⟩ (.int .u64 ((T+q.n:Nat):Int))).drew p (.slice a3 (n+1) c3) most (layL l q) (T+q.n) from ⟨by
    have:=HT3.out.blk.setCell 2 (.int .u64 ((T+q.n:Nat):Int))
    exact this,HT3.out.own.chg ((Chg.refl [p] w3).setCell (by simp) _).drew (fun b hb=>by simp only [List.mem_singleton];rintro rfl;exact HT3.out.p_rv hb)⟩)
   have HCE:=Lib.hid (show Chg (fpL p (.slice ao n cap)) w (w3.setCell ⟨p,2,none⟩ (.int .u64 ((T+q.n:Nat):Int))).drew from (HC3.out.setCell (.inl (by simp [fpL])) _).drew)
   clear hww hS5
   generalize (w3.setCell ⟨p,2,none⟩ (.int .u64 ((T+q.n:Nat):Int))).drew=w4 at *
   go_wp2_with fail
   go_end0
   rw [HLEN.out]
   exact ⟨rfl,_,_,HE.out,HCE.out,HF3.out⟩
end Go.Proofs.YthoolcpcmhhkpaaGreatDoor
namespace Go.Proofs.YthoolcpcmhhkpaaGreatDoor
structure OfL (l:List Lp) (m:List Vl):Prop where
 rises:risesL l
 pos:∀ p∈l,1≤p.n∧p.lo≤p.hi
 tot:totL l=sumS m
 fit:∀ x,rankLoL l x≤upS x m∧upS x m≤rankHiL l x
 ends:m≠[]→EndsL l (loV m) (hiV m)
 nil:l=[]↔m=[]
theorem OfL.new:OfL [] []:=⟨List.Pairwise.nil,by simp,rfl,fun x=>⟨Nat.le_refl _,Nat.le_refl _⟩,fun h=>absurd rfl h,by simp⟩
theorem lay_ne (l:List Lp) (p:Lp):layL l p≠[]:=by unfold layL;simp
theorem lay_pos {l:List Lp} (h:∀ p∈l,1≤p.n∧p.lo≤p.hi) {p:Lp} (h1:1≤p.n) (h2:p.lo≤p.hi):∀ q∈layL l p,1≤q.n∧q.lo≤q.hi:=by
 intro q hq
 rcases lay_mem hq with h3|⟨e1,e2,e3⟩
 ·exact h q h3
 ·omega
theorem OfL.put {l:List Lp} {m:List Vl} (h:OfL l m) (x:Int) {c:Nat} (hc:1≤c):OfL (layL l ⟨c,x,x⟩) (m++[⟨x,c⟩]):=by
 refine ⟨lay_rises h.rises _,lay_pos h.pos hc (Int.le_refl _),?_,fun y => ?_,fun _ => ?_,?_⟩
 ·rw [totL_lay,sumS_app,h.tot];simp [sumS]
 ·obtain ⟨k1,k2⟩:=h.fit y
  unfold rankLoL rankHiL at *
  rw [sumL_lay _ (same_hi y),sumL_lay _ (same_lo y),upS_app]
  simp only [upS,decide_eq_true_eq]
  omega
 ·rw [loV_app,hiV_app]
  by_cases hm:m=[]
  ·subst hm
   obtain rfl:=h.nil.2 rfl
   rw [if_pos rfl,if_pos rfl]
   exact lay_ends0 ⟨c,x,x⟩
  ·rw [if_neg hm,if_neg hm,if_neg (by simp),if_neg (by simp)]
   exact lay_ends (h.ends hm) ⟨c,x,x⟩
 ·exact ⟨fun e=>absurd e (lay_ne _ _),fun e=>by simp at e⟩
theorem OfL.melt {l:List Lp} {m:List Vl} (h:OfL l m) {k:Nat} (hk:k+1<l.length):OfL (meltL l k) m:=by
 obtain ⟨a,b,e,ea,eb⟩:=melt_parts hk
 have ha:=h.pos a (by rw [e];simp)
 have hb:=h.pos b (by rw [e];simp)
 refine ⟨melt_rises h.rises k,?_,by rw [melt_tot hk];exact h.tot,fun x => ?_,fun hm=>melt_ends h.rises hk (h.ends hm),?_⟩
 ·unfold meltL
  rw [ea,eb]
  refine lay_pos (fun q hq=>h.pos q ?_) (by simp only;omega) (by simp only;omega)
  rw [e]
  rcases List.mem_append.1 hq with h1|h1<;>simp [h1]
 ·obtain ⟨k1,k2⟩:=h.fit x
  obtain ⟨g1,g2⟩:=melt_ranks h.rises hk x
  omega
 ·refine ⟨fun e2=>absurd e2 (lay_ne _ _),fun e2 => ?_⟩
  have:=h.nil.2 e2
  rw [this] at hk
  simp at hk
def layAll (l o:List Lp):List Lp:=o.foldl layL l
end Go.Proofs.YthoolcpcmhhkpaaGreatDoor
