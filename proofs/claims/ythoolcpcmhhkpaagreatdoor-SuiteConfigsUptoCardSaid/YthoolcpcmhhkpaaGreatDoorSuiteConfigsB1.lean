/-
  Parts of a proof, pressed. Conditions: the form's own reach.
-/
import Derived.WalkKit
import Derived.WalkSpells
import Derived.WalkLawsBesides
import Derived.Lib.Hide
import Derived.Deep.QuietTactic
import Derived.BigQuiet
import Derived.Handy
import Derived.Deep.RegionWith
import Derived.Deep.DeepMust
import Derived.Deep.RegionHeld3
import Derived.Deep.DeepCutAuto
import Derived.Deep.LoopGhost
import Derived.Deep.DeepFit
import Derived.Deep.RegionLaw
import Derived.StillTailTactics
import Derived.ProofKit
import Derived.OpenShut
import Derived.ShutString
import Derived.ChangeOld
import Derived.Below
import Derived.SizedLaws
import Derived.Deep.Slices
namespace Go.Proofs.YthoolcpcmhhkpaaGreatDoor
open Go.RowKit
theorem jI {α:Type _} (l:List α) (i:Nat) (a:α):l.toArray.setIfInBounds i a=(l.set i a).toArray:=List.setIfInBounds_toArray ..
theorem jS {α:Type _} {a:α} {l:List α} {n:Nat} {b:α}:(a::l).set (n+1) b=a::l.set n b:=rfl
theorem jZ {α:Type _} {a:α} {l:List α} {b:α}:(a::l).set 0 b=b::l:=rfl
theorem ret_int {k:IntKind} {a b:Int} (h:a=b):Ending.returned (.int k a)=.returned (.int k b):=by rw [h]
structure Chg (F:List Nat) (w w':World):Prop where
 os:w'.os=w.os
 tape:w'.tape=w.tape
 output:w'.output=w.output
 size:w.heap.size≤w'.heap.size
 block:∀ k,k<w.heap.size→k∉F→w'.heap[k]? = w.heap[k]?
namespace Chg
variable {F F1:List Nat} {w w1 w2:World}
theorem refl (F:List Nat) (w:World):Chg F w w:=⟨rfl,rfl,rfl,Nat.le_refl _,fun _ _ _=>rfl⟩
theorem trans' (h:Chg F w w1) (k:Chg F1 w1 w2) (hf:∀ b∈F1,b∈F∨w.heap.size≤b):Chg F w w2:=
 ⟨k.os.trans h.os,k.tape.trans h.tape,k.output.trans h.output,Nat.le_trans h.size k.size,
  fun b hb hn=>(k.block b (Nat.lt_of_lt_of_le hb h.size) (fun hm=>by rcases hf b hm with h1|h1;exact hn h1;omega)).trans (h.block b hb hn)⟩
theorem trans (h:Chg F w w1) (k:Chg F w1 w2):Chg F w w2:=h.trans' k fun _ hb=>.inl hb
theorem mono (h:Chg F w w1) (hf:∀ b∈F,b∈F1∨w.heap.size≤b):Chg F1 w w1:=(Chg.refl F1 w).trans' h hf
theorem nil (h:Chg [] w w1):Chg F w w1:=h.mono (by simp)
theorem alloc (h:Chg F w w1) (o:Obj):Chg F w (w1.alloc o):=
 h.trans' (F1:=[]) ⟨rfl,rfl,rfl,by simp,fun k hk _=>heap_alloc_old w1 o hk⟩ (by simp)
theorem drew (h:Chg F w w1):Chg F w w1.drew:=⟨h.os,h.tape,h.output,h.size,h.block⟩
theorem drewN (h:Chg F w w1) (n:Nat):Chg F w (w1.drewN n):=⟨h.os,h.tape,h.output,h.size,h.block⟩
theorem setCell (h:Chg F w w1) {a:Addr} (ha:a.block∈F∨w.heap.size≤a.block) (u:Value):Chg F w (w1.setCell a u):=
 h.trans' (F1:=[a.block]) ⟨rfl,rfl,rfl,by simp [World.setCell],fun k _ hn=>Below.heap_setCell _ _ _ _ (by simpa using hn)⟩ (by simpa using ha)
theorem setRow (h:Chg F w w1) {g:Nat} (ha:g∈F∨w.heap.size≤g) (cs:Array Value):Chg F w (w1.setRow g cs):=
 h.trans' (F1:=[g]) ⟨rfl,rfl,rfl,by simp [World.setRow],fun k _ hn=>setRow_other _ _ _ _ (by simpa using hn)⟩ (by simpa using ha)
theorem grown {row:Option Nat} (h:Chg F w w1) (hg:w1.grownBy w2 row) (hr:∀ k,row=some k→k∈F∨w.heap.size≤k):Chg F w w2:=
 h.trans' (F1:=row.toList) ⟨hg.os,hg.tape,hg.output,hg.size,fun k hk hn=>hg.block k hk (fun e=>hn (by simp [←e]))⟩ (fun b hb=>hr b (by simpa using hb))
theorem below (h:Chg [] w w1):Below w.heap.size w w1:=⟨h.os,h.tape,h.output,h.size,fun k hk=>h.block k hk (by simp)⟩
theorem of_below (h:Below w.heap.size w w1):Chg F w w1:=⟨h.os,h.tape,h.output,h.size,fun k hk _=>h.block k hk⟩
theorem heap (h:Chg F w w1) {b:Nat} {o:Obj} (hb:w.heap[b]? = some o) (hn:b∉F):w1.heap[b]? = some o:=
 (h.block b (lt_of_block hb) hn).trans hb
theorem cell (h:Chg F w w1) {a:Addr} {v:Value} (hc:w.cell? a=some v) (hn:a.block∉F):w1.cell? a=some v:=
 (World.cell?_of_block (h.block a.block (World.block_lt_of_cell? w a hc) hn)).trans hc
end Chg
def Blk (w:World) (b:Nat) (cs:Array Value) (t:TypeId):Prop:=w.heap[b]? = some (.cells cs t (0,0))
namespace Blk
variable {w w1:World} {b:Nat} {cs:Array Value} {t:TypeId}
theorem cell (h:Blk w b cs t) (j:Nat):w.cell? ⟨b,j,none⟩=cs[j]?:=cell_of_row w b j cs t (0,0) h
theorem free (h:Blk w b cs t) (j:Nat):w.frozen? ⟨b,j,none⟩=false:=by
 simp only [Blk] at h;simp [World.frozen?,h]
theorem lt (h:Blk w b cs t):b<w.heap.size:=lt_of_block h
theorem chg {F:List Nat} (h:Blk w b cs t) (k:Chg F w w1) (hn:b∉F):Blk w1 b cs t:=k.heap h hn
theorem alloc_new (w:World) (cs:Array Value) (t:TypeId):Blk (w.alloc (.cells cs t)) w.heap.size cs t:=heap_alloc_new w _
theorem alloc (h:Blk w b cs t) (o:Obj):Blk (w.alloc o) b cs t:=h.chg ((Chg.refl [] w).alloc o) (by simp)
theorem drew (h:Blk w b cs t):Blk w.drew b cs t:=h
theorem setCell_other (h:Blk w b cs t) {a:Addr} (ha:b≠a.block) (u:Value):Blk (w.setCell a u) b cs t:=
 (Below.heap_setCell w a u b ha).trans h
theorem setCell (h:Blk w b cs t) (j:Nat) (u:Value):Blk (w.setCell ⟨b,j,none⟩ u) b (cs.setIfInBounds j u) t:=by
 simp only [Blk] at h ⊢
 have hlt:=lt_of_block h
 have hv:w.heap[b]=.cells cs t (0,0):=(Array.getElem?_eq_some_iff.1 h).2
 simp only [World.setCell,Array.getElem?_modify,if_true,h,Option.map_some]
 rfl
end Blk
def Rd (w:World) (size:Nat) (v:Value) (n:Nat) (xs:List Value):Prop:=
 xs.length=n*size∧∃ ao cap,v=.slice ao n cap∧(n=0∨∃ b o,ao=some ⟨b,o,none⟩∧∀ j,j<n*size→w.cell? ⟨b,o+j,none⟩=xs[j]?)
def Own (w:World) (e:TypeId) (size:Nat) (v:Value) (n:Nat) (xs:List Value):Prop:=
 xs.length=n*size ∧
 ((v=.slice none 0 0∧n=0) ∨
  ∃ g o cap cur,v=.slice (some ⟨g,o,none⟩) n cap∧w.heap[g]? = some (.cells cur e (0,0))∧n≤cap∧cap≤maxLen∧o+cap*size≤cur.size∧(cur.toList.drop o).take (n*size)=xs)
def blkOf (v:Value):List Nat:=match v with | .slice (some a) _ _=>[a.block]|_=>[]
section
variable {w w1:World} {e:TypeId} {size:Nat} {v:Value} {n:Nat} {xs:List Value}
@[simp] theorem blkOf_some (a:Addr) (n c:Nat):blkOf (.slice (some a) n c)=[a.block]:=rfl
@[simp] theorem blkOf_none (n c:Nat):blkOf (.slice none n c)=[]:=rfl
theorem Own.nil (w:World) (e:TypeId) (size:Nat):Own w e size (.slice none 0 0) 0 []:=⟨by simp,.inl ⟨rfl,rfl⟩⟩
theorem Own.lt (h:Own w e size v n xs):∀ k∈blkOf v,k<w.heap.size:=by
 rcases h.2 with ⟨rfl,_⟩|⟨g,o,cap,cur,rfl,hg,_⟩
 ·simp
 ·simpa using lt_of_block hg
theorem Own.chg {F:List Nat} (h:Own w e size v n xs) (k:Chg F w w1) (hn:∀ b∈blkOf v,b∉F):Own w1 e size v n xs:=by
 refine ⟨h.1,?_⟩
 rcases h.2 with h2|⟨g,o,cap,cur,rfl,hg,rest⟩
 ·exact .inl h2
 ·exact .inr ⟨g,o,cap,cur,rfl,k.heap hg (hn g (by simp)),rest⟩
theorem Own.alloc (h:Own w e size v n xs) (o:Obj):Own (w.alloc o) e size v n xs:=h.chg ((Chg.refl [] w).alloc o) (by simp)
theorem Own.drew (h:Own w e size v n xs):Own w.drew e size v n xs:=h
theorem Own.ne_blk (h:Own w e size v n xs) {b:Nat} {cs:Array Value} {t:TypeId} (hb:Blk w b cs t) (ht:t≠e):b∉blkOf v:=by
 rcases h.2 with ⟨rfl,_⟩|⟨g,o,cap,cur,rfl,hg,_⟩
 ·simp
 ·simp only [blkOf_some,List.mem_singleton]
  intro hbg
  subst hbg
  simp only [Blk] at hb
  rw [hb] at hg
  simp at hg
  exact ht hg.2
theorem Own.cells {g o m c:Nat} (h:Own w e size (.slice (some ⟨g,o,none⟩) m c) n xs) (j:Nat) (hj:j<n*size):w.cell? ⟨g,o+j,none⟩=xs[j]?:=by
 rcases h.2 with ⟨h1,_⟩|⟨g',o',cap,cur,hv,hg,_,_,_,hx⟩
 ·cases h1
 ·simp only [Value.slice.injEq,Option.some.injEq,Addr.mk.injEq] at hv
  obtain ⟨⟨rfl,rfl,_⟩,rfl,rfl⟩:=hv
  rw [cell_of_row w g (o+j) cur e (0,0) hg,←hx,List.getElem?_take,if_pos hj]
  simp
theorem Own.free {g o m c:Nat} (h:Own w e size (.slice (some ⟨g,o,none⟩) m c) n xs) (j:Nat):w.frozen? ⟨g,j,none⟩=false:=by
 rcases h.2 with ⟨h1,_⟩|⟨g',o',cap,cur,hv,hg,_⟩
 ·cases h1
 ·simp only [Value.slice.injEq,Option.some.injEq,Addr.mk.injEq] at hv
  obtain ⟨⟨rfl,rfl,_⟩,rfl,rfl⟩:=hv
  simp [World.frozen?,hg]
theorem Own.rd (h:Own w e size v n xs):Rd w size v n xs:=by
 refine ⟨h.1,?_⟩
 rcases h.2 with ⟨rfl,rfl⟩|⟨g,o,cap,cur,rfl,hg,hr⟩
 ·exact ⟨_,_,rfl,.inl rfl⟩
 ·exact ⟨_,_,rfl,.inr ⟨g,o,rfl,fun j hj=>Own.cells ⟨h.1,.inr ⟨g,o,cap,cur,rfl,hg,hr⟩⟩ j hj⟩⟩
theorem Rd.chg {F:List Nat} (h:Rd w size v n xs) (k:Chg F w w1) (hn:∀ b∈blkOf v,b∉F):Rd w1 size v n xs:=by
 obtain ⟨h1,ao,cap,rfl,h2⟩:=h
 refine ⟨h1,ao,cap,rfl,?_⟩
 rcases h2 with h2|⟨b,o,rfl,hc⟩
 ·exact .inl h2
 ·refine .inr ⟨b,o,rfl,fun j hj => ?_⟩
  have hs:xs[j]? = some (xs[j]'(by omega)):=List.getElem?_eq_getElem _
  rw [hs]
  exact k.cell ((hc j hj).trans hs) (hn b (by simp))
theorem Rd.alloc (h:Rd w size v n xs) (o:Obj):Rd (w.alloc o) size v n xs:=by
 obtain ⟨h1,ao,cap,rfl,h2⟩:=h
 refine ⟨h1,ao,cap,rfl,?_⟩
 rcases h2 with h2|⟨b,o',rfl,hc⟩
 ·exact .inl h2
 ·refine .inr ⟨b,o',rfl,fun j hj => ?_⟩
  have hs:xs[j]? = some (xs[j]'(by omega)):=List.getElem?_eq_getElem _
  rw [hs]
  exact ((Chg.refl [] w).alloc o).cell ((hc j hj).trans hs) (by simp)
theorem Rd.addr {ao:Option Addr} {m c:Nat} (h:Rd w size (.slice ao m c) n xs) (hn:0<n):∃ b o,ao=some ⟨b,o,none⟩∧∀ j,j<n*size→w.cell? ⟨b,o+j,none⟩=xs[j]?:=by
 obtain ⟨h1,ao',cap,hv,h2⟩:=h
 simp only [Value.slice.injEq] at hv
 obtain ⟨rfl,rfl,rfl⟩:=hv
 rcases h2 with h2|h2
 ·omega
 ·exact h2
theorem Rd.shape (h:Rd w size v n xs):∃ ao cap,v=.slice ao n cap:=by
 obtain ⟨h1,ao,cap,rfl,h2⟩:=h
 exact ⟨ao,cap,rfl⟩
end
def Src (P:Program) (w:World) (u:TypeId) (size:Nat) (x:Value) (m:Nat) (news:List Value):Prop:=
 ((∃ e',P.underlying u=some (.slice e'))∨P.underlying u=some .string)∧(Builtin.lenOf x).run P w=.ok m w∧news.length=m*size ∧
 (Builtin.firstCells size m x).run P w=.ok news.toArray w∧(Builtin.firstCells size m x).run P w.drew=.ok news.toArray w.drew
theorem Src.of_rd {P:Program} {w:World} {u e:TypeId} (hu:P.underlying u=some (.slice e)) {size:Nat} {x:Value} {m:Nat} {news:List Value} (h:Rd w size x m news):Src P w u size x m news:=by
 obtain ⟨h1,ao,cap,rfl,h2⟩:=h
 refine ⟨.inl ⟨_,hu⟩,by simp [Builtin.lenOf],h1,?_⟩
 have gen:∀ w':World,(∀ a,w'.cell? a=w.cell? a)→(Builtin.firstCells size m (.slice ao m cap)).run P w'=.ok news.toArray w':=by
  intro w' hw
  rcases h2 with rfl|⟨b,o,rfl,hc⟩
  ·have:news=[]:=List.eq_nil_of_length_eq_zero (by simpa using h1)
   subst this
   cases ao with
   | none=>exact run_firstCells_none (P:=P) w' size 0 0 cap
   | some a=>exact run_firstCells_some (P:=P) w' size 0 a 0 cap [] (by simp) (by simp)
  ·refine run_firstCells_some (P:=P) w' size m ⟨b,o,none⟩ m cap news h1 (fun j v hv => ?_)
   have hj:j<m*size:=by have:=(List.getElem?_eq_some_iff.1 hv).1;omega
   rw [hw,←hv,←hc j hj]
   by_cases hj0:j=0
   ·subst hj0;simp [Addr.add]
   ·simp [Addr.add,hj0]
 exact ⟨gen w fun _=>rfl,gen w.drew fun _=>rfl⟩
def u8s (l:List UInt8):List Value:=l.map fun b=>Value.int .u8 b.toNat
@[simp] theorem u8s_length (l:List UInt8):(u8s l).length=l.length:=by simp [u8s]
@[simp] theorem u8s_append (a b:List UInt8):u8s (a++b)=u8s a++u8s b:=by simp [u8s]
@[simp] theorem u8s_nil:u8s []=[]:=rfl
theorem Src.of_string {P:Program} {w:World} {u:TypeId} (hu:P.underlying u=some .string) (l:List UInt8):Src P w u 1 (.string ⟨l.toArray⟩) l.length (u8s l):=by
 have hs:(ByteArray.mk l.toArray).size=l.length:=by simp [ByteArray.size]
 have gen:∀ w':World,(Builtin.firstCells 1 l.length (.string ⟨l.toArray⟩)).run P w'=.ok (u8s l).toArray w':=by
  intro w'
  simp only [Builtin.firstCells,ByteArray.extract_mk,List.drop_zero,Nat.sub_zero,List.take_length]
  simp [u8s]
 exact ⟨.inr hu,by simp [Builtin.lenOf,hs],by simp,gen w,gen w.drew⟩
theorem run_append_src {P:Program} (w:World) (t u ty e:TypeId) (i:TypeInfo) (z:Value) (size bytes:Nat) (ht:P.underlying t=some (.slice e)) (hi:P.info? e=some i) (hz:i.zero=some z)
 (hsize:i.size=size) (hby:i.bytes=bytes) (hzs:z.cells.size=size) (hsz:0<size)
 (v:Value) (n:Nat) (xs:List Value) (hown:Own w e size v n xs)
 (x:Value) (m:Nat) (news:List Value) (hsrc:Src P w u size x m news) (h1:∀ y∈news,y.oneCell'=true)
 (h63:n+m≤maxLen) (hbytes:(n+m)*bytes≤140737488355328) :
 ∃ v' w',(Builtin.append_ #[t,u] ty #[v,x]).run P w=.ok v' w'∧Own w' e size v' (n+m) (xs++news)∧Chg (blkOf v) w w' ∧
   (blkOf v'=blkOf v∨blkOf v'=[w.heap.size]):=by
 subst hsize
 subst hby
 obtain ⟨hu,hlen,hl,hf,hfd⟩:=hsrc
 have hsmall:n+m≤9223372036854775807:=by simp only [maxLen] at h63;omega
 have hxl:(xs++news).length=(n+m)*i.size:=by rw [List.length_append,hown.1,hl,Nat.add_mul]
 rcases hown.2 with ⟨rfl,rfl⟩|⟨g,o,cap,cur,rfl,hg,hnc,hcm,hroom,htake⟩
 ·have hx:xs=[]:=List.eq_nil_of_length_eq_zero (by simpa using hown.1)
  subst hx
  by_cases hm:m=0
  ·subst hm
   have hn:news=[]:=List.eq_nil_of_length_eq_zero (by simpa using hl)
   subst hn
   refine ⟨.slice none 0 0,w,?_,Own.nil w e i.size,Chg.refl _ _,.inl rfl⟩
   rcases hu with ⟨e',hu⟩|hu<;>simp [Builtin.append_,run_underlying ht,run_underlying hu,sizeOf,typeInfo,hi,hlen,hf]
  ·have h48:¬(281474976710656<Builtin.nextslicecap m 0*i.bytes):=by rw [nextslicecap_zero (by omega)];simp only [Nat.zero_add] at hbytes;omega
   have h63':¬(9223372036854775807<(m:Int)):=by omega
   refine ⟨.slice (some ⟨w.heap.size,0,none⟩) m (grownCap w m 0 e),w.drew.alloc (.cells (news.toArray++Builtin.zeroCells z.cells (grownCap w m 0 e-m)) e),?_,?_,((Chg.refl _ w).drew.alloc _),.inr rfl⟩
   ·rcases hu with ⟨e',hu⟩|hu<;>simp [Builtin.append_,run_underlying ht,run_underlying hu,sizeOf,typeInfo,zeroValue,hi,hz,hlen,hm,h63',h48,Question.forced,run_firstCells_none,hfd,newRow,grownCap]
   ·have hge:=grownCap_ge w m 0 e
    refine ⟨by simpa using hl,.inr ⟨w.heap.size,0,_,_,by simp,heap_alloc_new w.drew _,by omega,grownCap_le_maxLen w m 0 e (by omega),?_,?_⟩⟩
    ·simp only [Array.size_append,List.size_toArray,size_zeroCells,hzs,hl,←Nat.add_mul,Nat.zero_add]
     exact Nat.mul_le_mul_right _ (by omega)
    ·simp only [Array.toList_append,List.drop_zero,List.nil_append,Nat.zero_add,←hl]
     exact List.take_left
 ·by_cases hfit:n+m≤cap
  ·have hfit':o+n*i.size+0+news.length≤cur.size:=by
    have:=Nat.mul_le_mul_right i.size hfit
    rw [Nat.add_mul] at this
    omega
   have hst:=run_storeCells_at P g (o+n*i.size) e news 0 cur w hg hfit' h1
   simp only [Nat.add_zero] at hst
   refine ⟨.slice (some ⟨g,o,none⟩) (n+m) cap,w.setRow g (cur.toList.take (o+n*i.size)++news++cur.toList.drop (o+n*i.size+news.length)).toArray,?_,?_,(Chg.refl _ w).setRow (g:=g) (.inl (by simp)) _,.inl rfl⟩
   ·have hadd:(⟨g,o,none⟩:Addr).add (n*i.size)=⟨g,o+n*i.size,none⟩:=by
     unfold Addr.add;split
     ·simp_all
     ·rfl
    rcases hu with ⟨e',hu⟩|hu<;>simp [Builtin.append_,run_underlying ht,run_underlying hu,sizeOf,typeInfo,hi,hlen,hfit,hf,hadd,hst]
   ·refine ⟨hxl,.inr ⟨g,o,cap,_,rfl,setRow_heap w g cur _ e _ hg,hfit,hcm,?_,?_⟩⟩
    ·simp only [List.size_toArray,List.length_append,List.length_take,List.length_drop,Array.length_toList]
     omega
    ·have ho:o+n*i.size≤cur.toList.length:=by simp;omega
     have hdrop:(cur.toList.take (o+n*i.size)).drop o=xs:=by
      rw [←htake,List.drop_take]
      congr 1
      omega
     have hlo:o≤(cur.toList.take (o+n*i.size)).length:=by simp;omega
     simp only [List.append_assoc]
     rw [List.drop_append_of_le_length hlo,hdrop,←List.append_assoc,←hxl]
     exact List.take_left
  ·have hn':¬(n+m≤cap):=hfit
   have h63':¬(9223372036854775807<((n:Int)+(m:Int))):=by omega
   have h48:¬(281474976710656<Builtin.nextslicecap (n+m) cap*i.bytes):=by
    have:=growslice_fits (need:=n+m) (old:=cap) (by omega) hbytes
    omega
   have hfo:(Builtin.firstCells i.size n (.slice (some ⟨g,o,none⟩) n cap)).run P w.drew=.ok xs.toArray w.drew:=by
    refine run_firstCells_some (P:=P) w.drew i.size n ⟨g,o,none⟩ n cap xs hown.1 (fun j y hy => ?_)
    have hj:j<n*i.size:=by have:=(List.getElem?_eq_some_iff.1 hy).1;have:=hown.1;omega
    rw [World.cell?_drew,←hy,←Own.cells (h:=hown) j hj]
    by_cases hj0:j=0
    ·subst hj0;simp [Addr.add]
    ·simp [Addr.add,hj0]
   refine ⟨.slice (some ⟨w.heap.size,0,none⟩) (n+m) (grownCap w (n+m) cap e),w.drew.alloc (.cells (xs.toArray++news.toArray++Builtin.zeroCells z.cells (grownCap w (n+m) cap e-(n+m))) e),?_,?_,((Chg.refl _ w).drew.alloc _),.inr rfl⟩
   ·rcases hu with ⟨e',hu⟩|hu
    all_goals
     simp [Builtin.append_,run_underlying ht,run_underlying hu,sizeOf,typeInfo,zeroValue,hi,hz,hlen,hn',h63',h48,Question.forced,hfo,hfd,newRow,grownCap]
     congr 2
     apply Array.ext'
     simp [List.append_assoc]
   ·have hge:=grownCap_ge w (n+m) cap e
    refine ⟨hxl,.inr ⟨w.heap.size,0,_,_,rfl,heap_alloc_new w.drew _,hge,grownCap_le_maxLen w (n+m) cap e h63,?_,?_⟩⟩
    ·simp only [Array.size_append,List.size_toArray,size_zeroCells,hzs,hown.1,hl,←Nat.add_mul,Nat.zero_add]
     exact Nat.mul_le_mul_right _ (by omega)
    ·simp only [Array.toList_append,List.append_assoc,List.drop_zero]
     rw [←List.append_assoc,←hxl]
     exact List.take_left
theorem Own.shape {w:World} {e:TypeId} {size:Nat} {v:Value} {n:Nat} {xs:List Value} (h:Own w e size v n xs):∃ ao cap,v=.slice ao n cap:=by
 rcases h.2 with ⟨rfl,rfl⟩|⟨g,o,cap,cur,rfl,_⟩
 ·exact ⟨_,_,rfl⟩
 ·exact ⟨_,_,rfl⟩
def abl (ao:Option Addr):List Nat:=match ao with|some a=>[a.block]|none=>[]
@[simp] theorem abl_some (a:Addr):abl (some a)=[a.block]:=rfl
@[simp] theorem abl_none:abl none=[]:=rfl
@[simp] theorem blkOf_slice (ao:Option Addr) (n c:Nat):blkOf (.slice ao n c)=abl ao:=by cases ao<;>rfl
theorem wpList_append_src {P:Program} (w:World) {ops:Array Oper} {rest:List Oper} {o:Oper} {a:Act} {Q:Exit→Act→World→Prop} (hgd:o.guard=none) (s x:Operand) (t u:TypeId)
 (ho:o.op=.call { callee:=.builtin .append,args:=#[s,x],argTypes:=#[t,u] })
 (e:TypeId) (z:Value) (size bytes:Nat) (ht:P.underlying t=some (.slice e)) (hinfo:(P.info? e).map (fun i=>(i.zero,i.size,i.bytes))=some (some z,size,bytes))
 (hzs:z.cells.size=size) (hsz:0<size)
 (v:Value) (n:Nat) (xs:List Value) (hs:a.eval s=v) (hown:Own w e size v n xs)
 (xv:Value) (m:Nat) (news:List Value) (hx:a.eval x=xv) (hsrc:Src P w u size xv m news) (h1:∀ y∈news,y.oneCell'=true)
 (h63:n+m≤maxLen) (hbytes:(n+m)*bytes≤140737488355328)
 (h:∀ ao cap w',Own w' e size (.slice ao (n+m) cap) (n+m) (xs++news)→Chg (blkOf v) w w'→(∀ b∈abl ao,b∈blkOf v∨w.heap.size≤b)→wpList P ops Q rest (a.put o.dst (.slice ao (n+m) cap)) w'):wpList P ops Q (o::rest) a w:=by
 obtain ⟨i,hi,hz0,hz1,hz2⟩:=info_parts hinfo
 obtain ⟨v',w',hr,h2,h3,h4⟩:=run_append_src (P:=P) w t u o.type e i z size bytes ht hi hz0 hz1 hz2 hzs hsz v n xs hown xv m news hsrc h1 h63 hbytes
 obtain ⟨ao,cap,rfl⟩:=h2.shape
 refine wpList_plain hgd fun _ hK => ?_
 unfold Oper.wp execOp
 simp only [ho,resolve,invoke,builtin,Sem.run_bind,Sem.run_pure,Result.andThen_ok,List.map_toArray,List.map_cons,List.map_nil,hs,hx,hr]
 refine hK _ _ (h ao cap w' h2 h3 (fun b hb => ?_))
 rcases h4 with h4|h4
 ·left;rw [←h4];simpa using hb
 ·right
  rw [blkOf_slice] at h4
  rw [h4] at hb
  simp at hb
  omega
theorem Own.lit (w:World) (e:TypeId) (size n:Nat) (cs:Array Value) (h:cs.size=n*size) (hm:n≤maxLen):Own (w.alloc (.cells cs e)) e size (.slice (some ⟨w.heap.size,0,none⟩) n n) n cs.toList:=
 ⟨by simpa using h,.inr ⟨w.heap.size,0,n,cs,rfl,heap_alloc_new w _,Nat.le_refl _,hm,by omega,by rw [List.drop_zero,←h];exact List.take_of_length_le (by simp)⟩⟩
structure Mv (F:List Nat) (w:World) (F':List Nat) (w':World):Prop where
 chg:Chg F w w'
 fr:∀ b∈F',b∈F∨w.heap.size≤b
namespace Mv
variable {F F1 F2 G:List Nat} {w w1 w2:World}
theorem refl (F:List Nat) (w:World):Mv F w F w:=⟨Chg.refl F w,fun _ h=>.inl h⟩
theorem trans (h:Mv F w F1 w1) (k:Mv F1 w1 F2 w2):Mv F w F2 w2:=
 ⟨h.chg.trans' k.chg h.fr,fun b hb=>by
  rcases k.fr b hb with h1|h1
  ·exact h.fr b h1
  ·right;exact Nat.le_trans h.chg.size h1⟩
theorem apart (h:Mv F w F1 w1) (hg:∀ b∈G,b∉F) (hl:∀ b∈G,b<w.heap.size):∀ b∈G,b∉F1:=fun b hb hb1=>by
 rcases h.fr b hb1 with h1|h1
 ·exact hg b hb h1
 ·have:=hl b hb;omega
theorem chg_own {w0:World} (h:Mv F w F1 w1) (h0:Chg [] w0 w) (hf:∀ b∈F,w0.heap.size≤b):Chg [] w0 w1:=h0.trans' h.chg (fun b hb=>.inr (hf b hb))
theorem own {w0:World} (h:Mv F w F1 w1) (h0:Chg [] w0 w) (hf:∀ b∈F,w0.heap.size≤b):∀ b∈F1,w0.heap.size≤b:=fun b hb=>by
 rcases h.fr b hb with h1|h1
 ·exact hf b h1
 ·exact Nat.le_trans h0.size h1
theorem of_chg (h:Chg F w w1):Mv F w F w1:=⟨h,fun _ hb=>.inl hb⟩
theorem alloc (F:List Nat) (w:World) (o:Obj):Mv F w F (w.alloc o):=of_chg ((Chg.refl F w).alloc o)
end Mv
def u64s (us:List Nat):List Value:=us.map fun u:Nat=>Value.int .u64 (u:Int)
@[simp] theorem u64s_length (us:List Nat):(u64s us).length=us.length:=by simp [u64s]
@[go_sem] theorem bytes_getElem (l:List UInt8) (i:Nat) (h:i<(ByteArray.mk l.toArray).size):(ByteArray.mk l.toArray)[i]'h=l[i]'(by simpa [ByteArray.size] using h):=rfl
theorem run_string_rd {P:Program} {w:World} {src dst e:TypeId} (hs:P.underlying src=some (.slice e)) (he:P.underlying e=some (.int .u8)) (hd:P.underlying dst=some .string)
 {v:Value} {n:Nat} {l:List UInt8} (h:Rd w 1 v n (u8s l)):(convert src dst v).run P w=.ok (.string ⟨l.toArray⟩) w:=by
 obtain ⟨h1,ao,cap,rfl,h2⟩:=h
 have hn:l.length=n:=by simpa using h1
 rcases h2 with rfl|⟨b,o,rfl,hc⟩
 ·obtain rfl:l=[]:=List.eq_nil_of_length_eq_zero hn
  cases ao with
  | none=>exact run_convert_bytes_nil w src e hs he _ _ dst hd
  | some a =>
    rw [run_convert_bytes_string w src dst e _ 0 cap hs he hd,run_bytesToString w _ 0 cap [] (run_loadCells_list (P:=P) w a [] (by simp))]
    rfl
 ·rw [run_convert_bytes_arg w src e hs he b o n cap (l.map fun c=>(c.toNat:Int)) (by simpa using hn) (fun i hi => ?_) dst hd]
  ·congr 2
   simp only [strOfNums,List.map_map]
   congr 2
   conv=>rhs;rw [←List.map_id l]
   apply List.map_congr_left
   intro c _
   simp
  ·rw [hc i (by omega)]
   have hil:i<l.length:=by omega
   simp [u8s,List.getElem?_eq_getElem hil,List.getD]
theorem Rd.lit1 (w:World) (x:Value) (t:TypeId) (c:Nat):Rd (w.alloc (.cells #[x] t)) 1 (.slice (some ⟨w.heap.size,0,none⟩) 1 c) 1 [x]:=by
 refine ⟨rfl,_,_,rfl,.inr ⟨_,_,rfl,fun j hj => ?_⟩⟩
 obtain rfl:j=0:=by omega
 rw [Nat.zero_add,(Blk.alloc_new w #[x] t).cell 0]
 rfl
theorem Rd.lit (w:World) (cs:Array Value) (t:TypeId) (size n c:Nat) (h:cs.size=n*size):Rd (w.alloc (.cells cs t)) size (.slice (some ⟨w.heap.size,0,none⟩) n c) n cs.toList:=by
 refine ⟨by simpa using h,_,_,rfl,.inr ⟨_,_,rfl,fun j hj => ?_⟩⟩
 rw [Nat.zero_add,(Blk.alloc_new w cs t).cell j]
 simp
theorem u8s_oneCell (l:List UInt8):∀ y∈u8s l,y.oneCell'=true:=by
 intro y hy
 simp only [u8s,List.mem_map] at hy
 obtain ⟨b,_,rfl⟩:=hy
 rfl
end Go.Proofs.YthoolcpcmhhkpaaGreatDoor
namespace Go.Proofs.YthoolcpcmhhkpaaGreatDoor
open Go.RowKit
def Old (B:Nat) (v:Value) (n:Nat):Prop:=∀ x∈blkOf v,x<B∨n=0
theorem Old.mono {B B':Nat} {v:Value} {n:Nat} (h:Old B v n) (hB:B≤B'):Old B' v n:=fun x hx=>(h x hx).imp (fun h=>Nat.lt_of_lt_of_le h hB) id
end Go.Proofs.YthoolcpcmhhkpaaGreatDoor
namespace Go.Proofs.YthoolcpcmhhkpaaGreatDoor
open Go.ChangeShapes Go.WideShapes Go.ChangeAt Go.RowKit
open Go.ChangeMaps (open_string shut_string)
section
variable {H:Type} {enc:TypeId × Value→H} {P:Program} {W:World}
def Reached (P:Program) (t:TypeId) (d:DataW H):Prop:=(d.weights P t).all (·≤reachBytes)=true
theorem reached_cons {t:TypeId} {ts:List TypeId} {d:DataW H} {ds:List (DataW H)} (h:(DataW.weightsEach P (t::ts) (d::ds)).all (·≤reachBytes)=true) :
 Reached P t d∧(DataW.weightsEach P ts ds).all (·≤reachBytes)=true:=by
 rw [DataW.weightsEach,List.all_append,Bool.and_eq_true] at h
 exact h
theorem reached_all {t:TypeId}:∀ {ds:List (DataW H)},(DataW.weightsAll P t ds).all (·≤reachBytes)=true→∀ d∈ds,Reached P t d:=by
 intro ds
 induction ds with
 | nil=>intro _ d hd;cases hd
 | cons a r ih =>
   intro h d hd
   rw [DataW.weightsAll,List.all_append,Bool.and_eq_true] at h
   rcases List.mem_cons.1 hd with rfl|hd
   ·exact h.1
   ·exact ih h.2 d hd
theorem mapM_cells {w:World} {a:Addr}:∀ {n:Nat} {cs:List Value},(List.range n).mapM (fun i=>w.cell? (a.add i))=some cs→cs.length=n∧∀ i,i<n→w.cell? (a.add i)=cs[i]?:=by
 intro n
 induction n with
 | zero=>intro cs h;simp at h;subst h;simp
 | succ n ih =>
   intro cs h
   rw [List.range_succ,List.mapM_append] at h
   simp only [List.mapM_cons,List.mapM_nil,Option.bind_eq_bind,Option.pure_def] at h
   obtain ⟨c1,h1,h⟩:=Option.bind_eq_some_iff.1 h
   obtain ⟨c2,h2,h⟩:=Option.bind_eq_some_iff.1 h
   obtain ⟨x,hx,h2⟩:=Option.bind_eq_some_iff.1 h2
   simp at h2 h
   subst h2
   subst h
   obtain ⟨hl,hc⟩:=ih h1
   refine ⟨by simp [hl],fun i hi => ?_⟩
   by_cases hin:i<n
   ·rw [hc i hin,List.getElem?_append_left (by omega)]
   ·obtain rfl:i=n:=by omega
    rw [hx,List.getElem?_append_right (by omega),hl]
    simp
theorem open_rows {t e:TypeId} {v:Value} {d:DataW H} {ps:List MemPlace} {r:Reach} {b0:Nat} (ht:P.underlying t=some (.slice e)) (hval:Value.okWide P W r b0 t v)
 (hd:DataW.Trod enc P W 0 (fun _=>true) true t v d ps) (hr:Reached P t d) (hpos:0<P.cellsOf e) :
 ∃ (ao:Option Addr) (cap:Nat) (xs:List (List Value)),v=.slice ao xs.length cap∧Rd W (P.cellsOf e) v xs.length xs.flatten∧(∀ b∈abl ao,b<W.heap.size∨xs.length=0) ∧
   xs.length*P.bytesOf e≤140737488351232∧xs.length≤maxLen ∧
   ∀ x∈xs,x.length=P.cellsOf e∧∃ (n:Nat) (y:DataW H × List MemPlace),DataW.trod enc P W 0 (fun _=>true) true n e x=some y∧Reached P e y.1:=by
 obtain ⟨a0,len0,cp,rfl⟩:=okWide_slice ht hval
 obtain ⟨fuel,hf⟩:=hd
 rcases Go.Deep.open_slice ht hf with ⟨hcs,hx⟩|⟨a,len,cap,m,n,D,Pl,hcs,_,hlc,hcm,hm,hx,hel⟩
 ·simp [Value.cells] at hcs
  obtain ⟨rfl,rfl,rfl⟩:=hcs
  exact ⟨none,0,[],rfl,⟨by simp,none,0,rfl,.inl rfl⟩,by simp,by simp,by simp [maxLen],by simp⟩
 ·simp [Value.cells] at hcs
  obtain ⟨rfl,rfl,rfl⟩:=hcs
  simp only [Prod.mk.injEq] at hx
  obtain ⟨rfl,rfl⟩:=hx
  simp only [if_true] at hm
  obtain rfl:=hm.symm
  simp only [Reached,DataW.weights,ht,List.all_cons,List.all_append,Bool.and_eq_true,reachBytes] at hr
  obtain ⟨hr0,hr1,_⟩:=hr
  have hr0:=of_decide_eq_true hr0
  have key:∀ i,i<len0→∃ x:List Value,x.length=P.cellsOf e∧(∀ j,j<P.cellsOf e→W.cell? ((a.add (i*P.cellsOf e)).add j)=x[j]?)∧∃ (n:Nat) (y:DataW H × List MemPlace),DataW.trod enc P W 0 (fun _=>true) true n e x=some y∧Reached P e y.1:=by
   intro i hi
   obtain ⟨x,h1,h2⟩:=hel i (by omega)
   simp only [World.cells?,Nat.zero_le,if_true] at h1
   obtain ⟨hl,hc⟩:=mapM_cells h1
   exact ⟨x,hl,hc,n,_,h2,reached_all hr1 _ (List.mem_map.2 ⟨i,by simpa using hi,rfl⟩)⟩
  obtain ⟨X,hX⟩:=Go.Deep.choose_lt key
  have hlen:((List.range len0).map X).length=len0:=by simp
  have hfl:∀ n,n≤len0→(((List.range n).map X).flatten).length=n*P.cellsOf e:=by
   intro n
   induction n with
   | zero=>simp
   | succ n ih =>
     intro hn
     rw [List.range_succ,List.map_append,List.flatten_append,List.length_append,ih (by omega)]
     simp [(hX n (by omega)).1,Nat.succ_mul]
  have hget:∀ n i j,n≤len0→i<n→j<P.cellsOf e→(((List.range n).map X).flatten)[i*P.cellsOf e+j]? = (X i)[j]?:=by
   intro n
   induction n with
   | zero=>intro i j _ hi;omega
   | succ n ih =>
     intro i j hn hi hj
     rw [List.range_succ,List.map_append,List.flatten_append]
     by_cases hin:i<n
     ·rw [List.getElem?_append_left,ih i j (by omega) hin hj]
      rw [hfl n (by omega)]
      have:(i+1)*P.cellsOf e≤n*P.cellsOf e:=Nat.mul_le_mul_right _ (by omega)
      rw [Nat.succ_mul] at this
      omega
     ·obtain rfl:i=n:=by omega
      rw [List.getElem?_append_right (by rw [hfl i (by omega)];omega),hfl i (by omega)]
      simp
  refine ⟨some a,cp,(List.range len0).map X,by rw [hlen],?_,?_,?_,by rw [hlen];omega,?_⟩
  ·rw [hlen]
   refine ⟨hfl len0 (Nat.le_refl _),some a,cp,rfl,?_⟩
   by_cases h0:len0=0
   ·exact .inl h0
   ·right
    obtain ⟨b,off,spot⟩:=a
    have hspot:spot=none:=by
     obtain ⟨hl,hc,_⟩:=hX 0 (by omega)
     have:=hc 0 hpos
     have hs:(X 0)[0]? = some ((X 0)[0]'(by omega)):=List.getElem?_eq_getElem _
     rw [hs] at this
     simpa [Addr.add] using World.cell?_spot this
    subst hspot
    refine ⟨b,off,rfl,fun j hj => ?_⟩
    have hdiv:j / P.cellsOf e<len0:=Nat.div_lt_of_lt_mul (by rw [Nat.mul_comm];exact hj)
    have hmod:=Nat.mod_lt j hpos
    have e1:=hget len0 (j / P.cellsOf e) (j % P.cellsOf e) (Nat.le_refl _) hdiv hmod
    have e2:=(hX (j / P.cellsOf e) hdiv).2.1 (j % P.cellsOf e) hmod
    rw [Nat.mul_comm,Nat.div_add_mod] at e1
    rw [e1,←e2,Go.Deep.add_add,Nat.mul_comm,Nat.div_add_mod]
    by_cases hj0:j=0
    ·subst hj0;simp [Addr.add]
    ·simp [Addr.add,hj0]
  ·intro b hb
   by_cases h0:len0=0
   ·exact .inr (by simpa using h0)
   ·left
    simp only [abl_some,List.mem_singleton] at hb
    subst hb
    obtain ⟨hl,hc,_⟩:=hX 0 (by omega)
    have:=hc 0 hpos
    have hs:(X 0)[0]? = some ((X 0)[0]'(by omega)):=List.getElem?_eq_getElem _
    rw [hs] at this
    have hlt:=World.block_lt_of_cell? W _ this
    simpa [Addr.add] using hlt
  ·rw [hlen]
   have:len0*P.bytesOf e≤(((List.range len0).map D).length+((List.range (cp-len0)).map fun j=>D (len0+j)).length)*P.bytesOf e:=Nat.mul_le_mul_right _ (by simp)
   omega
  ·intro x hx
   obtain ⟨i,hi,rfl⟩:=List.mem_map.1 hx
   obtain ⟨h1,_,h2⟩:=hX i (by simpa using hi)
   exact ⟨h1,h2⟩
theorem choose_list {α:Type} {p:α→Prop} {f:α→List Value}:∀ {xs:List (List Value)},(∀ x∈xs,∃ a,x=f a∧p a)→∃ ys:List α,xs=ys.map f∧∀ a∈ys,p a:=by
 intro xs
 induction xs with
 | nil=>intro _;exact ⟨[],rfl,by simp⟩
 | cons x r ih =>
   intro h
   obtain ⟨a,ha,hp⟩:=h x (by simp)
   obtain ⟨ys,has,hps⟩:=ih (fun y hy=>h y (by simp [hy]))
   exact ⟨a::ys,by simp [ha,has],by intro b hb;rcases List.mem_cons.1 hb with rfl|hb;exact hp;exact hps b hb⟩
theorem trodAll_below (hl:laidOutB P=true) {W':World} (hb:Below W.heap.size W W'):∀ {ts:List TypeId} {vs:List Value} {ds:List (DataW H)} {ps:List MemPlace},
 (ts.all fun t=>P.readableRec t&&decide (t<P.types.size))=true→DataW.TrodAll enc P W 0 (fun _=>true) true ts vs ds ps→(∀ x∈ps,x.block<W.heap.size) →
 DataW.TrodAll enc P W' 0 (fun b=>decide (b<W.heap.size)) true ts vs ds ps:=by
 intro ts
 induction ts with
 | nil =>
   intro vs ds ps _ h _
   cases vs<;>cases ds<;>simp_all [DataW.TrodAll]
 | cons t ts ih =>
   intro vs ds ps hr h hlt
   obtain ⟨v,vs',d,ds',p,q,rfl,rfl,rfl,h0,h1⟩:=trodAll_cons h
   rw [List.all_cons,Bool.and_eq_true,Bool.and_eq_true,decide_eq_true_eq] at hr
   exact trodAll_cons_mk (Below.trod hl hr.1.1 hr.1.2 h0 hb (fun x hx=>hlt x (by simp [hx]))) (ih hr.2 h1 (fun x hx=>hlt x (by simp [hx])))
theorem post_law {f:Func} {s:ChangeSpec} {W':World} {args:Array Value} {ds:List (DataW H)} {before:List MemPlace} {tb:TypeId}
 (hl:laidOutB P=true) (hread:(f.params.toList.all fun t=>P.readableRec t&&decide (t<P.types.size))=true) (htb:P.underlying tb=some .bool) (hf:f.resultTypes=#[tb]) (hvars:s.vars=[])
 (hres:(s.fn H ds).results=[.lit (.bool true)]) (hargs:(s.fn H ds).args=ds) (hv:(s.fn H ds).vars=[])
 (hW:DataW.Whole enc P f.params.toList s.vars false W args.toList ds [] before) (hb:Below W.heap.size W W') :
 s.post enc P f false true false false W args (.bool true) W':=by
 have hlt:∀ x∈before,x.block<W.heap.size:=fun x hx=>hW.lt x hx
 have hW':=hW
 obtain ⟨p,q,hA,hV,rfl,_,_⟩:=hW
 rw [hvars] at hV
 obtain ⟨_,rfl⟩:=trodVars_none hV
 refine ⟨ds,[],_,[],p,[],hW',?_,?_,?_,hb.frame _,fun h=>by cases h⟩
 ·rw [List.append_nil,hf,hres]
  exact trodAll_mk1 (shut_bool htb _)
 ·rw [List.append_nil,hargs]
  exact trodAll_below hl hb hread hA (fun x hx=>hlt x (by simp [hx]))
 ·rw [hvars,List.append_nil,hv]
  rfl
end
end Go.Proofs.YthoolcpcmhhkpaaGreatDoor
