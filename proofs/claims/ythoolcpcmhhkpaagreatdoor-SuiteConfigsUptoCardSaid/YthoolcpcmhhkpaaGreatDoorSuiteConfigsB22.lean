/-
  Parts of a proof, pressed. Conditions: the form's own reach.
-/
import Derived.Test.YthoolcpcmhhkpaaGreatDoorSuiteConfigsB21
import Derived.Test.YthoolcpcmhhkpaaGreatDoorSuiteConfigsB3
namespace Go.Proofs.YthoolcpcmhhkpaaGreatDoor
def halveL:List Int→Bool→List Int
 | [],_=>[]
 | x::l,false=>x::halveL l true
 | _::l,true=>halveL l false
def upL (l:List Int) (x:Int):Nat:=l.countP fun y=>decide (y≤x)
def up (l:List Int):Prop:=∀ j k,(hjk:j<k)→(h:k<l.length)→l[j]'(by omega)≤l[k]
theorem up_tail {p:Int} {l:List Int} (h:up (p::l)):up l:=fun j k hjk hk=>by
 have:=h (j+1) (k+1) (by omega) (by simpa using hk)
 simpa using this
theorem up_head {p:Int} {l:List Int} (h:up (p::l)):∀ q∈l,p≤q:=fun q hq=>by
 obtain ⟨k,hk,rfl⟩:=List.getElem_of_mem hq
 have:=h 0 (k+1) (by omega) (by simpa using hk)
 simpa using this
theorem up_cons {p:Int} {l:List Int} (h:up l) (hp:∀ q∈l,p≤q):up (p::l):=fun j k hjk hk=>by
 cases k with
 | zero=>omega
 | succ k =>
   have hk':k<l.length:=by simpa using hk
   cases j with
   | zero=>simpa using hp _ (List.getElem_mem hk')
   | succ j=>simpa using h j k (by omega) hk'
theorem halveL_sub (l:List Int) (s:Bool):∀ q∈halveL l s,q∈l:=by
 induction l generalizing s with
 | nil=>simp [halveL]
 | cons x l ih =>
   intro q hq
   cases s with
   | false =>
     rcases List.mem_cons.1 hq with rfl|hq
     ·simp
     ·exact List.mem_cons_of_mem _ (ih true q hq)
   | true=>exact List.mem_cons_of_mem _ (ih false q hq)
theorem upL_cons (x y:Int) (l:List Int):upL (y::l) x=upL l x+if y≤x then 1 else 0:=by
 simp [upL,List.countP_cons]
theorem upL_none {l:List Int} {x:Int} (h:∀ q∈l,¬q≤x):upL l x=0:=by
 rw [upL,List.countP_eq_zero]
 intro q hq
 simpa using h q hq
theorem halves {l:List Int} (h:up l) (x:Int):upL (halveL l false) x=(upL l x+1) / 2∧upL (halveL l true) x=upL l x / 2:=by
 induction l with
 | nil=>exact ⟨by simp [halveL,upL],by simp [halveL,upL]⟩
 | cons y l ih =>
   obtain ⟨h1,h2⟩:=ih (up_tail h)
   by_cases hy:y≤x
   ·show upL (y::halveL l true) x=_∧upL (halveL l false) x=_
    rw [upL_cons,upL_cons,h1,h2,if_pos hy]
    omega
   ·have hn:∀ q∈l,¬q≤x:=fun q hq=>by have:=up_head h q hq;omega
    have z:=upL_none hn
    have z1:=upL_none (l:=halveL l true) (x:=x) (fun q hq=>hn q (halveL_sub l true q hq))
    have z2:=upL_none (l:=halveL l false) (x:=x) (fun q hq=>hn q (halveL_sub l false q hq))
    show upL (y::halveL l true) x=_∧upL (halveL l false) x=_
    rw [upL_cons,upL_cons,z,z1,z2,if_neg hy]
    exact ⟨rfl,rfl⟩
def put1 (l:List Int) (x:Int):List Int:=l.take (upL l x)++[x]++l.drop (upL l x)
def sortL (l:List Int):List Int:=l.foldl put1 []
theorem up_app {a b:List Int} (ha:up a) (hb:up b) (hab:∀ p∈a,∀ q∈b,p≤q):up (a++b):=by
 induction a with
 | nil=>simpa using hb
 | cons p a ih =>
   refine up_cons (ih (up_tail ha) (fun p hp q hq=>hab p (by simp [hp]) q hq)) (fun q hq => ?_)
   rcases List.mem_append.1 hq with h|h
   ·exact up_head ha q h
   ·exact hab p (by simp) q h
theorem up_parted {l:List Int} (h:up l) (x:Int):(∀ p∈l.take (upL l x),p≤x)∧(∀ p∈l.drop (upL l x),x<p)∧upL l x≤l.length:=by
 induction l with
 | nil=>simp [upL]
 | cons y l ih =>
   obtain ⟨h1,h2,h3⟩:=ih (up_tail h)
   rw [upL_cons]
   by_cases hy:y≤x
   ·rw [if_pos hy,List.take_succ_cons,List.drop_succ_cons]
    refine ⟨fun p hp => ?_,h2,by simp;omega⟩
    rcases List.mem_cons.1 hp with rfl|hp
    ·exact hy
    ·exact h1 p hp
   ·have z:=upL_none (l:=l) (x:=x) (fun q hq=>by have:=up_head h q hq;omega)
    rw [if_neg hy,z]
    refine ⟨by simp,fun p hp => ?_,by simp⟩
    simp only [Nat.add_zero,List.drop_zero] at hp
    rcases List.mem_cons.1 hp with rfl|hp
    ·omega
    ·have:=up_head h p hp;omega
theorem up_left {a b:List Int} (h:up (a++b)):up a:=by
 induction a with
 | nil=>intro j k _ hk;simp at hk
 | cons p a ih=>exact up_cons (ih (up_tail h)) (fun q hq=>up_head h q (by simp [hq]))
theorem up_right {a b:List Int} (h:up (a++b)):up b:=by
 induction a with
 | nil=>simpa using h
 | cons p a ih=>exact ih (up_tail h)
theorem put1_up {l:List Int} (h:up l) (x:Int):up (put1 l x):=by
 obtain ⟨h1,h2,_⟩:=up_parted h x
 have he:=List.take_append_drop (upL l x) l
 rw [←he] at h
 have ha:=up_left h
 have hb:=up_right h
 have one:up [x]:=fun j k hjk hk=>by simp at hk;omega
 refine up_app (up_app ha one (fun p hp q hq => ?_)) hb (fun p hp q hq => ?_)
 ·simp at hq;subst hq;exact h1 p hp
 ·have:=h2 q hq
  rcases List.mem_append.1 hp with hp|hp
  ·have:=h1 p hp;omega
  ·simp at hp;subst hp;omega
theorem put1_cnt (l:List Int) (x y:Int):upL (put1 l x) y=upL l y+if x≤y then 1 else 0:=by
 have he:=List.take_append_drop (upL l x) l
 have e:∀ a b:List Int,upL (a++b) y=upL a y+upL b y:=fun a b=>List.countP_append
 have h1:=e (l.take (upL l x)) (l.drop (upL l x))
 rw [he] at h1
 rw [put1,e,e,h1,upL_cons]
 simp only [upL,List.countP_nil]
 omega
theorem put1_len (l:List Int) (x:Int) (h:upL l x≤l.length):(put1 l x).length=l.length+1:=by
 simp [put1]
 omega
theorem sort_ok (l:List Int):up (sortL l)∧(∀ y,upL (sortL l) y=upL l y)∧(sortL l).length=l.length:=by
 have gen:∀ (r:List Int) (acc:List Int),up acc→up (r.foldl put1 acc)∧(∀ y,upL (r.foldl put1 acc) y=upL acc y+upL r y)∧(r.foldl put1 acc).length=acc.length+r.length:=by
  intro r
  induction r with
  | nil=>intro acc h;exact ⟨h,fun y=>by simp [upL],by simp⟩
  | cons x r ih =>
    intro acc h
    obtain ⟨h1,h2,h3⟩:=ih (put1 acc x) (put1_up h x)
    refine ⟨h1,fun y => ?_,?_⟩
    ·rw [List.foldl_cons,h2,put1_cnt,upL_cons];omega
    ·rw [List.foldl_cons,h3,put1_len _ _ (up_parted h x).2.2,List.length_cons];omega
 obtain ⟨h1,h2,h3⟩:=gen l [] (fun j k _ hk=>by simp at hk)
 exact ⟨h1,fun y=>by rw [sortL,h2];simp [upL],by rw [sortL,h3];simp⟩
end Go.Proofs.YthoolcpcmhhkpaaGreatDoor
namespace Go.Proofs.YthoolcpcmhhkpaaGreatDoor
def keepN (n k:Nat):Nat:=if (n-min k n) % 2=1 then min k n+1 else min k n
def stepR (W:Nat) (c:Nat→Bool) (h:Nat) (s:Nat × List (List Int)):Nat × List (List Int):=
 if (s.2.getD h []).length<W then s else
  (s.1+1,((if h+1=s.2.length then s.2++[[]] else s.2).set h ((sortL (s.2.getD h [])).take (keepN (s.2.getD h []).length (W / 2)))).set (h+1)
    ((if h+1=s.2.length then s.2++[[]] else s.2).getD (h+1) []++halveL ((sortL (s.2.getD h [])).drop (keepN (s.2.getD h []).length (W / 2))) (c s.1)))
def settleF (W:Nat) (c:Nat→Bool):Nat→Nat→Nat × List (List Int)→Nat × List (List Int)
 | 0,_,s=>s
 | f+1,h,s=>if h<s.2.length then settleF W c f (h+1) (stepR W c h s) else s
def needF (h:Nat) (s:Nat × List (List Int)):Nat:=2*(s.2.drop h).flatten.length+(s.2.length-h)
def settle (W:Nat) (c:Nat→Bool) (s:Nat × List (List Int)):Nat × List (List Int):=settleF W c (needF 0 s) 0 s
theorem split_at {l:List (List Int)} {h:Nat} (hh:h<l.length):∃ A r B,l=A++r::B∧A.length=h:=
 ⟨l.take h,l[h],l.drop (h+1),by rw [List.getElem_cons_drop,List.take_append_drop],by simp;omega⟩
theorem stepR_split (W:Nat) (c:Nat→Bool) (u:Nat) (A:List (List Int)) (r:List Int) (B:List (List Int)) :
 stepR W c A.length (u,A++r::B)=if r.length<W then (u,A++r::B) else
  (u+1,A++(sortL r).take (keepN r.length (W / 2))::(B.headD []++halveL ((sortL r).drop (keepN r.length (W / 2))) (c u))::B.tail):=by
 have e:(A++r::B).getD A.length []=r:=by simp [List.getD]
 unfold stepR
 simp only [e]
 split
 ·rfl
 ·congr 1
  cases B with
  | nil =>
    have h1:A.length+1=(A++[r]).length:=by simp
    rw [if_pos h1]
    have h2:(A++[r]++[[]]:List (List Int)).getD (A.length+1) []=[]:=by
     rw [List.append_assoc];simp [List.getD]
    rw [h2,List.append_assoc,List.set_append_right _ _ (Nat.le_refl _),Nat.sub_self]
    rw [List.set_append_right _ _ (by omega)]
    simp
  | cons b B =>
    have h1:¬(A.length+1=(A++r::b::B).length):=by simp
    rw [if_neg h1]
    have h2:(A++r::b::B:List (List Int)).getD (A.length+1) []=b:=by simp [List.getD]
    rw [h2,List.set_append_right _ _ (Nat.le_refl _),Nat.sub_self]
    rw [List.set_append_right _ _ (by omega)]
    simp
theorem halveL_length (l:List Int):(halveL l false).length=(l.length+1) / 2∧(halveL l true).length=l.length / 2:=by
 induction l with
 | nil=>exact ⟨rfl,rfl⟩
 | cons x l ih =>
   simp only [halveL,List.length_cons]
   omega
theorem keepN_le {n k:Nat} (h:k≤n):k≤keepN n k∧keepN n k≤k+1∧keepN n k≤n∧(n-keepN n k) % 2=0:=by
 unfold keepN
 rw [Nat.min_eq_left h]
 split<;>omega
theorem half_len {n m W:Nat} (c:Bool) (l:List Int) (hl:l.length=n) (hm:m=keepN n (W / 2)) (hn:W≤n):(halveL ((sortL l).drop m) c).length=(n-m) / 2:=by
 have h1:=halveL_length ((sortL l).drop m)
 have h2:=(sort_ok l).2.2
 have h3:=keepN_le (n:=n) (k:=W / 2) (by omega)
 rw [←hm] at h3
 rw [List.length_drop,h2,hl] at h1
 cases c with
 | true=>exact h1.2
 | false=>rw [h1.1];omega
theorem needF_step {W:Nat} (c:Nat→Bool) {h:Nat} {s:Nat × List (List Int)} (hW:4≤W) (hh:h<s.2.length):needF (h+1) (stepR W c h s)+1≤needF h s:=by
 obtain ⟨u,l⟩:=s
 obtain ⟨A,r,B,rfl,rfl⟩:=split_at hh
 rw [stepR_split]
 have e2:(A++r::B).drop (A.length+1)=B:=by
  rw [show A++r::B=(A++[r])++B by simp,List.drop_left' (by simp)]
 split
 ·unfold needF
  simp only [List.drop_left,e2]
  simp
  omega
 ·next hlt =>
  have hk:=keepN_le (n:=r.length) (k:=W / 2) (by omega)
  have hl:=half_len (W:=W) (c u) r rfl rfl (by omega)
  have e3:(A++(sortL r).take (keepN r.length (W / 2))::(B.headD []++halveL ((sortL r).drop (keepN r.length (W / 2))) (c u))::B.tail).drop (A.length+1)=(B.headD []++halveL ((sortL r).drop (keepN r.length (W / 2))) (c u))::B.tail:=by
   rw [List.append_cons,List.drop_left' (by simp)]
  unfold needF
  simp only [List.drop_left,e3]
  have hB:(B.headD []++halveL ((sortL r).drop (keepN r.length (W / 2))) (c u)).length+B.tail.flatten.length=B.flatten.length+(r.length-keepN r.length (W / 2)) / 2:=by
   rw [List.length_append,hl]
   cases B with
   | nil=>simp
   | cons b B=>simp;omega
  have hT:B.tail.length+1≤B.length+1:=by simp
  rw [List.flatten_cons,List.length_append,hB]
  simp only [List.flatten_cons,List.length_append,List.length_cons]
  cases B with
  | nil=>simp;omega
  | cons b B=>simp;omega
theorem settleF_inv {W:Nat} {c:Nat→Bool} (hW:4≤W) (I:Nat→Nat × List (List Int)→Prop) (hI:∀ h s,I h s→h<s.2.length→I (h+1) (stepR W c h s)) :
 ∀ (f h:Nat) (s:Nat × List (List Int)),needF h s≤f→I h s→∃ h',I h' (settleF W c f h s)∧¬h'<(settleF W c f h s).2.length:=by
 intro f
 induction f with
 | zero=>intro h s hn hi;exact ⟨h,hi,by rw [settleF];unfold needF at hn;omega⟩
 | succ f ih =>
   intro h s hn hi
   rw [settleF]
   by_cases hh:h<s.2.length
   ·rw [if_pos hh]
    exact ih _ _ (by have:=needF_step c hW hh;omega) (hI h s hi hh)
   ·rw [if_neg hh]
    exact ⟨h,hi,hh⟩
theorem settleF_at {W:Nat} {c:Nat→Bool} {B h u:Nat} {rows:List (List Int)} {R:Nat × List (List Int)} (h1:settleF W c (B-h) h (u,rows)=R) (h2:needF h (u,rows)≤B-h) (hW:4≤W) (hh:h<rows.length) :
 h+1≤B∧settleF W c (B-(h+1)) (h+1) (stepR W c h (u,rows))=R∧needF (h+1) (stepR W c h (u,rows))≤B-(h+1):=by
 have h3:=needF_step (s:=(u,rows)) c hW hh
 obtain ⟨m,hm⟩:∃ m,B-h=m+1:=⟨B-h-1,by omega⟩
 rw [hm,settleF,if_pos hh] at h1
 rw [show B-(h+1)=m by omega]
 exact ⟨by omega,h1,by omega⟩
theorem settleF_end {W:Nat} {c:Nat→Bool} {B h u:Nat} {rows:List (List Int)} {R:Nat × List (List Int)} (h1:settleF W c (B-h) h (u,rows)=R) (hh:¬h<rows.length):R=(u,rows):=by
 cases hm:B-h with
 | zero=>rw [hm,settleF] at h1;exact h1.symm
 | succ m=>rw [hm,settleF,if_neg hh] at h1;exact h1.symm
theorem step_flat {W:Nat} (c:Nat→Bool) {h:Nat} {s:Nat × List (List Int)} (hh:h<s.2.length):(stepR W c h s).2.flatten.length≤s.2.flatten.length:=by
 obtain ⟨u,l⟩:=s
 obtain ⟨A,r,B,rfl,rfl⟩:=split_at hh
 rw [stepR_split]
 split
 ·exact Nat.le_refl _
 ·next hlt =>
  have hk:=keepN_le (n:=r.length) (k:=W / 2) (by omega)
  have hl:=half_len (W:=W) (c u) r rfl rfl (by omega)
  simp only [List.flatten_append,List.flatten_cons,List.length_append,hl,List.length_take,(sort_ok r).2.2]
  cases B with
  | nil=>simp;omega
  | cons b B=>simp;omega
end Go.Proofs.YthoolcpcmhhkpaaGreatDoor
namespace Go.Proofs.YthoolcpcmhhkpaaGreatDoor
def wsum (φ:List Int→Nat):List (List Int)→Nat
 | []=>0
 | r::l=>φ r+2*wsum φ l
theorem wsum_app (φ:List Int→Nat) (A B:List (List Int)):wsum φ (A++B)=wsum φ A+2^A.length*wsum φ B:=by
 induction A with
 | nil=>simp [wsum]
 | cons a A ih =>
   simp only [List.cons_append,wsum,ih,List.length_cons,Nat.pow_succ]
   rw [Nat.mul_add,Nat.mul_assoc,Nat.mul_left_comm]
   omega
def totR (l:List (List Int)):Nat:=wsum List.length l
def rankR (x:Int) (l:List (List Int)):Nat:=wsum (fun r=>upL r x) l
theorem upL_app (a b:List Int) (x:Int):upL (a++b) x=upL a x+upL b x:=List.countP_append
theorem wsum_up (φ:List Int→Nat) (hφ:∀ a b,φ (a++b)=φ a+φ b) (B:List (List Int)) (r:List Int) :
 wsum φ ((B.headD []++r)::B.tail)=wsum φ B+φ r:=by
 cases B with
 | nil=>simp [wsum]
 | cons b B=>simp [wsum,hφ];omega
theorem step_wsum (φ:List Int→Nat) (hφ:∀ a b,φ (a++b)=φ a+φ b) (A:List (List Int)) (r:List Int) (B:List (List Int)) (stay half:List Int) :
 wsum φ (A++stay::(B.headD []++half)::B.tail)+2^A.length*φ r=wsum φ (A++r::B)+2^A.length*(φ stay+2*φ half):=by
 have e1:=wsum_up φ hφ B half
 have e2:wsum φ (stay::(B.headD []++half)::B.tail)=φ stay+2*wsum φ ((B.headD []++half)::B.tail):=rfl
 have e3:wsum φ (r::B)=φ r+2*wsum φ B:=rfl
 rw [wsum_app,wsum_app,e2,e1,e3]
 generalize wsum φ B=b
 generalize 2^A.length=p
 rw [Nat.mul_add,Nat.mul_add,Nat.mul_add,Nat.mul_add,Nat.mul_add]
 omega
theorem sort_parts (r:List Int) (m:Nat) (x:Int):upL ((sortL r).take m) x+upL ((sortL r).drop m) x=upL r x:=by
 rw [←upL_app,List.take_append_drop]
 exact (sort_ok r).2.1 x
theorem step_tot {W:Nat} (c:Nat→Bool) {h:Nat} {s:Nat × List (List Int)} (_hW:4≤W) (hh:h<s.2.length):totR (stepR W c h s).2=totR s.2:=by
 obtain ⟨u,l⟩:=s
 obtain ⟨A,r,B,rfl,rfl⟩:=split_at hh
 rw [stepR_split]
 split
 ·rfl
 ·next hlt =>
  have hk:=keepN_le (n:=r.length) (k:=W / 2) (by omega)
  have hl:=half_len (W:=W) (c u) r rfl rfl (by omega)
  have h1:=step_wsum List.length (fun a b=>List.length_append) A r B ((sortL r).take (keepN r.length (W / 2))) (halveL ((sortL r).drop (keepN r.length (W / 2))) (c u))
  rw [hl,List.length_take,(sort_ok r).2.2,Nat.min_eq_left hk.2.2.1] at h1
  have h2:keepN r.length (W / 2)+2*((r.length-keepN r.length (W / 2)) / 2)=r.length:=by omega
  rw [h2] at h1
  exact Nat.add_right_cancel h1
theorem step_rank {W:Nat} (c:Nat→Bool) (x:Int) (A:List (List Int)) (r:List Int) (B:List (List Int)) (u:Nat) (hlt:¬r.length<W) :
 ∃ d,d≤1∧rankR x (stepR W c A.length (u,A++r::B)).2+(if c u then 2^A.length*d else 0)=rankR x (A++r::B)+(if c u then 0 else 2^A.length*d) ∧
   d=upL ((sortL r).drop (keepN r.length (W / 2))) x % 2:=by
 rw [stepR_split,if_neg hlt]
 have h1:=step_wsum (fun r=>upL r x) (fun a b=>upL_app a b x) A r B ((sortL r).take (keepN r.length (W / 2))) (halveL ((sortL r).drop (keepN r.length (W / 2))) (c u))
 have h2:=sort_parts r (keepN r.length (W / 2)) x
 have hup:up ((sortL r).drop (keepN r.length (W / 2))):=by
  have:=(sort_ok r).1
  rw [←List.take_append_drop (keepN r.length (W / 2)) (sortL r)] at this
  exact up_right this
 have h3:=halves hup x
 refine ⟨_,by omega,?_,rfl⟩
 show wsum _ _+_=wsum _ _+_
 generalize wsum (fun r=>upL r x) (A++(sortL r).take (keepN r.length (W / 2))::(B.headD []++halveL ((sortL r).drop (keepN r.length (W / 2))) (c u))::B.tail)=n1 at *
 generalize wsum (fun r=>upL r x) (A++r::B)=n2 at *
 generalize upL ((sortL r).take (keepN r.length (W / 2))) x=a at *
 rw [←h2] at h1
 cases hc:c u with
 | true =>
   rw [hc,h3.2] at h1
   simp only [if_true,Nat.add_zero]
   generalize upL ((sortL r).drop (keepN r.length (W / 2))) x=b at *
   have e:2^A.length*(a+b)=2^A.length*(a+2*(b / 2))+2^A.length*(b % 2):=by
    rw [←Nat.mul_add];congr 1;omega
   omega
 | false =>
   rw [hc,h3.1] at h1
   simp only [Bool.false_eq_true,if_false,Nat.add_zero]
   generalize upL ((sortL r).drop (keepN r.length (W / 2))) x=b at *
   have e:2^A.length*(a+2*((b+1) / 2))=2^A.length*(a+b)+2^A.length*(b % 2):=by
    rw [←Nat.mul_add];congr 1;omega
   omega
def aboveR:List (List Int)→Nat
 | []=>0
 | _::l=>2*totR l+2*aboveR l
theorem aboveR_app (A B:List (List Int)) (C:List (List Int)) (k:Nat) (h1:totR C=totR B) (h2:aboveR C=aboveR B+k):aboveR (A++C)=aboveR (A++B)+2^A.length*k:=by
 induction A with
 | nil=>simpa using h2
 | cons a A ih =>
   have e:totR (A++C)=totR (A++B):=by
    unfold totR
    rw [wsum_app,wsum_app]
    unfold totR at h1
    rw [h1]
   simp only [List.cons_append,aboveR,List.length_cons,Nat.pow_succ,e,ih]
   rw [Nat.mul_comm (2^A.length) 2,Nat.mul_assoc]
   omega
theorem step_above {W:Nat} (c:Nat→Bool) (A:List (List Int)) (r:List Int) (B:List (List Int)) (u:Nat) (_hW:4≤W) (h4:W % 4=0) (hlt:¬r.length<W) :
 aboveR (A++r::B)+2^A.length*(W / 2)≤aboveR (stepR W c A.length (u,A++r::B)).2:=by
 rw [stepR_split,if_neg hlt]
 have hk:=keepN_le (n:=r.length) (k:=W / 2) (by omega)
 have hk2:W / 2≤r.length-keepN r.length (W / 2):=by
  unfold keepN
  rw [Nat.min_eq_left (by omega)]
  split<;>omega
 have hl:=half_len (W:=W) (c u) r rfl rfl (by omega)
 have e0:=wsum_up List.length (fun a b=>List.length_append) B (halveL ((sortL r).drop (keepN r.length (W / 2))) (c u))
 rw [hl] at e0
 generalize halveL ((sortL r).drop (keepN r.length (W / 2))) (c u)=H at *
 have hT:totR ((sortL r).take (keepN r.length (W / 2))::(B.headD []++H)::B.tail)=totR (r::B):=by
  show ((sortL r).take (keepN r.length (W / 2))).length+2*wsum List.length ((B.headD []++H)::B.tail)=r.length+2*wsum List.length B
  rw [e0,List.length_take,(sort_ok r).2.2,Nat.min_eq_left hk.2.2.1]
  omega
 have hA:aboveR ((sortL r).take (keepN r.length (W / 2))::(B.headD []++H)::B.tail)=aboveR (r::B)+(r.length-keepN r.length (W / 2)):=by
  have e1:aboveR ((B.headD []++H)::B.tail)=aboveR B:=by cases B<;>simp [aboveR,totR,wsum]
  show 2*wsum List.length ((B.headD []++H)::B.tail)+2*aboveR ((B.headD []++H)::B.tail)=2*wsum List.length B+2*aboveR B+_
  rw [e0,e1]
  omega
 have:=aboveR_app A (r::B) ((sortL r).take (keepN r.length (W / 2))::(B.headD []++H)::B.tail) _ hT hA
 simp only at this ⊢
 rw [this]
 have:=Nat.mul_le_mul_left (2^A.length) hk2
 omega
end Go.Proofs.YthoolcpcmhhkpaaGreatDoor
namespace Go.Proofs.YthoolcpcmhhkpaaGreatDoor
theorem step_fits {W:Nat} (c:Nat→Bool) {h:Nat} {s:Nat × List (List Int)} (hW:4≤W) (hh:h<s.2.length) (h2:s.2.length≤s.1+1) :
 s.2.length≤(stepR W c h s).2.length∧(stepR W c h s).2.length≤(stepR W c h s).1+1∧(stepR W c h s).1+(stepR W c h s).2.flatten.length≤s.1+s.2.flatten.length:=by
 obtain ⟨u,l⟩:=s
 obtain ⟨A,r,B,rfl,rfl⟩:=split_at hh
 simp only at h2
 rw [stepR_split]
 split
 ·exact ⟨Nat.le_refl _,h2,Nat.le_refl _⟩
 ·next hlt =>
  have hk:=keepN_le (n:=r.length) (k:=W / 2) (by omega)
  have hl:=half_len (W:=W) (c u) r rfl rfl (by omega)
  simp only [List.length_append,List.length_cons,List.flatten_append,List.flatten_cons,hl,List.length_take,(sort_ok r).2.2] at h2 ⊢
  cases B with
  | nil=>simp at h2 ⊢;omega
  | cons b B=>simp at h2 ⊢;omega
theorem settle_fits {W:Nat} {c:Nat→Bool} (hW:4≤W) {s:Nat × List (List Int)} (h1:1≤s.2.length) (h2:s.2.length≤s.1+1) :
 1≤(settle W c s).2.length∧(settle W c s).2.length≤(settle W c s).1+1∧(settle W c s).1+(settle W c s).2.flatten.length≤s.1+s.2.flatten.length:=by
 obtain ⟨h',hi,_⟩:=settleF_inv (c:=c) hW (fun _ t=>1≤t.2.length∧t.2.length≤t.1+1∧t.1+t.2.flatten.length≤s.1+s.2.flatten.length)
  (fun h t hi hh=>by have:=step_fits c hW hh hi.2.1;omega) (needF 0 s) 0 s (Nat.le_refl _) ⟨h1,h2,Nat.le_refl _⟩
 exact hi
theorem settle_short {W:Nat} {c:Nat→Bool} (hW:4≤W) (s:Nat × List (List Int)):∀ r∈(settle W c s).2,r.length<W:=by
 obtain ⟨h',hi,hn⟩:=settleF_inv (c:=c) hW (fun h t=>∀ j (hj:j<t.2.length),j<h→t.2[j].length<W)
  (fun h t hi hh j hj hjh=>by
    obtain ⟨u,l⟩:=t
    obtain ⟨A,r,B,rfl,rfl⟩:=split_at hh
    have hs:=stepR_split W c u A r B
    by_cases hlt:r.length<W
    ·rw [if_pos hlt] at hs
     simp only [hs] at hj ⊢
     by_cases hjA:j<A.length
     ·exact hi j hj hjA
     ·obtain rfl:j=A.length:=by omega
      simpa using hlt
    ·rw [if_neg hlt] at hs
     have hk:=keepN_le (n:=r.length) (k:=W / 2) (by omega)
     simp only [hs] at hj ⊢
     by_cases hjA:j<A.length
     ·have:=hi j (by simp;omega) hjA
      rw [List.getElem_append_left hjA] at this ⊢
      exact this
     ·obtain rfl:j=A.length:=by omega
      rw [List.getElem_append_right (Nat.le_refl _)]
      simp only [Nat.sub_self,List.getElem_cons_zero,List.length_take,(sort_ok r).2.2]
      omega) (needF 0 s) 0 s (Nat.le_refl _) (fun j hj hjh=>by omega)
 intro r hr
 obtain ⟨j,hj,rfl⟩:=List.getElem_of_mem hr
 exact hi j hj (by have:¬h'<(settle W c s).2.length:=hn;omega)
theorem settle_full {W:Nat} {c:Nat→Bool} (hW:4≤W) (s:Nat × List (List Int)) (h:∀ r∈s.2.tail,1≤r.length):∀ r∈(settle W c s).2.tail,1≤r.length:=by
 obtain ⟨h',hi,hn⟩:=settleF_inv (c:=c) hW (fun _ t=>∀ r∈t.2.tail,1≤r.length)
  (fun h t hi hh=>by
    obtain ⟨u,l⟩:=t
    obtain ⟨A,r,B,rfl,rfl⟩:=split_at hh
    rw [stepR_split]
    split
    ·exact hi
    ·next hlt =>
     have hk:=keepN_le (n:=r.length) (k:=W / 2) (by omega)
     have hl:=half_len (W:=W) (c u) r rfl rfl (by omega)
     have hb:1≤(B.headD []++halveL ((sortL r).drop (keepN r.length (W / 2))) (c u)).length:=by
      rw [List.length_append,hl];omega
     have hst:1≤((sortL r).take (keepN r.length (W / 2))).length:=by rw [List.length_take,(sort_ok r).2.2];omega
     intro q hq
     cases A with
     | nil =>
       simp only [List.nil_append,List.tail_cons,List.mem_cons] at hq hi
       rcases hq with rfl|hq
       ·exact hb
       ·exact hi q (List.mem_of_mem_tail hq)
     | cons a A =>
       simp only [List.cons_append,List.tail_cons,List.mem_append,List.mem_cons] at hq hi
       rcases hq with hq|rfl|rfl|hq
       ·exact hi q (.inl hq)
       ·exact hst
       ·exact hb
       ·exact hi q (.inr (.inr (List.mem_of_mem_tail hq)))) (needF 0 s) 0 s (Nat.le_refl _) h
 exact hi
theorem wsum_full:∀ (l:List (List Int)),(∀ r∈l,1≤r.length)→2^l.length≤totR l+1
 | [],_=>by simp [totR,wsum]
 | r::l,h=>by
   have h1:=wsum_full l (fun q hq=>h q (by simp [hq]))
   have h2:=h r (by simp)
   show 2^(l.length+1)≤r.length+2*totR l+1
   rw [Nat.pow_succ]
   omega
theorem rows_few {l:List (List Int)} (h:∀ r∈l.tail,1≤r.length):2^l.length≤totR l+2:=by
 cases l with
 | nil=>simp [totR,wsum]
 | cons r l =>
   have h1:=wsum_full l (by simpa using h)
   show 2^(l.length+1)≤r.length+2*totR l+2
   rw [Nat.pow_succ]
   omega
theorem settle_tot {W:Nat} {c:Nat→Bool} (hW:4≤W) (s:Nat × List (List Int)):totR (settle W c s).2=totR s.2:=by
 obtain ⟨h',hi,hn⟩:=settleF_inv (c:=c) hW (fun _ t=>totR t.2=totR s.2) (fun h t hi hh=>(step_tot c hW hh).trans hi) (needF 0 s) 0 s (Nat.le_refl _) rfl
 exact hi
end Go.Proofs.YthoolcpcmhhkpaaGreatDoor
namespace Go.Proofs.YthoolcpcmhhkpaaGreatDoor
end Go.Proofs.YthoolcpcmhhkpaaGreatDoor
namespace Go.Proofs.YthoolcpcmhhkpaaGreatDoor
open Go.RowKit
theorem halveL_step (l:List Int) (s:Bool) (k:Nat) (h:k<l.length):halveL (l.take (k+1)) s=halveL (l.take k) s++if decide (k % 2=1)==s then [l[k]] else []:=by
 induction l generalizing s k with
 | nil=>simp at h
 | cons x l ih =>
   cases k with
   | zero=>cases s<;>simp [halveL]
   | succ k =>
     have hk:k<l.length:=by simpa using h
     have hpar:decide ((k+1) % 2=1)=!decide (k % 2=1):=by
      rw [Bool.eq_iff_iff]
      simp
      omega
     cases s with
     | false =>
       have:=ih true k hk
       simp only [List.take_succ_cons,halveL,List.getElem_cons_succ,List.cons_append] at this ⊢
       rw [this,hpar]
       cases decide (k % 2=1)<;>simp
     | true =>
       have:=ih false k hk
       simp only [List.take_succ_cons,halveL,List.getElem_cons_succ] at this ⊢
       rw [this,hpar]
       cases decide (k % 2=1)<;>simp
theorem halveL_len (l:List Int) (s:Bool):(halveL l s).length≤l.length:=by
 induction l generalizing s with
 | nil=>simp [halveL]
 | cons x l ih =>
   cases s with
   | false=>have:=ih true;simp [halveL];omega
   | true=>have:=ih false;simp [halveL];omega
set_option maxRecDepth 100000 in
set_option maxHeartbeats 1000000 in
theorem coins_halve (w:World) (ao:Option Addr) (cap:Nat) (l:List Int) (s:Bool) (hr:Rd w 1 (.slice ao l.length cap) l.length (ints l)) (hl:l.length≤1000000) :
 Calls Tryz.prog 220 #[.slice ao l.length cap,.bool s] w fun e w'=>∃ a3 c3,e=.returned (.slice a3 (halveL l s).length c3) ∧
  Own w' 2 1 (.slice a3 (halveL l s).length c3) (halveL l s).length (ints (halveL l s))∧Chg [] w w'∧∀ b∈abl a3,w.heap.size≤b:=by
 have HR:=Lib.hid hr
 clear hr
 go_enter Tryz.func220,Tryz.ntmps220
 go_wp2
 go_loopw [5,10] (fun out j wx=>∃ (k:Nat) (F:List Int) (a3:Option Addr) (c3:Nat),k≤l.length∧j=.int .i64 (k:Nat)∧out=.slice a3 F.length c3∧Hid (F=halveL (l.take k) s)∧F.length≤k ∧
  Own wx 2 1 (.slice a3 F.length c3) F.length (ints F)∧Chg [] w wx∧∀ b∈abl a3,w.heap.size≤b) (fun _ j _=>l.length-(intOf j).toNat)
 case atStart=>exact ⟨0,[],none,0,Nat.zero_le _,rfl,rfl,Lib.hid (by simp [halveL]),Nat.le_refl _,Own.nil _ _ _,Chg.refl _ _,by simp [abl]⟩
 case round =>
  obtain ⟨k,F,a3,c3,hk,rfl,rfl,HF,hFk,ho,hch,hab⟩:=hrel
  by_cases hlt:k<l.length
  ·have hr1:=HR.out.chg hch (by simp)
   obtain ⟨b,o,rfl,hcs⟩:=hr1.addr (by omega)
   have c0:=ints_at hcs k hlt
   have HS:=Lib.hid (halveL_step l s k hlt)
   have hsz:=hch.size
   have hq:((k:Int) % 2==1)=decide (k % 2=1):=by rw [Bool.eq_iff_iff,beq_iff_eq,decide_eq_true_eq];omega
   generalize decide (k % 2=1)=q at *
   generalize l[k]=p at *
   clear hcs hr1
   by_cases hqs:(q==s)=true
   ·rw [if_pos hqs,←HF.out] at HS
    have hrd:Rd (wr.alloc (.cells #[.int .i64 p] 2)) 1 (.slice (some ⟨wr.heap.size,0,none⟩) 1 1) 1 (ints [p]):=Rd.lit1 wr (.int .i64 p) 2 1
    go_wp2_with (at_builtin;go_must (refine wpList_append_src _ rfl (.tmp 20) (.tmp 22) 100 100 rfl 2 _ 1 8 under_ints info_i64 rfl (by decide) (.slice a3 F.length c3) F.length (ints F) rfl (ho.alloc _) (.slice (some ⟨wr.heap.size,0,none⟩) 1 1) 1 (ints [p]) rfl (Src.of_rd under_ints hrd) (ints_oneCell _) (by unfold maxLen;omega) (by omega) ?_;intro a4 c4 w7 ho7 hg7 hf7))
    refine ⟨⟨k+1,F++[p],a4,c4,by omega,by go_num,by simp,Lib.hid HS.out.symm,by simp;omega,by simpa [ints_append] using ho7,(hch.alloc _).trans' hg7 (fun b hb=>.inr (hab b (by simpa using hb))),?_⟩,by simp [intOf];omega⟩
    intro b hb
    rcases hf7 b hb with h|h
    ·exact hab b (by simpa using h)
    ·simp at h;omega
   ·rw [if_neg hqs,List.append_nil,←HF.out] at HS
    have hqf:(q==s)=false:=by simpa using hqs
    clear hqs
    go_wp2
    exact ⟨⟨k+1,F,a3,c3,by omega,by go_num,rfl,Lib.hid HS.out.symm,by omega,ho,hch,hab⟩,by simp [intOf];omega⟩
  ·obtain rfl:k=l.length:=by omega
   rw [List.take_length] at HF
   go_wp2
   go_ret
   rw [←HF.out]
   exact ⟨a3,c3,rfl,ho,hch,hab⟩
end Go.Proofs.YthoolcpcmhhkpaaGreatDoor
namespace Go.Proofs.YthoolcpcmhhkpaaGreatDoor
theorem up_lt {l:List Int} (h:up l) (x:Int) (k:Nat) (hk:k<l.length):l[k]≤x↔k<upL l x:=by
 obtain ⟨h1,h2,h3⟩:=up_parted h x
 constructor
 ·intro hx
  rcases Nat.lt_or_ge k (upL l x) with h4|h4
  ·exact h4
  ·have hm:l[k]∈l.drop (upL l x):=by
    rw [List.mem_iff_getElem]
    refine ⟨k-upL l x,by rw [List.length_drop];omega,?_⟩
    rw [List.getElem_drop]
    congr 1
    omega
   have:=h2 _ hm
   omega
 ·intro hx
  refine h1 _ ?_
  rw [List.mem_iff_getElem]
  exact ⟨k,by rw [List.length_take];omega,by rw [List.getElem_take]⟩
theorem up_unique {a b:List Int} (ha:up a) (hb:up b) (hl:a.length=b.length) (h:∀ x,upL a x=upL b x):a=b:=by
 refine List.ext_getElem hl fun k h1 h2 => ?_
 have e1:=fun x=>up_lt ha x k h1
 have e2:=fun x=>up_lt hb x k h2
 have h3:a[k]≤b[k]:=(e1 _).2 (by rw [h];exact (e2 _).1 (Int.le_refl _))
 have h4:b[k]≤a[k]:=(e2 _).2 (by rw [←h];exact (e1 _).1 (Int.le_refl _))
 omega
theorem msort_eq (l:List Int):l.mergeSort (fun x y=>decide (x≤y))=sortL l:=by
 have hp:=List.mergeSort_perm l (fun x y=>decide (x≤y))
 have hs:=List.pairwise_mergeSort (le:=fun x y:Int=>decide (x≤y)) (fun a b c h1 h2=>by simp at h1 h2 ⊢;omega) (fun a b=>by simp;omega) l
 obtain ⟨q1,q2,q3⟩:=sort_ok l
 refine up_unique (fun j k hjk hk => ?_) q1 (by rw [hp.length_eq,q3]) (fun x => ?_)
 ·have:=List.pairwise_iff_getElem.1 hs j k (by omega) hk hjk
  simpa using this
 ·rw [q2]
  exact hp.countP_eq _
end Go.Proofs.YthoolcpcmhhkpaaGreatDoor
namespace Go.Proofs.YthoolcpcmhhkpaaGreatDoor
open Go.RowKit
end Go.Proofs.YthoolcpcmhhkpaaGreatDoor
