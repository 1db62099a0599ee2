/- Parts of the proofs of this seat: abstract values over the model, and what the functions of the program do. No condition. -/
import GoSem.Dispatch
set_option linter.all false
set_option maxRecDepth 100000
namespace Go.Av
section
variable {α:Type} (f:α→Int)
def TA(x:α):List α→List α
 |[]=>[x]
 |y::l=>if f y≤f x then y::TA x l else x::y::l
def By:List α→List α→List α
 |[],m=>m
 |x::l,[]=>x::l
 |x::l,y::m=>if f x≤f y then x::By l (y::m) else y::By (x::l) m
termination_by a b=>a.length+b.length
def BZ(l:List α):List α:=l.foldl (fun acc x=>TA f x acc) []
def Dg(l:List α):Prop:=l.Pairwise fun a b=>f a≤f b
variable {f}
@[simp] theorem U9(m:List α):By f [] m=m:=by rw[By]
@[simp] theorem SI(l:List α):By f l []=l:=by cases l<;>rw[By]
theorem BK(x y:α)(l m:List α):By f (x::l) (y::m)=if f x≤f y then x::By f l (y::m) else y::By f (x::l) m:=by rw[By]
theorem LQ:∀(l m:List α),(By f l m).length=l.length+m.length
 |[],m=>by simp
 |x::l,[]=>by simp
 |x::l,y::m=>by
  rw[BK];split
  ·rw[List.length_cons,LQ l (y::m)];simp;omega
  ·rw[List.length_cons,LQ (x::l) m];simp;omega
termination_by l m=>l.length+m.length
theorem PK(x:α):∀l:List α,By f l [x]=TA f x l
 |[]=>by simp[TA]
 |y::l=>by
  rw[BK,TA,SI,PK x l]
theorem Ig:∀(a b c:List α),By f (By f a b) c=By f a (By f b c)
 |[],b,c=>by simp
 |x::a,[],c=>by simp
 |x::a,y::b,[]=>by simp
 |x::a,y::b,z::c=>by
  have i1:=Ig a (y::b) (z::c);have i2:=Ig (x::a) b (z::c);have i3:=Ig (x::a) (y::b) c
  by_cases h1:f x≤f y
  ·rw[BK x y,if_pos h1,BK y z] at*
   by_cases h2:f x≤f z
   ·rw[BK x z,if_pos h2,i1]
    by_cases h3:f y≤f z
    ·rw[if_pos h3,BK x y,if_pos h1]
    ·rw[if_neg h3,BK x z,if_pos h2]
   ·have h3:¬f y≤f z:=by omega
    rw[BK x z,if_neg h2,if_neg h3,BK x z,if_neg h2,i3]
  ·rw[BK x y,if_neg h1] at*
   by_cases h3:f y≤f z
   ·rw[BK y z,if_pos h3,i2,BK y z,if_pos h3,BK x y,if_neg h1]
   ·have h2:¬f x≤f z:=by omega
    rw[BK y z,if_neg h3,BK y z,if_neg h3,BK x z,if_neg h2,i3]
termination_by a b c=>a.length+b.length+c.length
theorem Iw(l:List α)(x:α):BZ f (l++[x])=By f (BZ f l) [x]:=by
 rw[BZ,List.foldl_append,PK];rfl
theorem XT:BZ f ([]:List α)=[]:=rfl
theorem Po(a b:List α):BZ f (a++b)=By f (BZ f a) (BZ f b):=by
 have:∀(n:Nat) (b:List α),b.length=n→BZ f (a++b)=By f (BZ f a) (BZ f b):=by
  intro n
  induction n with
  |zero=>intro b h;rw[List.length_eq_zero_iff.1 h];simp[XT]
  |succ n ih=>
   intro b h;have hb:b≠[]:=by intro e;rw[e] at h;simp at h
   obtain⟨c,x,rfl⟩:∃c x,b=c++[x]:=⟨b.dropLast,b.getLast hb,(List.dropLast_concat_getLast hb).symm⟩;rw[←List.append_assoc,Iw,ih c (by simpa using h),Iw,Ig]
 exact this _ b rfl
theorem bP{x z:α}:∀{l:List α},z∈TA f x l↔z=x∨z∈l
 |[]=>by simp[TA]
 |y::l=>by
  rw[TA];split
  ·simp only[List.mem_cons,bP (l:=l)];constructor
   ·rintro (h|h|h)<;>simp[h]
   ·rintro (h|h|h)<;>simp[h]
  ·simp
theorem Lr{z:α}:∀(l m:List α),z∈By f l m↔z∈l∨z∈m
 |[],m=>by simp
 |x::l,[]=>by simp
 |x::l,y::m=>by
  rw[BK];split
  ·simp only[List.mem_cons,Lr l (y::m)];constructor
   ·rintro (h|h|h|h)<;>simp[h]
   ·rintro ((h|h)|h|h)<;>simp[h]
  ·simp only[List.mem_cons,Lr (x::l) m];constructor
   ·rintro (h|(h|h)|h)<;>simp[h]
   ·rintro ((h|h)|h|h)<;>simp[h]
termination_by l m=>l.length+m.length
theorem KG:∀{l m:List α},Dg f l→Dg f m→Dg f (By f l m)
 |[],m,_,h=>by simpa using h
 |x::l,[],h,_=>by simpa using h
 |x::l,y::m,hl,hm=>by
  rw[BK];have hl':=List.pairwise_cons.1 hl;have hm':=List.pairwise_cons.1 hm;split
  ·rename_i h;refine List.pairwise_cons.2 ⟨fun z hz=>?_,KG hl'.2 hm⟩
   rcases (Lr _ _).1 hz with hz|hz
   ·exact hl'.1 z hz
   ·rcases List.mem_cons.1 hz with rfl|hz
    ·exact h
    ·have:=hm'.1 z hz;omega
  ·rename_i h;refine List.pairwise_cons.2 ⟨fun z hz=>?_,KG hl hm'.2⟩
   rcases (Lr _ _).1 hz with hz|hz
   ·rcases List.mem_cons.1 hz with rfl|hz
    ·omega
    ·have:=hl'.1 z hz;omega
   ·exact hm'.1 z hz
termination_by l m=>l.length+m.length
theorem Fj(l:List α):Dg f (BZ f l):=by
 have:∀(n:Nat) (b:List α),b.length=n→Dg f (BZ f b):=by
  intro n
  induction n with
  |zero=>intro b h;rw[List.length_eq_zero_iff.1 h];exact List.Pairwise.nil
  |succ n ih=>
   intro b h;have hb:b≠[]:=by intro e;rw[e] at h;simp at h
   obtain⟨c,x,rfl⟩:∃c x,b=c++[x]:=⟨b.dropLast,b.getLast hb,(List.dropLast_concat_getLast hb).symm⟩;rw[Iw];exact KG (ih c (by simpa using h)) (List.pairwise_singleton _ _)
 exact this _ l rfl
theorem Cj(l:List α):(BZ f l).length=l.length:=by
 have:∀(l acc:List α),(l.foldl (fun acc x=>TA f x acc) acc).length=acc.length+l.length:=by
  intro l
  induction l with
  |nil=>intro acc;simp
  |cons x l ih=>
   intro acc;have hi:∀m:List α,(TA f x m).length=m.length+1:=fun m=>by
    rw[←PK,LQ];rfl
   rw[List.foldl_cons,ih,hi,List.length_cons];omega
 have:=this l [];simpa[BZ] using this
theorem GH{z:α}(l:List α):z∈BZ f l↔z∈l:=by
 have:∀(l acc:List α),z∈l.foldl (fun acc x=>TA f x acc) acc↔z∈acc∨z∈l:=by
  intro l
  induction l with
  |nil=>intro acc;simp
  |cons x l ih=>
   intro acc;rw[List.foldl_cons,ih,bP,List.mem_cons];constructor
   ·rintro ((h|h)|h)<;>simp[h]
   ·rintro (h|h|h)<;>simp[h]
 have:=this l [];simpa[BZ] using this
theorem RR:∀{u v:List α},(∀x∈u,∀y∈v,f x≤f y)→By f u v=u++v
 |[],v,_=>by simp
 |x::u,[],_=>by simp
 |x::u,y::v,h=>by
  rw[BK,if_pos (h x (by simp) y (by simp)),RR (fun a ha b hb=>h a (by simp[ha]) b hb)]
  rfl
theorem Ej:∀(uf ub vf vb:List α),Dg f (uf++ub)→Dg f (vf++vb)→(∀x∈uf,∀y∈vb,f x≤f y)→(∀y∈vf,∀x∈ub,f y < f x)→By f (uf++ub) (vf++vb)=By f uf vf++By f ub vb
 |[],ub,[],vb,_,_,_,_=>by simp
 |x::uf,ub,[],vb,hu,hv,h1,h2=>by
  have hu':=List.pairwise_cons.1 hu;have ih:=Ej uf ub [] vb hu'.2 hv (fun a ha=>h1 a (by simp[ha])) h2
  cases vb with
  |nil=>simp
  |cons y vb=>
   rw[List.cons_append,List.nil_append,BK,if_pos (h1 x (by simp) y (by simp))]
   simp only[List.nil_append,SI] at ih;rw[ih];simp
 |[],ub,y::vf,vb,hu,hv,h1,h2=>by
  have hv':=List.pairwise_cons.1 hv;have ih:=Ej [] ub vf vb hu hv'.2 h1 (fun a ha=>h2 a (by simp[ha]))
  cases ub with
  |nil=>simp
  |cons x ub=>
   have:=h2 y (by simp) x (by simp)
   rw[List.nil_append,List.cons_append,BK,if_neg (by omega)]
   simp only[List.nil_append,U9] at ih;rw[ih];simp
 |x::uf,ub,y::vf,vb,hu,hv,h1,h2=>by
  have hu':=List.pairwise_cons.1 hu;have hv':=List.pairwise_cons.1 hv;rw[List.cons_append,List.cons_append,BK,BK];split
  ·have ih:=Ej uf ub (y::vf) vb hu'.2 hv (fun a ha=>h1 a (by simp[ha])) h2
   rw[List.cons_append] at ih;rw[ih];rfl
  ·have ih:=Ej (x::uf) ub vf vb hu hv'.2 h1 (fun a ha=>h2 a (by simp[ha]))
   rw[List.cons_append] at ih;rw[ih];rfl
termination_by uf ub vf vb=>uf.length+vf.length
end
end Go.Av
