/- Parts of the proofs of this seat: abstract values over the model, and what the functions of the program do. No condition. -/
import GoSem.Dispatch
set_option linter.all false
namespace Go.Av
section
variable {α:Type} (f:α→Int)
def Ru(x:α):List α→List α
 |[]=>[x]
 |y::l=>if f y≤f x then y::Ru x l else x::y::l
def CK:List α→List α→List α
 |[],m=>m
 |x::l,[]=>x::l
 |x::l,y::m=>if f x≤f y then x::CK l (y::m) else y::CK (x::l) m
termination_by a b=>a.length+b.length
def B9(l:List α):List α:=l.foldl (fun acc x=>Ru f x acc) []
def Dx(l:List α):Prop:=l.Pairwise fun a b=>f a≤f b
variable {f}
@[simp] theorem TR(m:List α):CK f [] m=m:=by rw[CK]
@[simp] theorem Q6(l:List α):CK f l []=l:=by cases l<;>rw[CK]
theorem BO(x y:α)(l m:List α):CK f (x::l) (y::m)=if f x≤f y then x::CK f l (y::m) else y::CK f (x::l) m:=by rw[CK]
theorem LO:∀(l m:List α),(CK f l m).length=l.length+m.length
 |[],m=>by simp
 |x::l,[]=>by simp
 |x::l,y::m=>by
  rw[BO];split
  ·rw[List.length_cons,LO l (y::m)];simp;omega
  ·rw[List.length_cons,LO (x::l) m];simp;omega
termination_by l m=>l.length+m.length
theorem OA(x:α):∀l:List α,CK f l [x]=Ru f x l
 |[]=>by simp[Ru]
 |y::l=>by
  rw[BO,Ru,Q6,OA x l]
theorem IZ:∀(a b c:List α),CK f (CK f a b) c=CK f a (CK f b c)
 |[],b,c=>by simp
 |x::a,[],c=>by simp
 |x::a,y::b,[]=>by simp
 |x::a,y::b,z::c=>by
  have i1:=IZ a (y::b) (z::c);have i2:=IZ (x::a) b (z::c);have i3:=IZ (x::a) (y::b) c
  by_cases h1:f x≤f y
  ·rw[BO x y,if_pos h1,BO y z] at*
   by_cases h2:f x≤f z
   ·rw[BO x z,if_pos h2,i1]
    by_cases h3:f y≤f z
    ·rw[if_pos h3,BO x y,if_pos h1]
    ·rw[if_neg h3,BO x z,if_pos h2]
   ·have h3:¬f y≤f z:=by omega
    rw[BO x z,if_neg h2,if_neg h3,BO x z,if_neg h2,i3]
  ·rw[BO x y,if_neg h1] at*
   by_cases h3:f y≤f z
   ·rw[BO y z,if_pos h3,i2,BO y z,if_pos h3,BO x y,if_neg h1]
   ·have h2:¬f x≤f z:=by omega
    rw[BO y z,if_neg h3,BO y z,if_neg h3,BO x z,if_neg h2,i3]
termination_by a b c=>a.length+b.length+c.length
theorem Kz(l:List α)(x:α):B9 f (l++[x])=CK f (B9 f l) [x]:=by
 rw[B9,List.foldl_append,OA];rfl
theorem VE:B9 f ([]:List α)=[]:=rfl
theorem Pp(a b:List α):B9 f (a++b)=CK f (B9 f a) (B9 f b):=by
 have:∀(n:Nat) (b:List α),b.length=n→B9 f (a++b)=CK f (B9 f a) (B9 f b):=by
  intro n
  induction n with
  |zero=>intro b h;rw[List.length_eq_zero_iff.1 h];simp[VE]
  |succ n ih=>
   intro b h;have hb:b≠[]:=by intro e;rw[e] at h;simp at h
   obtain⟨c,x,rfl⟩:∃c x,b=c++[x]:=⟨b.dropLast,b.getLast hb,(List.dropLast_concat_getLast hb).symm⟩;rw[←List.append_assoc,Kz,ih c (by simpa using h),Kz,IZ]
 exact this _ b rfl
theorem YG{x z:α}:∀{l:List α},z∈Ru f x l↔z=x∨z∈l
 |[]=>by simp[Ru]
 |y::l=>by
  rw[Ru];split
  ·simp only[List.mem_cons,YG (l:=l)];constructor
   ·rintro (h|h|h)<;>simp[h]
   ·rintro (h|h|h)<;>simp[h]
  ·simp
theorem Kq{z:α}:∀(l m:List α),z∈CK f l m↔z∈l∨z∈m
 |[],m=>by simp
 |x::l,[]=>by simp
 |x::l,y::m=>by
  rw[BO];split
  ·simp only[List.mem_cons,Kq l (y::m)];constructor
   ·rintro (h|h|h|h)<;>simp[h]
   ·rintro ((h|h)|h|h)<;>simp[h]
  ·simp only[List.mem_cons,Kq (x::l) m];constructor
   ·rintro (h|(h|h)|h)<;>simp[h]
   ·rintro ((h|h)|h|h)<;>simp[h]
termination_by l m=>l.length+m.length
theorem Jp:∀{l m:List α},Dx f l→Dx f m→Dx f (CK f l m)
 |[],m,_,h=>by simpa using h
 |x::l,[],h,_=>by simpa using h
 |x::l,y::m,hl,hm=>by
  rw[BO];have hl':=List.pairwise_cons.1 hl;have hm':=List.pairwise_cons.1 hm;split
  ·rename_i h;refine List.pairwise_cons.2 ⟨fun z hz=>?_,Jp hl'.2 hm⟩
   rcases (Kq _ _).1 hz with hz|hz
   ·exact hl'.1 z hz
   ·rcases List.mem_cons.1 hz with rfl|hz
    ·exact h
    ·have:=hm'.1 z hz;omega
  ·rename_i h;refine List.pairwise_cons.2 ⟨fun z hz=>?_,Jp hl hm'.2⟩
   rcases (Kq _ _).1 hz with hz|hz
   ·rcases List.mem_cons.1 hz with rfl|hz
    ·omega
    ·have:=hl'.1 z hz;omega
   ·exact hm'.1 z hz
termination_by l m=>l.length+m.length
theorem GR(l:List α):Dx f (B9 f l):=by
 have:∀(n:Nat) (b:List α),b.length=n→Dx f (B9 f b):=by
  intro n
  induction n with
  |zero=>intro b h;rw[List.length_eq_zero_iff.1 h];exact List.Pairwise.nil
  |succ n ih=>
   intro b h;have hb:b≠[]:=by intro e;rw[e] at h;simp at h
   obtain⟨c,x,rfl⟩:∃c x,b=c++[x]:=⟨b.dropLast,b.getLast hb,(List.dropLast_concat_getLast hb).symm⟩;rw[Kz];exact Jp (ih c (by simpa using h)) (List.pairwise_singleton _ _)
 exact this _ l rfl
theorem Db(l:List α):(B9 f l).length=l.length:=by
 have:∀(l acc:List α),(l.foldl (fun acc x=>Ru f x acc) acc).length=acc.length+l.length:=by
  intro l
  induction l with
  |nil=>intro acc;simp
  |cons x l ih=>
   intro acc;have hi:∀m:List α,(Ru f x m).length=m.length+1:=fun m=>by
    rw[←OA,LO];rfl
   rw[List.foldl_cons,ih,hi,List.length_cons];omega
 have:=this l [];simpa[B9] using this
theorem Id{z:α}(l:List α):z∈B9 f l↔z∈l:=by
 have:∀(l acc:List α),z∈l.foldl (fun acc x=>Ru f x acc) acc↔z∈acc∨z∈l:=by
  intro l
  induction l with
  |nil=>intro acc;simp
  |cons x l ih=>
   intro acc;rw[List.foldl_cons,ih,YG,List.mem_cons];constructor
   ·rintro ((h|h)|h)<;>simp[h]
   ·rintro (h|h|h)<;>simp[h]
 have:=this l [];simpa[B9] using this
theorem P3:∀{u v:List α},(∀x∈u,∀y∈v,f x≤f y)→CK f u v=u++v
 |[],v,_=>by simp
 |x::u,[],_=>by simp
 |x::u,y::v,h=>by
  rw[BO,if_pos (h x (by simp) y (by simp)),P3 (fun a ha b hb=>h a (by simp[ha]) b hb)]
  rfl
theorem Eq:∀(uf ub vf vb:List α),Dx f (uf++ub)→Dx f (vf++vb)→(∀x∈uf,∀y∈vb,f x≤f y)→(∀y∈vf,∀x∈ub,f y < f x)→CK f (uf++ub) (vf++vb)=CK f uf vf++CK f ub vb
 |[],ub,[],vb,_,_,_,_=>by simp
 |x::uf,ub,[],vb,hu,hv,h1,h2=>by
  have hu':=List.pairwise_cons.1 hu;have ih:=Eq uf ub [] vb hu'.2 hv (fun a ha=>h1 a (by simp[ha])) h2
  cases vb with
  |nil=>simp
  |cons y vb=>
   rw[List.cons_append,List.nil_append,BO,if_pos (h1 x (by simp) y (by simp))]
   simp only[List.nil_append,Q6] at ih;rw[ih];simp
 |[],ub,y::vf,vb,hu,hv,h1,h2=>by
  have hv':=List.pairwise_cons.1 hv;have ih:=Eq [] ub vf vb hu hv'.2 h1 (fun a ha=>h2 a (by simp[ha]))
  cases ub with
  |nil=>simp
  |cons x ub=>
   have:=h2 y (by simp) x (by simp)
   rw[List.nil_append,List.cons_append,BO,if_neg (by omega)]
   simp only[List.nil_append,TR] at ih;rw[ih];simp
 |x::uf,ub,y::vf,vb,hu,hv,h1,h2=>by
  have hu':=List.pairwise_cons.1 hu;have hv':=List.pairwise_cons.1 hv;rw[List.cons_append,List.cons_append,BO,BO];split
  ·have ih:=Eq uf ub (y::vf) vb hu'.2 hv (fun a ha=>h1 a (by simp[ha])) h2
   rw[List.cons_append] at ih;rw[ih];rfl
  ·have ih:=Eq (x::uf) ub vf vb hu hv'.2 h1 (fun a ha=>h2 a (by simp[ha]))
   rw[List.cons_append] at ih;rw[ih];rfl
termination_by uf ub vf vb=>uf.length+vf.length
end
end Go.Av
