/- Parts of the proofs of this seat: abstract values over the model, and what the functions of the program do. No condition. -/
import Derived.Test.YtjkffbaienbmkaaGreatDoorY19
import Derived.Lib.Split
set_option linter.all false
namespace Go.Av
def cutN:Nat→Str→List Str
 |0,s=>[s]
 |k+1,s=>match cutB s with|none=>[s]|some p=>p.1::cutN k p.2
theorem cutB_len{s:Str}{p:Str×Str}(h:cutB s=some p):p.1.length+p.2.length+1=s.length:=by
 obtain⟨h1,_⟩:=cutB_some (a:=p.1) (b:=p.2) h;rw[h1];simp;omega
theorem cutN_stab:∀(k m:Nat) (s:Str),s.length≤k→k≤m→cutN k s=cutN m s
 |0,m,s,h,_=>by
  have:s=[]:=List.eq_nil_of_length_eq_zero (by omega)
  subst this;cases m<;>rfl
 |k+1,m,s,h,hm=>by
  obtain⟨m',rfl⟩:∃m',m=m'+1:=⟨m - 1,by omega⟩
  rw[cutN,cutN];cases hc:cutB s with
  |none=>rfl
  |some p=>
   have:=cutB_len hc;simp only;rw[cutN_stab k m' p.2 (by omega) (by omega)]
theorem cutN_min(n:Nat)(s:Str)(hn:1≤n):cutN (min n (s.length+1) - 1) s=cutN (n - 1) s:=by
 by_cases h:n≤s.length+1
 ·rw[Nat.min_eq_left h]
 ·rw[Nat.min_eq_right (by omega)]
  exact cutN_stab _ _ _ (by omega) (by omega)
def numbersP(rest:Bool)(s:Str):Option (Int×Int×Str):=
 match cutB s with
 |none=>none
 |some (a,r2)=>
  if rest=true then
   match cutB r2 with
   |none=>none
   |some (b,p)=>match numOf a,numOf b with
    |some x,some y=>some (x,y,p)
    |_,_=>none
  else match numOf a,numOf r2 with
   |some x,some y=>some (x,y,[])
   |_,_=>none
theorem numbersP_true{s:Str}:numbersP true s=match cutN 2 s with|[a,b,p]=>(match numOf a,numOf b with|some x,some y=>some (x,y,p)|_,_=>none)|_=>none:=by
 unfold numbersP;rw[cutN];cases hc:cutB s with
 |none=>rfl
 |some p=>
  obtain⟨a,r2⟩:=p;simp only[if_true];rw[cutN];cases hc2:cutB r2 with
  |none=>rfl
  |some q=>rfl
theorem numbersP_false{s:Str}:numbersP false s=match cutN 1 s with|[a,b]=>(match numOf a,numOf b with|some x,some y=>some (x,y,[])|_,_=>none)|_=>none:=by
 unfold numbersP;rw[cutN];cases hc:cutB s with
 |none=>rfl
 |some p=>rfl
theorem parseP_eq(line:Str):parseP line=match cutB line with
 |none=>none
 |some (w,rest)=>
  if 10∈line then none else
  if kindOf w=0 then none
  else if kindOf w=4 then (numbersP true rest).map fun t=>⟨4,t.2.2,t.1,t.2.1,0,[]⟩
  else if kindOf w=6 then (numbersP false rest).map fun t=>⟨6,[],0,t.2.1,t.1,[]⟩
  else if kindOf w=7∨kindOf w=9 then (numOf rest).map fun x=>⟨kindOf w,[],0,0,x,[]⟩
  else if kindOf w=8 then (bytesS rest).map fun x=>⟨8,[],0,0,0,x⟩
  else some ⟨kindOf w,rest,0,0,0,[]⟩:=by
 unfold parseP;cases hc:cutB line with
 |none=>rfl
 |some p=>
  obtain⟨w,rest⟩:=p;simp only;split
  ·rfl
  split
  ·rfl
  split
  ·unfold numbersP;cases h1:cutB rest with
   |none=>rfl
   |some q=>
    obtain⟨a,r2⟩:=q;simp only[if_true];cases h2:cutB r2 with
    |none=>rfl
    |some q2=>
     obtain⟨b,p⟩:=q2;simp only;cases numOf a<;>cases numOf b<;>rfl
  split
  ·unfold numbersP;cases h1:cutB rest with
   |none=>rfl
   |some q=>
    obtain⟨a,r2⟩:=q;simp only[Bool.false_eq_true,if_false];cases numOf a<;>cases numOf r2<;>rfl
  ·rfl
end Go.Av
