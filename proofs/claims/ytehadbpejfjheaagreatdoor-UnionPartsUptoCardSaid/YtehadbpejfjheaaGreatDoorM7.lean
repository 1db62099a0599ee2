/- Parts of the proofs of this seat: abstract values over the model, and what the functions of the program do. No condition. -/
import Derived.Test.YtehadbpejfjheaaGreatDoorM6
import Derived.Below
set_option linter.all false
set_option maxRecDepth 100000
namespace Go.Av
open Go.RowKit
def G0(W:World):Gh:={imm:=fun b o=>W.cell? ⟨b,o,none⟩,rho:=fun _=>none,role:=fun _=>.ext,len:=fun _=>0}
theorem ej(E:Env):Rel E (G0 E.w0) E.w0 []:=
{os:=rfl,tape:=rfl,output:=rfl,size:=Nat.le_refl _,old:=fun b hb=>⟨rfl,rfl⟩,imm:=fun b o v h=>h,role:=fun b hb=>rfl,
  noimm:=fun b hb=>(by
   rcases hb with ⟨id,h⟩|⟨t,h⟩
   ·cases h
   ·cases h),
  rho:=fun id b h=>(by cases h),
  len:=fun b h=>(h rfl).elim,
  obj:=fun id o h=>by simp at h}
theorem SK{E:Env}{G:Gh}{w:World}{S:St}(h:Rel E G w S):Below E.w0.heap.size E.w0 w:=
 ⟨h.os,h.tape,h.output,h.size,fun k hk=>(h.old k hk).1⟩
theorem W7{E:Env}{n:Nat}{args:List AV}(h:AN E n args [] fun r _=>r= .bool true){args':Array Value}(hl:args'.size=args.length)
  (ha:∀(i:Nat) (x:AV) (v:Value),args[i]? =some x→args'[i]? =some v→VR (G0 E.w0) v x∧x.free=true∧x.strip=x):
  Calls E.P n args' E.w0 fun e w'=>e= .returned (.bool true)∧Below E.w0.heap.size E.w0 w':=
 (h.2 (G0 E.w0) E.w0 (ej E) (fun b=>.inr (.inr rfl)) args' hl ha).mono fun e w' ⟨v,r,S',G',h1,h2,h3,h4,_⟩=>by
  subst h2;have:=h4.vr;cases this;exact⟨h1,SK h3⟩
end Go.Av
