/- Parts of the proofs of this seat: abstract values over the model, and what the functions of the program do. No condition. -/
import Derived.Test.YtgilicomkelmdaaGreatDoorM9
import Derived.Test.YtgilicomkelmdaaGreatDoorM10
import Derived.Test.YtgilicomkelmdaaGreatDoorY19
set_option linter.all false
set_option maxRecDepth 100000
namespace Go.Av
open Go.Proofs
def Rm(o:OpN):Bool:=decide (o.path.length≤1100)&&(decide (o.image.length≤2000)&&decide (o.n≤3000))
def Zz(l:List OpN)(most:Int):Bool:=decide ((l.length:Int)≤most)&&l.all Rm
theorem VW{o:OpN}:Rm o=true↔o.path.length≤1100∧o.image.length≤2000∧o.n≤3000:=by simp[Rm]
theorem UF{l:List OpN}{most:Int}:Zz l most=true↔(l.length:Int)≤most∧∀o∈l,Rm o=true:=by simp[Zz]
theorem Zw{w0:World}{S:St}{l:List OpN}{r:Rt}{most:Int}(hl:l.length≤1000000000){Q:AV→St→Prop}(hq:Q (.int .i64 (if Zz l most=true then 1 else 0)) S):AC w0 Mc [.vs 6 (l.map OpN.c) r,.int .i64 most] S Q:=by
 apply YU;unfold Sg
 by_cases c:most < l.length
 ·have e:Zz l most=false:=by
   rw[←Bool.not_eq_true,UF];rintro⟨h,_⟩;omega
  rw[e] at hq;simp[AH,c];simpa using hq
 ·simp[AH,c];refine Ak l (fun i (_:Unit)=>([.int .i64 i],[])) (fun i _ S'=>S'=S∧∀o∈l.take i,Rm o=true) () rfl ⟨rfl,by simp⟩ ?_ ?_
  ·rintro i _ S' v b o hi hxi hd hcc hmem ⟨rfl,hal⟩ hv;simp at hv;have hbad:Rm o=false→Q (.int .i64 0) S':=fun h=>by
    have e:Zz l most=false:=by
     rw[←Bool.not_eq_true,UF];rintro⟨_,h2⟩;rw[h2 o hmem] at h;cases h
    rw[e] at hq;simpa using hq
   have hoc:o.c=[.int .i64 o.kind,.str o.path,.int .i64 o.off,.int .i64 o.n,.int .i64 o.id,.str o.image]:=rfl;simp[hv,hcc,hxi,hoc]
   by_cases c1:1100 < o.path.length
   ·simp[show (1100:Int) < o.path.length by omega]
    exact hbad (by simp[Rm];omega)
   by_cases c2:2000 < o.image.length
   ·simp[show ¬(1100:Int) < o.path.length by omega,show (2000:Int) < o.image.length by omega]
    exact hbad (by simp[Rm];omega)
   by_cases c3:3000 < o.n
   ·simp[show ¬(1100:Int) < o.path.length by omega,show ¬(2000:Int) < o.image.length by omega,c3]
    exact hbad (by simp[Rm];omega)
   ·simp[show ¬(1100:Int) < o.path.length by omega,show ¬(2000:Int) < o.image.length by omega,c3]
    try simp (disch:=omega) only[wrap64]
    refine .next hi () rfl ⟨rfl,?_⟩;intro x hx;rw[List.take_succ,hxi] at hx;rcases List.mem_append.1 hx with hx|hx
    ·exact hal x hx
    ·simp at hx;subst hx;exact VW.2 ⟨by omega,by omega,by omega⟩
  ·rintro _ S' v b ⟨rfl,hal⟩ hv N;simp at hv;rw[List.take_length] at hal;have e:Zz l most=true:=UF.2 ⟨by omega,hal⟩
   rw[e] at hq;simp[hv];simpa using hq
end Go.Av
