/- What functions of the program answer,whatever their arguments. -/
import Derived.Test.YtaecnniddhikbaaGreatDoorP0
import Derived.Test.YtaecnniddhikbaaGreatDoorX5
import Derived.Test.YtaecnniddhikbaaGreatDoorE7
import Derived.Test.YtaecnniddhikbaaGreatDoorP15
import Derived.Test.YtaecnniddhikbaaGreatDoorVD
set_option linter.unusedSectionVars false
set_option linter.unnecessarySimpa false
set_option linter.unusedSimpArgs false
set_option linter.unusedVariables false
set_option maxRecDepth 100000
set_option maxHeartbeats 8000000
namespace Go.Proofs.YtaecnniddhikbaaGreatDoor
open Go Go.VA
structure Bd where
 n:ByteArray
 v:V
structure Sp where
 y:Ky
 s:Nat→UInt8
structure Ac where
 k:Int
 y:Ky
 p:V
 w:V
 h:List Int
structure Pl where
 c:Nat→UInt8
 a:Int
 s:Int
 b:List Bd
 t:List Sp
 x:List Ac
def bd0:Bd:=⟨ByteArray.empty,V.z⟩
def sp0:Sp:=⟨ky0,fun _=>0⟩
def ac0:Ac:=⟨0,ky0,V.z,V.z,[]⟩
abbrev cBd (b:Bd):List C:= .v (.string b.n)::cV b.v
abbrev rBd (l:List Bd):Nat→List C:=rowE cBd bd0 l
abbrev cSp (x:Sp):List C:=cKy x.y++sumC x.s
abbrev rSp (l:List Sp):Nat→List C:=rowE cSp sp0 l
abbrev rIn (l:List Int):Nat→List C:=rowE (fun i=>[C.v (.int .i64 i)]) 0 l
abbrev cAc (x:Ac):List C:= .v (.int .i64 x.k)::(cKy x.y++(cV x.p++(cV x.w++[.sl false 1 x.h.length (rIn x.h)])))
abbrev rAc (l:List Ac):Nat→List C:=rowE cAc ac0 l
abbrev cPt (u v w:Bool) (p:Pl):List C:=[.v (.int .u64 p.a),.v (.int .u64 p.s),.sl u 9 p.b.length (rBd p.b),.sl v 38 p.t.length (rSp p.t),.sl w 24 p.x.length (rAc p.x)]
abbrev cPl (u v w:Bool) (p:Pl):List C:=sumC p.c++cPt u v w p
theorem mPut_end {k:Value}{y:AV}:∀ {m:List (Value×AV)},mFind k m=none→mPut k y m=m++[(k,y)]
 | [],_=>rfl
 | p::r,h=>by
  simp only [mFind] at h
  split at h
  ·simp at h
  ·rename_i hq
   simp only [mPut,hq,List.cons_append]
   rw [mPut_end h]
theorem leMs {a b:List (Value×AV)}(h:a=b):LeMs a b:=h ▸ LeMs.refl _
def metS (l:List Bd):List (Value×AV):=l.map fun b=>(.string b.n,.ag [])
def hasS (l:List Bd) (n:ByteArray):Bool:=l.any fun b=>eqs b.n n
theorem mOk_st (l:List Bd):mOk .str (metS l)=true:=by
 induction l with
 | nil=>rfl
 | cons b l ih=>exact ih
theorem mFind_st (n:ByteArray):∀ l:List Bd,mFind (.string n) (metS l)=if hasS l n then some (.ag []) else none
 | []=>rfl
 | b::l=>by
  have e:(n==b.n)=eqs b.n n:=by
   rw [Bool.eq_iff_iff,ba_beq,eqs_iff]
   exact ⟨fun h=>h.symm,fun h=>h.symm⟩
  show (match (n==b.n) with|true=>some (AV.ag [])|false=>mFind (.string n) (metS l))=_
  rw [e,mFind_st n l]
  show _=if (eqs b.n n||hasS l n)=true then _ else _
  cases eqs b.n n<;>simp
theorem lawS (l:List Bd)(n:ByteArray):MFind (.string n) (.ag []) (metS l) (.ag [],hasS l n):=by
 unfold MFind
 rw [mFind_st]
 cases hasS l n
 ·exact ⟨Le.refl _,rfl⟩
 ·exact ⟨Le.refl _,rfl⟩
def vrQ (l:List Bd) (j:Nat):Bool:= !hasS (l.take j) (l.getD j bd0).n&&nameB (l.getD j bd0).n&&checkR (l.getD j bd0).v&&known (l.getD j bd0).v
theorem metS_next {l:List Bd}{c:Nat}(hc:c<l.length)(h:vrQ l c=true):mPut (.string (l.getD c bd0).n) (.ag []) (metS (l.take c))=metS (l.take (c+1)):=by
 have h0:hasS (l.take c) (l.getD c bd0).n=false:=by
  unfold vrQ at h
  simp only [Bool.and_eq_true,Bool.not_eq_true'] at h
  exact h.1.1.1
 have e:l[c]? =some (l.getD c bd0):=by rw [List.getD_eq_getElem?_getD,List.getElem?_eq_getElem hc]; rfl
 rw [mPut_end (by rw [mFind_st,h0]; rfl),take_snoc? e]
 unfold metS
 rw [List.map_append]; rfl
def varsB (l:List Bd):Bool:=allQ (vrQ l) l.length&&decide ((l.length:Int)≤128)
theorem varsB_f {l:List Bd}{c:Nat}(hc:c<l.length)(h:vrQ l c=false):varsB l=false:=by unfold varsB; rw [allQ_f hc h]; rfl
theorem varsB_t {l:List Bd}(h:∀ j,j<l.length→vrQ l j=true):varsB l=decide ((l.length:Int)≤128):=by unfold varsB; rw [allQ_t h]; rfl
theorem vrQ_eq (l:List Bd)(c:Nat)(b:Bool)(h:(hasS (l.take c) (l.getD c bd0).n|| !nameB (l.getD c bd0).n||(if checkR (l.getD c bd0).v=true then (0:Int) else 1) != 0|| !known (l.getD c bd0).v)=b):vrQ l c= !b:=by
 rw [ckA] at h
 unfold vrQ
 subst h
 cases hasS (l.take c) (l.getD c bd0).n<;>cases nameB (l.getD c bd0).n<;>cases checkR (l.getD c bd0).v<;>cases known (l.getD c bd0).v<;>rfl
theorem aVars (t:Bool)(l:List Bd):ACall Tryz.prog gl 30 [.c (.sl t 9 l.length (rBd l))] [] (boolA (varsB l)):=by
 refine acall_of_vcb htb hmix (f:=30) rfl rfl rfl (by kernel_rfl) rfl rfl fun hb=> ?_; simp only [bndAll,AV.bnd,bnds,C.bnd,cVt,cS,true_and,and_true] at hb; conv=>whnf
 have hn:l.length≤140737488355328:=hb.1
 repeat' (fail)
 refine loopI Nat (fun c=>c≤l.length∧∀ j,j<c→vrQ l j=true) (fun c=>[(11,intA .i64 c)]) (fun c=>[.mp (metS (l.take c))]) (fun c=>l.length-c) 0 ⟨Nat.zero_le _,fun j hj=>absurd hj (Nat.not_lt_zero _)⟩ ?_ (fun _=>rfl) fun c ⟨hc,hp⟩=> ?_
 ·(refine And.intro ?_ (And.intro ?_ (And.intro ?_ rfl))<;>(conv=>whnf)<;>repeat' (first|exact trivial|exact LeE.of (Le.refl _)|(first|exact rfl|fail)|((with_reducible refine And.intro ?_ ?_)<;>conv=>whnf)))
 ·by_cases hcl:c<l.length
  ·have hC:(0:Int)≤(c:Int)∧(c:Int)<(l.length:Int):=by omega
   have LAW:=lawS (l.take c) (l.getD c bd0).n
   have NM:=aName6 (l.getD c bd0).n
   have P:=aCheck false false (l.getD c bd0).v
   rw [checkV_if] at P
   have KN:=aKnown (l.getD c bd0).v false false
   conv=>whnf
   repeat' (first|(refine Exists.intro _ (And.intro (LAW) ?_); conv=>whnf)|((with_reducible refine GOr.l ?_); (conv=>whnf); refine Exists.intro _ (And.intro (chainI (NM)) ?_); conv=>whnf)|((with_reducible refine GOr.l ?_); (conv=>whnf); refine Exists.intro _ (And.intro (chainI (P)) ?_); conv=>whnf)|((with_reducible refine GOr.l ?_); (conv=>whnf); refine Exists.intro _ (And.intro (chainI (KN)) ?_); conv=>whnf)|(refine And.intro (fun h=> ?_) (fun h=> ?_)<;>(first|(with_reducible have hd:_<_:=of_decide_eq_true h)|(with_reducible have hd:¬ (_<_):=of_decide_eq_false h)|skip)<;>(first|(first|omega)|(conv=>whnf)))|(refine And.intro ?_ ?_; (focus (first|exact rfl|(first|exact mOk_st _|exact hC|fail)|fail)); conv=>whnf)|fail)
   ·exact leB (varsB_f hcl (vrQ_eq l c true h)).symm
   ·have hm:=metS_next hcl (vrQ_eq l c false h)
    refine ⟨c+1,⟨hcl,next_q hp (vrQ_eq l c false h)⟩,?_,by omega⟩
    (refine And.intro ?_ (And.intro ?_ (And.intro ?_ rfl))<;>(conv=>whnf)<;>repeat' (first|exact trivial|exact LeE.of (Le.refl _)|(with_reducible refine LeE.of ?_)|(first|exact leMs hm|exact rfl|exact leI (by first|rfl|(rw [wrap64 (by omega) (by omega)]; omega)|fail)|fail)|((with_reducible refine And.intro ?_ ?_)<;>conv=>whnf)))
  ·obtain rfl:c=l.length:=by omega
   have hq:decide ((l.length:Int)<(l.length:Int))=false:=decide_eq_false (by omega)
   conv=>whnf
   repeat' (first|(refine And.intro (fun h=> ?_) (fun h=> ?_)<;>(first|(with_reducible have hd:_<_:=of_decide_eq_true h)|(with_reducible have hd:¬ (_<_):=of_decide_eq_false h)|fail)<;>(first|(first|exact Bool.noConfusion (hq.symm.trans h)|fail)|(conv=>whnf)))|fail)
   exact leB (varsB_t hp).symm
end Go.Proofs.YtaecnniddhikbaaGreatDoor
namespace Go.Proofs.YtaecnniddhikbaaGreatDoor
open Go Go.VA
def knO (t:ByteArray) (v:V):Bool:=objP t v==0&&known v
theorem aKnownO (t t':Bool)(s:ByteArray)(v:V):ACall Tryz.prog gl 104 [.c (.v (.string s)),.ag (cVt t t' v)] [] (boolA (knO s v)):=by
 refine acall_of_vc htb hmix (f:=104) rfl rfl rfl (by kernel_rfl) rfl rfl ?_; conv=>whnf
 repeat' (first|(refine Exists.intro _ (And.intro (aObjectP _ _ s v) ?_); conv=>whnf)|((with_reducible refine GOr.l ?_); (conv=>whnf); refine Exists.intro _ (And.intro (chainI (aKnown v _ _)) ?_); conv=>whnf)|((with_reducible refine xc_pure ?_); conv=>whnf))
 exact leB rfl
abbrev zVC:List C:=[.v (.int .i64 0),.v (.int .i64 0),.v (.string ByteArray.empty),.v (.slice none 0 0),.v (.slice none 0 0),.v (.int .i64 0),.v (.int .i64 0),.v (.bool false)]
theorem zVl:Le 0 (.ag zVC) (.ag (cV V.z)):=leAg ⟨LeC.refl _,LeC.refl _,LeC.refl _,LeC.nil rfl,LeC.nil rfl,LeC.refl _,LeC.refl _,LeC.refl _,trivial⟩
theorem aSameVZ (a:V):ACall Tryz.prog gl 102 [.ag (cV a),.ag zVC] [] (boolA (sameR a V.z true)):=(aSameV a V.z false false false false).le ⟨Le.refl _,zVl,trivial⟩
theorem aSameRZ (a:V):ACall Tryz.prog gl 85 [.ag (cV a),.ag zVC,boolA true] [] (boolA (sameR a V.z true)):=(aSameR a V.z false false false false true).le ⟨Le.refl _,zVl,Le.refl _,trivial⟩
def nlB (v:V):Bool:=sameR v V.z true
def valB (x:Ac):Bool:=checkR x.p&&checkR x.w&&(if x.k==3 then nlB x.p&&objP x.y.a.t x.w==0 else if x.k==4 then knO x.y.a.t x.p&&objP x.y.a.t x.w==0 else if x.k==5 then nlB x.w&&(nlB x.p||knO x.y.a.t x.p) else false)
theorem aValues (x:Ac):ACall Tryz.prog gl 68 [.ag (cAc x)] [] (boolA (valB x)):=by
 have P:=aCheck false false x.p
 rw [checkV_if] at P
 have W:=aCheck false false x.w
 rw [checkV_if] at W
 have O:=aObjectP false false x.y.a.t x.w
 have K:=aKnownO false false x.y.a.t x.p
 have S1:=aSameVZ x.p
 have S2:=aSameVZ x.w
 refine acall_of_vc htb hmix (f:=68) rfl rfl rfl (by kernel_rfl) rfl rfl ?_; conv=>whnf
 repeat' (first|(refine Exists.intro _ (And.intro (P) ?_); conv=>whnf)|((with_reducible refine GOr.l ?_); (conv=>whnf); refine Exists.intro _ (And.intro (chainI (W)) ?_); conv=>whnf)|((with_reducible refine GOr.l ?_); (conv=>whnf); refine Exists.intro _ (And.intro (chainI (O)) ?_); conv=>whnf)|(refine Exists.intro _ (And.intro (K) ?_); conv=>whnf)|((with_reducible refine GOr.l ?_); (conv=>whnf); refine Exists.intro _ (And.intro (chainI (K)) ?_); conv=>whnf)|(refine Exists.intro _ (And.intro (S1) ?_); conv=>whnf)|((with_reducible refine GOr.l ?_); (conv=>whnf); refine Exists.intro _ (And.intro (chainI (S1)) ?_); conv=>whnf)|(refine Exists.intro _ (And.intro (S2) ?_); conv=>whnf)|(refine And.intro (fun h=> ?_) (fun h=> ?_)<;>(first|skip)<;>(first|(conv=>whnf)))|((with_reducible refine FzOr.l ?_); conv=>whnf)|((with_reducible refine xc_pure ?_); conv=>whnf))
 all_goals
  refine leB ?_
  unfold valB nlB
  simp only [ckA,Bool.or_eq_true,Bool.or_eq_false_iff,Bool.not_eq_true',Bool.not_eq_false'] at *
  first
   | (simp [*]; done)
   | (rcases h with h|h<;>simp [h])
def dnK (x:Ac):Value:= .agg #[.int .i64 x.k,.string x.y.a.t,.string x.y.a.n,.int .i64 x.y.a.k,.int .i64 x.y.a.i,.string x.y.a.s,.int .u32 x.y.n]
def metD (l:List Ac):List (Value×AV):=l.map fun x=>(dnK x,.ag [])
def eqD (x y:Ac):Bool:=x.k==y.k&&eqK x.y y.y
def hasD (l:List Ac) (x:Ac):Bool:=l.any fun y=>eqD x y
theorem kyDn:KeyS Tryz.prog 123 [3,8,8,3,3,8,6]:=keyS_deep (d:=8) (by kernel_rfl) (by kernel_rfl)
theorem mOk_dn:∀ l:List Ac,mOkS [3,8,8,3,3,8,6] (metD l)=true
 | []=>rfl
 | _::l=>mOk_dn l
theorem keq_dn (x y:Ac):keqV (dnK x) (dnK y)=eqD x y:=by
 show ((x.k==y.k)&&((x.y.a.t==y.y.a.t)&&((x.y.a.n==y.y.a.n)&&((x.y.a.k==y.y.a.k)&&((x.y.a.i==y.y.a.i)&&((x.y.a.s==y.y.a.s)&&((x.y.n==y.y.n)&&true)))))))=_
 unfold eqD eqK
 rw [Bool.and_true]
theorem mFind_dn (x:Ac):∀ l:List Ac,mFind (dnK x) (metD l)=if hasD l x then some (.ag []) else none
 | []=>rfl
 | y::l=>by
  show (match keqV (dnK x) (dnK y) with|true=>some (AV.ag [])|false=>mFind (dnK x) (metD l))=_
  rw [keq_dn,mFind_dn x l]
  show _=if (eqD x y||hasD l x)=true then _ else _
  cases eqD x y<;>simp
theorem lawD (l:List Ac)(x:Ac):MFind (dnK x) (.ag []) (metD l) (.ag [],hasD l x):=by
 unfold MFind
 rw [mFind_dn]
 cases hasD l x
 ·exact ⟨Le.refl _,rfl⟩
 ·exact ⟨Le.refl _,rfl⟩
def ahX (h:List Int) (i:Int) (n:Nat):Bool:=decide (h.getD n 0<0)||decide (h.getD n 0≥i)||decide ((n:Int)>0)&&decide (h.getD (IntKind.i64.wrap ((n:Int)-1)).toNat 0≥h.getD n 0)
def ahB (h:List Int) (i:Int):Bool:=allQ (fun n=> !ahX h i n) h.length
def acK (x:Ac):Bool:=okKy x.y&&tyL.any (eqs x.y.a.t)&&valB x
def acQ (l:List Ac) (j:Nat):Bool:=acK (l.getD j ac0)&&ahB (l.getD j ac0).h j&& !hasD (l.take j) (l.getD j ac0)
def actsB (l:List Ac):Bool:=allQ (acQ l) l.length&&decide ((l.length:Int)≤64)
theorem actsB_f {l:List Ac}{c:Nat}(hc:c<l.length)(h:acQ l c=false):actsB l=false:=by unfold actsB; rw [allQ_f hc h]; rfl
theorem actsB_t {l:List Ac}(h:∀ j,j<l.length→acQ l j=true):actsB l=decide ((l.length:Int)≤64):=by unfold actsB; rw [allQ_t h]; rfl
theorem acK_eq (x:Ac)(b:Bool)(h:((if okKy x.y=true then (0:Int) else 1) != 0|| !tyL.any (eqs x.y.a.t)|| !valB x)=b):acK x= !b:=by
 rw [ckA] at h
 unfold acK
 subst h
 cases okKy x.y<;>cases tyL.any (eqs x.y.a.t)<;>cases valB x<;>rfl
theorem acQ_1 {l:List Ac}{c:Nat}(h:acK (l.getD c ac0)=false):acQ l c=false:=by unfold acQ; rw [h]; rfl
theorem acQ_2 {l:List Ac}{c n:Nat}(hn:n<(l.getD c ac0).h.length)(h:ahX (l.getD c ac0).h c n=true):acQ l c=false:=by
 unfold acQ ahB
 rw [allQ_f hn (by rw [h]; rfl)]; simp
theorem acQ_3 {l:List Ac}{c:Nat}(h:hasD (l.take c) (l.getD c ac0)=true):acQ l c=false:=by unfold acQ; rw [h]; simp
theorem acQ_t {l:List Ac}{c:Nat}(h1:acK (l.getD c ac0)=true)(h2:∀ n,n<(l.getD c ac0).h.length→(!ahX (l.getD c ac0).h c n)=true)(h3:hasD (l.take c) (l.getD c ac0)=false):acQ l c=true:=by
 unfold acQ ahB
 rw [h1,allQ_t h2,h3]; rfl
theorem metD_next {l:List Ac}{c:Nat}(hc:c<l.length)(h0:hasD (l.take c) (l.getD c ac0)=false):mPut (dnK (l.getD c ac0)) (.ag []) (metD (l.take c))=metD (l.take (c+1)):=by
 have e:l[c]? =some (l.getD c ac0):=by rw [List.getD_eq_getElem?_getD,List.getElem?_eq_getElem hc]; rfl
 rw [mPut_end (by rw [mFind_dn,h0]; rfl),take_snoc? e]
 unfold metD
 rw [List.map_append]; rfl
theorem bnd_ac {x:Ac}(h:bnds (cAc x)):x.h.length≤140737488355328:=by
 simp only [cAc,cKy,cV,cVt,List.cons_append,List.nil_append,bnds,C.bnd,true_and,and_true] at h
 omega
theorem aActs (t:Bool)(l:List Ac):ACall Tryz.prog gl 32 [.c (.sl t 24 l.length (rAc l))] [] (boolA (actsB l)):=by
 refine acall_of_vcb htb hmix (f:=32) rfl rfl rfl (by kernel_rfl) rfl rfl fun hb=> ?_; simp only [bndAll,AV.bnd,bnds,C.bnd,cVt,cS,true_and,and_true] at hb; conv=>whnf
 have hn:l.length≤140737488355328:=hb.1
 repeat' (fail)
 refine loopI Nat (fun c=>c≤l.length∧∀ j,j<c→acQ l j=true) (fun c=>[(14,intA .i64 c)]) (fun c=>[.mp (metD (l.take c))]) (fun c=>l.length-c) 0 ⟨Nat.zero_le _,fun j hj=>absurd hj (Nat.not_lt_zero _)⟩ ?_ (fun _=>rfl) fun c ⟨hc,hp⟩=> ?_
 ·(refine And.intro ?_ (And.intro ?_ (And.intro ?_ rfl))<;>(conv=>whnf)<;>repeat' (first|exact trivial|exact LeE.of (Le.refl _)|(first|exact rfl|fail)|((with_reducible refine And.intro ?_ ?_)<;>conv=>whnf)))
 ·by_cases hcl:c<l.length
  ·have hC:(0:Int)≤(c:Int)∧(c:Int)<(l.length:Int):=by omega
   have hh:(l.getD c ac0).h.length≤140737488355328:=bnd_ac (hb.2 c hcl)
   have LAW:=lawD (l.take c) (l.getD c ac0)
   have CK:=aCheckK (l.getD c ac0).y
   have CT:=aConS false tyL (l.getD c ac0).y.a.t
   have VV:=aValues (l.getD c ac0)
   conv=>whnf
   repeat' (first|(refine Exists.intro _ (And.intro (chainI (CK)) ?_); conv=>whnf)|(refine Exists.intro _ (And.intro (chainI (aTypes)) ?_); conv=>whnf)|(refine Exists.intro _ (And.intro (chainI (CT)) ?_); conv=>whnf)|(refine Exists.intro _ (And.intro (chainI (VV)) ?_); conv=>whnf)|(refine And.intro (fun h=> ?_) (fun h=> ?_)<;>(first|(with_reducible have hd:_<_:=of_decide_eq_true h)|(with_reducible have hd:¬ (_<_):=of_decide_eq_false h)|skip)<;>(first|(first|omega)|(conv=>whnf)))|((with_reducible refine DOg.l ?_); (conv=>whnf))|((with_reducible refine FzOr.l ?_); conv=>whnf)|(refine And.intro ?_ ?_; (focus (first|(first|exact hC|fail)|fail)); conv=>whnf)|fail)
   ·exact leB (actsB_f hcl (acQ_1 (acK_eq _ true h))).symm
   ·have hk:=acK_eq _ false h
    refine loopI Nat (fun k=>k≤(l.getD c ac0).h.length∧∀ j,j<k→(!ahX (l.getD c ac0).h c j)=true) (fun k=>[(40,intA .i64 k)]) (fun _=>[.mp (metD (l.take c)),.box ((cAc (l.getD c ac0)).map .c)]) (fun k=>(l.getD c ac0).h.length-k) 0 ⟨Nat.zero_le _,fun j hj=>absurd hj (Nat.not_lt_zero _)⟩ ?_ (fun _=>rfl) fun k ⟨hk1,hk2⟩=> ?_
    ·(refine And.intro ?_ (And.intro ?_ (And.intro ?_ rfl))<;>(conv=>whnf)<;>repeat' (first|exact trivial|exact LeE.of (Le.refl _)|(first|exact rfl|fail)|((with_reducible refine And.intro ?_ ?_)<;>conv=>whnf)))
     all_goals exact leMs rfl
    ·by_cases hkl:k<(l.getD c ac0).h.length
     ·have hC2:(0:Int)≤(k:Int)∧(k:Int)<((l.getD c ac0).h.length:Int):=by omega
      have hM:=fun h=>pos_ix hkl hh h
      have hq:decide ((k:Int)<((l.getD (c:Int).toNat ac0).h.length:Int))=true:=by rw [Int.toNat_natCast]; exact decide_eq_true (by omega)
      conv=>whnf
      repeat' (first|(refine And.intro (fun h=> ?_) (fun h=> ?_)<;>(first|(with_reducible have hd:_<_:=of_decide_eq_true h)|(with_reducible have hd:¬ (_<_):=of_decide_eq_false h)|skip)<;>(first|(first|exact Bool.noConfusion (hq.symm.trans h)|fail)|(conv=>whnf)))|(refine And.intro ?_ ?_; (focus (first|(first|assumption)|((conv=>whnf); intros; (try simp only [decide_eq_true_eq,decide_eq_false_iff_not,Bool.and_eq_true,Bool.or_eq_true,Bool.and_eq_false_imp,Bool.or_eq_false_iff,Bool.not_eq_true',Bool.not_eq_false',beq_iff_eq,bne_iff_ne,ne_eq] at *); (first|(first|exact hM (by assumption)|fail)|fail)))); conv=>whnf)|fail)
      ·have h:ahX (l.getD c ac0).h c k=true:=h
       exact leB (actsB_f hcl (acQ_2 hkl h)).symm
      ·have h:ahX (l.getD c ac0).h c k=false:=h
       refine ⟨k+1,⟨hkl,next_q hk2 (by rw [h]; rfl)⟩,?_,by omega⟩
       (refine And.intro ?_ (And.intro ?_ (And.intro ?_ rfl))<;>(conv=>whnf)<;>repeat' (first|exact trivial|exact LeE.of (Le.refl _)|(with_reducible refine LeE.of ?_)|(first|exact rfl|exact leI (by first|rfl|(rw [wrap64 (by omega) (by omega)]; omega)|fail)|fail)|((with_reducible refine And.intro ?_ ?_)<;>conv=>whnf)))
       all_goals exact leMs rfl
     ·obtain rfl:k=(l.getD c ac0).h.length:=by omega
      have hq:decide (((l.getD c ac0).h.length:Int)<((l.getD c ac0).h.length:Int))=false:=decide_eq_false (by omega)
      conv=>whnf
      repeat' (first|(refine Exists.intro _ (And.intro (LAW) ?_); conv=>whnf)|(refine And.intro (fun h=> ?_) (fun h=> ?_)<;>(first|(with_reducible have hd:_<_:=of_decide_eq_true h)|(with_reducible have hd:¬ (_<_):=of_decide_eq_false h)|skip)<;>(first|(first|exact Bool.noConfusion (hq.symm.trans h)|fail)|(conv=>whnf)))|(refine And.intro ?_ ?_; (focus (first|(first|exact kyDn|exact mOk_dn _|fail)|fail)); conv=>whnf)|fail)
      ·have h:hasD (l.take c) (l.getD c ac0)=true:=h
       exact leB (actsB_f hcl (acQ_3 h)).symm
      ·have h:hasD (l.take c) (l.getD c ac0)=false:=h
       have hm:=metD_next hcl h
       refine ⟨c+1,⟨hcl,next_q hp (acQ_t hk hk2 h)⟩,?_,by omega⟩
       (refine And.intro ?_ (And.intro ?_ (And.intro ?_ rfl))<;>(conv=>whnf)<;>repeat' (first|exact trivial|exact LeE.of (Le.refl _)|(with_reducible refine LeE.of ?_)|(first|exact leMs hm|exact rfl|exact leI (by first|rfl|(rw [wrap64 (by omega) (by omega)]; omega)|fail)|fail)|((with_reducible refine And.intro ?_ ?_)<;>conv=>whnf)))
  ·obtain rfl:c=l.length:=by omega
   have hq:decide ((l.length:Int)<(l.length:Int))=false:=decide_eq_false (by omega)
   conv=>whnf
   repeat' (first|(refine And.intro (fun h=> ?_) (fun h=> ?_)<;>(first|(with_reducible have hd:_<_:=of_decide_eq_true h)|(with_reducible have hd:¬ (_<_):=of_decide_eq_false h)|fail)<;>(first|(first|exact Bool.noConfusion (hq.symm.trans h)|fail)|(conv=>whnf)))|fail)
   exact leB (actsB_t hp).symm
end Go.Proofs.YtaecnniddhikbaaGreatDoor
namespace Go.Proofs.YtaecnniddhikbaaGreatDoor
open Go Go.VA
def spQ (l:List Sp) (j:Nat):Bool:=okKy (l.getD j sp0).y&& !(decide ((j:Int)>0)&& !lessKy (l.getD (IntKind.i64.wrap ((j:Int)-1)).toNat sp0).y (l.getD j sp0).y)
def stampsB (l:List Sp):Bool:=allQ (spQ l) l.length&&decide ((l.length:Int)≤64)
theorem stampsB_f {l:List Sp}{c:Nat}(hc:c<l.length)(h:spQ l c=false):stampsB l=false:=by unfold stampsB; rw [allQ_f hc h]; rfl
theorem stampsB_t {l:List Sp}(h:∀ j,j<l.length→spQ l j=true):stampsB l=decide ((l.length:Int)≤64):=by unfold stampsB; rw [allQ_t h]; rfl
theorem spQ_eqR (l:List Sp)(c:Nat)(b:Bool)(h:(!okKy (l.getD c sp0).y||decide ((c:Int)>0)&& !lessKy (l.getD (IntKind.i64.wrap ((c:Int)-1)).toNat sp0).y (l.getD c sp0).y)=b):spQ l c= !b:=by
 unfold spQ
 subst h
 cases okKy (l.getD c sp0).y<;>cases decide ((c:Int)>0)<;>cases lessKy (l.getD (IntKind.i64.wrap ((c:Int)-1)).toNat sp0).y (l.getD c sp0).y<;>rfl
theorem spQ_eq (l:List Sp)(c:Nat)(b:Bool)(h:((if okKy (l.getD c sp0).y=true then (0:Int) else 1) != 0||decide ((c:Int)>0)&& !lessKy (l.getD (IntKind.i64.wrap ((c:Int)-1)).toNat sp0).y (l.getD c sp0).y)=b):spQ l c= !b:=by
 rw [ckA] at h
 exact spQ_eqR l c b h
theorem aStamps (t:Bool)(l:List Sp):ACall Tryz.prog gl 31 [.c (.sl t 38 l.length (rSp l))] [] (boolA (stampsB l)):=by
 refine acall_of_vcb htb hmix (f:=31) rfl rfl rfl (by kernel_rfl) rfl rfl fun hb=> ?_; simp only [bndAll,AV.bnd,bnds,C.bnd,cVt,cS,true_and,and_true] at hb; conv=>whnf
 have hn:l.length≤140737488355328:=hb.1
 repeat' (fail)
 refine loopI Nat (fun c=>c≤l.length∧∀ j,j<c→spQ l j=true) (fun c=>[(7,intA .i64 c)]) (fun _=>[]) (fun c=>l.length-c) 0 ⟨Nat.zero_le _,fun j hj=>absurd hj (Nat.not_lt_zero _)⟩ ?_ (fun _=>rfl) fun c ⟨hc,hp⟩=> ?_
 ·(refine And.intro ?_ (And.intro ?_ (And.intro ?_ rfl))<;>(conv=>whnf)<;>repeat' (first|exact trivial|exact LeE.of (Le.refl _)|(first|exact rfl|fail)|((with_reducible refine And.intro ?_ ?_)<;>conv=>whnf)))
 ·by_cases hcl:c<l.length
  ·have hC:(0:Int)≤(c:Int)∧(c:Int)<(l.length:Int):=by omega
   have hM:=fun h=>pos_ix hcl hn h
   have CK:=aCheckK (l.getD c sp0).y
   have LS:=aLessKy (l.getD (IntKind.i64.wrap ((c:Int)-1)).toNat sp0).y (l.getD c sp0).y
   conv=>whnf
   repeat' (first|(refine Exists.intro _ (And.intro (chainI (CK)) ?_); conv=>whnf)|(refine Exists.intro _ (And.intro (chainI (LS)) ?_); conv=>whnf)|(refine And.intro (fun h=> ?_) (fun h=> ?_)<;>(first|(with_reducible have hd:_<_:=of_decide_eq_true h)|(with_reducible have hd:¬ (_<_):=of_decide_eq_false h)|skip)<;>(first|(first|omega)|(conv=>whnf)))|((with_reducible refine DOg.l ?_); (conv=>whnf))|((with_reducible refine FzOr.l ?_); conv=>whnf)|(refine And.intro ?_ ?_; (focus (first|(first|exact hC|fail)|((conv=>whnf); intros; (try simp only [decide_eq_true_eq,decide_eq_false_iff_not,Bool.and_eq_true,Bool.or_eq_true,Bool.and_eq_false_imp,Bool.or_eq_false_iff,Bool.not_eq_true',Bool.not_eq_false',beq_iff_eq,bne_iff_ne,ne_eq] at *); (first|(first|exact hM (by assumption)|fail)|fail)))); conv=>whnf)|fail)
   ·exact leB (stampsB_f hcl (spQ_eq l c true h)).symm
   ·refine ⟨c+1,⟨hcl,next_q hp (spQ_eq l c false h)⟩,?_,by omega⟩
    (refine And.intro ?_ (And.intro ?_ (And.intro ?_ rfl))<;>(conv=>whnf)<;>repeat' (first|exact trivial|exact LeE.of (Le.refl _)|(with_reducible refine LeE.of ?_)|(first|exact rfl|exact leI (by first|rfl|(rw [wrap64 (by omega) (by omega)]; omega)|fail)|fail)|((with_reducible refine And.intro ?_ ?_)<;>conv=>whnf)))
  ·obtain rfl:c=l.length:=by omega
   conv=>whnf
   repeat' (first|(refine And.intro (fun h=> ?_) (fun h=> ?_)<;>(first|(with_reducible have hd:_<_:=of_decide_eq_true h)|(with_reducible have hd:¬ (_<_):=of_decide_eq_false h)|fail)<;>(first|(first|omega)|(conv=>whnf)))|fail)
   exact leB (stampsB_t hp).symm
def okPl (p:Pl):Bool:= !(decide (p.s>4611686018427387904)|| !varsB p.b|| !stampsB p.t|| !actsB p.x)
theorem aCheckP (u v w:Bool)(p:Pl):ACall Tryz.prog gl 9 [.ag (cPl u v w p)] [] (intA .i64 (if okPl p then 0 else 1)):=by
 refine acall_of_vc htb hmix (f:=9) rfl rfl rfl (by kernel_rfl) rfl rfl ?_; conv=>whnf
 repeat' (first|((with_reducible refine GOr.l ?_); (conv=>whnf); refine Exists.intro _ (And.intro (chainI (aVars u p.b)) ?_); conv=>whnf)|((with_reducible refine GOr.l ?_); (conv=>whnf); refine Exists.intro _ (And.intro (chainI (aStamps v p.t)) ?_); conv=>whnf)|((with_reducible refine GOr.l ?_); (conv=>whnf); refine Exists.intro _ (And.intro (chainI (aActs w p.x)) ?_); conv=>whnf)|(refine And.intro (fun h=> ?_) (fun h=> ?_)<;>(first|skip)<;>(first|(conv=>whnf)))|((with_reducible refine FzOr.l ?_); conv=>whnf)|fail)
 ·exact leI (by unfold okPl; rw [show (decide (p.s>4611686018427387904)|| !varsB p.b|| !stampsB p.t|| !actsB p.x)=true from h]; rfl)
 ·exact leI (by unfold okPl; rw [show (decide (p.s>4611686018427387904)|| !varsB p.b|| !stampsB p.t|| !actsB p.x)=false from h]; rfl)
end Go.Proofs.YtaecnniddhikbaaGreatDoor
