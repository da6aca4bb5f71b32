/- Contracts of functions of the program,and the laws that stand on them: what each function answers,whatever its arguments. -/
import Derived.Test.YtiodgjgngfklkaaGreatDoorTT
import Derived.Test.YtiodgjgngfklkaaGreatDoorVD
set_option linter.all false
set_option maxRecDepth 100000
set_option maxHeartbeats 8000000
namespace Go.Proofs.YtiodgjgngfklkaaGreatDoor
open Go Go.VA
theorem seT:StructEq Tryz.prog 51 [3,3]:=structEq_of (d:=5) (by kernel_rfl)
theorem aChk (k o:Int):ACall Tryz.prog gl 155 [.ag [.v (.int .i64 k),.v (.int .i64 o)]] [] (intA .i64 (errc (k,o))):=by
 refine acall_of_vc htb hmix (f:=155) rfl rfl rfl (by kernel_rfl) rfl rfl ?_; conv=>whnf
 repeat' (first|(refine And.intro (fun h=> ?_) (fun h=> ?_)<;>(first|skip)<;>conv=>whnf)|fail)
 all_goals exact Le.of_eq (by unfold errc chk; simp only; rw [h]; rfl)
theorem aWi (k o k' o':Int):ACall Tryz.prog gl 156 [.ag [.v (.int .i64 k),.v (.int .i64 o)],.ag [.v (.int .i64 k'),.v (.int .i64 o')]] [] (boolA (wi (k,o) (k',o'))):=by
 refine acall_of_vc htb hmix (f:=156) rfl rfl rfl (by kernel_rfl) rfl rfl ?_; conv=>whnf
 repeat' (first|(refine Exists.intro _ (And.intro (aChk _ _) ?_); conv=>whnf)|((with_reducible refine GOr.l ?_); (conv=>whnf); refine Exists.intro _ (And.intro (chainI (aChk _ _)) ?_); conv=>whnf)|(refine And.intro (fun h=> ?_) (fun h=> ?_)<;>(first|skip)<;>conv=>whnf)|(refine And.intro ?_ ?_; (focus (first|(first|exact seT|fail)|fail)); conv=>whnf)|((with_reducible refine xc_pure ?_); conv=>whnf))
 all_goals exact Le.of_eq (by unfold wi; simp only; rw [h]; rfl)
theorem aCode (k o:Int):ACall Tryz.prog gl 149 [.ag [.v (.int .i64 k),.v (.int .i64 o)]] [] (intA .u8 (codeT (k,o))):=by
 refine acall_of_vc htb hmix (f:=149) rfl rfl rfl (by kernel_rfl) rfl rfl ?_; conv=>whnf
 repeat' (first|(refine Exists.intro _ (And.intro (aChk _ _) ?_); conv=>whnf)|(refine And.intro (fun h=> ?_) (fun h=> ?_)<;>(first|skip)<;>conv=>whnf)|(refine And.intro ?_ ?_; (focus (first|(refine chainI ?_; (first|decide|fail))|fail)); conv=>whnf)|((with_reducible refine xc_pure ?_); conv=>whnf))
 ·have h:((if chk (k,o) then (0:Int) else 1) != 0)=true:=h
  exact leI (by unfold codeT; rw [if_neg (by revert h; cases chk (k,o)<;>simp)])
 ·have h:((if chk (k,o) then (0:Int) else 1) != 0)=false:=h
  exact leI (by unfold codeT; rw [if_pos (by revert h; cases chk (k,o)<;>simp)])
theorem aEqSn (t t':Bool)(n m:Nat)(a b:List ByteArray)(hn:n≤a.length)(hm:m≤b.length):ACall Tryz.prog gl 159 [.c (.sl t 1 n (rS a)),.c (.sl t' 1 m (rS b))] [] (boolA (eqSs (a.take n) (b.take m))):=by
 have hna:(a.take n).length=n:=by simp; omega
 have hmb:(b.take m).length=m:=by simp; omega
 refine acall_of_vcb htb hmix (f:=159) rfl rfl rfl (by kernel_rfl) rfl rfl fun hb=> ?_; simp only [bndAll,AV.bnd,bnds,C.bnd,cVt,cS,true_and,and_true] at hb; conv=>whnf
 repeat' (first|(refine And.intro (fun h=> ?_) (fun h=> ?_)<;>(first|skip)<;>conv=>whnf)|fail)
 ·exact leB (eqSs_len (by rw [hna,hmb]; simp at h; omega)).symm
 ·have hl:n=m:=by simp at h; omega
  subst hl
  refine loopN (fun c=>c≤n∧eqSs ((a.take n).drop c) ((b.take n).drop c)=eqSs (a.take n) (b.take n)) (fun c=>[(13,intA .i64 c)]) (fun c=>[]) n (fun c h=>h.1) 0 ⟨Nat.zero_le _,rfl⟩ ?_ (fun _=>rfl) fun c ⟨hc,hR⟩=> ?_
  ·(refine And.intro ?_ (And.intro ?_ (And.intro ?_ rfl))<;>(conv=>whnf)<;>repeat' (first|exact trivial|exact LeE.of (Le.refl _)|(first|exact rfl|fail)|((with_reducible refine And.intro ?_ ?_)<;>conv=>whnf)))
  ·conv=>whnf
   repeat' (first|(refine And.intro (fun h=> ?_) (fun h=> ?_)<;>(first|(with_reducible have hd:_<_:=of_decide_eq_true h)|(with_reducible have hd:¬ (_<_):=of_decide_eq_false h)|skip)<;>conv=>whnf)|(refine And.intro ?_ ?_; (focus (first|(refine chainI ?_; (first|omega|fail))|fail)); conv=>whnf)|fail)
   ·obtain ⟨x,hx,hx'⟩:=nthS (l:=a) (c:=c) (by omega)
    obtain ⟨y,hy,hy'⟩:=nthS (l:=b) (c:=c) (by omega)
    have h:(!eqs (a.getD c ByteArray.empty) (b.getD c ByteArray.empty))=true:=h
    rw [hx',hy',Bool.not_eq_true'] at h
    exact leB (by rw [← hR,drop_cons? (take_get? (by omega:c<n) hx),drop_cons? (take_get? (by omega:c<n) hy),eqSs,h]; rfl)
   ·obtain ⟨x,hx,hx'⟩:=nthS (l:=a) (c:=c) (by omega)
    obtain ⟨y,hy,hy'⟩:=nthS (l:=b) (c:=c) (by omega)
    have h:(!eqs (a.getD c ByteArray.empty) (b.getD c ByteArray.empty))=false:=h
    rw [hx',hy',Bool.not_eq_false'] at h
    refine ⟨c+1,⟨⟨by omega,?_⟩,by omega⟩,?_⟩
    ·rw [← hR,drop_cons? (take_get? (by omega:c<n) hx),drop_cons? (take_get? (by omega:c<n) hy),eqSs,h]; rfl
    ·(refine And.intro ?_ (And.intro ?_ (And.intro ?_ rfl))<;>(conv=>whnf)<;>repeat' (first|exact trivial|exact LeE.of (Le.refl _)|(with_reducible refine LeE.of ?_)|(first|exact rfl|exact leI (by first|rfl|(rw [wrap64 (by omega) (by omega)]; omega)|fail)|fail)|((with_reducible refine And.intro ?_ ?_)<;>conv=>whnf)))
   ·obtain rfl:c=n:=by omega
    exact leB (by rw [← hR,List.drop_of_length_le (by omega),List.drop_of_length_le (by omega)]; rfl)
theorem aEqS (t t':Bool)(a b:List ByteArray):ACall Tryz.prog gl 159 [.c (.sl t 1 a.length (rS a)),.c (.sl t' 1 b.length (rS b))] [] (boolA (eqSs a b)):=by
 have:=aEqSn t t' _ _ a b (Nat.le_refl _) (Nat.le_refl _)
 rwa [List.take_length,List.take_length] at this
theorem aPairs (t t':Bool)(v:V):ACall Tryz.prog gl 140 [.ag (cVt t t' v)] [] (intA .i64 (nPairs v)):=by
 refine acall_of_vc htb hmix (f:=140) rfl rfl rfl (by kernel_rfl) rfl rfl ?_; conv=>whnf
 repeat' (fail)
 exact leI (by unfold nPairs; split<;>omega)
theorem aItems (t t':Bool)(v:V):ACall Tryz.prog gl 109 [.ag (cVt t t' v)] [] (.c (.sl t 8 (nIt v) (rV v.l))):=by
 have:=nPairs_le v
 refine acall_of_vc htb hmix (f:=109) rfl rfl rfl (by kernel_rfl) rfl rfl ?_; conv=>whnf
 repeat' (first|(refine Exists.intro _ (And.intro (chainI (aPairs _ _ _)) ?_); conv=>whnf)|(refine And.intro (fun h=> ?_) (fun h=> ?_)<;>(first|skip)<;>conv=>whnf)|((with_reducible refine DOr.l ?_); (conv=>whnf))|((with_reducible refine NilOr.l ?_); conv=>whnf)|(refine And.intro ?_ ?_; (focus (first|(refine chainI ?_; (first|omega|fail))|fail)); conv=>whnf)|fail)
 ·exact leSl (by unfold nIt; rw [h]; rfl) fun i _=>rfl
 ·rename_i h1
  exact leSl (by unfold nIt; rw [h1,h]; rfl) fun i _=>by rw [Nat.zero_add]
 ·rename_i h1
  exact leSl0 rfl (by unfold nIt; rw [h1,h]; rfl)
theorem items_get {v x:V}{c:Nat}(hc:c<nIt v)(h:v.l[c]? =some x):(items v)[c]? =some x:=take_get? hc h
theorem aWeight (v:V):∀ (t t':Bool),ACall Tryz.prog gl 97 [.ag (cVt t t' v)] [] (intA .i64 (weight v)):=by
 induction v using V.ind with
 | h v ih =>
 intro t t'
 have hle:=nIt_le v
 refine acall_of_vcb htb hmix (f:=97) rfl rfl rfl (by kernel_rfl) rfl rfl fun hb=> ?_; simp only [bndAll,AV.bnd,bnds,C.bnd,cVt,cS,true_and,and_true] at hb; conv=>whnf
 repeat' (first|(refine Exists.intro _ (And.intro (aItems _ _ _) ?_); conv=>whnf)|((with_reducible refine xc_pure ?_); conv=>whnf))
 refine loopN (fun c=>c≤nIt v) (fun c=>[(9,intA .i64 c),(3,intA .i64 (((items v).map weight).take c |>.foldl (fun n r=>IntKind.i64.wrap (n+r)) 1))]) (fun c=>[]) v.l.length (fun c h=>Nat.le_trans h hle) 0 (Nat.zero_le _) ?_ (fun _=>rfl) fun c hc=> ?_
 ·(refine And.intro ?_ (And.intro ?_ (And.intro ?_ rfl))<;>(conv=>whnf)<;>repeat' (first|exact trivial|exact LeE.of (Le.refl _)|(first|exact rfl|fail)|((with_reducible refine And.intro ?_ ?_)<;>conv=>whnf)))
 ·conv=>whnf
  repeat' (first|(refine And.intro (fun h=> ?_) (fun h=> ?_)<;>(first|(with_reducible have hd:_<_:=of_decide_eq_true h)|(with_reducible have hd:¬ (_<_):=of_decide_eq_false h)|fail)<;>conv=>whnf)|(refine And.intro ?_ ?_; (focus (first|(refine chainI ?_; (first|omega|fail))|fail)); conv=>whnf)|fail)
  ·obtain ⟨x,hx,hm,he⟩:=rV_ex (l:=v.l) (c:=c) (by omega)
   rw [he]
   conv=>whnf
   repeat' (first|(refine Exists.intro _ (And.intro (ih x hm _ _) ?_); conv=>whnf)|((with_reducible refine xc_pure ?_); conv=>whnf))
   refine ⟨c+1,⟨by omega,by omega⟩,?_⟩
   rw [take_snoc? (c:=c) (x:=weight x) (l:=(items v).map weight) (by rw [List.getElem?_map,items_get (by omega) hx]; rfl),List.foldl_append]
   (refine And.intro ?_ (And.intro ?_ (And.intro ?_ rfl))<;>(conv=>whnf)<;>repeat' (first|exact trivial|exact LeE.of (Le.refl _)|(with_reducible refine LeE.of ?_)|(first|exact rfl|exact leI (by first|rfl|(rw [wrap64 (by omega) (by omega)]; omega)|fail)|fail)|((with_reducible refine And.intro ?_ ?_)<;>conv=>whnf)))
  ·obtain rfl:c=nIt v:=by omega
   exact leI (by rw [weight_eq,List.take_of_length_le (by simp [items_len])])
theorem aIdxF {f:Nat}  (t:Bool)(p:V→Bool)(n:Nat)(a:List V)(hn:n≤a.length)(hf:∀ x ∈ a,ACall Tryz.prog gl f ([.ag (cV x)]++[]) [] (boolA (p x))) :
  ACall Tryz.prog gl 139 [.c (.sl t 8 n (rV a)),.fn f [] []] [] (intA .i64 (fidx p (a.take n) 0)):=by
 have hna:(a.take n).length=n:=by simp; omega
 refine acall_of_vcb htb hmix (f:=139) rfl rfl rfl (by kernel_rfl) rfl rfl fun hb=> ?_; simp only [bndAll,AV.bnd,bnds,C.bnd,cVt,cS,true_and,and_true] at hb; conv=>whnf
 repeat' (fail)
 refine loopN (fun c=>c≤n∧fidx p ((a.take n).drop c) c=fidx p (a.take n) 0) (fun c=>[(8,intA .i64 c)]) (fun c=>[]) n (fun c h=>h.1) 0 ⟨Nat.zero_le _,rfl⟩ ?_ (fun _=>rfl) fun c ⟨hc,hR⟩=> ?_
 ·(refine And.intro ?_ (And.intro ?_ (And.intro ?_ rfl))<;>(conv=>whnf)<;>repeat' (first|exact trivial|exact LeE.of (Le.refl _)|(first|exact rfl|fail)|((with_reducible refine And.intro ?_ ?_)<;>conv=>whnf)))
 ·conv=>whnf
  repeat' (first|(refine And.intro (fun h=> ?_) (fun h=> ?_)<;>(first|(with_reducible have hd:_<_:=of_decide_eq_true h)|(with_reducible have hd:¬ (_<_):=of_decide_eq_false h)|fail)<;>conv=>whnf)|(refine And.intro ?_ ?_; (focus (first|(refine chainI ?_; (first|omega|fail))|fail)); conv=>whnf)|fail)
  ·obtain ⟨x,hx,hmx,hex⟩:=rV_ex (l:=a) (c:=c) (by omega)
   have hx':=take_get? (by omega:c<n) hx
   rw [hex]; conv=>whnf
   repeat' (first|(refine Exists.intro _ (And.intro (hf x hmx) ?_); conv=>whnf)|(refine And.intro (fun h=> ?_) (fun h=> ?_)<;>(first|skip)<;>conv=>whnf)|((with_reducible refine xc_pure ?_); conv=>whnf))
   ·exact leI (by rw [← hR,drop_cons? hx',fidx,if_pos h])
   ·refine ⟨c+1,⟨⟨by omega,?_⟩,by omega⟩,?_⟩
    ·rw [← hR,drop_cons? hx',fidx,if_neg (by rw [h]; simp)]
    ·(refine And.intro ?_ (And.intro ?_ (And.intro ?_ rfl))<;>(conv=>whnf)<;>repeat' (first|exact trivial|exact LeE.of (Le.refl _)|(with_reducible refine LeE.of ?_)|(first|exact rfl|exact leI (by first|rfl|(rw [wrap64 (by omega) (by omega)]; omega)|fail)|fail)|((with_reducible refine And.intro ?_ ?_)<;>conv=>whnf)))
  ·obtain rfl:c=n:=by omega
   exact leI (by rw [← hR,List.drop_of_length_le (by omega)]; rfl)
theorem aIdxFC {f:Nat}  (t:Bool)(p:V→Bool)(n:Nat)(a:List V)(hn:n≤a.length)(hf:∀ x ∈ a,ACall Tryz.prog gl f ([.ag (cV x)]++[]) [] (boolA (p x))) :
  ACall Tryz.prog gl 108 [.c (.sl t 8 n (rV a)),.fn f [] []] [] (boolA ((a.take n).any p)):=by
 refine acall_of_vc htb hmix (f:=108) rfl rfl rfl (by kernel_rfl) rfl rfl ?_; conv=>whnf
 repeat' (first|(refine Exists.intro _ (And.intro (aIdxF  _ p _ _ hn hf) ?_); conv=>whnf)|((with_reducible refine xc_pure ?_); conv=>whnf))
 exact leB (fidx_any p _ 0)
theorem aIdxFc {f:Nat}(b:Bool)(ys:List C)(t:Bool)(p:V→Bool)(n:Nat)(a:List V)(hn:n≤a.length)(hf:∀ x ∈ a,ACall Tryz.prog gl f ([.ag (cV x)]++[.sp b ys 0]) [] (boolA (p x))) :
  ACall Tryz.prog gl 139 [.c (.sl t 8 n (rV a)),.fn f [] [.sp b ys 0]] [] (intA .i64 (fidx p (a.take n) 0)):=by
 have hna:(a.take n).length=n:=by simp; omega
 refine acall_of_vcb htb hmix (f:=139) rfl rfl rfl (by kernel_rfl) rfl rfl fun hb=> ?_; simp only [bndAll,AV.bnd,bnds,C.bnd,cVt,cS,true_and,and_true] at hb; conv=>whnf
 repeat' (fail)
 refine loopN (fun c=>c≤n∧fidx p ((a.take n).drop c) c=fidx p (a.take n) 0) (fun c=>[(8,intA .i64 c)]) (fun c=>[]) n (fun c h=>h.1) 0 ⟨Nat.zero_le _,rfl⟩ ?_ (fun _=>rfl) fun c ⟨hc,hR⟩=> ?_
 ·(refine And.intro ?_ (And.intro ?_ (And.intro ?_ rfl))<;>(conv=>whnf)<;>repeat' (first|exact trivial|exact LeE.of (Le.refl _)|(first|exact rfl|fail)|((with_reducible refine And.intro ?_ ?_)<;>conv=>whnf)))
 ·conv=>whnf
  repeat' (first|(refine And.intro (fun h=> ?_) (fun h=> ?_)<;>(first|(with_reducible have hd:_<_:=of_decide_eq_true h)|(with_reducible have hd:¬ (_<_):=of_decide_eq_false h)|fail)<;>conv=>whnf)|(refine And.intro ?_ ?_; (focus (first|(refine chainI ?_; (first|omega|fail))|fail)); conv=>whnf)|fail)
  ·obtain ⟨x,hx,hmx,hex⟩:=rV_ex (l:=a) (c:=c) (by omega)
   have hx':=take_get? (by omega:c<n) hx
   rw [hex]; conv=>whnf
   repeat' (first|(refine Exists.intro _ (And.intro (hf x hmx) ?_); conv=>whnf)|(refine And.intro (fun h=> ?_) (fun h=> ?_)<;>(first|skip)<;>conv=>whnf)|((with_reducible refine xc_pure ?_); conv=>whnf))
   ·exact leI (by rw [← hR,drop_cons? hx',fidx,if_pos h])
   ·refine ⟨c+1,⟨⟨by omega,?_⟩,by omega⟩,?_⟩
    ·rw [← hR,drop_cons? hx',fidx,if_neg (by rw [h]; simp)]
    ·(refine And.intro ?_ (And.intro ?_ (And.intro ?_ rfl))<;>(conv=>whnf)<;>repeat' (first|exact trivial|exact LeE.of (Le.refl _)|(with_reducible refine LeE.of ?_)|(first|exact rfl|exact leI (by first|rfl|(rw [wrap64 (by omega) (by omega)]; omega)|fail)|fail)|((with_reducible refine And.intro ?_ ?_)<;>conv=>whnf)))
  ·obtain rfl:c=n:=by omega
   exact leI (by rw [← hR,List.drop_of_length_le (by omega)]; rfl)
theorem aIdxFcC {f:Nat}(b:Bool)(ys:List C)(t:Bool)(p:V→Bool)(n:Nat)(a:List V)(hn:n≤a.length)(hf:∀ x ∈ a,ACall Tryz.prog gl f ([.ag (cV x)]++[.sp b ys 0]) [] (boolA (p x))) :
  ACall Tryz.prog gl 108 [.c (.sl t 8 n (rV a)),.fn f [] [.sp b ys 0]] [] (boolA ((a.take n).any p)):=by
 refine acall_of_vc htb hmix (f:=108) rfl rfl rfl (by kernel_rfl) rfl rfl ?_; conv=>whnf
 repeat' (first|(refine Exists.intro _ (And.intro (aIdxFc _ _ _ p _ _ hn hf) ?_); conv=>whnf)|((with_reducible refine xc_pure ?_); conv=>whnf))
 exact leB (fidx_any p _ 0)
theorem aFits1 (b:Bool)(x:V)(k o:Int)(q:Bool)(h:ACall Tryz.prog gl 142 [.ag (cV x),.ag [.v (.int .i64 o),.v (.int .i64 0)]] [] (boolA q)) :
  ACall Tryz.prog gl 157 [.ag (cV x),.sp b [.v (.int .i64 k),.v (.int .i64 o)] 0] [] (boolA (!q)):=by
 refine acall_of_vc htb hmix (f:=157) rfl rfl rfl (by kernel_rfl) rfl rfl ?_; conv=>whnf
 repeat' (first|(refine Exists.intro _ (And.intro (h) ?_); conv=>whnf)|((with_reducible refine xc_pure ?_); conv=>whnf))
 exact Le.refl _
theorem aFits (v:V):∀ (t t':Bool) (k o:Int),ACall Tryz.prog gl 142 [.ag (cVt t t' v),.ag [.v (.int .i64 k),.v (.int .i64 o)]] [] (boolA (fits v (k,o))):=by
 induction v using V.ind with
 | h v ih =>
 intro t t' k o
 have hle:=nIt_le v
 have hf:∀ x ∈ v.l,ACall Tryz.prog gl 157 ([.ag (cV x)]++[.sp true [.v (.int .i64 k),.v (.int .i64 o)] 0]) [] (boolA (!fits x (o,0))):=fun x hx=>aFits1 true x k o (fits x (o,0)) (ih x hx false false o 0)
 refine acall_of_vc htb hmix (f:=142) rfl rfl rfl (by kernel_rfl) rfl rfl ?_; conv=>whnf
 repeat' (first|(refine Exists.intro _ (And.intro (aChk _ _) ?_); conv=>whnf)|(refine Exists.intro _ (And.intro (aItems _ _ _) ?_); conv=>whnf)|(refine Exists.intro _ (And.intro (aWi _ _ _ _) ?_); conv=>whnf)|(refine Exists.intro _ (And.intro (aIdxFcC _ _ _ (fun x=> !fits x (o,0)) _ _ hle hf) ?_); conv=>whnf)|(refine And.intro (fun h=> ?_) (fun h=> ?_)<;>(first|skip)<;>conv=>whnf)|(refine And.intro ?_ ?_; (focus (first|exact NoTag.bool|fail)); conv=>whnf)|((with_reducible refine xc_pure ?_); conv=>whnf))
 all_goals exact leB (by rw [fits_eq]; simp only [*,Bool.false_eq_true,↓reduceIte,V.t]; all_goals (first|rfl|fail))
theorem aKnown1 (x:V)(q:Bool)(h:ACall Tryz.prog gl 81 [.ag (cV x)] [] (boolA q)):ACall Tryz.prog gl 110 [.ag (cV x)] [] (boolA (!q)):=by
 refine acall_of_vc htb hmix (f:=110) rfl rfl rfl (by kernel_rfl) rfl rfl ?_; conv=>whnf
 repeat' (first|(refine Exists.intro _ (And.intro (h) ?_); conv=>whnf)|((with_reducible refine xc_pure ?_); conv=>whnf))
 exact Le.refl _
theorem aKnown (v:V):∀ (t t':Bool),ACall Tryz.prog gl 81 [.ag (cVt t t' v)] [] (boolA (known v)):=by
 induction v using V.ind with
 | h v ih =>
 intro t t'
 have hle:=nIt_le v
 have hf:∀ x ∈ v.l,ACall Tryz.prog gl 110 ([.ag (cV x)]++[]) [] (boolA (!known x)):=fun x hx=>aKnown1 x (known x) (ih x hx false false)
 refine acall_of_vc htb hmix (f:=81) rfl rfl rfl (by kernel_rfl) rfl rfl ?_; conv=>whnf
 repeat' (first|((with_reducible refine GOr.l ?_); (conv=>whnf); refine Exists.intro _ (And.intro (chainI (aItems _ _ _)) ?_); conv=>whnf)|((with_reducible refine GOr.l ?_); (conv=>whnf); refine Exists.intro _ (And.intro (chainI (aIdxFC _ (fun x=> !known x) _ _ hle hf)) ?_); conv=>whnf)|fail)
 exact leB (known_eq v).symm
theorem aFlat (t t' u u':Bool)(a b:V):ACall Tryz.prog gl 153 [.ag (cVt t t' a),.ag (cVt u u' b)] [] (boolA (flat a b)):=by
 refine acall_of_vc htb hmix (f:=153) rfl rfl rfl (by kernel_rfl) rfl rfl ?_; conv=>whnf
 repeat' (first|((with_reducible refine GOr.l ?_); (conv=>whnf); refine Exists.intro _ (And.intro (chainI (aEqS _ _ _ _)) ?_); conv=>whnf)|(refine And.intro ?_ ?_; (focus (first|(first|exact seT|fail)|fail)); conv=>whnf)|fail)
 exact Le.refl _
theorem aOnly (t t':Bool)(v:V):ACall Tryz.prog gl 154 [.ag (cVt t t' v)] [] (.ag (cVt t t' (only v))):=by
 refine acall_of_vc htb hmix (f:=154) rfl rfl rfl (by kernel_rfl) rfl rfl ?_; conv=>whnf
 repeat' (first|(refine And.intro (fun h=> ?_) (fun h=> ?_)<;>(first|skip)<;>conv=>whnf)|fail)
 all_goals first
  | (exfalso; simp only [beq_iff_eq,beq_eq_false_iff_ne,ne_eq] at *; omega)
  | (refine leAg ⟨LeC.of_eq ?_,LeC.of_eq ?_,LeC.of_eq ?_,?_,?_,LeC.of_eq ?_,LeC.of_eq ?_,LeC.of_eq ?_,trivial⟩<;>(try simp only [only_k,only_i,only_s,only_l,only_ks,only_tk,only_to,only_sec, *,Bool.or_true,Bool.true_or,Bool.or_self,Bool.false_eq_true,↓reduceIte])<;>first|exact LeC.refl _|exact LeC.nil rfl|rfl|(simp_all; done)|(simp_all; exact LeC.nil rfl))
theorem aShaped (t t':Bool)(v:V):ACall Tryz.prog gl 138 [.ag (cVt t t' v)] [] (boolA (shaped v)):=by
 refine acall_of_vcb htb hmix (f:=138) rfl rfl rfl (by kernel_rfl) rfl rfl fun hb=> ?_; simp only [bndAll,AV.bnd,bnds,C.bnd,cVt,cS,true_and,and_true] at hb; conv=>whnf
 repeat' (first|(refine Exists.intro _ (And.intro (chainI (aOnly _ _ _)) ?_); conv=>whnf)|(refine Exists.intro _ (And.intro (chainI (aFlat _ _ _ _ _ _)) ?_); conv=>whnf)|(refine Exists.intro _ (And.intro (aChk _ _) ?_); conv=>whnf)|(refine And.intro (fun h=> ?_) (fun h=> ?_)<;>(first|skip)<;>conv=>whnf)|((with_reducible refine DOg.l ?_); (conv=>whnf))|(refine And.intro ?_ ?_; (focus (first|(refine chainI ?_; (first|decide|fail))|fail)); conv=>whnf)|((with_reducible refine xc_pure ?_); conv=>whnf))
 case' refine_2.refine_2.refine_2.refine_1.refine_2 =>
  have hs:shaped v=keysOk v.ks v.ks 0:=by unfold shaped; (simp only [*,Bool.false_eq_true,↓reduceIte,V.t]; try rfl)
  refine loopN (fun c=>c≤v.ks.length∧keysOk v.ks (v.ks.drop c) c=keysOk v.ks v.ks 0) (fun c=>[(58,intA .i64 c)]) (fun c=>[]) v.ks.length (fun c h=>h.1) 0 ⟨Nat.zero_le _,rfl⟩ ?_ (fun _=>rfl) fun c ⟨hc,hR⟩=> ?_
  ·(refine And.intro ?_ (And.intro ?_ (And.intro ?_ rfl))<;>(conv=>whnf)<;>repeat' (first|exact trivial|exact LeE.of (Le.refl _)|(first|exact rfl|fail)|((with_reducible refine And.intro ?_ ?_)<;>conv=>whnf)))
  ·conv=>whnf
   repeat' (first|(refine And.intro (fun h=> ?_) (fun h=> ?_)<;>(first|(with_reducible have hd:_<_:=of_decide_eq_true h)|(with_reducible have hd:¬ (_<_):=of_decide_eq_false h)|skip)<;>conv=>whnf)|(refine And.intro ?_ ?_; (focus (first|(refine chainI ?_; (first|omega|fail))|((conv=>whnf); intros; (try simp only [decide_eq_true_eq,decide_eq_false_iff_not,Bool.and_eq_true,Bool.or_eq_true,Bool.and_eq_false_imp,Bool.or_eq_false_iff,Bool.not_eq_true',Bool.not_eq_false',beq_iff_eq,bne_iff_ne,ne_eq] at *); (first|(simp only [IntKind.wrap_i64]; first|omega|(refine And.intro ?_ ?_<;>omega)))))); conv=>whnf)|fail)
   ·obtain ⟨x,hx,hx'⟩:=nthS (l:=v.ks) (c:=c) (by omega)
    have h:keyOk v.ks c (v.ks.getD c ByteArray.empty)=true:=h
    rw [hx'] at h
    exact leB (by rw [hs,← hR,drop_cons? hx,keysOk,if_pos h])
   ·obtain ⟨x,hx,hx'⟩:=nthS (l:=v.ks) (c:=c) (by omega)
    have h:keyOk v.ks c (v.ks.getD c ByteArray.empty)=false:=h
    rw [hx'] at h
    refine ⟨c+1,⟨⟨by omega,?_⟩,by omega⟩,?_⟩
    ·rw [← hR,drop_cons? hx,keysOk,if_neg (by rw [h]; simp)]
    ·(refine And.intro ?_ (And.intro ?_ (And.intro ?_ rfl))<;>(conv=>whnf)<;>repeat' (first|exact trivial|exact LeE.of (Le.refl _)|(with_reducible refine LeE.of ?_)|(first|exact rfl|exact leI (by first|rfl|(rw [wrap64 (by omega) (by omega)]; omega)|fail)|fail)|((with_reducible refine And.intro ?_ ?_)<;>conv=>whnf)))
   ·obtain rfl:c=v.ks.length:=by omega
    exact leB (by rw [hs,← hR,List.drop_length]; rfl)
 all_goals exact leB (by unfold shaped; (simp only [*,Bool.false_eq_true,↓reduceIte,V.t]; try rfl))
theorem aAll (v:V):∀ (t t':Bool) (d:Int),ACall Tryz.prog gl 107 [.ag (cVt t t' v),intA .i64 d] [] (boolA (allV v d)):=by
 induction v using V.ind with
 | h v ih =>
 intro t t' d
 refine acall_of_vcb htb hmix (f:=107) rfl rfl rfl (by kernel_rfl) rfl rfl fun hb=> ?_; simp only [bndAll,AV.bnd,bnds,C.bnd,cVt,cS,true_and,and_true] at hb; conv=>whnf
 repeat' (first|((with_reducible refine GOr.l ?_); (conv=>whnf); refine Exists.intro _ (And.intro (chainI (aShaped _ _ _)) ?_); conv=>whnf)|(refine And.intro (fun h=> ?_) (fun h=> ?_)<;>(first|skip)<;>conv=>whnf)|fail)
 ·exact leB (by rw [allV_eq]; (simp only [*,Bool.false_eq_true,↓reduceIte,V.t]; try rfl))
 ·refine loopN (fun c=>c≤v.l.length∧(v.l.drop c).all (fun x=>allV x (IntKind.i64.wrap (d-1)))=v.l.all (fun x=>allV x (IntKind.i64.wrap (d-1)))) (fun c=>[(17,intA .i64 c)]) (fun c=>[]) v.l.length (fun c h=>h.1) 0 ⟨Nat.zero_le _,rfl⟩ ?_ (fun _=>rfl) fun c ⟨hc,hR⟩=> ?_
  ·(refine And.intro ?_ (And.intro ?_ (And.intro ?_ rfl))<;>(conv=>whnf)<;>repeat' (first|exact trivial|exact LeE.of (Le.refl _)|(first|exact rfl|fail)|((with_reducible refine And.intro ?_ ?_)<;>conv=>whnf)))
  ·conv=>whnf
   repeat' (first|(refine And.intro (fun h=> ?_) (fun h=> ?_)<;>(first|(with_reducible have hd:_<_:=of_decide_eq_true h)|(with_reducible have hd:¬ (_<_):=of_decide_eq_false h)|fail)<;>conv=>whnf)|(refine And.intro ?_ ?_; (focus (first|(refine chainI ?_; (first|omega|fail))|fail)); conv=>whnf)|fail)
   ·obtain ⟨x,hx,hm,he⟩:=rV_ex (l:=v.l) (c:=c) (by omega)
    rw [he]
    conv=>whnf
    repeat' (first|(refine Exists.intro _ (And.intro (ih x hm _ _ _) ?_); conv=>whnf)|(refine And.intro (fun h=> ?_) (fun h=> ?_)<;>(first|skip)<;>conv=>whnf)|((with_reducible refine xc_pure ?_); conv=>whnf))
    ·exact leB (by rw [allV_eq,← hR,drop_cons? hx,List.all_cons]; rw [Bool.not_eq_true'] at h; simp only [*,Bool.false_eq_true,↓reduceIte,Bool.false_and])
    ·refine ⟨c+1,⟨⟨by omega,?_⟩,by omega⟩,?_⟩
     ·rw [← hR,drop_cons? hx,List.all_cons]; rw [Bool.not_eq_false'] at h; rw [h]; rfl
     ·(refine And.intro ?_ (And.intro ?_ (And.intro ?_ rfl))<;>(conv=>whnf)<;>repeat' (first|exact trivial|exact LeE.of (Le.refl _)|(with_reducible refine LeE.of ?_)|(first|exact rfl|exact leI (by first|rfl|(rw [wrap64 (by omega) (by omega)]; omega)|fail)|fail)|((with_reducible refine And.intro ?_ ?_)<;>conv=>whnf)))
   ·obtain rfl:c=v.l.length:=by omega
    exact leB (by rw [allV_eq,← hR,List.drop_length]; simp only [*,Bool.false_eq_true,↓reduceIte]; rfl)
theorem aCheck (t t':Bool)(v:V):ACall Tryz.prog gl 80 [.ag (cVt t t' v)] [] (intA .i64 (checkV v)):=by
 refine acall_of_vc htb hmix (f:=80) rfl rfl rfl (by kernel_rfl) rfl rfl ?_; conv=>whnf
 repeat' (first|(refine Exists.intro _ (And.intro (aAll _ _ _ _) ?_); conv=>whnf)|((with_reducible refine GOr.l ?_); (conv=>whnf); refine Exists.intro _ (And.intro (chainI (aWeight _ _ _)) ?_); conv=>whnf)|(refine And.intro (fun h=> ?_) (fun h=> ?_)<;>(first|skip)<;>conv=>whnf)|((with_reducible refine xc_pure ?_); conv=>whnf))
 all_goals exact leI (by unfold checkV; (simp only [*,Bool.false_eq_true,↓reduceIte,V.t]; try rfl))
end Go.Proofs.YtiodgjgngfklkaaGreatDoor
