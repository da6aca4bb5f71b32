/- Contracts of functions of the program,and the laws that stand on them: what each function answers,whatever its arguments. -/
import Derived.Test.YtiodgjgngfklkaaGreatDoorC9
import Derived.Test.YtiodgjgngfklkaaGreatDoorVD
set_option linter.all false
set_option maxRecDepth 100000
set_option maxHeartbeats 8000000
namespace Go.Proofs.YtiodgjgngfklkaaGreatDoor
open Go Go.VA
theorem catF_one {n:Nat}{f:Nat→List C}(x:Int)(i:Nat)(hi:i<n+1):catF 0 n f (nthC [cBy x]) i=catF 0 n f (rB [x]) i:=by
 unfold catF
 split
 ·rfl
 ·obtain rfl:i=n:=by omega
  rw [Nat.sub_self]; rfl
theorem catF_cong {n k:Nat}{F F' g:Nat→List C}(h:∀ i,i<n→F i=F' i)(i:Nat)(hi:i<n+k):catF 0 n F g i=catF 0 n F' g i:=by
 unfold catF
 split
 ·rw [Nat.zero_add]; exact h i (by omega)
 ·rfl
theorem leafA {n:Nat}{f:Nat→List C}(b x:Int)(i:Nat)(hi:i<n+1+1):catF 0 (n+1) (catF 0 n f (nthC [cBy b])) (nthC [cBy x]) i=catF 0 n f (rB [b,x]) i:=by
 rw [catF_cong (k:=1) (F':=catF 0 n f (rB [b])) (fun i hi=>catF_one b i hi) i hi]
 exact catF_snoc [b] x (n+1) rfl i hi
theorem leafB {n:Nat}{f:Nat→List C}(b:Int)(l:List Int)(i:Nat)(hi:i<n+1+l.length):catF 0 (n+1) (fun i=>catF 0 n f (nthC [cBy b]) (0+i)) (rB l) i=catF 0 n f (rB (b::l)) i:=by
 rw [catF_cong (k:=l.length) (F':=catF 0 n f (rB [b])) (fun i hi=>by show catF 0 n f _ (0+i)=_; rw [Nat.zero_add]; exact catF_one b i hi) i hi]
 exact catF_assoc [b] l (n+1) rfl i hi
theorem leafC {n:Nat}{f:Nat→List C}(a b c:List Int)(i:Nat)(hi:i<n+(a.length+b.length+c.length)):catF 0 (n+a.length+b.length) (catF 0 (n+a.length) (catF 0 n f (rB a)) (rB b)) (rB c) i=catF 0 n f (rB (a++b++c)) i:=by
 rw [catF_cong (k:=c.length) (F':=catF 0 n f (rB (a++b))) (fun i hi=>catF_assoc a b _ rfl i hi) i (by omega)]
 exact catF_assoc (a++b) c _ (by rw [List.length_append]; omega) i (by rw [List.length_append]; omega)
theorem first_t {v:V}(h:v.sec=true):firstB v=bitsI .or .u8 (IntKind.u8.wrap v.k) 128:=by simp [firstB,h]
theorem first_f {v:V}(h:v.sec=false):firstB v=IntKind.u8.wrap v.k:=by simp [firstB,h]
theorem layB_1 {v:V}{rs:List (List Int)}(h:(v.k==1)=true):layB v rs=[IntKind.u8.wrap v.i]:=by simp only [layB,h,if_true]
theorem layB_2 {v:V}{rs:List (List Int)}(h1:(v.k==1)=false)(h:(v.k==2)=true):layB v rs=shortL (zigI v.i).toNat:=by simp only [layB,h,h1,if_true,Bool.false_eq_true,if_false]
theorem layB_3 {v:V}{rs:List (List Int)}(h1:(v.k==1)=false)(h2:(v.k==2)=false)(h:(v.k==3)=true):layB v rs=strL v.s:=by simp only [layB,h,h1,h2,if_true,Bool.false_eq_true,if_false]
theorem layB_6 {v:V}{rs:List (List Int)}(h1:(v.k==1)=false)(h2:(v.k==2)=false)(h3:(v.k==3)=false)(h:(v.k==6)=true):layB v rs=[codeT v.t]:=by simp only [layB,h,h1,h2,h3,if_true,Bool.false_eq_true,if_false]
theorem layB_0 {v:V}{rs:List (List Int)}(h1:(v.k==1)=false)(h2:(v.k==2)=false)(h3:(v.k==3)=false)(h6:(v.k==6)=false)(h4:(v.k==4)=false)(h5:(v.k==5)=false):layB v rs=[]:=by simp [layB,h1,h2,h3,h6,h4,h5]
theorem layB_45 {v:V}{rs:List (List Int)}(h1:(v.k==1)=false)(h2:(v.k==2)=false)(h3:(v.k==3)=false)(h6:(v.k==6)=false)(h:(v.k==4||v.k==5)=true):layB v rs=shortL v.l.length++layIts v rs v.l.length:=by simp only [layB,h1,h2,h3,h6,h,if_true,Bool.false_eq_true,if_false]
theorem gPutStrO (n:Nat)(f:Nat→List C)(s:ByteArray)(hf:∀ i,i<n→NtCs (f i))(hn:n+(strL s).length≤140737488355328) :
  GCall Tryz.prog gl 90 [.row 1 n f] [.own 0 1 0 n,.c (.v (.string s))] [.row 1 (n+(strL s).length) (catF 0 n f (rB (strL s)))] [.own 0 1 0 (n+(strL s).length)]:=by
 have hl:(strL s).length=(shortL s.size).length+s.size:=by simp [strL,bytesL_len]
 have w1:IntKind.u64.wrap (s.size:Int)=s.size:=wrapU (by omega) (by omega)
 refine gcall_of_vcb htb hmix (f:=90) rfl rfl rfl (by kernel_rfl) rfl rfl rfl fun hb hb2=> ?_; simp only [bndOs,bndO,gbnds,AV.gbnd,bnds,C.bnd,true_and,and_true] at hb hb2; conv=>whnf
 have P:=fun (F:Nat→List C)=>gPutShortI true n F (IntKind.u64.wrap (s.size:Int)) (by rw [w1]; omega) (by rw [w1]; omega) (by rw [w1]; show n+(shortL s.size).length≤_; omega)
 have B1:(n+(shortL (IntKind.u64.wrap (s.size:Int)).toNat).length+s.size)*(tb 5).bytes≤140737488355328:=by rw [w1]; show (n+(shortL s.size).length+s.size)*1≤_; omega
 repeat' (first|((with_reducible refine NilOr.l ?_); conv=>whnf)|(refine And.intro ?_ ?_; (focus (first|exact rfl|(first|assumption)|fail)); conv=>whnf)|((with_reducible refine xc_guard ?_); (first|(refine xc_g (P _) true (by first|(((conv=>whnf); repeat' (first|exact trivial|exact rfl|exact LeC.refl _|((with_reducible refine And.intro ?_ ?_)<;>conv=>whnf))); done)|fail) (by first|(((conv=>whnf); repeat' (first|exact trivial|(first|exact ntCatG (ntShift hf) (ntB _ _))|((with_reducible refine And.intro ?_ ?_)<;>conv=>whnf))); done)|fail) ?_)); conv=>whnf)|fail)
 simp only [w1,Int.toNat_natCast]
 ((conv=>whnf); repeat' (first|exact trivial|exact rfl|((with_reducible refine And.intro ?_ ?_)<;>conv=>whnf)))
 ·show n+(shortL s.size).length+s.size=n+(strL s).length; omega
 ·intro i hi
  rw [catF_cong (k:=s.size) (F':=catF 0 n f (rB (shortL s.size))) (fun i hi=>catF_cong (k:=(shortL s.size).length) (fun i _=>by rw [Nat.zero_add]) i hi) i (by omega)]
  exact LeCs.of_eq (catF_str (shortL s.size) s _ rfl i (by omega))
 ·show n+(shortL s.size).length+s.size=n+(strL s).length; omega
def hdL (v:V) (c:Nat):List Int:=firstB v::(shortL v.l.length++layIts v (v.l.map layL) c)
theorem hdL_succ4 {v:V}{c:Nat}{x:V}(h:(v.k==5)=false)(hx:v.l[c]? =some x)(hc:c<v.l.length):hdL v (c+1)=hdL v c++layL x:=by
 unfold hdL
 rw [layIts_succ,h,getD_map layL v.l c hc [] x hx]
 simp
theorem hdL_succ5 {v:V}{c:Nat}{x:V}(h:(v.k==5)=true)(hx:v.l[c]? =some x)(hc:c<v.l.length):hdL v (c+1)=hdL v c++strL (v.ks.getD c ByteArray.empty)++layL x:=by
 unfold hdL
 rw [layIts_succ,h,getD_map layL v.l c hc [] x hx]
 simp
theorem hdL_big {v:V}{c:Nat}{x:V}(hx:v.l[c]? =some x)(hc:c<v.l.length):(hdL v c).length+(strL (v.ks.getD c ByteArray.empty)).length+bigL x≤bigL v:=by
 have h1:=layIts_big v (fun x _=>layL_big x) c (by omega)
 have h2:=shortL_len v.l.length
 have h3:=strL_len (v.ks.getD c ByteArray.empty)
 have h4:=sumTo_mono v.ks (v.l.map bigL) (c+1) v.l.length (by omega)
 simp only [sumTo] at h4
 rw [getD_map bigL v.l c hc 0 x hx] at h4
 rw [bigL_eq v]
 simp only [hdL,List.length_cons,List.length_append]
 omega
theorem hdL_all {v:V}(h1:(v.k==1)=false)(h2:(v.k==2)=false)(h3:(v.k==3)=false)(h6:(v.k==6)=false)(h:(v.k==4||v.k==5)=true):layL v=hdL v v.l.length:=by rw [layL_eq,layB_45 h1 h2 h3 h6 h]; rfl
theorem keyed_el {v x:V}(h:keyed v=true)(hx:x ∈ v.l):keyed x=true:=by
 rw [keyed_eq,Bool.and_eq_true] at h
 exact List.all_eq_true.1 h.2 x hx
theorem keyed_ks {v:V}(h:keyed v=true)(h5:(v.k==5)=true):v.ks.length=v.l.length:=by
 rw [keyed_eq,Bool.and_eq_true,bne,h5] at h
 simpa using h.1
attribute [local irreducible] zigI
set_option maxHeartbeats 2000000 in
theorem gLay (v:V):∀ (t t':Bool) (n:Nat) (f:Nat→List C),(∀ i,i<n→NtCs (f i))→keyed v=true→n+bigL v≤140737488355328 →
  GCall Tryz.prog gl 132 [.row 1 n f] [.own 0 1 0 n,.ag (cVt t t' v)] [.row 1 (n+(layL v).length) (catF 0 n f (rB (layL v)))] [.own 0 1 0 (n+(layL v).length)]:=by
 induction v using V.ind with
 | h v ih =>
 intro t t' n f hf hkey hn
 have hL:=layL_eq v
 have hB:=bigL_eq v
 refine gcall_of_vcb htb hmix (f:=132) rfl rfl rfl (by kernel_rfl) rfl rfl rfl fun hb hb2=> ?_; simp only [bndOs,bndO,gbnds,AV.gbnd,bnds,C.bnd,true_and,and_true] at hb hb2; conv=>whnf
 have hll:v.l.length≤140737488355328:=by have:=hb2.2; simp only [cVt,bnds,C.bnd] at this; exact this.2.2.2.1.1
 have B0:(n+1)*(tb 5).bytes≤140737488355328:=by show (n+1)*1≤_; omega
 have B1:(n+1+1)*(tb 5).bytes≤140737488355328:=by show (n+1+1)*1≤_; omega
 have wl:IntKind.u64.wrap (v.l.length:Int)=v.l.length:=wrapU (by omega) (by omega)
 have s1:=shortL_len (zigI v.i).toNat
 have s2:=strL_len v.s
 have s3:=shortL_len v.l.length
 have P2:=fun (F:Nat→List C)=>gPutShortI true (n+1) F (zigI v.i) (zigI_rg v.i).1 (zigI_rg v.i).2 (by omega)
 have P3:=fun (F:Nat→List C)=>gPutStr true (n+1) F v.s (by omega)
 have P4:=fun (F:Nat→List C)=>gPutShortI true (n+1) F (IntKind.u64.wrap (v.l.length:Int)) (by rw [wl]; omega) (by rw [wl]; omega) (by rw [wl,Int.toNat_natCast]; omega)
 repeat' (first|(refine Exists.intro _ (And.intro (aZig _) ?_); conv=>whnf)|(refine Exists.intro _ (And.intro (aCode _ _) ?_); conv=>whnf)|(refine And.intro (fun h=> ?_) (fun h=> ?_)<;>(first|skip)<;>conv=>whnf)|((with_reducible refine NilOr.l ?_); conv=>whnf)|((with_reducible refine OwnOr.l ?_); (conv=>whnf))|(refine And.intro ?_ ?_; (focus (first|exact rfl|(first|assumption)|fail)); conv=>whnf)|((with_reducible refine xc_guard ?_); (first|(refine xc_g (P2 _) true (by first|(((conv=>whnf); repeat' (first|exact trivial|exact rfl|exact LeC.refl _|((with_reducible refine And.intro ?_ ?_)<;>conv=>whnf))); done)|fail) (by first|(((conv=>whnf); repeat' (first|exact trivial|(first|exact ntCatG (ntShift (ntCatG hf (ntOne _))) (ntB _ _)|fail)|((with_reducible refine And.intro ?_ ?_)<;>conv=>whnf))); done)|fail) ?_)); conv=>whnf)|((with_reducible refine xc_guard ?_); (first|(refine xc_g (P3 _) true (by first|(((conv=>whnf); repeat' (first|exact trivial|exact rfl|exact LeC.refl _|((with_reducible refine And.intro ?_ ?_)<;>conv=>whnf))); done)|fail) (by first|(((conv=>whnf); repeat' (first|exact trivial|(first|exact ntCatG (ntShift (ntCatG hf (ntOne _))) (ntB _ _)|fail)|((with_reducible refine And.intro ?_ ?_)<;>conv=>whnf))); done)|fail) ?_)); conv=>whnf)|((with_reducible refine xc_guard ?_); (first|(refine xc_g (P4 _) true (by first|(((conv=>whnf); repeat' (first|exact trivial|exact rfl|exact LeC.refl _|((with_reducible refine And.intro ?_ ?_)<;>conv=>whnf))); done)|fail) (by first|(((conv=>whnf); repeat' (first|exact trivial|(first|exact ntCatG (ntShift (ntCatG hf (ntOne _))) (ntB _ _)|fail)|((with_reducible refine And.intro ?_ ?_)<;>conv=>whnf))); done)|fail) ?_)); conv=>whnf)|((with_reducible refine xc_pure ?_); conv=>whnf))
 all_goals first
  | (exfalso; simp_all; done)
  | skip
 all_goals first
  | have e0:=first_t (v:=v) (by assumption)
  | have e0:=first_f (v:=v) (by assumption)
 all_goals try first
  | have e1:=layB_1 (v:=v) (rs:=v.l.map layL) (by assumption)
  | have e1:=layB_2 (v:=v) (rs:=v.l.map layL) (by assumption) (by assumption)
  | have e1:=layB_3 (v:=v) (rs:=v.l.map layL) (by assumption) (by assumption) (by assumption)
  | have e1:=layB_6 (v:=v) (rs:=v.l.map layL) (by assumption) (by assumption) (by assumption) (by assumption)
  | have e1:=layB_0 (v:=v) (rs:=v.l.map layL) (by assumption) (by assumption) (by assumption) (by assumption) (by assumption) (by assumption)
 all_goals try (rw [e0,e1] at hL; rw [hL])
 all_goals try (guard_target =~ (_∧_); ((conv=>whnf); repeat' (first|exact trivial|exact rfl|((with_reducible refine And.intro ?_ ?_)<;>conv=>whnf))))
 all_goals try first
  | exact fun i hi=>LeCs.of_eq (leafA _ _ i hi)
  | exact fun i hi=>LeCs.of_eq (leafB _ _ i (by simp only [List.length_cons] at hi; omega))
  | exact fun i hi=>LeCs.of_eq (catF_one _ i hi)
  | (simp only [List.length_cons]; omega)
 all_goals
  have e2:=hdL_all (v:=v) (by assumption) (by assumption) (by assumption) (by assumption) (by simp [*])
  refine loopI Nat (fun c=>c≤v.l.length) (fun c=>[(62,intA .i64 c),(0,.own 3 1 0 (n+(hdL v c).length))]) (fun c=>[.row 1 (n+1) (catF 0 n f (nthC [cBy (firstB v)])),.box (List.map AV.c (cVt t t' v)),.row (tb 5).sz 0 fun x=>[],.row 1 (n+(hdL v c).length) (catF 0 n f (rB (hdL v c)))]) (fun c=>v.l.length-c) 0 (Nat.zero_le _) ?_ (fun _=>rfl) fun c hc=> ?_
  ·have hz:hdL v 0=firstB v::shortL v.l.length:=by simp [hdL,layIts]
   rw [wl,Int.toNat_natCast]
   (refine And.intro ?_ (And.intro ?_ (And.intro ?_ rfl))<;>(conv=>whnf)<;>repeat' (first|exact trivial|exact LeE.of (Le.refl _)|(with_reducible refine LeE.of ?_)|(first|exact rfl|exact fun i hi=>LeCs.refl _|fail)|((with_reducible refine And.intro ?_ ?_)<;>conv=>whnf)))
   all_goals first
    | exact fun i hi=>LeCs.of_eq (by rw [e0])
    | exact leOwn (by rw [hz,List.length_cons]; omega)
    | (rw [hz,List.length_cons]; omega)
    | exact fun i hi=>LeCs.of_eq (by rw [hz,e0]; exact leafB _ _ i (by rw [hz,List.length_cons] at hi; omega))
  ·rcases Nat.lt_or_ge c v.l.length with hcl|hcl
   ·obtain ⟨x,hx,hm,he⟩:=rV_ex hcl
    have hkx:=keyed_el hkey hm
    have hbig:=hdL_big hx hcl
    have hxl:=layL_big x
    have nt1:=ntCatG hf (ntB (hdL v c) (hdL v c).length)
    have PS:=gPutStrO (n+(hdL v c).length) (catF 0 n f (rB (hdL v c))) (v.ks.getD c ByteArray.empty) nt1 (by omega)
    have PL:=fun t t'=>ih x hm t t' (n+(hdL v c).length) (catF 0 n f (rB (hdL v c))) nt1 hkx (by omega)
    have PM:=fun t t'=>ih x hm t t' (n+(hdL v c).length+(strL (v.ks.getD c ByteArray.empty)).length) (catF 0 (n+(hdL v c).length) (catF 0 n f (rB (hdL v c))) (rB (strL (v.ks.getD c ByteArray.empty)))) (ntCatG nt1 (ntB _ _)) hkx (by omega)
    conv=>whnf
    repeat' (first|(refine And.intro (fun h=> ?_) (fun h=> ?_)<;>(first|(with_reducible have hd:_<_:=of_decide_eq_true h)|(with_reducible have hd:¬ (_<_):=of_decide_eq_false h)|fail)<;>conv=>whnf)|(refine And.intro ?_ ?_; (focus (first|exact rfl|(refine chainI ?_; (first|omega|fail))|(first|omega|fail)|fail)); conv=>whnf)|fail)
    all_goals try exact trivial
    rw [he]
    conv=>whnf
    try (have hkk:c<v.ks.length:=by rw [keyed_ks hkey (by assumption)]; exact hcl)
    repeat' (first|(refine And.intro (fun h=> ?_) (fun h=> ?_)<;>(first|skip)<;>conv=>whnf)|(refine And.intro ?_ ?_; (focus (first|(refine chainI ?_; (first|omega|fail))|((conv=>whnf); intros; (try simp only [decide_eq_true_eq,decide_eq_false_iff_not,Bool.and_eq_true,Bool.or_eq_true,Bool.and_eq_false_imp,Bool.or_eq_false_iff,Bool.not_eq_true',Bool.not_eq_false',beq_iff_eq,bne_iff_ne,ne_eq] at *); (first|omega|fail)))); conv=>whnf)|((with_reducible refine xc_guard ?_); (first|(refine xc_g (PS) false (by first|(((conv=>whnf); repeat' (first|exact trivial|exact rfl|exact LeC.refl _|exact (fun i hi=>LeCs.refl _)|((with_reducible refine And.intro ?_ ?_)<;>conv=>whnf))); done)|fail) trivial ?_)|fail); conv=>whnf)|((with_reducible refine xc_guard ?_); (first|(refine xc_g (PL _ _) false (by first|(((conv=>whnf); repeat' (first|exact trivial|exact rfl|exact LeC.refl _|exact (fun i hi=>LeCs.refl _)|((with_reducible refine And.intro ?_ ?_)<;>conv=>whnf))); done)|fail) trivial ?_)|fail); conv=>whnf)|((with_reducible refine xc_guard ?_); (first|(refine xc_g (PM _ _) false (by first|(((conv=>whnf); repeat' (first|exact trivial|exact rfl|exact LeC.refl _|exact (fun i hi=>LeCs.refl _)|((with_reducible refine And.intro ?_ ?_)<;>conv=>whnf))); done)|fail) trivial ?_)|fail); conv=>whnf)|fail)
    all_goals try first
     | exact absurd (eq_of_beq ‹(v.k==4)=true›) (by rw [eq_of_beq ‹(v.k==5)=true›]; decide)
     | exact absurd ((‹(v.k==5)=true›).symm.trans ‹(v.k==5)=false›) (by decide)
    all_goals
     first|have es:=hdL_succ5 (v:=v) (c:=c) (by assumption) hx hcl|have es:=hdL_succ4 (v:=v) (c:=c) (by assumption) hx hcl
     have el:=congrArg List.length es
     simp only [List.length_append] at el
     refine ⟨c+1,by omega,?_,by omega⟩
     (refine And.intro ?_ (And.intro ?_ (And.intro ?_ rfl))<;>(conv=>whnf)<;>repeat' (first|exact trivial|exact LeE.of (Le.refl _)|(with_reducible refine LeE.of ?_)|(first|exact rfl|exact leI (by first|rfl|(rw [wrap64 (by omega) (by omega)]; omega)|fail)|exact fun i hi=>LeCs.refl _|exact leOwn (by first|rfl|omega))|((with_reducible refine And.intro ?_ ?_)<;>conv=>whnf)))
    all_goals try first
     | exact leI (by rw [wrap64 (by omega) (by omega)]; rfl)
     | exact leOwn (by omega)
     | omega
    all_goals first
     | exact fun i hi=>LeCs.of_eq (by rw [es]; exact catF_assoc _ _ _ rfl i (by omega))
     | exact fun i hi=>LeCs.of_eq (by rw [es]; exact leafC _ _ _ i (by omega))
   ·obtain rfl:c=v.l.length:=by omega
    conv=>whnf
    repeat' (first|(refine And.intro (fun h=> ?_) (fun h=> ?_)<;>(first|(with_reducible have hd:_<_:=of_decide_eq_true h)|(with_reducible have hd:¬ (_<_):=of_decide_eq_false h)|fail)<;>conv=>whnf)|(refine And.intro ?_ ?_; (focus (first|exact rfl|(refine chainI ?_; (first|omega|fail))|fail)); conv=>whnf)|fail)
    all_goals try (exfalso; omega)
    rw [e2]
    ((conv=>whnf); repeat' (first|exact trivial|exact rfl|exact (fun i hi=>LeCs.refl _)|((with_reducible refine And.intro ?_ ?_)<;>conv=>whnf)))
end Go.Proofs.YtiodgjgngfklkaaGreatDoor
namespace Go.Proofs.YtiodgjgngfklkaaGreatDoor
open Go Go.VA
def putLn (v:V):List Int:=if checkV v != 0 then [] else layL v
set_option maxHeartbeats 1000000 in
theorem gPut (v:V)(t t' t'':Bool)(n:Nat)(f:Nat→List C)(hf:∀ i,i<n→NtCs (f i))(hkey:checkV v=0→keyed v=true)(hn:n+bigL v≤140737488355328) :
  GCall Tryz.prog gl 102 [] [.c (.sl t'' 1 n f),.ag (cVt t t' v)] [.row 1 (n+(putLn v).length) (catF 0 n f (rB (putLn v)))] [.own 0 1 0 (n+(putLn v).length)]:=by
 by_cases hc:checkV v=0
 ·have P:=gLay v t t' n f hf (hkey hc) hn
  have hc':(checkV v != 0)=false:=by rw [hc]; rfl
  have e:putLn v=layL v:=by unfold putLn; rw [hc']; rfl
  rw [e]
  refine gcall_of_vcb htb hmix (f:=102) rfl rfl rfl (by kernel_rfl) rfl rfl rfl fun hb hb2=> ?_; simp only [bndOs,bndO,gbnds,AV.gbnd,bnds,C.bnd,true_and,and_true] at hb hb2; conv=>whnf
  repeat' (first|(refine Exists.intro _ (And.intro (aCheck _ _ _) ?_); conv=>whnf)|(refine And.intro (fun h=> ?_) (fun h=> ?_)<;>(first|skip)<;>conv=>whnf)|((with_reducible refine NilOr.l ?_); conv=>whnf)|(refine And.intro ?_ ?_; (focus (first|exact rfl|((conv=>whnf); intros; (try simp only [decide_eq_true_eq,decide_eq_false_iff_not,Bool.and_eq_true,Bool.or_eq_true,Bool.and_eq_false_imp,Bool.or_eq_false_iff,Bool.not_eq_true',Bool.not_eq_false',beq_iff_eq,bne_iff_ne,ne_eq] at *); (first|omega|fail)))); conv=>whnf)|((with_reducible refine xc_guard ?_); (first|(refine xc_g (gClone _ _ _) false (by first|(((conv=>whnf); repeat' (first|exact trivial|exact rfl|exact LeC.refl _|((with_reducible refine And.intro ?_ ?_)<;>conv=>whnf))); done)|fail) trivial ?_)|fail); conv=>whnf)|((with_reducible refine xc_guard ?_); (first|(refine xc_g (P) false (by first|(((conv=>whnf); repeat' (first|exact trivial|exact rfl|exact LeC.refl _|exact (fun i hi=>LeCs.refl _)|((with_reducible refine And.intro ?_ ?_)<;>conv=>whnf))); done)|fail) trivial ?_)|fail); conv=>whnf)|((with_reducible refine xc_pure ?_); conv=>whnf))
  all_goals try exact absurd ((‹(checkV v != 0)=true›).symm.trans hc') (by decide)
  ((conv=>whnf); repeat' (first|exact trivial|exact rfl|exact (fun i hi=>LeCs.refl _)|((with_reducible refine And.intro ?_ ?_)<;>conv=>whnf)))
 ·have hc':(checkV v != 0)=true:=by simpa using hc
  have e:putLn v=[]:=by unfold putLn; rw [hc']; rfl
  rw [e]
  refine gcall_of_vcb htb hmix (f:=102) rfl rfl rfl (by kernel_rfl) rfl rfl rfl fun hb hb2=> ?_; simp only [bndOs,bndO,gbnds,AV.gbnd,bnds,C.bnd,true_and,and_true] at hb hb2; conv=>whnf
  repeat' (first|(refine Exists.intro _ (And.intro (aCheck _ _ _) ?_); conv=>whnf)|(refine And.intro (fun h=> ?_) (fun h=> ?_)<;>(first|skip)<;>conv=>whnf)|((with_reducible refine NilOr.l ?_); conv=>whnf)|(refine And.intro ?_ ?_; (focus (first|exact rfl|fail)); conv=>whnf)|((with_reducible refine xc_guard ?_); (first|(refine xc_g (gClone _ _ _) false (by first|(((conv=>whnf); repeat' (first|exact trivial|exact rfl|exact LeC.refl _|((with_reducible refine And.intro ?_ ?_)<;>conv=>whnf))); done)|fail) trivial ?_)|fail); conv=>whnf)|((with_reducible refine xc_pure ?_); conv=>whnf))
  all_goals try exact absurd ((‹(checkV v != 0)=false›).symm.trans hc') (by decide)
  ((conv=>whnf); repeat' (first|exact trivial|exact rfl|((with_reducible refine And.intro ?_ ?_)<;>conv=>whnf)))
  all_goals first
   | exact fun i hi=>LeCs.of_eq (catF_nil i hi _).symm
   | rfl
abbrev byF (g:Nat→Int) (i:Nat):List C:=cBy (g i)
def nF:Nat→List C:=fun _=>[]
end Go.Proofs.YtiodgjgngfklkaaGreatDoor
