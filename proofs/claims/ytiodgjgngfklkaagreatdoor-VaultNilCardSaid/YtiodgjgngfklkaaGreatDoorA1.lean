/- Contracts of functions of the program,and the laws that stand on them: what each function answers,whatever its arguments. -/
import Derived.Test.YtiodgjgngfklkaaGreatDoorC18
import Derived.Test.YtiodgjgngfklkaaGreatDoorC13
set_option linter.all false
set_option maxRecDepth 100000
set_option maxHeartbeats 8000000
namespace Go.Proofs.YtiodgjgngfklkaaGreatDoor
open Go Go.VA
def smZ (c:Int):Bool:=decide (c≥97)&&decide (c≤122)
def dgZ (c:Int):Bool:=decide (c≥48)&&decide (c≤57)
def nmZ (c:Int):Bool:=smZ c||dgZ c||c==95
def wdZ (c:Int):Bool:=smZ (bitsI .or .u8 c 32)||dgZ c||c==95||c==45||c==46
def allB (p:Int→Bool) (s:ByteArray):Bool:=(List.range s.size).all fun j=>p (byteN s j)
def spell (p:Int→Bool) (s:ByteArray):Bool:= !(s.size==0)&&decide (s.size≤24)&&allB p s
def nameB (s:ByteArray):Bool:=spell nmZ s&&smZ (byteN s 0)
def wordB (s:ByteArray):Bool:=spell wdZ s
theorem spell_pos {p:Int→Bool}{s:ByteArray}(h:spell p s=true):0<s.size:=by
 unfold spell at h
 simp only [Bool.and_eq_true,Bool.not_eq_true',beq_eq_false_iff_ne] at h
 omega
theorem str_empty (s:ByteArray):(s.toList==({ data:= #[] }:ByteArray).toList)=(s.size==0):=by
 rw [ByteArray.toList_eq,ByteArray.toList_eq,Bool.eq_iff_iff,beq_iff_eq,beq_iff_eq]
 show s.data.toList=[] ↔ s.data.size=0
 rw [Array.toList_eq_nil_iff,Array.size_eq_zero_iff]
theorem aSmall (c:Int):ACall Tryz.prog gl 117 [intA .u8 c] [] (boolA (smZ c)):=by
 refine acall_of_vc htb hmix (f:=117) rfl rfl rfl (by kernel_rfl) rfl rfl ?_; conv=>whnf
 repeat' (fail)
 exact leB rfl
theorem aDigit6 (c:Int):ACall Tryz.prog gl 118 [intA .u8 c] [] (boolA (dgZ c)):=by
 refine acall_of_vc htb hmix (f:=118) rfl rfl rfl (by kernel_rfl) rfl rfl ?_; conv=>whnf
 repeat' (fail)
 exact leB rfl
theorem aName1 (c:Int):ACall Tryz.prog gl 133 [intA .u8 c] [] (boolA (nmZ c)):=by
 refine acall_of_vc htb hmix (f:=133) rfl rfl rfl (by kernel_rfl) rfl rfl ?_; conv=>whnf
 repeat' (first|(refine Exists.intro _ (And.intro (aSmall _) ?_); conv=>whnf)|((with_reducible refine GOr.l ?_); (conv=>whnf); refine Exists.intro _ (And.intro (chainI (aDigit6 _)) ?_); conv=>whnf)|((with_reducible refine xc_pure ?_); conv=>whnf))
 exact leB rfl
theorem aWord1 (c:Int):ACall Tryz.prog gl 116 [intA .u8 c] [] (boolA (wdZ c)):=by
 refine acall_of_vc htb hmix (f:=116) rfl rfl rfl (by kernel_rfl) rfl rfl ?_; conv=>whnf
 repeat' (first|(refine Exists.intro _ (And.intro (aSmall _) ?_); conv=>whnf)|((with_reducible refine GOr.l ?_); (conv=>whnf); refine Exists.intro _ (And.intro (chainI (aDigit6 _)) ?_); conv=>whnf)|((with_reducible refine xc_pure ?_); conv=>whnf))
 exact leB rfl
theorem aSpelled (F:Nat)(p:Int→Bool)(hF:∀ c,ACall Tryz.prog gl F [intA .u8 c] [] (boolA (p c)))(s:ByteArray):ACall Tryz.prog gl 115 [.c (.v (.string s)),.fn F [] []] [] (boolA (spell p s)):=by
 have e0:=str_empty s
 refine acall_of_vc htb hmix (f:=115) rfl rfl rfl (by kernel_rfl) rfl rfl ?_; conv=>whnf
 repeat' (first|(refine And.intro (fun h=> ?_) (fun h=> ?_)<;>(first|skip)<;>conv=>whnf)|fail)
 ·rw [e0] at h
  refine leB ?_
  unfold spell
  simp only [Bool.or_eq_true,beq_iff_eq,decide_eq_true_eq] at h
  have:(!(s.size==0)&&decide (s.size≤24))=false:=by
   rcases h with h|h
   ·simp [h]
   ·simp; omega
  rw [this]; rfl
 ·rw [e0] at h
  simp only [Bool.or_eq_false_iff,beq_eq_false_iff_ne,decide_eq_false_iff_not] at h
  have h0:=h
  refine loopI Nat (fun c=>c≤s.size∧∀ j,j<c→p (byteN s j)=true) (fun c=>[(15,intA .i64 c)]) (fun _=>[]) (fun c=>s.size-c) 0 ⟨Nat.zero_le _,fun j hj=>absurd hj (Nat.not_lt_zero _)⟩ ?_ (fun _=>rfl) fun c ⟨hc,hp⟩=> ?_
  ·(refine And.intro ?_ (And.intro ?_ (And.intro ?_ rfl))<;>(conv=>whnf)<;>repeat' (first|exact trivial|exact LeE.of (Le.refl _)|(first|exact rfl|fail)|((with_reducible refine And.intro ?_ ?_)<;>conv=>whnf)))
  ·conv=>whnf
   repeat' (first|(refine Exists.intro _ (And.intro (hF _) ?_); conv=>whnf)|(refine And.intro (fun h=> ?_) (fun h=> ?_)<;>(first|(with_reducible have hd:_<_:=of_decide_eq_true h)|(with_reducible have hd:¬ (_<_):=of_decide_eq_false h)|skip)<;>conv=>whnf)|(refine And.intro ?_ ?_; (focus (first|(refine chainI ?_; (first|omega|fail))|fail)); conv=>whnf)|((with_reducible refine xc_pure ?_); conv=>whnf))
   ·have hcs:c<s.size:=by omega
    refine leB ?_
    unfold spell allB
    have hq:(!p (byteN s c))=true:=h
    have:(List.range s.size).all (fun j=>p (byteN s j))=false:=by
     rw [List.all_eq_false]
     exact ⟨c,by simpa using hcs,by simpa using hq⟩
    rw [this]; simp
   ·have hcs:c<s.size:=by omega
    have hq:(!p (byteN s c))=false:=h
    refine ⟨c+1,⟨hcs,fun j hj=> ?_⟩,?_,by show s.size-(c+1)<s.size-c; omega⟩
    ·rcases Nat.lt_or_ge j c with h2|h2
     ·exact hp j h2
     ·obtain rfl:j=c:=by omega
      simpa using hq
    ·(refine And.intro ?_ (And.intro ?_ (And.intro ?_ rfl))<;>(conv=>whnf)<;>repeat' (first|exact trivial|exact LeE.of (Le.refl _)|(with_reducible refine LeE.of ?_)|(first|exact rfl|exact leI (by first|rfl|(rw [wrap64 (by omega) (by omega)]; omega)|fail)|fail)|((with_reducible refine And.intro ?_ ?_)<;>conv=>whnf)))
   ·obtain rfl:c=s.size:=by omega
    refine leB ?_
    unfold spell allB
    have:(List.range s.size).all (fun j=>p (byteN s j))=true:=by
     rw [List.all_eq_true]
     intro j hj
     exact hp j (by simpa using hj)
    rw [this]
    have h1:(s.size==0)=false:=by simpa using h0.1
    have h2:s.size≤24:=by omega
    simp [h1,h2]
theorem aName6 (s:ByteArray):ACall Tryz.prog gl 103 [.c (.v (.string s))] [] (boolA (nameB s)):=by
 have hB:spell nmZ s=true→(0:Int)≤0∧(0:Int)<s.size:=fun h=>⟨Int.le_refl _,by have:=spell_pos h; omega⟩
 refine acall_of_vc htb hmix (f:=103) rfl rfl rfl (by kernel_rfl) rfl rfl ?_; conv=>whnf
 repeat' (first|(refine Exists.intro _ (And.intro (aSpelled _ nmZ aName1 _) ?_); conv=>whnf)|((with_reducible refine GOr.l ?_); (conv=>whnf); refine Exists.intro _ (And.intro (chainI (aSmall _)) ?_); conv=>whnf)|(refine And.intro ?_ ?_; (focus (first|(first|exact hB|fail)|fail)); conv=>whnf)|((with_reducible refine xc_pure ?_); conv=>whnf))
 exact leB rfl
theorem aWord6 (s:ByteArray):ACall Tryz.prog gl 88 [.c (.v (.string s))] [] (boolA (wordB s)):=by
 refine acall_of_vc htb hmix (f:=88) rfl rfl rfl (by kernel_rfl) rfl rfl ?_; conv=>whnf
 repeat' (first|(refine Exists.intro _ (And.intro (aSpelled _ wdZ aWord1 _) ?_); conv=>whnf)|((with_reducible refine xc_pure ?_); conv=>whnf))
 exact leB rfl
structure Ad where
 t:ByteArray
 n:ByteArray
 k:Int
 i:Int
 s:ByteArray
structure Ky where
 a:Ad
 n:Int
def cAd (a:Ad):List C:=[.v (.string a.t),.v (.string a.n),.v (.int .i64 a.k),.v (.int .i64 a.i),.v (.string a.s)]
def cKy (k:Ky):List C:=[.v (.string k.a.t),.v (.string k.a.n),.v (.int .i64 k.a.k),.v (.int .i64 k.a.i),.v (.string k.a.s),.v (.int .u32 k.n)]
def okAd (a:Ad):Bool :=
 if a.k==0 then nameB a.t&&nameB a.n&&a.i==0&&a.s.size==0
 else if a.k==1 then nameB a.t&&nameB a.n&&decide (a.i≥0)&&decide (a.i<128)&&a.s.size==0
 else if a.k==2 then nameB a.t&&nameB a.n&&a.i==0&&wordB a.s
 else false
def okKy (k:Ky):Bool:= !(k.n==0)&&okAd k.a
theorem aCheckA (a:Ad):ACall Tryz.prog gl 78 [.ag (cAd a)] [] (intA .i64 (if okAd a then 0 else 1)):=by
 have e0:=str_empty a.s
 refine acall_of_vc htb hmix (f:=78) rfl rfl rfl (by kernel_rfl) rfl rfl ?_; conv=>whnf
 repeat' (first|(refine Exists.intro _ (And.intro (aName6 _) ?_); conv=>whnf)|((with_reducible refine GOr.l ?_); (conv=>whnf); refine Exists.intro _ (And.intro (chainI (aName6 _)) ?_); conv=>whnf)|((with_reducible refine GOr.l ?_); (conv=>whnf); refine Exists.intro _ (And.intro (chainI (aWord6 _)) ?_); conv=>whnf)|(refine And.intro (fun h=> ?_) (fun h=> ?_)<;>(first|skip)<;>conv=>whnf)|((with_reducible refine xc_pure ?_); conv=>whnf))
 all_goals
  refine leI ?_
  simp only [str_empty] at *
  unfold okAd
  generalize (a.s.size==0)=z at *
  simp_all
 all_goals grind
theorem aCheckK (k:Ky):ACall Tryz.prog gl 48 [.ag (cKy k)] [] (intA .i64 (if okKy k then 0 else 1)):=by
 refine acall_of_vc htb hmix (f:=48) rfl rfl rfl (by kernel_rfl) rfl rfl ?_; conv=>whnf
 repeat' (first|(refine Exists.intro _ (And.intro (aCheckA k.a) ?_); conv=>whnf)|(refine And.intro (fun h=> ?_) (fun h=> ?_)<;>(first|skip)<;>conv=>whnf)|((with_reducible refine xc_pure ?_); conv=>whnf))
 ·exact leI (by unfold okKy; simp_all)
 ·exact leI (by unfold okKy; simp_all)
def kyL (k:Ky):List Int:=strL k.a.t++strL k.a.n++[IntKind.u8.wrap k.a.k]++(if k.a.k==1 then shortL (IntKind.u64.wrap k.a.i).toNat else if k.a.k==2 then strL k.a.s else [])++shortL (IntKind.u64.wrap k.n).toNat
def putKy (k:Ky):List Int:=if okKy k then kyL k else []
theorem spell_le {p:Int→Bool}{s:ByteArray}(h:spell p s=true):s.size≤24:=by
 unfold spell at h
 simp only [Bool.and_eq_true,decide_eq_true_eq] at h
 exact h.1.2
theorem nameB_le {s:ByteArray}(h:nameB s=true):s.size≤24:=by
 unfold nameB at h
 simp only [Bool.and_eq_true] at h
 exact spell_le h.1
theorem okAd_le {a:Ad}(h:okAd a=true):a.t.size≤24∧a.n.size≤24∧a.s.size≤24∧0≤a.k∧a.k≤2∧0≤a.i∧a.i<128:=by
 unfold okAd at h
 split at h
 ·rename_i h0
  simp only [Bool.and_eq_true,beq_iff_eq] at h h0
  exact ⟨nameB_le h.1.1.1,nameB_le h.1.1.2,by omega,by omega,by omega,by omega,by omega⟩
 ·split at h
  ·rename_i h0
   simp only [Bool.and_eq_true,beq_iff_eq,decide_eq_true_eq] at h h0
   exact ⟨nameB_le h.1.1.1.1,nameB_le h.1.1.1.2,by omega,by omega,by omega,by omega,by omega⟩
  ·split at h
   ·rename_i h0
    simp only [Bool.and_eq_true,beq_iff_eq] at h h0
    exact ⟨nameB_le h.1.1.1,nameB_le h.1.1.2,spell_le h.2,by omega,by omega,by omega,by omega⟩
   ·simp at h
theorem okKy_le {k:Ky}(h:okKy k=true):(k.a.t.size≤24∧k.a.n.size≤24∧k.a.s.size≤24∧0≤k.a.k∧k.a.k≤2∧0≤k.a.i∧k.a.i<128)∧k.n≠0:=by
 unfold okKy at h
 simp only [Bool.and_eq_true,Bool.not_eq_true',beq_eq_false_iff_ne] at h
 exact ⟨okAd_le h.2,h.1⟩
theorem catL {n:Nat}{f:Nat→List C}{a b:List Int}{m:Nat}{F g:Nat→List C}(hm:m=n+a.length)(hF:∀ i,i<m→F i=catF 0 n f (rB a) i)(hg:∀ i,i<b.length→g i=rB b i) :
  ∀ i,i<m+b.length→catF 0 m F g i=catF 0 n f (rB (a++b)) i:=by
 intro i hi
 rw [← catF_assoc a b m hm i (by omega)]
 unfold catF
 by_cases h:i<m
 ·rw [if_pos h,if_pos h,Nat.zero_add,hF i h]; rfl
 ·rw [if_neg h,if_neg h]
  exact hg _ (by omega)
theorem rB1 (x:Int):∀ i,i<[x].length→nthC [cBy x] i=rB [x] i:=fun i hi=>by
 obtain rfl:i=0:=by simpa using hi
 rfl
theorem catK {n:Nat}{f:Nat→List C}(A B X D:List Int)(x:Int):∀ i,i<n+A.length+B.length+1+X.length+D.length →
  catF 0 (n+A.length+B.length+1+X.length) (fun i=>catF 0 (n+A.length+B.length+1) (fun i=>catF 0 (n+A.length+B.length) (catF 0 (n+A.length) (fun i=>catF 0 n f (rB A) (0+i)) (rB B)) (nthC [cBy x]) (0+i)) (rB X) (0+i)) (rB D) i=catF 0 n f (rB (A++B++[x]++X++D)) i:=by
 simp only [Nat.zero_add]
 refine catL (by simp; omega) (catL (by simp; omega) (catL (b:=[x]) (by simp; omega) (catL rfl (fun _ _=>rfl) (fun _ _=>rfl)) (rB1 x)) (fun _ _=>rfl)) (fun _ _=>rfl)
theorem catK0 {n:Nat}{f:Nat→List C}(A B D:List Int)(x:Int):∀ i,i<n+A.length+B.length+1+D.length →
  catF 0 (n+A.length+B.length+1) (fun i=>catF 0 (n+A.length+B.length) (catF 0 (n+A.length) (fun i=>catF 0 n f (rB A) (0+i)) (rB B)) (nthC [cBy x]) (0+i)) (rB D) i=catF 0 n f (rB (A++B++[x]++D)) i:=by
 simp only [Nat.zero_add]
 refine catL (by simp; omega) (catL (b:=[x]) (by simp; omega) (catL rfl (fun _ _=>rfl) (fun _ _=>rfl)) (rB1 x)) (fun _ _=>rfl)
theorem kyL_1 {k:Ky}(h:(k.a.k==1)=true):kyL k=strL k.a.t++strL k.a.n++[IntKind.u8.wrap k.a.k]++shortL (IntKind.u64.wrap k.a.i).toNat++shortL (IntKind.u64.wrap k.n).toNat:=by unfold kyL; rw [if_pos h]
theorem kyL_2 {k:Ky}(h1:(k.a.k==1)=false)(h:(k.a.k==2)=true):kyL k=strL k.a.t++strL k.a.n++[IntKind.u8.wrap k.a.k]++strL k.a.s++shortL (IntKind.u64.wrap k.n).toNat:=by unfold kyL; rw [h1,if_neg (by decide),if_pos h]
theorem kyL_0 {k:Ky}(h1:(k.a.k==1)=false)(h:(k.a.k==2)=false):kyL k=strL k.a.t++strL k.a.n++[IntKind.u8.wrap k.a.k]++shortL (IntKind.u64.wrap k.n).toNat:=by unfold kyL; rw [h1,if_neg (by decide),h,if_neg (by decide)]; simp
theorem kyL_len {k:Ky}(h:okKy k=true):(kyL k).length≤113:=by
 obtain ⟨⟨h1,h2,h3,_⟩,_⟩:=okKy_le h
 have a:=strL_len k.a.t
 have b:=strL_len k.a.n
 have c:=strL_len k.a.s
 have d:=shortL_len (IntKind.u64.wrap k.a.i).toNat
 have e:=shortL_len (IntKind.u64.wrap k.n).toNat
 unfold kyL
 simp only [List.length_append,List.length_singleton]
 split
 ·omega
 ·split
  ·omega
  ·simp; omega
theorem gPutKy (t:Bool)(n:Nat)(f:Nat→List C)(k:Ky)(hf:∀ i,i<n→NtCs (f i))(hn:n+200≤140737488355328) :
  GCall Tryz.prog gl 54 [] [.c (.sl t 1 n f),.ag (cKy k)] [.row 1 (n+(putKy k).length) (catF 0 n f (rB (putKy k)))] [.own 0 1 0 (n+(putKy k).length)]:=by
 have CK:=aCheckK k
 by_cases hk:okKy k=true
 ·have ek:putKy k=kyL k:=if_pos hk
  rw [if_pos hk] at CK
  rw [ek]
  obtain ⟨⟨h1,h2,h3,h4,h5,h6,h7⟩,h8⟩:=okKy_le hk
  have a:=strL_len k.a.t
  have b:=strL_len k.a.n
  have c:=strL_len k.a.s
  have d:=shortL_len (IntKind.u64.wrap k.a.i).toNat
  have e:=shortL_len (IntKind.u64.wrap k.n).toNat
  have P1:=gPutStr t n f k.a.t (by omega)
  have P2:=fun F=>gPutStr true (n+(strL k.a.t).length) F k.a.n (by omega)
  have P3:=fun F=>gPutStr true (n+(strL k.a.t).length+(strL k.a.n).length+1) F k.a.s (by omega)
  have P4:=fun F=>gPutShortI true (n+(strL k.a.t).length+(strL k.a.n).length+1) F (IntKind.u64.wrap k.a.i) (u64nn _) (Int.emod_lt_of_pos _ (by decide)) (by omega)
  have P5:=fun m F (hm:m+20≤140737488355328)=>gPutShortI true m F (IntKind.u64.wrap k.n) (u64nn _) (Int.emod_lt_of_pos _ (by decide)) (by omega)
  have P50:=fun F=>P5 (n+(strL k.a.t).length+(strL k.a.n).length+1) F (by omega)
  have P51:=fun F=>P5 (n+(strL k.a.t).length+(strL k.a.n).length+1+(shortL (IntKind.u64.wrap k.a.i).toNat).length) F (by omega)
  have P52:=fun F=>P5 (n+(strL k.a.t).length+(strL k.a.n).length+1+(strL k.a.s).length) F (by omega)
  have B1:(n+(strL k.a.t).length+(strL k.a.n).length+1)*(tb 5).bytes≤140737488355328:=by show _*1≤_; omega
  have nt1:=ntCatG (m:=(strL k.a.t).length) hf (ntB (strL k.a.t) _)
  have nt2:=ntCatG (m:=(strL k.a.n).length) (ntShift nt1) (ntB (strL k.a.n) _)
  have nt3:=ntCatG nt2 (ntOne (IntKind.u8.wrap k.a.k))
  have nt4:=ntCatG (m:=(strL k.a.s).length) (ntShift nt3) (ntB (strL k.a.s) _)
  have nt5:=ntCatG (m:=(shortL (IntKind.u64.wrap k.a.i).toNat).length) (ntShift nt3) (ntB (shortL (IntKind.u64.wrap k.a.i).toNat) _)
  refine gcall_of_vcb htb hmix (f:=54) rfl rfl rfl (by kernel_rfl) rfl rfl rfl fun hb hb2=> ?_; simp only [bndOs,bndO,gbnds,AV.gbnd,bnds,C.bnd,true_and,and_true] at hb hb2; conv=>whnf
  repeat' (first|(refine Exists.intro _ (And.intro (CK) ?_); conv=>whnf)|(refine And.intro (fun h=> ?_) (fun h=> ?_)<;>(first|skip)<;>(first|exact absurd h (by decide)|(conv=>whnf)))|((with_reducible refine Both.mk ?_ ?_)<;>conv=>whnf)|((with_reducible refine DOr.r ?_); (conv=>whnf))|((with_reducible refine NilOr.l ?_); conv=>whnf)|((with_reducible refine OwnOr.l ?_); (conv=>whnf))|((with_reducible apply Drawn.one); conv=>whnf)|((with_reducible refine Then.mk' ?_); conv=>whnf)|(first|exact RefS.self rfl|fail)|(refine And.intro ?_ ?_; (focus (first|exact rfl|(first|assumption)|fail)); conv=>whnf)|((with_reducible refine xc_guard ?_); (first|(refine xc_g (P1) false (by first|(((conv=>whnf); repeat' (first|exact trivial|exact rfl|exact LeC.refl _|((with_reducible refine And.intro ?_ ?_)<;>conv=>whnf))); done)|fail) trivial ?_)|fail); conv=>whnf)|((with_reducible refine xc_guard ?_); (first|(refine xc_g (P2 _) true (by first|(((conv=>whnf); repeat' (first|exact trivial|exact rfl|exact LeC.refl _|((with_reducible refine And.intro ?_ ?_)<;>conv=>whnf))); done)|fail) (by first|(((conv=>whnf); repeat' (first|exact trivial|(first|exact nt2|fail)|((with_reducible refine And.intro ?_ ?_)<;>conv=>whnf))); done)|fail) ?_)); conv=>whnf)|((with_reducible refine xc_guard ?_); (first|(refine xc_g (P3 _) true (by first|(((conv=>whnf); repeat' (first|exact trivial|exact rfl|exact LeC.refl _|((with_reducible refine And.intro ?_ ?_)<;>conv=>whnf))); done)|fail) (by first|(((conv=>whnf); repeat' (first|exact trivial|(first|exact nt4|fail)|((with_reducible refine And.intro ?_ ?_)<;>conv=>whnf))); done)|fail) ?_)); conv=>whnf)|((with_reducible refine xc_guard ?_); (first|(refine xc_g (P4 _) true (by first|(((conv=>whnf); repeat' (first|exact trivial|exact rfl|exact LeC.refl _|((with_reducible refine And.intro ?_ ?_)<;>conv=>whnf))); done)|fail) (by first|(((conv=>whnf); repeat' (first|exact trivial|(first|exact nt5|fail)|((with_reducible refine And.intro ?_ ?_)<;>conv=>whnf))); done)|fail) ?_)); conv=>whnf)|((with_reducible refine xc_guard ?_); (first|(refine xc_g (P50 _) true (by first|(((conv=>whnf); repeat' (first|exact trivial|exact rfl|exact LeC.refl _|((with_reducible refine And.intro ?_ ?_)<;>conv=>whnf))); done)|fail) (by first|(((conv=>whnf); repeat' (first|exact trivial|(first|exact ntCatG (ntShift nt3) (ntB _ _)|fail)|((with_reducible refine And.intro ?_ ?_)<;>conv=>whnf))); done)|fail) ?_)); conv=>whnf)|((with_reducible refine xc_guard ?_); (first|(refine xc_g (P51 _) true (by first|(((conv=>whnf); repeat' (first|exact trivial|exact rfl|exact LeC.refl _|((with_reducible refine And.intro ?_ ?_)<;>conv=>whnf))); done)|fail) (by first|(((conv=>whnf); repeat' (first|exact trivial|(first|exact ntCatG (ntShift nt5) (ntB _ _))|((with_reducible refine And.intro ?_ ?_)<;>conv=>whnf))); done)|fail) ?_)); conv=>whnf)|((with_reducible refine xc_guard ?_); (first|(refine xc_g (P52 _) true (by first|(((conv=>whnf); repeat' (first|exact trivial|exact rfl|exact LeC.refl _|((with_reducible refine And.intro ?_ ?_)<;>conv=>whnf))); done)|fail) (by first|(((conv=>whnf); repeat' (first|exact trivial|(first|exact ntCatG (ntShift nt4) (ntB _ _)|fail)|((with_reducible refine And.intro ?_ ?_)<;>conv=>whnf))); done)|fail) ?_)); conv=>whnf)|((with_reducible refine xc_pure ?_); conv=>whnf))
  all_goals first
   | rw [kyL_1 (k:=k) (by assumption)]
   | rw [kyL_2 (k:=k) (by assumption) (by assumption)]
   | rw [kyL_0 (k:=k) (by assumption) (by assumption)]
  all_goals ((conv=>whnf); repeat' (first|exact trivial|exact rfl|((with_reducible refine And.intro ?_ ?_)<;>conv=>whnf)))
  all_goals first
   | exact fun i hi=>LeCs.of_eq (catK _ _ _ _ _ i (by simp only [List.length_append,List.length_singleton] at hi; omega))
   | exact fun i hi=>LeCs.of_eq (catK0 _ _ _ _ i (by simp only [List.length_append,List.length_singleton] at hi; omega))
   | (simp only [List.length_append,List.length_singleton]; omega)
 ·have ek:putKy k=[]:=if_neg hk
  rw [if_neg hk] at CK
  rw [ek]
  refine gcall_of_vcb htb hmix (f:=54) rfl rfl rfl (by kernel_rfl) rfl rfl rfl fun hb hb2=> ?_; simp only [bndOs,bndO,gbnds,AV.gbnd,bnds,C.bnd,true_and,and_true] at hb hb2; conv=>whnf
  repeat' (first|(refine Exists.intro _ (And.intro (CK) ?_); conv=>whnf)|(refine And.intro (fun h=> ?_) (fun h=> ?_)<;>(first|skip)<;>(first|exact absurd h (by decide)|(conv=>whnf)))|((with_reducible refine NilOr.l ?_); conv=>whnf)|(refine And.intro ?_ ?_; (focus (first|exact rfl|fail)); conv=>whnf)|((with_reducible refine xc_guard ?_); (first|(refine xc_g (gClone _ _ _) false (by first|(((conv=>whnf); repeat' (first|exact trivial|exact rfl|exact LeC.refl _|((with_reducible refine And.intro ?_ ?_)<;>conv=>whnf))); done)|fail) trivial ?_)|fail); conv=>whnf)|((with_reducible refine xc_pure ?_); conv=>whnf))
  ((conv=>whnf); repeat' (first|exact trivial|exact rfl|((with_reducible refine And.intro ?_ ?_)<;>conv=>whnf)))
  exact fun i hi=>LeCs.of_eq (catF_nil i hi _).symm
end Go.Proofs.YtiodgjgngfklkaaGreatDoor
