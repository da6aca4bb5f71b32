/- Contracts of functions of the program,and the laws that stand on them: what each function answers,whatever its arguments. -/
import Derived.Test.YtiodgjgngfklkaaGreatDoorA1
import Derived.Test.YtiodgjgngfklkaaGreatDoorW1
import Derived.Defers
import Derived.StillTactics
import Derived.Lib.Hide
import Derived.WalkKit
set_option linter.all false
set_option maxRecDepth 100000
set_option maxHeartbeats 8000000
namespace Go.Proofs.YtiodgjgngfklkaaGreatDoor
open Go Go.VA
abbrev glD:Gl:=⟨fun _=>[]⟩
theorem aSmallD (c:Int):ACall Tryz.prog glD 117 [intA .u8 c] [] (boolA (smZ c)):=by
 refine acall_of_vc htb hmix (f:=117) rfl rfl rfl (by kernel_rfl) rfl rfl ?_; conv=>whnf
 repeat' (fail)
 exact leB rfl
theorem aDigit6D (c:Int):ACall Tryz.prog glD 118 [intA .u8 c] [] (boolA (dgZ c)):=by
 refine acall_of_vc htb hmix (f:=118) rfl rfl rfl (by kernel_rfl) rfl rfl ?_; conv=>whnf
 repeat' (fail)
 exact leB rfl
theorem aWord1D (c:Int):ACall Tryz.prog glD 116 [intA .u8 c] [] (boolA (wdZ c)):=by
 refine acall_of_vc htb hmix (f:=116) rfl rfl rfl (by kernel_rfl) rfl rfl ?_; conv=>whnf
 repeat' (first|(refine Exists.intro _ (And.intro (aSmallD _) ?_); conv=>whnf)|((with_reducible refine GOr.l ?_); (conv=>whnf); refine Exists.intro _ (And.intro (chainI (aDigit6D _)) ?_); conv=>whnf)|((with_reducible refine xc_pure ?_); conv=>whnf))
 exact leB rfl
theorem aSpelledD (F:Nat)(p:Int→Bool)(hF:∀ c,ACall Tryz.prog glD F [intA .u8 c] [] (boolA (p c)))(s:ByteArray):ACall Tryz.prog glD 115 [.c (.v (.string s)),.fn F [] []] [] (boolA (spell p s)):=by
 have e0:=str_empty s
 refine acall_of_vc htb hmix (f:=115) rfl rfl rfl (by kernel_rfl) rfl rfl ?_; conv=>whnf
 repeat' (first|(refine And.intro (fun h=> ?_) (fun h=> ?_)<;>(first|skip)<;>(first|(conv=>whnf)))|fail)
 ·rw [e0] at h
  refine leB ?_
  unfold spell
  simp only [Bool.or_eq_true,beq_iff_eq,decide_eq_true_eq] at h
  have:(!(s.size==0)&&decide (s.size≤24))=false:=by
   rcases h with h|h
   ·simp [h]
   ·simp; omega
  rw [this]; rfl
 ·rw [e0] at h
  simp only [Bool.or_eq_false_iff,beq_eq_false_iff_ne,decide_eq_false_iff_not] at h
  have h0:=h
  refine loopI Nat (fun c=>c≤s.size∧∀ j,j<c→p (byteN s j)=true) (fun c=>[(15,intA .i64 c)]) (fun _=>[]) (fun c=>s.size-c) 0 ⟨Nat.zero_le _,fun j hj=>absurd hj (Nat.not_lt_zero _)⟩ ?_ (fun _=>rfl) fun c ⟨hc,hp⟩=> ?_
  ·(refine And.intro ?_ (And.intro ?_ (And.intro ?_ rfl))<;>(conv=>whnf)<;>repeat' (first|exact trivial|exact LeE.of (Le.refl _)|(first|exact rfl|fail)|((with_reducible refine And.intro ?_ ?_)<;>conv=>whnf)))
  ·conv=>whnf
   repeat' (first|(refine Exists.intro _ (And.intro (hF _) ?_); conv=>whnf)|(refine And.intro (fun h=> ?_) (fun h=> ?_)<;>(first|(with_reducible have hd:_<_:=of_decide_eq_true h)|(with_reducible have hd:¬ (_<_):=of_decide_eq_false h)|skip)<;>(first|(conv=>whnf)))|(refine And.intro ?_ ?_; (focus (first|(refine chainI ?_; (first|omega|fail))|fail)); conv=>whnf)|((with_reducible refine xc_pure ?_); conv=>whnf))
   ·have hcs:c<s.size:=by omega
    refine leB ?_
    unfold spell allB
    have hq:(!p (byteN s c))=true:=h
    have:(List.range s.size).all (fun j=>p (byteN s j))=false:=by
     rw [List.all_eq_false]
     exact ⟨c,by simpa using hcs,by simpa using hq⟩
    rw [this]; simp
   ·have hcs:c<s.size:=by omega
    have hq:(!p (byteN s c))=false:=h
    refine ⟨c+1,⟨hcs,fun j hj=> ?_⟩,?_,by show s.size-(c+1)<s.size-c; omega⟩
    ·rcases Nat.lt_or_ge j c with h2|h2
     ·exact hp j h2
     ·obtain rfl:j=c:=by omega
      simpa using hq
    ·(refine And.intro ?_ (And.intro ?_ (And.intro ?_ rfl))<;>(conv=>whnf)<;>repeat' (first|exact trivial|exact LeE.of (Le.refl _)|(with_reducible refine LeE.of ?_)|(first|exact rfl|exact leI (by first|rfl|(rw [wrap64 (by omega) (by omega)]; omega)|fail)|fail)|((with_reducible refine And.intro ?_ ?_)<;>conv=>whnf)))
   ·obtain rfl:c=s.size:=by omega
    refine leB ?_
    unfold spell allB
    have:(List.range s.size).all (fun j=>p (byteN s j))=true:=by
     rw [List.all_eq_true]
     intro j hj
     exact hp j (by simpa using hj)
    rw [this]
    have h1:(s.size==0)=false:=by simpa using h0.1
    have h2:s.size≤24:=by omega
    simp [h1,h2]
theorem aWord6D (s:ByteArray):ACall Tryz.prog glD 88 [.c (.v (.string s))] [] (boolA (wordB s)):=by
 refine acall_of_vc htb hmix (f:=88) rfl rfl rfl (by kernel_rfl) rfl rfl ?_; conv=>whnf
 repeat' (first|(refine Exists.intro _ (And.intro (aSpelledD _ wdZ aWord1D _) ?_); conv=>whnf)|((with_reducible refine xc_pure ?_); conv=>whnf))
 exact leB rfl
theorem gCloneD (t:Bool)(n:Nat)(f:Nat→List C):GCall Tryz.prog glD 35 [] [.c (.sl t 1 n f)] [.row 1 n f] [.own 0 1 0 n]:=by
 refine gcall_of_vcb htb hmix (f:=35) rfl rfl rfl (by kernel_rfl) rfl rfl rfl fun hb hb2=> ?_; simp only [bndOs,bndO,gbnds,AV.gbnd,bnds,C.bnd,true_and,and_true] at hb hb2; conv=>whnf
 have hn:n≤140737488355328:=hb2.1
 have B1:n*(tb 5).bytes≤140737488355328:=by show n*1≤_; omega
 repeat' (first|(refine And.intro (fun h=> ?_) (fun h=> ?_)<;>(first|skip)<;>(first|(conv=>whnf)))|((with_reducible refine NilOr.l ?_); conv=>whnf)|((with_reducible refine OwnOr.l ?_); (conv=>whnf))|(refine And.intro ?_ ?_; (focus (first|exact rfl|(first|assumption)|fail)); conv=>whnf)|fail)
 ·have h:n=0:=h rfl
  subst h
  ((conv=>whnf); repeat' (first|exact trivial|exact rfl|((with_reducible refine And.intro ?_ ?_)<;>conv=>whnf)))
  all_goals exact fun i hi=>absurd hi (Nat.not_lt_zero _)
 ·((conv=>whnf); repeat' (first|exact trivial|exact rfl|exact (fun i hi=>LeCs.refl _)|((with_reducible refine And.intro ?_ ?_)<;>conv=>whnf)))
theorem aCloneD (t:Bool)(n:Nat)(f:Nat→List C):ACall Tryz.prog glD 35 [.c (.sl t 1 n f)] [] (.c (.sl false 1 n f)):=by
 have h:=ACall.of_gcall (gCloneD t n f)
 have e:(fun j=>f (0+j))=f:=by funext j; rw [Nat.zero_add]
 rw [e] at h
 exact h
open Go Go.VA Go.RowKit
abbrev dskB (fuse:Int) (dead:Bool) (ops:Int):AO:= .box [.mpv 1,intA .i64 fuse,boolA dead,intA .i64 ops]
abbrev fl (x y:C):AV:= .ag [x,y]
abbrev mFnd (s:ByteArray) (m:List (Value×AV)) (q:AV×Bool):Prop:=MFind (.string s) (.ag (consC (tb 83).zero)) m q
theorem gNewD:GCall Tryz.prog glD 14 [] [] [.box [.mpv 1,intA .i64 0,boolA false,intA .i64 0],.mp []] [.ptr 0 0]:=by
 refine gcall_of_vcb htb hmix (f:=14) rfl rfl rfl (by kernel_rfl) rfl rfl rfl fun hb hb2=> ?_; simp only [bndOs,bndO,gbnds,AV.gbnd,bnds,C.bnd,true_and,and_true] at hb hb2; conv=>whnf
 repeat' (first|(refine And.intro ?_ ?_; (focus (first|exact rfl|fail)); conv=>whnf)|fail)
 ((conv=>whnf); repeat' (first|exact trivial|exact rfl|exact LeC.refl _|((with_reducible refine And.intro ?_ ?_)<;>conv=>whnf)))
theorem gPut1 (fuse:Int)(dead:Bool)(ops:Int)(s:ByteArray)(m:List (Value×AV))(hm:mOk (tb 9).k m=true)(x z:C)(b:Bool)(hq:mFnd s m (fl x z,b))(n:Nat)(f:Nat→List C):GCall Tryz.prog glD 89 [dskB fuse dead ops,.mp m,.box [.ptr 0 0],.box [.c (.v (.string s))],.box [.c (.sl false 1 n f)]] [.ptr 2 0,.ptr 3 0,.ptr 4 0]
  [dskB fuse dead ops,.mp (mPut (.string s) (fl (.sl false 1 n f) z) m),.box [.ptr 0 0],.box [.c (.v (.string s))],.box [.c (.sl false 1 n f)]] []:=by
 refine gcall_of_vcb htb hmix (f:=89) rfl rfl rfl (by kernel_rfl) rfl rfl rfl fun hb hb2=> ?_; simp only [bndOs,bndO,gbnds,AV.gbnd,bnds,C.bnd,true_and,and_true] at hb hb2; conv=>whnf
 repeat' (first|(refine Exists.intro _ (And.intro (hq) ?_); conv=>whnf)|((with_reducible refine Both.mk ?_ ?_)<;>conv=>whnf)|((with_reducible apply Drawn.one); conv=>whnf)|((with_reducible refine Then.mk' ?_); conv=>whnf)|(first|exact RefS.self rfl|fail)|(refine And.intro ?_ ?_; (focus (first|exact rfl|(first|assumption)|fail)); conv=>whnf)|fail)
 ((conv=>whnf); repeat' (first|exact trivial|exact rfl|exact LeC.refl _|((with_reducible refine And.intro ?_ ?_)<;>conv=>whnf)))
 exact LeMs.refl _
theorem gSync1 (fuse:Int)(dead:Bool)(ops:Int)(s:ByteArray)(m:List (Value×AV))(hm:mOk (tb 9).k m=true)(x z:C)(b:Bool)(hq:mFnd s m (fl x z,b)):GCall Tryz.prog glD 59 [dskB fuse dead ops,.mp m,.box [.ptr 0 0],.box [.c (.v (.string s))]] [.ptr 2 0,.ptr 3 0]
  [dskB fuse dead ops,.mp (mPut (.string s) (fl x x) m),.box [.ptr 0 0],.box [.c (.v (.string s))]] []:=by
 refine gcall_of_vcb htb hmix (f:=59) rfl rfl rfl (by kernel_rfl) rfl rfl rfl fun hb hb2=> ?_; simp only [bndOs,bndO,gbnds,AV.gbnd,bnds,C.bnd,true_and,and_true] at hb hb2; conv=>whnf
 repeat' (first|(refine Exists.intro _ (And.intro (hq) ?_); conv=>whnf)|((with_reducible refine Both.mk ?_ ?_)<;>conv=>whnf)|((with_reducible apply Drawn.one); conv=>whnf)|((with_reducible refine Then.mk' ?_); conv=>whnf)|(first|exact RefS.self rfl|fail)|(refine And.intro ?_ ?_; (focus (first|exact rfl|(first|assumption)|fail)); conv=>whnf)|fail)
 ((conv=>whnf); repeat' (first|exact trivial|exact rfl|exact LeC.refl _|((with_reducible refine And.intro ?_ ?_)<;>conv=>whnf)))
 exact LeMs.refl _
theorem aWordN (s:ByteArray):ACall Tryz.prog glD 87 [.c (.v (.string s))] [] (boolA (!wordB s)):=by
 refine acall_of_vc htb hmix (f:=87) rfl rfl rfl (by kernel_rfl) rfl rfl ?_; conv=>whnf
 repeat' (first|(refine Exists.intro _ (And.intro (aWord6D _) ?_); conv=>whnf)|((with_reducible refine xc_pure ?_); conv=>whnf))
 exact leB rfl
theorem aIndexW (t:Bool)(n:Nat)(l:Nat→ByteArray)(f:Nat→List C)(hf:∀ i,i<n→f i=[.v (.string (l i))])(hw:∀ i,i<n→wordB (l i)=true):ACall Tryz.prog glD 114 [.c (.sl t 1 n f),.fn 87 [] []] [] (intA .i64 (-1)):=by
 refine acall_of_vcb htb hmix (f:=114) rfl rfl rfl (by kernel_rfl) rfl rfl fun hb=> ?_; simp only [bndAll,AV.bnd,bnds,C.bnd,cVt,cS,true_and,and_true] at hb; conv=>whnf
 repeat' (fail)
 refine loopI Nat (fun c=>c≤n) (fun c=>[(8,intA .i64 c)]) (fun _=>[]) (fun c=>n-c) 0 (Nat.zero_le _) ?_ (fun _=>rfl) fun c hc=> ?_
 ·(refine And.intro ?_ (And.intro ?_ (And.intro ?_ rfl))<;>(conv=>whnf)<;>repeat' (first|exact trivial|exact LeE.of (Le.refl _)|(first|exact rfl|fail)|((with_reducible refine And.intro ?_ ?_)<;>conv=>whnf)))
 ·change c≤n at hc
  rcases Nat.lt_or_ge c n with hcl|hcl
  ·have ec:f ((c:Int)).toNat=[.v (.string (l c))]:=hf c hcl
   have ew:(!wordB (l c))=false:=by rw [hw c hcl]; rfl
   conv=>whnf
   repeat' (first|(refine Exists.intro _ (And.intro (aWordN _) ?_); conv=>whnf)|(refine And.intro (fun h=> ?_) (fun h=> ?_)<;>(first|(with_reducible have hd:_<_:=of_decide_eq_true h)|(with_reducible have hd:¬ (_<_):=of_decide_eq_false h)|skip)<;>(first|(conv=>whnf)))|(refine And.intro ?_ ?_; (focus (first|(refine chainI ?_; (first|omega|fail))|fail)); conv=>whnf)|((with_reducible refine xc_pure ?_); conv=>whnf)|(rw [ec]; conv=>whnf))
   all_goals try (exfalso; omega)
   ·exact absurd (ew.symm.trans h) (by decide)
   ·refine ⟨c+1,hcl,?_,by show n-(c+1)<n-c; omega⟩
    (refine And.intro ?_ (And.intro ?_ (And.intro ?_ rfl))<;>(conv=>whnf)<;>repeat' (first|exact trivial|exact LeE.of (Le.refl _)|(with_reducible refine LeE.of ?_)|(first|exact rfl|exact leI (by first|rfl|(rw [wrap64 (by omega) (by omega)]; omega)|fail)|fail)|((with_reducible refine And.intro ?_ ?_)<;>conv=>whnf)))
  ·obtain rfl:c=n:=by omega
   conv=>whnf
   repeat' (first|(refine And.intro (fun h=> ?_) (fun h=> ?_)<;>(first|(with_reducible have hd:_<_:=of_decide_eq_true h)|(with_reducible have hd:¬ (_<_):=of_decide_eq_false h)|fail)<;>(first|(conv=>whnf)))|(refine And.intro ?_ ?_; (focus (first|(refine chainI ?_; (first|omega|fail))|fail)); conv=>whnf)|fail)
   all_goals try (exfalso; omega)
   exact Le.refl _
theorem aContW (t:Bool)(n:Nat)(l:Nat→ByteArray)(f:Nat→List C)(hf:∀ i,i<n→f i=[.v (.string (l i))])(hw:∀ i,i<n→wordB (l i)=true):ACall Tryz.prog glD 86 [.c (.sl t 1 n f),.fn 87 [] []] [] (boolA false):=by
 refine acall_of_vc htb hmix (f:=86) rfl rfl rfl (by kernel_rfl) rfl rfl ?_; conv=>whnf
 repeat' (first|(refine Exists.intro _ (And.intro (aIndexW t n l f hf hw) ?_); conv=>whnf)|((with_reducible refine xc_pure ?_); conv=>whnf))
 exact leB rfl
theorem aNamesNil (t:Bool)(n:Nat)(f:Nat→List C):ACall Tryz.prog glD 52 [.c (.v (.pointer none)),.c (.sl t 1 n f)] [] (intA .i64 21) where
 callable:=⟨_,Tryz.func52,by kernel_rfl,by kernel_rfl⟩
 closed:=rfl
 run:=fun w M B vals hro hL hG hv=>by
  simp only [RelVs,RelV,RepC] at hv
  obtain ⟨u,r,e1,⟨rfl,_⟩,u2,r2,rfl,_,rfl⟩:=hv
  obtain rfl:vals= #[.pointer none,u2]:=Array.ext' e1
  go_enter Tryz.func52,Tryz.ntmps52
  go_wp2
  go_ret
  exact ⟨_,rfl,Below.refl _ _,rfl,rfl⟩
theorem aReadNil (s:ByteArray):ACall Tryz.prog glD 18 [.c (.v (.pointer none)),.c (.v (.string s))] [] (.tup [.c (.sl false 1 0 fun _=>[]),intA .i64 11]):=by
 refine acall_of_vc htb hmix (f:=18) rfl rfl rfl (by kernel_rfl) rfl rfl ?_; conv=>whnf
 repeat' (first|(refine And.intro (fun h=> ?_) (fun h=> ?_)<;>(first|skip)<;>(first|exact absurd h (by decide)|(conv=>whnf)))|((with_reducible refine NilOr.l ?_); conv=>whnf)|fail)
 exact Le.refl _
theorem aWriteNil (s:ByteArray)(t:Bool)(n:Nat)(f:Nat→List C):ACall Tryz.prog glD 26 [.c (.v (.pointer none)),.c (.v (.string s)),.c (.sl t 1 n f)] [] (intA .i64 21):=by
 refine acall_of_vc htb hmix (f:=26) rfl rfl rfl (by kernel_rfl) rfl rfl ?_; conv=>whnf
 repeat' (first|(refine Exists.intro _ (And.intro (aNamesNil _ _ _) ?_); conv=>whnf)|(refine And.intro (fun h=> ?_) (fun h=> ?_)<;>(first|skip)<;>(first|exact absurd h (by decide)|(conv=>whnf)))|((with_reducible refine OwnOr.l ?_); (conv=>whnf))|((with_reducible refine xc_pure ?_); conv=>whnf))
 exact Le.refl _
def hideM (M:Mz) (e:Nat):Mz:=⟨M.ro,fun b=>M.f b∨b=e,fun b=>M.t b∨b=e,fun b h=>h.imp (M.le b) id⟩
theorem MU_hide {M:Mz}{e:Nat}{B:List (Option BI)}{L:List AO}(t:Bool)(b:Nat):MU (hideM M e) B L t b ↔ MU M B L t b∨b=e:=by
 cases t<;>simp only [MU,hideM]<;>constructor<;>rintro h
 all_goals (rcases h with (h|h)|h<;>first|exact .inl (.inl h)|exact .inr h|exact .inl (.inr h)|exact .inl (.inl (.inl h)))
theorem Sr_hide_alloc {M:Mz}{B:List (Option BI)}{L:List AO}{w:World}(o:Obj):(Sr M B L w).le (Sr (hideM M w.heap.size) B L (w.alloc o)):=by
 rintro t b k u ⟨h1,h2⟩
 have hb:=block_lt h2
 refine ⟨fun h=> ?_,?_⟩
 ·rcases (MU_hide t b).1 h with h|h
  ·exact h1 h
  ·exact absurd h (Nat.ne_of_lt hb)
 ·rw [World.cell?_of_block (w:=w) (Below.heap_alloc w o b hb)]; exact h2
theorem hide_alloc {M:Mz}{B:List (Option BI)}{L:List AO}{w:World}(hL:RelL M B L w)(o:Obj):RelL (hideM M w.heap.size) B L (w.alloc o) where
 len:=hL.len
 bnd:=fun id bi h=>by have:=hL.bnd id bi h; simp; omega
 mbnd:=fun b h=>by
  rcases h with h|h
  ·have:=hL.mbnd b h; simp; omega
  ·simp [h]
 notM:=fun id bi h hl hm=>by
  rcases hm with hm|hm
  ·exact hL.notM id bi h hl hm
  ·exact absurd hm (Nat.ne_of_lt (hL.bnd id bi h))
 dist:=hL.dist
 obj:=fun id bo h=>RelO_keep (Sr_hide_alloc o) _ bo (fun _ bi e=>Below.heap_alloc w o bi.b (hL.bnd id bi (e ▸ h))) (hL.obj id bo h)
theorem Sr_hidden {M:Mz}{B:List (Option BI)}{L:List AO}{w w':World}{e:Nat}(ht:M.t e)(hk:∀ b,b<w.heap.size→b≠e→w'.heap[b]? =w.heap[b]?):(Sr M B L w).le (Sr M B L w'):=by
 rintro t b k u ⟨h1,h2⟩
 have hb:=block_lt h2
 have hne:b≠e:=fun h=>h1 (by
  subst h
  cases t with
  | false=>exact .inl (M.le _ ht)
  | true=>exact .inl ht)
 exact ⟨h1,by rw [World.cell?_of_block (w:=w) (hk b hb hne)]; exact h2⟩
theorem hidden {M:Mz}{B:List (Option BI)}{L:List AO}{w w':World}{e:Nat}(ht:M.t e)(hs:w.heap.size≤w'.heap.size)(hk:∀ b,b<w.heap.size→b≠e→w'.heap[b]? =w.heap[b]?)(hL:RelL M B L w):RelL M B L w' where
 len:=hL.len
 bnd:=fun id bi h=>Nat.lt_of_lt_of_le (hL.bnd id bi h) hs
 mbnd:=fun b h=>Nat.lt_of_lt_of_le (hL.mbnd b h) hs
 notM:=hL.notM
 dist:=hL.dist
 obj:=fun id bo h=>by
  refine RelO_keep (Sr_hidden ht hk) _ bo (fun hl bi eb=> ?_) (hL.obj id bo h)
  subst eb
  exact hk bi.b (hL.bnd id bi h) (fun h2=>hL.notM id bi h hl (by rw [h2]; exact M.le _ ht))
theorem Sr_unhide {M:Mz}{B:List (Option BI)}{L:List AO}{w:World}{e:Nat}:(Sr (hideM M e) B L w).le (Sr M B L w):=by
 rintro t b k u ⟨h1,h2⟩
 exact ⟨fun h=>h1 ((MU_hide t b).2 (.inl h)),h2⟩
theorem unhide {M:Mz}{B:List (Option BI)}{L:List AO}{w:World}{e:Nat}(hL:RelL (hideM M e) B L w):RelL M B L w where
 len:=hL.len
 bnd:=hL.bnd
 mbnd:=fun b h=>hL.mbnd b (.inl h)
 notM:=fun id bi h hl hm=>hL.notM id bi h hl (.inl hm)
 dist:=hL.dist
 obj:=fun id bo h=>RelO_keep Sr_unhide _ bo (fun _ _ _=>rfl) (hL.obj id bo h)
theorem lateT (p q:Addr)(u:FrameMode)(w:World)(x:Int)(hp:w.cell? p=some (.bool true))(hq:w.cell? q=some (.int .i64 x))(hz:w.frozen? q=false) :
  CallsD Tryz.prog 93 #[.pointer (some p),.pointer (some q)] u w fun e u' w'=>u'=u∧(e= .returned (.tuple #[])∧w'=w.setCell q (.int .i64 21)):=by
 go_enter_d Tryz.func93,Tryz.ntmps93
 go_wp2
 go_end0
 exact ⟨rfl,rfl⟩
theorem lateF (p q:Addr)(u:FrameMode)(w:World)(hp:w.cell? p=some (.bool false)) :
  CallsD Tryz.prog 93 #[.pointer (some p),.pointer (some q)] u w fun e u' w'=>u'=u∧(e= .returned (.tuple #[])∧w'=w):=by
 go_enter_d Tryz.func93,Tryz.ntmps93
 go_wp2
 go_end0
 exact ⟨rfl,rfl⟩
theorem hanew (w:World)(o:Obj):(w.alloc o).heap[w.heap.size]? =some o:=(MapKept.heap_alloc w o).1
theorem setCell_size (w:World)(a:Addr)(v:Value):(w.setCell a v).heap.size=w.heap.size:=by simp [World.setCell]
theorem setCell_heap_ne (w:World)(a:Addr)(v:Value){k:Nat}(h:k≠a.block):(w.setCell a v).heap[k]? =w.heap[k]? :=by
 simp only [World.setCell,Array.getElem?_modify]
 rw [if_neg (fun e=>h e.symm)]
theorem frmSet {mt:Nat→Prop}{w w':World}(h:Frm mt w w'){a:Addr}(v:Value)(hb:w.heap.size≤a.block):Frm mt w (w'.setCell a v) where
 os:=h.os
 tape:=h.tape
 output:=h.output
 size:=by rw [setCell_size]; exact h.size
 block:=fun k hk hn=>(setCell_heap_ne _ _ _ (by omega)).trans (h.block k hk hn)
theorem cellSame {w:World}{a:Addr}{u:Value}(v:Value)(h:w.cell? a=some u):(w.setCell a v).cell? a=some v:=World.cell?_setCell_same' w a v (by rw [h]; rfl)
theorem cellOther {w:World}{a:Addr}{b o:Nat}(v:Value)(h:b≠a.block):(w.setCell a v).cell? ⟨b,o,none⟩=w.cell? ⟨b,o,none⟩:=World.cell?_of_block (w:=w) (setCell_heap_ne _ _ _ h)
theorem pushA {B:List (Option BI)}{S:Rd}{x:AV}{xs:List AV}{vals:List Value}(h:RelVs B S (x::xs) vals):∃ u r,vals=u::r∧RelV B S x u∧RelVs B S xs r:=h
set_option maxHeartbeats 4000000 in
theorem gChangePut (fuse fuse' ops ops':Int)(dead dead':Bool)(m m':List (Value×AV))(X:List AO)(caps:List AV)(burnt late:Bool)(hbl:burnt=true→late=true)
  (hX:∀ i,i<X.length→(getO X i).kd≠3) (hcaps:∀ B S S' us,RelVs B S caps us→RelVs B S' caps us)
  (hbn:GCall Tryz.prog glD 92 (dskB fuse dead ops:: .mp m::X) [.ptr 0 0] (dskB fuse' dead' ops':: .mp m::X) [boolA burnt])
  (hdo:GCall Tryz.prog glD 89 (dskB fuse' dead' ops':: .mp m::X) caps (dskB fuse' dead' ops':: .mp m'::X) []) :
  GCall Tryz.prog glD 58 (dskB fuse dead ops:: .mp m::X) [.ptr 0 0,boolA late,.fn 89 [] caps] (dskB fuse' dead' ops':: .mp m'::X) [intA .i64 (if burnt then 21 else 0)] where
 callable:=⟨_,Tryz.func58,by kernel_rfl,by kernel_rfl⟩
 len:=Nat.le_refl _
 kinds:=fun i hi=>by
  match i,hi with
  | 0,_=>rfl
  | 1,_=>rfl
  | i+2,_=>rfl
 livep:=hbn.livep
 liveq:=hdo.liveq
 run:=fun w M B vals hro hL hG hv=>by
  obtain ⟨u0,r0,e0,h0,hv⟩:=pushA hv
  obtain ⟨u1,r1,rfl,h1,hv⟩:=pushA hv
  obtain ⟨u2,r2,rfl,h2,hv⟩:=pushA hv
  simp only [RelVs] at hv
  subst hv
  simp only [RelV,RepC,RelVs] at h0 h1 h2
  obtain ⟨bi,hbi,rfl⟩:=h0
  obtain ⟨rfl,_⟩:=h1
  obtain ⟨a1,a2,rfl,ea,hca⟩:=h2
  obtain rfl:a1= #[]:=Array.ext' ea
  obtain rfl:vals= #[.pointer (some ⟨bi.b,bi.o+0,none⟩),.bool late,.func (.func 89) #[] a2]:=Array.ext' e0
  have hmf:∀ (fn:Fn) (first cap:Array Value) (w:World),(Instr.makeFunc fn first cap).run Tryz.prog w= .ok (.func fn first cap) w:=fun _ _ _ _=>rfl
  have hnot:∀ (x:Bool) (w:World),(Op.unary .not (.bool x)).run Tryz.prog w= .ok (.bool (!x)) w:=fun _ _=>rfl
  have hL1:=hide_alloc hL (.cells #[.int .i64 0] 37)
  have hS1:=Sr_hide_alloc (M:=M) (B:=B) (L:=dskB fuse dead ops:: .mp m::X) (w:=w) (.cells #[.int .i64 0] 37)
  have cbn:=hbn.run (w.alloc (.cells #[.int .i64 0] 37)) (hideM M w.heap.size) B #[.pointer (some ⟨bi.b,bi.o+0,none⟩)] hro hL1 (GlOk.mono hS1 hG) (by
   simp only [RelVs,RelV]
   exact ⟨_,_,rfl,⟨bi,hbi,rfl⟩,rfl⟩)
  have cbn2:Calls Tryz.prog 92 #[.pointer (some ⟨bi.b,bi.o+0,none⟩)] (w.alloc (.cells #[.int .i64 0] 37)) fun e W2=>e= .returned (.bool burnt)∧Frm (Bl B) (w.alloc (.cells #[.int .i64 0] 37)) W2∧RelL (hideM M w.heap.size) B (dskB fuse' dead' ops':: .mp m::X) W2:=cbn.mono fun e W2 h=>by
   obtain ⟨u,B2,rfl,hF2,hL2,hu,hB2a,hB2b⟩:=h
   simp only [retA,RelV,RepC] at hu
   obtain ⟨rfl,_⟩:=hu
   have hB:B2=B:=by
    have l1:=hL2.len
    have l2:=hL.len
    refine List.ext_getElem? fun id=> ?_
    rcases Nat.lt_or_ge id (X.length+2) with h|h
    ·refine hB2b id (by simpa using h) ?_
     match id,h with
     | 0,_=>exact (by decide:(1:Nat)≠3)
     | 1,_=>exact (by decide:(2:Nat)≠3)
     | id+2,h=>exact hX id (by omega)
    ·rw [List.getElem?_eq_none (by rw [l1]; simp; omega),List.getElem?_eq_none (by rw [l2]; simp; omega)]
   subst hB
   exact ⟨rfl,hF2,hL2⟩
  clear cbn
  have hbl0:burnt=false∨(burnt=true∧late=true):=by cases burnt<;>simp_all
  have hGl:∀ S,GlOk glD S:=fun S g=>trivial
  have cdo:∀ W2,Frm (Bl B) (w.alloc (.cells #[.int .i64 0] 37)) W2→RelL (hideM M w.heap.size) B (dskB fuse' dead' ops':: .mp m::X) W2 →
    Calls Tryz.prog 89 a2 (W2.alloc (.cells #[.bool burnt] 4)) fun e W3=>e= .returned (.tuple #[])∧W3.cell? ⟨w.heap.size,0,none⟩=some (.int .i64 0)∧W3.frozen? ⟨w.heap.size,0,none⟩=false ∧
     W3.cell? ⟨W2.heap.size,0,none⟩=some (.bool burnt)∧¬ W2.heap.size=w.heap.size∧RowKit.Hid (Frm (Bl B) w W3∧w.heap.size<W3.heap.size∧RelL (hideM M w.heap.size) B (dskB fuse' dead' ops':: .mp m'::X) W3):=fun W2 hF2 hL2=>by
   have hs2:w.heap.size+1≤W2.heap.size:=by have:=hF2.size; simpa using this
   have hNB:∀ k,w.heap.size≤k→¬ Bl B k:=fun k hk ⟨id,b,h1,h2⟩=>by have:=hL.bnd id b h1; omega
   refine (hdo.run (W2.alloc (.cells #[.bool burnt] 4)) (hideM (hideM M w.heap.size) W2.heap.size) B a2 hro (hide_alloc hL2 _) (hGl _) (hcaps _ _ _ _ hca)).mono fun e W3 h=> ?_
   obtain ⟨u,B3,rfl,hF3,hL3,hu,hB3a,hB3b⟩:=h
   simp only [retA,RelV,RelVs] at hu
   obtain ⟨arr,rfl,ha⟩:=hu
   obtain rfl:arr= #[]:=Array.ext' ha
   have hB:B3=B:=by
    have l1:=hL3.len
    have l2:=hL.len
    refine List.ext_getElem? fun id=> ?_
    rcases Nat.lt_or_ge id (X.length+2) with h|h
    ·refine hB3b id (by simpa using h) ?_
     match id,h with
     | 0,_=>exact (by decide:(1:Nat)≠3)
     | 1,_=>exact (by decide:(2:Nat)≠3)
     | id+2,h=>exact hX id (by omega)
    ·rw [List.getElem?_eq_none (by rw [l1]; simp; omega),List.getElem?_eq_none (by rw [l2]; simp; omega)]
   subst hB
   have hbE:W3.heap[w.heap.size]? =some (.cells #[.int .i64 0] 37):=by
    rw [hF3.block _ (by simp; omega) (hNB _ (Nat.le_refl _)),Below.heap_alloc _ _ _ (by omega),hF2.block _ (by simp) (hNB _ (Nat.le_refl _))]
    exact hanew w _
   have hbB:W3.heap[W2.heap.size]? =some (.cells #[.bool burnt] 4):=by
    rw [hF3.block _ (by simp) (hNB _ (by omega))]
    exact hanew W2 _
   have hs3:=hF3.size
   refine ⟨rfl,by simp [World.cell?,hbE],by simp [World.frozen?,hbE],by simp [World.cell?,hbB],by omega,Lib.hid ⟨⟨?_,?_,?_,?_,fun k hk hn=> ?_⟩,?_,unhide hL3⟩⟩
   ·rw [hF3.os]; exact hF2.os
   ·rw [hF3.tape]; exact hF2.tape
   ·rw [hF3.output]; exact hF2.output
   ·simp at hs3; omega
   ·rw [hF3.block k (by simp; omega) hn,Below.heap_alloc _ _ _ (by omega),hF2.block k (by simp; omega) hn,Below.heap_alloc _ _ _ hk]
   ·simp at hs3; omega
  rcases hbl0 with rfl|⟨rfl,rfl⟩
  ·go_enter_defers Tryz.func58,Tryz.ntmps58
   go_wp2_with (go_at_call 92; refine cbn2.mono ?_; rintro e W2 ⟨rfl,hF2,hL2⟩)
   refine (cdo _ hF2 hL2).mono ?_
   clear hF2 hL2 cdo cbn2 hL1 hS1
   rintro e W3 ⟨rfl,hc1,hc2,hc3,hne,hH⟩
   go_wp2
   refine leaves_cons (f:=93) (args:= #[.pointer (some ⟨W2.heap.size,0,none⟩),.pointer (some ⟨w.heap.size,0,none⟩)]) (by simp) (by simp [go_sem]) ?_
   refine (lateF _ _ .returning _ (by rw [cellOther _ hne]; exact hc3)).mono ?_
   rintro e u' w'' ⟨rfl,rfl,rfl⟩
   obtain ⟨hF,hlt,hR⟩:=hH
   have hh:∀ k,k<W3.heap.size→k≠w.heap.size→(W3.setCell ⟨w.heap.size,0,none⟩ (.int .i64 0)).heap[k]? =W3.heap[k]? :=fun k _ hk=>setCell_heap_ne _ _ _ hk
   have hR2:=unhide (hidden (.inr rfl) (by rw [setCell_size]; exact Nat.le_refl _) hh hR)
   refine ⟨.int .i64 0,by simp [results,Tryz.results58,go_sem,cellSame _ hc1],.int .i64 0,rfl,frmSet hF _ (Nat.le_refl _),B,hR2,⟨rfl,rfl⟩,fun id b h=> .inr ⟨id,b,h,rfl⟩,fun _ _ _=>rfl⟩
  ·go_enter_defers Tryz.func58,Tryz.ntmps58
   go_wp2_with (go_at_call 92; refine cbn2.mono ?_; rintro e W2 ⟨rfl,hF2,hL2⟩)
   refine (cdo _ hF2 hL2).mono ?_
   clear hF2 hL2 cdo cbn2 hL1 hS1
   rintro e W3 ⟨rfl,hc1,hc2,hc3,hne,hH⟩
   go_wp2
   have hc4:=cellSame (.int .i64 0) hc1
   refine leaves_cons (f:=93) (args:= #[.pointer (some ⟨W2.heap.size,0,none⟩),.pointer (some ⟨w.heap.size,0,none⟩)]) (by simp) (by simp [go_sem]) ?_
   refine (lateT _ _ .returning _ 0 (by rw [cellOther _ hne]; exact hc3) hc4 (by rw [World.frozen?_setCell]; exact hc2)).mono ?_
   rintro e u' w'' ⟨rfl,rfl,rfl⟩
   obtain ⟨hF,hlt,hR⟩:=hH
   have hh:∀ k,k<W3.heap.size→k≠w.heap.size→((W3.setCell ⟨w.heap.size,0,none⟩ (.int .i64 0)).setCell ⟨w.heap.size,0,none⟩ (.int .i64 21)).heap[k]? =W3.heap[k]? :=fun k _ hk=>(setCell_heap_ne _ _ _ hk).trans (setCell_heap_ne _ _ _ hk)
   have hR2:=unhide (hidden (.inr rfl) (by rw [setCell_size,setCell_size]; exact Nat.le_refl _) hh hR)
   refine ⟨.int .i64 21,by simp [results,Tryz.results58,go_sem,cellSame _ hc4],.int .i64 21,rfl,frmSet (frmSet hF _ (Nat.le_refl _)) _ (Nat.le_refl _),B,hR2,⟨rfl,rfl⟩,fun id b h=> .inr ⟨id,b,h,rfl⟩,fun _ _ _=>rfl⟩
set_option maxHeartbeats 4000000 in
theorem gChangeSync (fuse fuse' ops ops':Int)(dead dead':Bool)(m m':List (Value×AV))(X:List AO)(caps:List AV)(burnt late:Bool)(hbl:burnt=true→late=true)
  (hX:∀ i,i<X.length→(getO X i).kd≠3) (hcaps:∀ B S S' us,RelVs B S caps us→RelVs B S' caps us)
  (hbn:GCall Tryz.prog glD 92 (dskB fuse dead ops:: .mp m::X) [.ptr 0 0] (dskB fuse' dead' ops':: .mp m::X) [boolA burnt])
  (hdo:GCall Tryz.prog glD 59 (dskB fuse' dead' ops':: .mp m::X) caps (dskB fuse' dead' ops':: .mp m'::X) []) :
  GCall Tryz.prog glD 58 (dskB fuse dead ops:: .mp m::X) [.ptr 0 0,boolA late,.fn 59 [] caps] (dskB fuse' dead' ops':: .mp m'::X) [intA .i64 (if burnt then 21 else 0)] where
 callable:=⟨_,Tryz.func58,by kernel_rfl,by kernel_rfl⟩
 len:=Nat.le_refl _
 kinds:=fun i hi=>by
  match i,hi with
  | 0,_=>rfl
  | 1,_=>rfl
  | i+2,_=>rfl
 livep:=hbn.livep
 liveq:=hdo.liveq
 run:=fun w M B vals hro hL hG hv=>by
  obtain ⟨u0,r0,e0,h0,hv⟩:=pushA hv
  obtain ⟨u1,r1,rfl,h1,hv⟩:=pushA hv
  obtain ⟨u2,r2,rfl,h2,hv⟩:=pushA hv
  simp only [RelVs] at hv
  subst hv
  simp only [RelV,RepC,RelVs] at h0 h1 h2
  obtain ⟨bi,hbi,rfl⟩:=h0
  obtain ⟨rfl,_⟩:=h1
  obtain ⟨a1,a2,rfl,ea,hca⟩:=h2
  obtain rfl:a1= #[]:=Array.ext' ea
  obtain rfl:vals= #[.pointer (some ⟨bi.b,bi.o+0,none⟩),.bool late,.func (.func 59) #[] a2]:=Array.ext' e0
  have hmf:∀ (fn:Fn) (first cap:Array Value) (w:World),(Instr.makeFunc fn first cap).run Tryz.prog w= .ok (.func fn first cap) w:=fun _ _ _ _=>rfl
  have hnot:∀ (x:Bool) (w:World),(Op.unary .not (.bool x)).run Tryz.prog w= .ok (.bool (!x)) w:=fun _ _=>rfl
  have hL1:=hide_alloc hL (.cells #[.int .i64 0] 37)
  have hS1:=Sr_hide_alloc (M:=M) (B:=B) (L:=dskB fuse dead ops:: .mp m::X) (w:=w) (.cells #[.int .i64 0] 37)
  have cbn:=hbn.run (w.alloc (.cells #[.int .i64 0] 37)) (hideM M w.heap.size) B #[.pointer (some ⟨bi.b,bi.o+0,none⟩)] hro hL1 (GlOk.mono hS1 hG) (by
   simp only [RelVs,RelV]
   exact ⟨_,_,rfl,⟨bi,hbi,rfl⟩,rfl⟩)
  have cbn2:Calls Tryz.prog 92 #[.pointer (some ⟨bi.b,bi.o+0,none⟩)] (w.alloc (.cells #[.int .i64 0] 37)) fun e W2=>e= .returned (.bool burnt)∧Frm (Bl B) (w.alloc (.cells #[.int .i64 0] 37)) W2∧RelL (hideM M w.heap.size) B (dskB fuse' dead' ops':: .mp m::X) W2:=cbn.mono fun e W2 h=>by
   obtain ⟨u,B2,rfl,hF2,hL2,hu,hB2a,hB2b⟩:=h
   simp only [retA,RelV,RepC] at hu
   obtain ⟨rfl,_⟩:=hu
   have hB:B2=B:=by
    have l1:=hL2.len
    have l2:=hL.len
    refine List.ext_getElem? fun id=> ?_
    rcases Nat.lt_or_ge id (X.length+2) with h|h
    ·refine hB2b id (by simpa using h) ?_
     match id,h with
     | 0,_=>exact (by decide:(1:Nat)≠3)
     | 1,_=>exact (by decide:(2:Nat)≠3)
     | id+2,h=>exact hX id (by omega)
    ·rw [List.getElem?_eq_none (by rw [l1]; simp; omega),List.getElem?_eq_none (by rw [l2]; simp; omega)]
   subst hB
   exact ⟨rfl,hF2,hL2⟩
  clear cbn
  have hbl0:burnt=false∨(burnt=true∧late=true):=by cases burnt<;>simp_all
  have hGl:∀ S,GlOk glD S:=fun S g=>trivial
  have cdo:∀ W2,Frm (Bl B) (w.alloc (.cells #[.int .i64 0] 37)) W2→RelL (hideM M w.heap.size) B (dskB fuse' dead' ops':: .mp m::X) W2 →
    Calls Tryz.prog 59 a2 (W2.alloc (.cells #[.bool burnt] 4)) fun e W3=>e= .returned (.tuple #[])∧W3.cell? ⟨w.heap.size,0,none⟩=some (.int .i64 0)∧W3.frozen? ⟨w.heap.size,0,none⟩=false ∧
     W3.cell? ⟨W2.heap.size,0,none⟩=some (.bool burnt)∧¬ W2.heap.size=w.heap.size∧RowKit.Hid (Frm (Bl B) w W3∧w.heap.size<W3.heap.size∧RelL (hideM M w.heap.size) B (dskB fuse' dead' ops':: .mp m'::X) W3):=fun W2 hF2 hL2=>by
   have hs2:w.heap.size+1≤W2.heap.size:=by have:=hF2.size; simpa using this
   have hNB:∀ k,w.heap.size≤k→¬ Bl B k:=fun k hk ⟨id,b,h1,h2⟩=>by have:=hL.bnd id b h1; omega
   refine (hdo.run (W2.alloc (.cells #[.bool burnt] 4)) (hideM (hideM M w.heap.size) W2.heap.size) B a2 hro (hide_alloc hL2 _) (hGl _) (hcaps _ _ _ _ hca)).mono fun e W3 h=> ?_
   obtain ⟨u,B3,rfl,hF3,hL3,hu,hB3a,hB3b⟩:=h
   simp only [retA,RelV,RelVs] at hu
   obtain ⟨arr,rfl,ha⟩:=hu
   obtain rfl:arr= #[]:=Array.ext' ha
   have hB:B3=B:=by
    have l1:=hL3.len
    have l2:=hL.len
    refine List.ext_getElem? fun id=> ?_
    rcases Nat.lt_or_ge id (X.length+2) with h|h
    ·refine hB3b id (by simpa using h) ?_
     match id,h with
     | 0,_=>exact (by decide:(1:Nat)≠3)
     | 1,_=>exact (by decide:(2:Nat)≠3)
     | id+2,h=>exact hX id (by omega)
    ·rw [List.getElem?_eq_none (by rw [l1]; simp; omega),List.getElem?_eq_none (by rw [l2]; simp; omega)]
   subst hB
   have hbE:W3.heap[w.heap.size]? =some (.cells #[.int .i64 0] 37):=by
    rw [hF3.block _ (by simp; omega) (hNB _ (Nat.le_refl _)),Below.heap_alloc _ _ _ (by omega),hF2.block _ (by simp) (hNB _ (Nat.le_refl _))]
    exact hanew w _
   have hbB:W3.heap[W2.heap.size]? =some (.cells #[.bool burnt] 4):=by
    rw [hF3.block _ (by simp) (hNB _ (by omega))]
    exact hanew W2 _
   have hs3:=hF3.size
   refine ⟨rfl,by simp [World.cell?,hbE],by simp [World.frozen?,hbE],by simp [World.cell?,hbB],by omega,Lib.hid ⟨⟨?_,?_,?_,?_,fun k hk hn=> ?_⟩,?_,unhide hL3⟩⟩
   ·rw [hF3.os]; exact hF2.os
   ·rw [hF3.tape]; exact hF2.tape
   ·rw [hF3.output]; exact hF2.output
   ·simp at hs3; omega
   ·rw [hF3.block k (by simp; omega) hn,Below.heap_alloc _ _ _ (by omega),hF2.block k (by simp; omega) hn,Below.heap_alloc _ _ _ hk]
   ·simp at hs3; omega
  rcases hbl0 with rfl|⟨rfl,rfl⟩
  ·go_enter_defers Tryz.func58,Tryz.ntmps58
   go_wp2_with (go_at_call 92; refine cbn2.mono ?_; rintro e W2 ⟨rfl,hF2,hL2⟩)
   refine (cdo _ hF2 hL2).mono ?_
   clear hF2 hL2 cdo cbn2 hL1 hS1
   rintro e W3 ⟨rfl,hc1,hc2,hc3,hne,hH⟩
   go_wp2
   refine leaves_cons (f:=93) (args:= #[.pointer (some ⟨W2.heap.size,0,none⟩),.pointer (some ⟨w.heap.size,0,none⟩)]) (by simp) (by simp [go_sem]) ?_
   refine (lateF _ _ .returning _ (by rw [cellOther _ hne]; exact hc3)).mono ?_
   rintro e u' w'' ⟨rfl,rfl,rfl⟩
   obtain ⟨hF,hlt,hR⟩:=hH
   have hh:∀ k,k<W3.heap.size→k≠w.heap.size→(W3.setCell ⟨w.heap.size,0,none⟩ (.int .i64 0)).heap[k]? =W3.heap[k]? :=fun k _ hk=>setCell_heap_ne _ _ _ hk
   have hR2:=unhide (hidden (.inr rfl) (by rw [setCell_size]; exact Nat.le_refl _) hh hR)
   refine ⟨.int .i64 0,by simp [results,Tryz.results58,go_sem,cellSame _ hc1],.int .i64 0,rfl,frmSet hF _ (Nat.le_refl _),B,hR2,⟨rfl,rfl⟩,fun id b h=> .inr ⟨id,b,h,rfl⟩,fun _ _ _=>rfl⟩
  ·go_enter_defers Tryz.func58,Tryz.ntmps58
   go_wp2_with (go_at_call 92; refine cbn2.mono ?_; rintro e W2 ⟨rfl,hF2,hL2⟩)
   refine (cdo _ hF2 hL2).mono ?_
   clear hF2 hL2 cdo cbn2 hL1 hS1
   rintro e W3 ⟨rfl,hc1,hc2,hc3,hne,hH⟩
   go_wp2
   have hc4:=cellSame (.int .i64 0) hc1
   refine leaves_cons (f:=93) (args:= #[.pointer (some ⟨W2.heap.size,0,none⟩),.pointer (some ⟨w.heap.size,0,none⟩)]) (by simp) (by simp [go_sem]) ?_
   refine (lateT _ _ .returning _ 0 (by rw [cellOther _ hne]; exact hc3) hc4 (by rw [World.frozen?_setCell]; exact hc2)).mono ?_
   rintro e u' w'' ⟨rfl,rfl,rfl⟩
   obtain ⟨hF,hlt,hR⟩:=hH
   have hh:∀ k,k<W3.heap.size→k≠w.heap.size→((W3.setCell ⟨w.heap.size,0,none⟩ (.int .i64 0)).setCell ⟨w.heap.size,0,none⟩ (.int .i64 21)).heap[k]? =W3.heap[k]? :=fun k _ hk=>(setCell_heap_ne _ _ _ hk).trans (setCell_heap_ne _ _ _ hk)
   have hR2:=unhide (hidden (.inr rfl) (by rw [setCell_size,setCell_size]; exact Nat.le_refl _) hh hR)
   refine ⟨.int .i64 21,by simp [results,Tryz.results58,go_sem,cellSame _ hc4],.int .i64 21,rfl,frmSet (frmSet hF _ (Nat.le_refl _)) _ (Nat.le_refl _),B,hR2,⟨rfl,rfl⟩,fun id b h=> .inr ⟨id,b,h,rfl⟩,fun _ _ _=>rfl⟩
end Go.Proofs.YtiodgjgngfklkaaGreatDoor
