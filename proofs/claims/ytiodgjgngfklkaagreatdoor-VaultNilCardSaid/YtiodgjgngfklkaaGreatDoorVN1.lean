/- Contracts of functions of the program,and the laws that stand on them: what each function answers,whatever its arguments. -/
import Derived.Test.YtiodgjgngfklkaaGreatDoorD33
import Derived.Test.YtiodgjgngfklkaaGreatDoorP7
import Derived.Test.YtiodgjgngfklkaaGreatDoorP12
import Derived.Test.YtiodgjgngfklkaaGreatDoorP19
import Derived.Test.YtiodgjgngfklkaaGreatDoorW8
set_option linter.all false
set_option maxRecDepth 100000
set_option maxHeartbeats 8000000
namespace Go.Proofs.YtiodgjgngfklkaaGreatDoor
open Go Go.VA
theorem glDok (S:Rd):GlOk glD S:=fun g=>trivial
theorem upA {f:Nat}{args:List AV}{L:List AO}{r:AV}(h:ACall Tryz.prog glD f args L r):ACall Tryz.prog gl f args L r where
 callable:=h.callable
 closed:=h.closed
 run:=fun w M B vals hro hL _ hv=>h.run w M B vals hro hL (glDok _) hv
theorem upG {f:Nat}{pre post:List AO}{args res:List AV}(h:GCall Tryz.prog glD f pre args post res):GCall Tryz.prog gl f pre args post res where
 callable:=h.callable
 len:=h.len
 kinds:=h.kinds
 livep:=h.livep
 liveq:=h.liveq
 run:=fun w M B vals hro hL _ hv=>h.run w M B vals hro hL (glDok _) hv
abbrev nP:AV:= .c (.v (.pointer none))
abbrev nW:AV:= .sp true [.v (.pointer none)] 0
abbrev stN:ByteArray:= .mk #[115,116,97,116,101]
abbrev newN:ByteArray:= .mk #[115,116,97,116,101,46,110,101,119]
abbrev intN:ByteArray:= .mk #[105,110,116,101,110,116]
def stF (s:St):ByteArray:=baL (fmS s)
def iB (i:It):ByteArray:=baL (fmI i)
theorem laidLe {L:List Int}(hb:Bys L):Le 0 (.c (.sl false 1 L.length (rB L))) (.c (oC (baL L))):=leSl (baL_size L).symm (fun j hj=>rB_strO hb (by rw [baL_size] at hj; exact hj))
theorem aPutO (s:St)(ho:okSt s=true)(r:RgSt s):ACall Tryz.prog gl 46 [.ag (cSt s)] [] (.c (oC (stF s))):=(aStPut s ho r).res rfl (laidLe (fmS_bys ho r))
theorem aPutO1 (a n:Int)(ho:okSt ⟨a,n,[]⟩=true)(r:RgSt ⟨a,n,[]⟩):ACall Tryz.prog gl 46 [.ag [.v (.int .u64 a),.v (.int .u64 n),.v (.slice none 0 0)]] [] (.c (oC (stF ⟨a,n,[]⟩))) :=
 (aPutO _ ho r).le ⟨leAg ⟨LeC.refl _,LeC.refl _,LeC.nil rfl,trivial⟩,trivial⟩
theorem aWPutO (i:It)(ho:okIt i=true)(r:RgIt i):ACall Tryz.prog gl 27 [.c (.v (.slice none 0 0)),.ag (cIt i)] [] (.c (oC (iB i))):=by
 have h:=ACall.of_gcall (gWPut false 0 (fun _=>[]) i (by decide) ho r.n0)
 have hb:=bys_fm ho
 have h2:=h.res (r':= .c (oC (iB i))) rfl (leSl (by unfold iB; rw [baL_size,Nat.zero_add]) (fun j hj=>by
  have hj:j<(fmI i).length:=by unfold iB at hj; rw [baL_size] at hj; exact hj
  show catF 0 0 _ (rB (fmI i)) (0+j)=_
  unfold catF
  rw [Nat.zero_add,if_neg (Nat.not_lt_zero _),Nat.sub_zero]
  exact rB_strO hb hj))
 exact h2.le ⟨⟨fun B S u _ hu=>by
  simp only [RelV,RepC] at hu ⊢
  obtain ⟨rfl,_⟩:=hu
  exact ⟨none,0,rfl,⟨Nat.le_refl _,Nat.zero_le _⟩,.inl trivial⟩⟩,Le.refl _,trivial⟩
abbrev zSt:AV:= .ag [.v (.int .u64 0),.v (.int .u64 0),.v (.slice none 0 0)]
theorem aDkN:ACall Tryz.prog gl 17 [nP] [] nP:=by
 refine acall_of_vc htb hmix (f:=17) rfl rfl rfl (by kernel_rfl) rfl rfl ?_; conv=>whnf
 repeat' (first|(refine And.intro (fun h=> ?_) (fun h=> ?_)<;>(first|skip)<;>(first|exact absurd h (by decide)|(conv=>whnf)))|fail)
 exact Le.refl _
theorem aLoadN:ACall Tryz.prog gl 7 [nP] [] (.tup [zSt,intA .i64 11]):=by
 have R:=upA (aReadNil stN)
 refine acall_of_vc htb hmix (f:=7) rfl rfl rfl (by kernel_rfl) rfl rfl ?_; conv=>whnf
 repeat' (first|(refine Exists.intro _ (And.intro (aDkN) ?_); conv=>whnf)|(refine Exists.intro _ (And.intro (R) ?_); conv=>whnf)|(refine And.intro (fun h=> ?_) (fun h=> ?_)<;>(first|skip)<;>(first|exact absurd h (by decide)|(conv=>whnf)))|((with_reducible refine xc_pure ?_); conv=>whnf))
 exact Le.refl _
theorem aLayN (a n:Int)(ho:okSt ⟨a,n,[]⟩=true)(r:RgSt ⟨a,n,[]⟩):ACall Tryz.prog gl 23 [nP,.ag [.v (.int .u64 a),.v (.int .u64 n),.v (.slice none 0 0)]] [] (intA .i64 21):=by
 have P:=aPutO1 a n ho r
 have R:=upA (aWriteNil newN false (stF ⟨a,n,[]⟩).size (strCells (stF ⟨a,n,[]⟩)))
 refine acall_of_vc htb hmix (f:=23) rfl rfl rfl (by kernel_rfl) rfl rfl ?_; conv=>whnf
 repeat' (first|(refine Exists.intro _ (And.intro (aDkN) ?_); conv=>whnf)|(refine Exists.intro _ (And.intro (P) ?_); conv=>whnf)|(refine Exists.intro _ (And.intro (R) ?_); conv=>whnf)|(refine And.intro (fun h=> ?_) (fun h=> ?_)<;>(first|skip)<;>(first|exact absurd h (by decide)|(conv=>whnf)))|((with_reducible refine xc_pure ?_); conv=>whnf))
 exact Le.refl _
theorem aBeginN (a:Int)(h0:0≤a)(h1:a<18446744073709551616):ACall Tryz.prog gl 10 [nP,intA .u64 a] [] (intA .i64 21):=by
 have R:=upA (aReadNil stN)
 have L:=aLayN a 1 rfl ⟨h0,h1,Int.le_of_lt Int.zero_lt_one,by show (1:Int)<_; decide,fun e he=>absurd he (List.not_mem_nil)⟩
 refine acall_of_vc htb hmix (f:=10) rfl rfl rfl (by kernel_rfl) rfl rfl ?_; conv=>whnf
 repeat' (first|(refine Exists.intro _ (And.intro (aDkN) ?_); conv=>whnf)|(refine Exists.intro _ (And.intro (R) ?_); conv=>whnf)|(refine Exists.intro _ (And.intro (L) ?_); conv=>whnf)|(refine And.intro (fun h=> ?_) (fun h=> ?_)<;>(first|skip)<;>(first|exact absurd h (by decide)|(conv=>whnf)))|((with_reducible refine xc_pure ?_); conv=>whnf))
 exact Le.refl _
theorem aDkW:ACall Tryz.prog gl 17 [nW] [] nP:=by
 refine acall_of_vc htb hmix (f:=17) rfl rfl rfl (by kernel_rfl) rfl rfl ?_; conv=>whnf
 repeat' (first|(refine And.intro (fun h=> ?_) (fun h=> ?_)<;>(first|skip)<;>(first|exact absurd h (by decide)|(conv=>whnf)))|fail)
 exact Le.refl _
theorem aLoadW:ACall Tryz.prog gl 7 [nW] [] (.tup [zSt,intA .i64 11]):=by
 have R:=upA (aReadNil stN)
 refine acall_of_vc htb hmix (f:=7) rfl rfl rfl (by kernel_rfl) rfl rfl ?_; conv=>whnf
 repeat' (first|(refine Exists.intro _ (And.intro (aDkW) ?_); conv=>whnf)|(refine Exists.intro _ (And.intro (R) ?_); conv=>whnf)|(refine And.intro (fun h=> ?_) (fun h=> ?_)<;>(first|skip)<;>(first|exact absurd h (by decide)|(conv=>whnf)))|((with_reducible refine xc_pure ?_); conv=>whnf))
 exact Le.refl _
theorem aLayW (a n:Int)(ho:okSt ⟨a,n,[]⟩=true)(r:RgSt ⟨a,n,[]⟩):ACall Tryz.prog gl 23 [nW,.ag [.v (.int .u64 a),.v (.int .u64 n),.v (.slice none 0 0)]] [] (intA .i64 21):=by
 have P:=aPutO1 a n ho r
 have R:=upA (aWriteNil newN false (stF ⟨a,n,[]⟩).size (strCells (stF ⟨a,n,[]⟩)))
 refine acall_of_vc htb hmix (f:=23) rfl rfl rfl (by kernel_rfl) rfl rfl ?_; conv=>whnf
 repeat' (first|(refine Exists.intro _ (And.intro (aDkW) ?_); conv=>whnf)|(refine Exists.intro _ (And.intro (P) ?_); conv=>whnf)|(refine Exists.intro _ (And.intro (R) ?_); conv=>whnf)|(refine And.intro (fun h=> ?_) (fun h=> ?_)<;>(first|skip)<;>(first|exact absurd h (by decide)|(conv=>whnf)))|((with_reducible refine xc_pure ?_); conv=>whnf))
 exact Le.refl _
theorem aBeginW (a:Int)(h0:0≤a)(h1:a<18446744073709551616):ACall Tryz.prog gl 10 [nW,intA .u64 a] [] (intA .i64 21):=by
 have R:=upA (aReadNil stN)
 have L:=aLayW a 1 rfl ⟨h0,h1,Int.le_of_lt Int.zero_lt_one,by show (1:Int)<_; decide,fun e he=>absurd he (List.not_mem_nil)⟩
 refine acall_of_vc htb hmix (f:=10) rfl rfl rfl (by kernel_rfl) rfl rfl ?_; conv=>whnf
 repeat' (first|(refine Exists.intro _ (And.intro (aDkW) ?_); conv=>whnf)|(refine Exists.intro _ (And.intro (R) ?_); conv=>whnf)|(refine Exists.intro _ (And.intro (L) ?_); conv=>whnf)|(refine And.intro (fun h=> ?_) (fun h=> ?_)<;>(first|skip)<;>(first|exact absurd h (by decide)|(conv=>whnf)))|((with_reducible refine xc_pure ?_); conv=>whnf))
 exact Le.refl _
theorem aLayS (s:St)(ho:okSt s=true)(r:RgSt s):ACall Tryz.prog gl 23 [nW,.ag (cSt s)] [] (intA .i64 21):=by
 have P:=aPutO s ho r
 have R:=upA (aWriteNil newN false (stF s).size (strCells (stF s)))
 refine acall_of_vc htb hmix (f:=23) rfl rfl rfl (by kernel_rfl) rfl rfl ?_; conv=>whnf
 repeat' (first|(refine Exists.intro _ (And.intro (aDkW) ?_); conv=>whnf)|(refine Exists.intro _ (And.intro (P) ?_); conv=>whnf)|(refine Exists.intro _ (And.intro (R) ?_); conv=>whnf)|(refine And.intro (fun h=> ?_) (fun h=> ?_)<;>(first|skip)<;>(first|exact absurd h (by decide)|(conv=>whnf)))|((with_reducible refine xc_pure ?_); conv=>whnf))
 exact Le.refl _
theorem aSaveW (s:St)(r:RgSt s):ACall Tryz.prog gl 11 [nW,.ag (cSt s)] [] (intA .i64 (if okSt s then 21 else 1)):=by
 have K:=aCheckS s
 cases ho:okSt s with
 | true =>
  rw [ho] at K
  have L:=aLayS s ho r
  refine acall_of_vc htb hmix (f:=11) rfl rfl rfl (by kernel_rfl) rfl rfl ?_; conv=>whnf
  repeat' (first|(refine Exists.intro _ (And.intro (aLoadW) ?_); conv=>whnf)|(refine Exists.intro _ (And.intro (K) ?_); conv=>whnf)|(refine Exists.intro _ (And.intro (L) ?_); conv=>whnf)|(refine And.intro (fun h=> ?_) (fun h=> ?_)<;>(first|skip)<;>(first|exact absurd h (by decide)|(conv=>whnf)))|((with_reducible refine xc_pure ?_); conv=>whnf))
  all_goals exact Le.refl _
 | false =>
  rw [ho] at K
  refine acall_of_vc htb hmix (f:=11) rfl rfl rfl (by kernel_rfl) rfl rfl ?_; conv=>whnf
  repeat' (first|(refine Exists.intro _ (And.intro (aLoadW) ?_); conv=>whnf)|(refine Exists.intro _ (And.intro (K) ?_); conv=>whnf)|(refine And.intro (fun h=> ?_) (fun h=> ?_)<;>(first|skip)<;>(first|exact absurd h (by decide)|(conv=>whnf)))|((with_reducible refine xc_pure ?_); conv=>whnf))
  all_goals exact Le.refl _
theorem aNoteW (i:It)(r:RgIt i):ACall Tryz.prog gl 12 [nW,.ag (cIt i)] [] (intA .i64 (if okIt i then 21 else 1)):=by
 have K:=aCheckI i
 cases ho:okIt i with
 | true =>
  rw [ho] at K
  have P:=aWPutO i ho r
  have R:=upA (aWriteNil intN false (iB i).size (strCells (iB i)))
  refine acall_of_vc htb hmix (f:=12) rfl rfl rfl (by kernel_rfl) rfl rfl ?_; conv=>whnf
  repeat' (first|(refine Exists.intro _ (And.intro (aDkW) ?_); conv=>whnf)|(refine Exists.intro _ (And.intro (K) ?_); conv=>whnf)|(refine Exists.intro _ (And.intro (P) ?_); conv=>whnf)|(refine Exists.intro _ (And.intro (R) ?_); conv=>whnf)|(refine And.intro (fun h=> ?_) (fun h=> ?_)<;>(first|skip)<;>(first|exact absurd h (by decide)|(conv=>whnf)))|((with_reducible refine xc_pure ?_); conv=>whnf))
  all_goals exact Le.refl _
 | false =>
  rw [ho] at K
  refine acall_of_vc htb hmix (f:=12) rfl rfl rfl (by kernel_rfl) rfl rfl ?_; conv=>whnf
  repeat' (first|(refine Exists.intro _ (And.intro (K) ?_); conv=>whnf)|(refine And.intro (fun h=> ?_) (fun h=> ?_)<;>(first|skip)<;>(first|exact absurd h (by decide)|(conv=>whnf)))|((with_reducible refine xc_pure ?_); conv=>whnf))
  all_goals exact Le.refl _
abbrev zIt:AV:= .ag (cIt it0)
theorem aPendW:ACall Tryz.prog gl 8 [nW] [] (.tup [zIt,boolA false]):=by
 refine acall_of_vc htb hmix (f:=8) rfl rfl rfl (by kernel_rfl) rfl rfl ?_; conv=>whnf
 repeat' (first|(refine Exists.intro _ (And.intro (aLoadW) ?_); conv=>whnf)|(refine And.intro (fun h=> ?_) (fun h=> ?_)<;>(first|skip)<;>(first|exact absurd h (by decide)|(conv=>whnf)))|((with_reducible refine xc_pure ?_); conv=>whnf))
 exact Le.refl _
theorem aRecW:ACall Tryz.prog gl 9 [nW] [] (.tup [zSt,boolA false,intA .i64 11]):=by
 refine acall_of_vc htb hmix (f:=9) rfl rfl rfl (by kernel_rfl) rfl rfl ?_; conv=>whnf
 repeat' (first|(refine Exists.intro _ (And.intro (aLoadW) ?_); conv=>whnf)|(refine And.intro (fun h=> ?_) (fun h=> ?_)<;>(first|skip)<;>(first|exact absurd h (by decide)|(conv=>whnf)))|((with_reducible refine xc_pure ?_); conv=>whnf))
 exact Le.refl _
theorem lk_put (s x z t:ByteArray):∀ l:List Ft,lkF t (putF s x z l)=if t=s then some (x,z) else lkF t l
 | []=>by
  simp only [putF,lkF]
 | e::r=>by
  unfold putF
  by_cases h:s=e.1
  ·rw [if_pos h]
   subst h
   simp only [lkF]
   split<;>rfl
  ·rw [if_neg h]
   simp only [lkF]
   by_cases h2:t=e.1
   ·rw [if_pos h2,if_pos h2,if_neg (fun h3=>h (h3.symm.trans h2))]
   ·rw [if_neg h2,if_neg h2,lk_put s x z t r]
theorem wStN:wordB stN=true:=by decide
theorem wNewN:wordB newN=true:=by decide
theorem wIntN:wordB intN=true:=by decide
abbrev vD (l:List Ft) (o:Int):AO:= .box [.mpv 1,intA .i64 0,boolA false,intA .i64 o]
abbrev vM (l:List Ft):AO:= .mp (mB l)
abbrev vB:AO:= .box [.ptr 0 0]
abbrev wr (o:Int):Int:=IntKind.i64.wrap (o+1)
theorem wOk (l:List Ft)(o:Int)(s b:ByteArray)(hs:wordB s=true)(hb:b.size≤262144):(⟨l,0,false,o⟩:Dk).wrt s b=(⟨putF s b (getF s l).2 l,0,false,wr o⟩,0):=by
 unfold Dk.wrt Dk.chg
 rw [if_neg (by simp),if_neg (by rw [hs]; simp),if_neg (by omega)]
 rfl
theorem yOk (l:List Ft)(o:Int)(s:ByteArray)(hs:wordB s=true){p:ByteArray×ByteArray}(hp:lkF s l=some p):(⟨l,0,false,o⟩:Dk).syn s=(⟨putF s p.1 p.1 l,0,false,wr o⟩,0):=by
 unfold Dk.syn Dk.chg
 rw [if_neg (by simp),if_neg (by rw [hs]; simp)]
 dsimp only
 rw [hp]
 rfl
theorem rOk (l:List Ft)(o:Int)(s t:ByteArray)(hs:wordB s=true)(ht:wordB t=true){p:ByteArray×ByteArray}(hp:lkF s l=some p):(⟨l,0,false,o⟩:Dk).ren s t=(⟨putF t p.1 p.2 (delF s l),0,false,wr o⟩,0):=by
 unfold Dk.ren Dk.chg
 rw [if_neg (by simp),if_neg (by rw [hs,ht]; simp)]
 dsimp only
 rw [hp]
 rfl
theorem vWrite (l:List Ft)(o:Int)(s b:ByteArray)(t:Bool)(hs:wordB s=true)(hb:b.size≤262144):GCall Tryz.prog gl 26 [vD l o,vM l] [.ptr 0 0,.c (.v (.string s)),.c (.sl t 1 b.size (strCells b))] [vD l (wr o),vM (putF s b (getF s l).2 l)] [intA .i64 0]:=by
 have h:=tWrite ⟨l,0,false,o⟩ s b t
 rw [wOk l o s b hs hb] at h
 exact upG h
theorem vSync (l:List Ft)(o:Int)(s:ByteArray)(hs:wordB s=true){p:ByteArray×ByteArray}(hp:lkF s l=some p):GCall Tryz.prog gl 28 [vD l o,vM l] [.ptr 0 0,.c (.v (.string s))] [vD l (wr o),vM (putF s p.1 p.1 l)] [intA .i64 0]:=by
 have h:=tSync ⟨l,0,false,o⟩ s
 rw [yOk l o s hs hp] at h
 exact upG h
theorem vRename (l:List Ft)(o:Int)(s t:ByteArray)(hs:wordB s=true)(ht:wordB t=true){p:ByteArray×ByteArray}(hp:lkF s l=some p):GCall Tryz.prog gl 47 [vD l o,vM l] [.ptr 0 0,.c (.v (.string s)),.c (.v (.string t))] [vD l (wr o),vM (putF t p.1 p.2 (delF s l))] [intA .i64 0]:=by
 have h:=tRename ⟨l,0,false,o⟩ s t
 rw [rOk l o s t hs ht hp] at h
 exact upG h
theorem vRead (l:List Ft)(o:Int)(s:ByteArray){p:ByteArray×ByteArray}(hp:lkF s l=some p):GCall Tryz.prog gl 18 [vD l o,vM l] [.ptr 0 0,.c (.v (.string s))] [vD l o,vM l] [.c (oC p.1),intA .i64 0] :=
 upG (tRead ⟨l,0,false,o⟩ s p hp)
theorem vReadNo (l:List Ft)(o:Int)(s:ByteArray)(hp:lkF s l=none):GCall Tryz.prog gl 18 [vD l o,vM l] [.ptr 0 0,.c (.v (.string s))] [vD l o,vM l] [.c (oC mtB),intA .i64 11] :=
 upG (tReadNo ⟨l,0,false,o⟩ s hp)
def lyF (l:List Ft) (F:ByteArray):List Ft:=putF stN F F (delF newN (putF newN F F (putF newN F (getF newN l).2 l)))
def ntL (l:List Ft) (I:ByteArray):List Ft:=putF intN I I (putF intN I (getF intN l).2 l)
theorem gLayS (l:List Ft)(o:Int)(s:St)(ho:okSt s=true)(r:RgSt s)(hz:(stF s).size≤262144):GCall Tryz.prog gl 23 [vD l o,vM l,vB] [.ptr 2 0,.ag (cSt s)] [vD l (wr (wr (wr o))),vM (lyF l (stF s)),vB] [intA .i64 0]:=by
 have P:=aPutO s ho r
 have G1:=vWrite l o newN (stF s) false wNewN hz
 have h1:lkF newN (putF newN (stF s) (getF newN l).2 l)=some (stF s,(getF newN l).2):=by rw [lk_put,if_pos rfl]
 have G2:=vSync (putF newN (stF s) (getF newN l).2 l) (wr o) newN wNewN h1
 have h2:lkF newN (putF newN (stF s) (stF s) (putF newN (stF s) (getF newN l).2 l))=some (stF s,stF s):=by rw [lk_put,if_pos rfl]
 have G3:=vRename (putF newN (stF s) (stF s) (putF newN (stF s) (getF newN l).2 l)) (wr (wr o)) newN stN wNewN wStN h2
 refine gcall_of_vcb htb hmix (f:=23) rfl rfl rfl (by kernel_rfl) rfl rfl rfl fun hb hb2=> ?_; simp only [bndOs,bndO,gbnds,AV.gbnd,bnds,C.bnd,true_and,and_true] at hb hb2; conv=>whnf
 repeat' (first|(refine Exists.intro _ (And.intro (P) ?_); conv=>whnf)|(refine And.intro (fun h=> ?_) (fun h=> ?_)<;>(first|skip)<;>(first|exact absurd h (by decide)|(conv=>whnf)))|(refine And.intro ?_ ?_; (focus (first|exact rfl|fail)); conv=>whnf)|((with_reducible refine xc_guard ?_); (first|(refine xc_g (G1) false (by first|(((conv=>whnf); repeat' (first|exact trivial|exact rfl|exact LeC.refl _|(first|exact LeMs.refl _|fail)|((with_reducible refine And.intro ?_ ?_)<;>conv=>whnf))); done)|fail) trivial ?_)|fail); conv=>whnf)|((with_reducible refine xc_guard ?_); (first|(refine xc_g (G2) false (by first|(((conv=>whnf); repeat' (first|exact trivial|exact rfl|exact LeC.refl _|(first|exact LeMs.refl _|fail)|((with_reducible refine And.intro ?_ ?_)<;>conv=>whnf))); done)|fail) trivial ?_)|fail); conv=>whnf)|((with_reducible refine xc_guard ?_); (first|(refine xc_g (G3) false (by first|(((conv=>whnf); repeat' (first|exact trivial|exact rfl|exact LeC.refl _|(first|exact LeMs.refl _|fail)|((with_reducible refine And.intro ?_ ?_)<;>conv=>whnf))); done)|fail) trivial ?_)|fail); conv=>whnf)|((with_reducible refine xc_guard ?_); refine xc_in (f:=17) htb hmix rfl rfl rfl (by kernel_rfl) rfl ?_; intro vs; conv=>whnf)|((with_reducible refine xc_pure ?_); conv=>whnf))
 all_goals try (exfalso; revert h; decide)
 ((conv=>whnf); repeat' (first|exact trivial|exact rfl|exact LeC.refl _|((with_reducible refine And.intro ?_ ?_)<;>conv=>whnf)))
 all_goals exact LeMs.refl _
theorem gLayZ (l:List Ft)(o:Int)(a n:Int)(ho:okSt ⟨a,n,[]⟩=true)(r:RgSt ⟨a,n,[]⟩)(hz:(stF ⟨a,n,[]⟩).size≤262144):GCall Tryz.prog gl 23 [vD l o,vM l,vB] [.ptr 2 0,.ag [.v (.int .u64 a),.v (.int .u64 n),.v (.slice none 0 0)]] [vD l (wr (wr (wr o))),vM (lyF l (stF ⟨a,n,[]⟩)),vB] [intA .i64 0]:=by
 have P:=aPutO1 a n ho r
 have G1:=vWrite l o newN (stF ⟨a,n,[]⟩) false wNewN hz
 have h1:lkF newN (putF newN (stF ⟨a,n,[]⟩) (getF newN l).2 l)=some (stF ⟨a,n,[]⟩,(getF newN l).2):=by rw [lk_put,if_pos rfl]
 have G2:=vSync (putF newN (stF ⟨a,n,[]⟩) (getF newN l).2 l) (wr o) newN wNewN h1
 have h2:lkF newN (putF newN (stF ⟨a,n,[]⟩) (stF ⟨a,n,[]⟩) (putF newN (stF ⟨a,n,[]⟩) (getF newN l).2 l))=some (stF ⟨a,n,[]⟩,stF ⟨a,n,[]⟩):=by rw [lk_put,if_pos rfl]
 have G3:=vRename (putF newN (stF ⟨a,n,[]⟩) (stF ⟨a,n,[]⟩) (putF newN (stF ⟨a,n,[]⟩) (getF newN l).2 l)) (wr (wr o)) newN stN wNewN wStN h2
 refine gcall_of_vcb htb hmix (f:=23) rfl rfl rfl (by kernel_rfl) rfl rfl rfl fun hb hb2=> ?_; simp only [bndOs,bndO,gbnds,AV.gbnd,bnds,C.bnd,true_and,and_true] at hb hb2; conv=>whnf
 repeat' (first|(refine Exists.intro _ (And.intro (P) ?_); conv=>whnf)|(refine And.intro (fun h=> ?_) (fun h=> ?_)<;>(first|skip)<;>(first|exact absurd h (by decide)|(conv=>whnf)))|(refine And.intro ?_ ?_; (focus (first|exact rfl|fail)); conv=>whnf)|((with_reducible refine xc_guard ?_); (first|(refine xc_g (G1) false (by first|(((conv=>whnf); repeat' (first|exact trivial|exact rfl|exact LeC.refl _|(first|exact LeMs.refl _|fail)|((with_reducible refine And.intro ?_ ?_)<;>conv=>whnf))); done)|fail) trivial ?_)|fail); conv=>whnf)|((with_reducible refine xc_guard ?_); (first|(refine xc_g (G2) false (by first|(((conv=>whnf); repeat' (first|exact trivial|exact rfl|exact LeC.refl _|(first|exact LeMs.refl _|fail)|((with_reducible refine And.intro ?_ ?_)<;>conv=>whnf))); done)|fail) trivial ?_)|fail); conv=>whnf)|((with_reducible refine xc_guard ?_); (first|(refine xc_g (G3) false (by first|(((conv=>whnf); repeat' (first|exact trivial|exact rfl|exact LeC.refl _|(first|exact LeMs.refl _|fail)|((with_reducible refine And.intro ?_ ?_)<;>conv=>whnf))); done)|fail) trivial ?_)|fail); conv=>whnf)|((with_reducible refine xc_guard ?_); refine xc_in (f:=17) htb hmix rfl rfl rfl (by kernel_rfl) rfl ?_; intro vs; conv=>whnf)|((with_reducible refine xc_pure ?_); conv=>whnf))
 all_goals try (exfalso; revert h; decide)
 ((conv=>whnf); repeat' (first|exact trivial|exact rfl|exact LeC.refl _|((with_reducible refine And.intro ?_ ?_)<;>conv=>whnf)))
 all_goals exact LeMs.refl _
theorem gBeginV (l:List Ft)(o a:Int)(hl:lkF stN l=none)(ho:okSt ⟨a,1,[]⟩=true)(r:RgSt ⟨a,1,[]⟩)(hz:(stF ⟨a,1,[]⟩).size≤262144):GCall Tryz.prog gl 10 [vD l o,vM l,vB] [.ptr 2 0,intA .u64 a] [vD l (wr (wr (wr o))),vM (lyF l (stF ⟨a,1,[]⟩)),vB] [intA .i64 0]:=by
 have G1:=vReadNo l o stN hl
 have G2:=gLayZ l o a 1 ho r hz
 refine gcall_of_vcb htb hmix (f:=10) rfl rfl rfl (by kernel_rfl) rfl rfl rfl fun hb hb2=> ?_; simp only [bndOs,bndO,gbnds,AV.gbnd,bnds,C.bnd,true_and,and_true] at hb hb2; conv=>whnf
 repeat' (first|(refine And.intro (fun h=> ?_) (fun h=> ?_)<;>(first|skip)<;>(first|exact absurd h (by decide)|(conv=>whnf)))|(refine And.intro ?_ ?_; (focus (first|exact rfl|fail)); conv=>whnf)|((with_reducible refine xc_guard ?_); (first|(refine xc_g (G1) false (by first|(((conv=>whnf); repeat' (first|exact trivial|exact rfl|exact LeC.refl _|(first|exact LeMs.refl _|fail)|((with_reducible refine And.intro ?_ ?_)<;>conv=>whnf))); done)|fail) trivial ?_)|fail); conv=>whnf)|((with_reducible refine xc_guard ?_); (first|(refine xc_g (G2) false (by first|(((conv=>whnf); repeat' (first|exact trivial|exact rfl|exact LeC.refl _|(first|exact LeMs.refl _|fail)|((with_reducible refine And.intro ?_ ?_)<;>conv=>whnf))); done)|fail) trivial ?_)|fail); conv=>whnf)|((with_reducible refine xc_guard ?_); refine xc_in (f:=17) htb hmix rfl rfl rfl (by kernel_rfl) rfl ?_; intro vs; conv=>whnf)|fail)
 all_goals try (exfalso; revert h; decide)
 ((conv=>whnf); repeat' (first|exact trivial|exact rfl|exact LeC.refl _|((with_reducible refine And.intro ?_ ?_)<;>conv=>whnf)))
 all_goals exact LeMs.refl _
theorem gNoteV (l:List Ft)(o:Int)(i:It)(ho:okIt i=true)(r:RgIt i)(hz:(iB i).size≤262144):GCall Tryz.prog gl 12 [vD l o,vM l,vB] [.ptr 2 0,.ag (cIt i)] [vD l (wr (wr o)),vM (ntL l (iB i)),vB] [intA .i64 0]:=by
 have K:=aCheckI i
 rw [if_pos ho] at K
 have P:=aWPutO i ho r
 have G1:=vWrite l o intN (iB i) false wIntN hz
 have h1:lkF intN (putF intN (iB i) (getF intN l).2 l)=some (iB i,(getF intN l).2):=by rw [lk_put,if_pos rfl]
 have G2:=vSync (putF intN (iB i) (getF intN l).2 l) (wr o) intN wIntN h1
 refine gcall_of_vcb htb hmix (f:=12) rfl rfl rfl (by kernel_rfl) rfl rfl rfl fun hb hb2=> ?_; simp only [bndOs,bndO,gbnds,AV.gbnd,bnds,C.bnd,true_and,and_true] at hb hb2; conv=>whnf
 repeat' (first|(refine Exists.intro _ (And.intro (K) ?_); conv=>whnf)|(refine Exists.intro _ (And.intro (P) ?_); conv=>whnf)|(refine And.intro (fun h=> ?_) (fun h=> ?_)<;>(first|skip)<;>(first|exact absurd h (by decide)|(conv=>whnf)))|(refine And.intro ?_ ?_; (focus (first|exact rfl|fail)); conv=>whnf)|((with_reducible refine xc_guard ?_); (first|(refine xc_g (G1) false (by first|(((conv=>whnf); repeat' (first|exact trivial|exact rfl|exact LeC.refl _|(first|exact LeMs.refl _|fail)|((with_reducible refine And.intro ?_ ?_)<;>conv=>whnf))); done)|fail) trivial ?_)|fail); conv=>whnf)|((with_reducible refine xc_guard ?_); (first|(refine xc_g (G2) false (by first|(((conv=>whnf); repeat' (first|exact trivial|exact rfl|exact LeC.refl _|(first|exact LeMs.refl _|fail)|((with_reducible refine And.intro ?_ ?_)<;>conv=>whnf))); done)|fail) trivial ?_)|fail); conv=>whnf)|((with_reducible refine xc_guard ?_); refine xc_in (f:=17) htb hmix rfl rfl rfl (by kernel_rfl) rfl ?_; intro vs; conv=>whnf)|((with_reducible refine xc_pure ?_); conv=>whnf))
 all_goals try (exfalso; revert h; decide)
 ((conv=>whnf); repeat' (first|exact trivial|exact rfl|exact LeC.refl _|((with_reducible refine And.intro ?_ ?_)<;>conv=>whnf)))
 all_goals exact LeMs.refl _
theorem gLoadV (l:List Ft)(o:Int)(s:St)(ho:okSt s=true)(r:RgSt s)(hz:(stF s).size≤262144){z:ByteArray}(hl:lkF stN l=some (stF s,z)):GCall Tryz.prog gl 7 [vD l o,vM l,vB] [.ptr 2 0] [vD l o,vM l,vB] [.ag (cSt s),intA .i64 0]:=by
 have G1:=vRead l o stN hl
 have S:=aGetS false (stF s) (by omega)
 rw [show rSt (stF s)=(s,0) from rSt_back ho r (by unfold stF; rw [baL_size]) (fmS_at ho r)] at S
 refine gcall_of_vcb htb hmix (f:=7) rfl rfl rfl (by kernel_rfl) rfl rfl rfl fun hb hb2=> ?_; simp only [bndOs,bndO,gbnds,AV.gbnd,bnds,C.bnd,true_and,and_true] at hb hb2; conv=>whnf
 repeat' (first|(refine Exists.intro _ (And.intro (S) ?_); conv=>whnf)|(refine And.intro (fun h=> ?_) (fun h=> ?_)<;>(first|skip)<;>(first|exact absurd h (by decide)|(conv=>whnf)))|(refine And.intro ?_ ?_; (focus (first|exact rfl|fail)); conv=>whnf)|((with_reducible refine xc_guard ?_); (first|(refine xc_g (G1) false (by first|(((conv=>whnf); repeat' (first|exact trivial|exact rfl|exact LeC.refl _|(first|exact LeMs.refl _|fail)|((with_reducible refine And.intro ?_ ?_)<;>conv=>whnf))); done)|fail) trivial ?_)|fail); conv=>whnf)|((with_reducible refine xc_guard ?_); refine xc_in (f:=17) htb hmix rfl rfl rfl (by kernel_rfl) rfl ?_; intro vs; conv=>whnf)|((with_reducible refine xc_pure ?_); conv=>whnf))
 all_goals try (exfalso; revert h; decide)
 ((conv=>whnf); repeat' (first|exact trivial|exact rfl|exact LeC.refl _|((with_reducible refine And.intro ?_ ?_)<;>conv=>whnf)))
 all_goals exact LeMs.refl _
theorem open1 (i:It)(ho:okIt i=true)(r:RgIt i):allS (iB i)=([i],(fmI i).length):=by
 have hsz:(iB i).size=(fmI i).length:=by unfold iB; rw [baL_size]
 have hlen:(fmI i).length≤400:=by
  rw [fmI_len]
  have:=inL_len ho
  omega
 have hA:AtL (iB i) 0 (fmI i):=⟨by rw [hsz]; omega,fun j hj=>by rw [Nat.zero_add]; exact baL_byte (bys_fm ho) j hj⟩
 have hp:0<(fmI i).length:=by rw [fmI_len]; omega
 have hf:(fmsI [i]).length=(fmI i).length:=by simp [fmsI]
 have hA2:AtL (iB i) 0 (fmsI [i]):=by
  have e:fmsI [i]=fmI i:=by simp [fmsI]
  rw [e]; exact hA
 have h:=allG_forms (iB i) (by omega) i ho [i] 0 ((iB i).size+1) (fun x hx=>by rw [List.mem_singleton.1 hx]; exact ⟨ho,r⟩) hA2
  ⟨by rw [hf]; omega,by rw [hf]; omega,fun j hj=>absurd hj (by rw [hf]; omega)⟩ (by simp; omega)
 rw [hf,Nat.zero_add] at h
 exact h
end Go.Proofs.YtiodgjgngfklkaaGreatDoor
