/- What functions of the program answer,whatever their arguments. -/
import Derived.Test.YtaecnniddhikbaaGreatDoorR5a
import Derived.Test.YtaecnniddhikbaaGreatDoorR3
import Derived.Test.YtaecnniddhikbaaGreatDoorQ13
import Derived.Test.YtaecnniddhikbaaGreatDoorQ8
set_option linter.unusedSectionVars false
set_option linter.unnecessarySimpa false
set_option linter.unusedSimpArgs false
set_option linter.unusedVariables false
set_option maxRecDepth 100000
set_option maxHeartbeats 8000000
namespace Go.Proofs.YtaecnniddhikbaaGreatDoor
open Go Go.VA
theorem seSq:StructEq Tryz.prog 23 [4,4,4,4,4,4,4,4,4,4,4,4,4,4,4,4,4,4,4,4,4,4,4,4,4,4,4,4,4,4,4,4]:=structEq_of (d:=5) (by kernel_rfl)
theorem sum_same (c:Nat→UInt8):(!(((c 0).toNat:Int)==((c 0).toNat:Int)&&(((c 1).toNat:Int)==((c 1).toNat:Int)&&(((c 2).toNat:Int)==((c 2).toNat:Int)&&(((c 3).toNat:Int)==((c 3).toNat:Int)&&(((c 4).toNat:Int)==((c 4).toNat:Int)&&(((c 5).toNat:Int)==((c 5).toNat:Int)&&(((c 6).toNat:Int)==((c 6).toNat:Int)&&(((c 7).toNat:Int)==((c 7).toNat:Int)&&(((c 8).toNat:Int)==((c 8).toNat:Int)&&(((c 9).toNat:Int)==((c 9).toNat:Int)&&(((c 10).toNat:Int)==((c 10).toNat:Int)&&(((c 11).toNat:Int)==((c 11).toNat:Int)&&(((c 12).toNat:Int)==((c 12).toNat:Int)&&(((c 13).toNat:Int)==((c 13).toNat:Int)&&(((c 14).toNat:Int)==((c 14).toNat:Int)&&(((c 15).toNat:Int)==((c 15).toNat:Int)&&(((c 16).toNat:Int)==((c 16).toNat:Int)&&(((c 17).toNat:Int)==((c 17).toNat:Int)&&(((c 18).toNat:Int)==((c 18).toNat:Int)&&(((c 19).toNat:Int)==((c 19).toNat:Int)&&(((c 20).toNat:Int)==((c 20).toNat:Int)&&(((c 21).toNat:Int)==((c 21).toNat:Int)&&(((c 22).toNat:Int)==((c 22).toNat:Int)&&(((c 23).toNat:Int)==((c 23).toNat:Int)&&(((c 24).toNat:Int)==((c 24).toNat:Int)&&(((c 25).toNat:Int)==((c 25).toNat:Int)&&(((c 26).toNat:Int)==((c 26).toNat:Int)&&(((c 27).toNat:Int)==((c 27).toNat:Int)&&(((c 28).toNat:Int)==((c 28).toNat:Int)&&(((c 29).toNat:Int)==((c 29).toNat:Int)&&(((c 30).toNat:Int)==((c 30).toNat:Int)&&(((c 31).toNat:Int)==((c 31).toNat:Int))))))))))))))))))))))))))))))))))=false:=by
 simp only [beq_self_eq_true,Bool.and_self,Bool.not_true]
theorem nilB {f:Nat}{r:AV}{s:ByteArray}(h0:s.size=0)(h:ACall Tryz.prog gl f [.c (.sl false 1 s.size (strCells s))] [] r):ACall Tryz.prog gl f [.c (.v (.slice none 0 0))] [] r:=by
 refine h.leA fun B S us hu=> ?_
 simp only [RelVs] at hu ⊢
 obtain ⟨u,r,e1,h1,e2⟩:=hu
 refine ⟨u,r,e1,?_,e2⟩
 simp only [RelV,RepC] at h1 ⊢
 rw [h0]
 exact ⟨none,0,h1.1,⟨Nat.le_refl _,by decide⟩,.inl rfl⟩
theorem aShaNilR:ACall Tryz.prog gl 20 [.c (.v (.slice none 0 0))] [] (.ag (sumC (shaA ByteArray.empty))):=nilB rfl (aShaR false ByteArray.empty (by decide))
theorem aEqFn:ACall Tryz.prog gl 54 [.c (.sl false 38 0 (rSp [])),.c (.v (.slice none 0 0)),.fn 52 [] []] [] (boolA true):=by
 refine acall_of_vc htb hmix (f:=54) rfl rfl rfl (by kernel_rfl) rfl rfl ?_; conv=>whnf
 repeat' (first|(refine And.intro (fun h=> ?_) (fun h=> ?_)<;>(first|skip)<;>(first|exact absurd h (by decide)|(conv=>whnf)))|fail)
 refine loopI Nat (fun c=>c=0) (fun _=>[(17,intA .i64 0)]) (fun _=>[]) (fun _=>0) 0 rfl ?_ (fun _=>rfl) fun c hc=> ?_
 ·(refine And.intro ?_ (And.intro ?_ (And.intro ?_ rfl))<;>(conv=>whnf)<;>repeat' (first|exact trivial|exact LeE.of (Le.refl _)|(first|exact rfl|fail)|((with_reducible refine And.intro ?_ ?_)<;>conv=>whnf)))
 ·conv=>whnf
  repeat' (first|(refine And.intro (fun h=> ?_) (fun h=> ?_)<;>(first|(with_reducible have hd:_<_:=of_decide_eq_true h)|(with_reducible have hd:¬ (_<_):=of_decide_eq_false h)|fail)<;>(first|exact absurd h (by decide)|(conv=>whnf)))|fail)
  exact leB rfl
abbrev nlP (c:Nat→UInt8):List C:=sumC c++[.v (.int .u64 1),.v (.int .u64 2),.v (.slice none 0 0),.v (.slice none 0 0),.v (.slice none 0 0)]
def pl0 (c:Nat→UInt8):Pl:=⟨c,1,2,[],[],[]⟩
theorem aStaleEx (c:Nat→UInt8)(SH:∀ u,ACall Tryz.prog gl 27 [.c (.sl u 1 1 (nthC [[C.sl false 1 0 (strCells ByteArray.empty)]]))] [] (.ag (sumC c))):ACall Tryz.prog gl 21 [.ag (sumC c++cPt false false false (pl0 c)),.c (.v (.string ByteArray.empty)),.ag [.v (.int .u64 1),.v (.int .u64 2),.v (.slice none 0 0)]] [] (boolA false):=by
 have E:=sum_same c
 refine acall_of_vc htb hmix (f:=21) rfl rfl rfl (by kernel_rfl) rfl rfl ?_; conv=>whnf
 repeat' (first|(refine Exists.intro _ (And.intro (chainI (SH _)) ?_); conv=>whnf)|(refine Exists.intro _ (And.intro (chainI (aEqFn)) ?_); conv=>whnf)|((with_reducible refine DOg.l ?_); (conv=>whnf))|((with_reducible refine FzOr.l ?_); conv=>whnf)|(refine And.intro ?_ ?_; (focus (first|(first|exact seSq|fail)|(refine chainI ?_; (first|decide|fail))|fail)); conv=>whnf)|(rw [E]; conv=>whnf))
 exact leB rfl
def cutF (c:Nat→UInt8):Nat→UInt8:=fun i=>if i<32 then c i else 0
theorem aAwakeG (c:Nat→UInt8)(S0:ACall Tryz.prog gl 20 [.c (.v (.slice none 0 0))] [] (.ag (sumC c)))
  (SH:∀ u,ACall Tryz.prog gl 27 [.c (.sl u 1 1 (nthC [[C.sl false 1 0 (strCells ByteArray.empty)]]))] [] (.ag (sumC c))) (F:Nat→List C)
  (P0:ACall Tryz.prog gl 8 [.ag (cPl false false false (pl0 c))] [] (.c (.sl false 1 77 F)))
  (G0:ACall Tryz.prog gl 13 [.c (.sl false 1 77 F)] [] (.tup [.ag (cPl false false false (pl0 c)),intA .i64 0])):ACall Tryz.prog gl 7 [] [] (boolA true):=by
 have P1:ACall Tryz.prog gl 8 [.ag (nlP c)] [] (.c (.sl false 1 77 F)):=P0.le ⟨leAg (by ((conv=>whnf); repeat' (first|exact trivial|exact LeC.refl _|exact LeC.nil rfl|((with_reducible refine And.intro ?_ ?_)<;>conv=>whnf)))),trivial⟩
 have ST:=aStaleEx c SH
 refine acall_of_vc htb hmix (f:=7) rfl rfl rfl (by kernel_rfl) rfl rfl ?_; conv=>whnf
 repeat' (first|(refine Exists.intro _ (And.intro (S0) ?_); conv=>whnf)|(refine Exists.intro _ (And.intro (P1) ?_); conv=>whnf)|(refine Exists.intro _ (And.intro (G0) ?_); conv=>whnf)|((with_reducible refine GOr.l ?_); (conv=>whnf); refine Exists.intro _ (And.intro (chainI (ST)) ?_); conv=>whnf)|((with_reducible refine FzOr.l ?_); conv=>whnf)|((with_reducible refine xc_pure ?_); conv=>whnf))
 exact leB rfl
end Go.Proofs.YtaecnniddhikbaaGreatDoor
namespace Go.Proofs.YtaecnniddhikbaaGreatDoor
open Go Go.VA
theorem pl0_ok (c:Nat→UInt8):okPl (pl0 c)=true:=rfl
theorem pl0_o (c:Nat→UInt8):OkP (pl0 c):=okP_of (pl0_ok c) (fun j hj=>absurd hj (Nat.not_lt_zero _))
theorem pl0_r {c:Nat→UInt8}(h:∀ i,32≤i→c i=0):RgPl (pl0 c):=⟨by show (0:Int)≤1; decide,by show (1:Int)<18446744073709551616; decide,by show (0:Int)≤2; decide,by show (2:Int)<18446744073709551616; decide,h,fun x hx=>absurd hx List.not_mem_nil,fun x hx=>absurd hx List.not_mem_nil,fun x hx=>absurd hx List.not_mem_nil⟩
theorem pl0_len (c:Nat→UInt8):(fmP (pl0 c)).length=77:=by
 rw [fmP_len,inP_all]
 simp only [List.length_append,sumL_len]
 show 40+(32+(shortL 1).length+(shortL 2).length+(shortL 0).length+0+(shortL 0).length+0+(shortL 0).length+0)=77
 decide +kernel
theorem rB_fm {p:Pl}(o:OkP p)(r:RgPl p):∀ i,i<(fmP p).length→rB (fmP p) i=strCells (baL (fmP p)) i:=fun i hi=>rB_strO (fmP_bys o r) hi
theorem fmP_big {p:Pl}(o:OkP p):(fmP p).length≤520000040:=by
 have:=inP_len o
 rw [fmP_len]; omega
theorem aGetF (t:Bool){p:Pl}(ho:okPl p=true)(o:OkP p)(r:RgPl p):ACall Tryz.prog gl 13 [.c (.sl t 1 (fmP p).length (rB (fmP p)))] [] (.tup [.ag (cPl false false false p),intA .i64 0]):=by
 have b:=fmP_big o
 have h:=aGetP t (baL (fmP p)) (by rw [baL_size]; omega)
 rw [pl_back ho o r (by rw [baL_size]) (fmP_at o r)] at h
 exact h.le ⟨leSl (by rw [baL_size]) (fun i hi=>rB_fm o r i (by rw [baL_size] at hi; exact hi)),trivial⟩
theorem aAwakeP:ACall Tryz.prog gl 7 [] [] (boolA true):=by
 obtain ⟨c,hc,hs⟩:∃ c:Nat→UInt8,(∀ i,32≤i→c i=0)∧sumC c=sumC (shaA ByteArray.empty):=⟨cutF (shaA ByteArray.empty),fun i hi=>if_neg (by omega),rfl⟩
 have S0:=aShaNilR
 rw [← hs] at S0
 have SH:∀ u,ACall Tryz.prog gl 27 [.c (.sl u 1 1 (nthC [[C.sl false 1 0 (strCells ByteArray.empty)]]))] [] (.ag (sumC c)):=fun u=>by
  rw [hs]
  exact aSha1G u false ByteArray.empty 0 (strCells ByteArray.empty) _ rfl rfl (fun _ _=>rfl) (by decide)
 have P0:=ACall.of_gcall (gPlPutG (pl0 c) (pl0_ok c) (pl0_o c) (pl0_r hc) (fun j hj=>absurd hj (Nat.not_lt_zero _)) (fun j hj=>absurd hj (Nat.not_lt_zero _)) (fun j hj=>absurd hj (Nat.not_lt_zero _)) (fun j hj=>absurd hj (Nat.not_lt_zero _)))
 have e0:(fun j=>rB (fmP (pl0 c)) (0+j))=rB (fmP (pl0 c)):=by funext j; rw [Nat.zero_add]
 rw [e0] at P0
 have G0:=aGetF false (pl0_ok c) (pl0_o c) (pl0_r hc)
 rw [pl0_len] at P0 G0
 exact aAwakeG c S0 SH _ P0 G0
theorem aRefCk (u v w:Bool)(p:Pl)(hy:∀ x ∈ p.x,0≤x.y.n)(hz:∀ x ∈ p.t,0≤x.y.n):ACall Tryz.prog gl 12 [.ag (cPl u v w p)] [] (boolA (okPl p)):=by
 have C:=aCheckPlan u v w p hy hz
 refine acall_of_vc htb hmix (f:=12) rfl rfl rfl (by kernel_rfl) rfl rfl ?_; conv=>whnf
 repeat' (first|(refine Exists.intro _ (And.intro (C) ?_); conv=>whnf)|((with_reducible refine FzOr.l ?_); conv=>whnf)|((with_reducible refine xc_pure ?_); conv=>whnf))
 exact Le.refl _
theorem aRefSame (a b:Pl):ACall Tryz.prog gl 14 [.ag (cPl false false false a),.ag (cPl false false false b)] [] (boolA (sameP a b)):=by
 have C:=aSamePlan a b
 refine acall_of_vc htb hmix (f:=14) rfl rfl rfl (by kernel_rfl) rfl rfl ?_; conv=>whnf
 repeat' (first|(refine Exists.intro _ (And.intro (C) ?_); conv=>whnf)|((with_reducible refine FzOr.l ?_); conv=>whnf)|((with_reducible refine xc_pure ?_); conv=>whnf))
 exact Le.refl _
theorem rg_hy {p:Pl}(r:RgPl p):∀ x ∈ p.x,0≤x.y.n:=fun x hx=>(r.x x hx).1
theorem rg_hz {p:Pl}(r:RgPl p):∀ x ∈ p.t,0≤x.y.n:=fun x hx=>(r.t x hx).1
theorem aFormPG (p:Pl)(ho:okPl p=true)(o:OkP p)(r:RgPl p)(D:ACall Tryz.prog gl 34 [.ag (cPl false false false p)] [] (.c (.sl false 1 (inP p).length (rB (inP p))))) :
  ACall Tryz.prog gl 11 [.ag (cPl false false false p)] [] (.c (.sl false 1 (fmP p).length (rB (fmP p)))):=by
 have C:=aRefCk false false false p (rg_hy r) (rg_hz r)
 rw [ho] at C
 have hlen:=inP_len o
 have W:=ACall.of_gcall (gWrapG mgP rfl false (inP p) (rB (inP p)) (fun _ _=>rfl) (bys_inP o r) (by omega))
 have e':(fun j=>rB (wrapL (bytesL mgP) (inP p)) (0+j))=rB (fmP p):=by funext j; rw [Nat.zero_add]; rfl
 rw [e'] at W
 refine acall_of_vc htb hmix (f:=11) rfl rfl rfl (by kernel_rfl) rfl rfl ?_; conv=>whnf
 repeat' (first|(refine Exists.intro _ (And.intro (C) ?_); conv=>whnf)|(refine Exists.intro _ (And.intro (D) ?_); conv=>whnf)|(refine Exists.intro _ (And.intro (W) ?_); conv=>whnf)|(refine And.intro (fun h=> ?_) (fun h=> ?_)<;>(first|skip)<;>(first|exact absurd h (by decide)|(conv=>whnf)))|((with_reducible refine NilOr.l ?_); conv=>whnf)|((with_reducible refine FzOr.l ?_); conv=>whnf)|((with_reducible refine xc_pure ?_); conv=>whnf))
 exact Le.refl _
theorem aFormPNo (p:Pl)(ho:okPl p=false)(r:RgPl p):ACall Tryz.prog gl 11 [.ag (cPl false false false p)] [] (.c (.v (.slice none 0 0))):=by
 have C:=aRefCk false false false p (rg_hy r) (rg_hz r)
 rw [ho] at C
 refine acall_of_vc htb hmix (f:=11) rfl rfl rfl (by kernel_rfl) rfl rfl ?_; conv=>whnf
 repeat' (first|(refine Exists.intro _ (And.intro (C) ?_); conv=>whnf)|(refine And.intro (fun h=> ?_) (fun h=> ?_)<;>(first|skip)<;>(first|exact absurd h (by decide)|(conv=>whnf)))|((with_reducible refine NilOr.r ?_); conv=>whnf)|((with_reducible refine FzOr.l ?_); conv=>whnf)|((with_reducible refine xc_pure ?_); conv=>whnf))
 exact Le.refl _
theorem sQ_refl (a:Nat→UInt8):∀ n i,sQ a a n i=true
 | 0,i=>by simp [sQ]
 | n+1,i=>by simp [sQ,sQ_refl a n (i+1)]
theorem spEq_refl (a:Sp):spEq a a=true:=by
 have hk:=(eqK_iff (a:=a.y) (b:=a.y)).2 rfl
 unfold eqK at hk
 simp only [Bool.and_eq_true] at hk
 unfold spEq sumQ
 simp only [Bool.and_eq_true]
 exact ⟨hk.1,hk.2.1,hk.2.2.1,hk.2.2.2.1,hk.2.2.2.2.1,hk.2.2.2.2.2,sQ_refl _ _ _⟩
theorem acSm_refl (a:Ac):acSm a a=true:=by
 unfold acSm acF
 rw [eqK_iff.2 rfl,sameR_refl,sameR_refl,allQ_t fun j _=>by unfold hdQ; exact beq_self_eq_true _]
 simp
theorem bdsB_refl (l:List Bd):bdsB l l=true:=by
 unfold bdsB
 rw [allQ_t fun j _=>by unfold bdQ; rw [eqs_iff.2 rfl,sameR_refl]; rfl]
 simp
theorem sameP_refl (p:Pl):sameP p p=true:=by
 unfold sameP plF sumQ
 rw [sQ_refl,bdsB_refl,allQ_t (q:=spR p.t p.t) fun j _=>spEq_refl _,allQ_t (q:=acM p.x p.x) fun j _=>acSm_refl _]
 simp
theorem great_h {p:Pl}(h:greatP p=false):∀ j,j<p.x.length→(p.x.getD j ac0).h.length≤140737488355328:=fun j hj=>by
 unfold greatP at h
 simp only [Bool.or_eq_false_iff,Bool.not_eq_false'] at h
 have:=allQ_at h.2 j hj
 unfold gxQ at this
 simp only [Bool.not_eq_true',Bool.or_eq_false_iff,decide_eq_false_iff_not] at this
 omega
end Go.Proofs.YtaecnniddhikbaaGreatDoor
namespace Go.Proofs.YtaecnniddhikbaaGreatDoor
open Go Go.VA
end Go.Proofs.YtaecnniddhikbaaGreatDoor
