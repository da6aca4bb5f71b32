/- Contracts of functions of the program,and the laws that stand on them: what each function answers,whatever its arguments. -/
import Derived.Test.YtiodgjgngfklkaaGreatDoorP12
import Derived.Test.YtiodgjgngfklkaaGreatDoorP7
set_option linter.all false
set_option maxRecDepth 100000
set_option maxHeartbeats 8000000
namespace Go.Proofs.YtiodgjgngfklkaaGreatDoor
open Go Go.VA
section
variable {α:Type}
def lpR (A:Nat→Nat) (B:Nat→Bool) (E:Nat→α):Nat→Int→Nat→List α→Bool→List α×Nat×Bool
 | 0,_,a,acc,b=>(acc,a,b)
 | m+1,i,a,acc,b=>if decide (i>0)&& !b then lpR A B E m (IntKind.u64.wrap (i-1)) (A a) (acc++[E a]) (B a) else (acc,a,b)
def lpG (EN:Nat→Option (α×Nat)):Nat→Nat→List α→Option (List α×Nat)
 | 0,a,acc=>some (acc,a)
 | n+1,a,acc=>match EN a with
  | none=>none
  | some p=>lpG EN n p.2 (acc++[p.1])
theorem lpR_bad {A:Nat→Nat}{B:Nat→Bool}{E:Nat→α}(m:Nat)(i:Int)(a:Nat)(acc:List α):(lpR A B E m i a acc true).2.2=true:=by
 cases m with
 | zero=>rfl
 | succ m=>simp only [lpR]; rw [if_neg (by simp)]
structure Lnk (z:Nat) (A:Nat→Nat) (B:Nat→Bool) (E:Nat→α) (EN:Nat→Option (α×Nat)):Prop where
 yes:∀ a p,a≤z→EN a=some p→A a=p.2∧B a=false∧E a=p.1
 no:∀ a,a≤z→EN a=none→B a=true
 rg:∀ a,a≤z→a≤A a∧A a≤z∧(B a=false→a<A a)
variable {z:Nat} {A:Nat→Nat} {B:Nat→Bool} {E:Nat→α} {EN:Nat→Option (α×Nat)}
theorem wrapU2 {n:Int}(h0:0≤n)(h:n<18446744073709551616):IntKind.u64.wrap n=n:=Int.emod_eq_of_lt h0 h
theorem lp_yes (L:Lnk z A B E EN)(n:Nat):∀ (m a:Nat) (acc:List α),a≤z→z-a<m→(n:Int)<18446744073709551616 →
  (∀ p,lpG EN n a acc=some p→lpR A B E m n a acc false=(p.1,p.2,false))∧(lpG EN n a acc=none→(lpR A B E m n a acc false).2.2=true):=by
 induction n with
 | zero =>
  intro m a acc ha hm _
  obtain ⟨m,rfl⟩:∃ k,m=k+1:=⟨m-1,by omega⟩
  refine ⟨fun p h=> ?_,fun h=>by simp [lpG] at h⟩
  simp only [lpG,Option.some.injEq] at h
  subst h
  simp only [lpR]
  rw [if_neg (by simp)]
 | succ n ih =>
  intro m a acc ha hm hn
  obtain ⟨m,rfl⟩:∃ k,m=k+1:=⟨m-1,by omega⟩
  have hw:IntKind.u64.wrap (((n+1:Nat):Int)-1)=(n:Int):=(wrapU2 (by omega) (by omega)).trans (by omega)
  have e:lpR A B E (m+1) ((n+1:Nat):Int) a acc false=lpR A B E m n (A a) (acc++[E a]) (B a):=by
   simp only [lpR]
   rw [if_pos (by first|(simp; done)|fail),hw]
  rw [e]
  have rg:=L.rg a ha
  cases hE:EN a with
  | none =>
   rw [L.no a ha hE,lpR_bad]
   simp only [lpG,hE]
   exact ⟨fun p h=>by simp at h,fun _=>trivial⟩
  | some p =>
   obtain ⟨h1,h2,h3⟩:=L.yes a p ha hE
   rw [h2]
   have:=rg.2.2 h2
   have ih:=ih m (A a) (acc++[E a]) rg.2.1 (by omega) (by omega)
   rw [h1,h3] at ih ⊢
   simp only [lpG,hE]
   exact ih
theorem lp_over (L:Lnk z A B E EN)(m:Nat):∀ (a:Nat) (i:Int) (acc:List α),a≤z→z-a<m→((z-a:Nat):Int)<i→i<18446744073709551616→(lpR A B E m i a acc false).2.2=true:=by
 induction m with
 | zero=>intro a i acc ha hm _ _; omega
 | succ m ih =>
  intro a i acc ha hm hi h64
  have hw:IntKind.u64.wrap (i-1)=i-1:=wrapU2 (by omega) (by omega)
  simp only [lpR]
  rw [if_pos (by simp; omega),hw]
  have rg:=L.rg a ha
  cases hB:B a
  ·have:=rg.2.2 hB
   exact ih (A a) (i-1) _ rg.2.1 (by omega) (by omega) (by omega)
  ·exact lpR_bad _ _ _ _
theorem lpG_rg (h:∀ a p,a≤z→EN a=some p→a≤p.2∧p.2≤z):∀ (n a:Nat) (acc:List α) (p:List α×Nat),a≤z→lpG EN n a acc=some p→a≤p.2∧p.2≤z
 | 0,a,acc,p,ha,hp=>by
  simp only [lpG,Option.some.injEq] at hp
  subst hp
  exact ⟨Nat.le_refl _,ha⟩
 | n+1,a,acc,p,ha,hp=>by
  simp only [lpG] at hp
  split at hp
  ·simp at hp
  ·rename_i q hq
   have h1:=h a q ha hq
   have ih:=lpG_rg h n q.2 _ p h1.2 hp
   omega
end
theorem sh_v (s:ByteArray)(a:Nat):0≤(sh s a).1∧(sh s a).1<18446744073709551616:=⟨gS_nn s a _ 0 0 (Int.le_refl 0),gS_lt s a _ 0 0 (by decide)⟩
def tA (s:ByteArray) (a:Nat):Nat:=e1 s a
def tB (s:ByteArray) (a:Nat):Bool:=b1 s a false||(kd s a).1.n != 1
def tN (s:ByteArray) (a:Nat):Option (Ad×Nat):=if (kd s a).2.2 != 0||(kd s a).1.n != 1 then none else some ((kd s a).1.a,e1 s a)
theorem b1_f (s:ByteArray)(a:Nat):b1 s a false=((kd s a).2.2 != 0):=by unfold b1; rw [Bool.false_or]
theorem dpR_lp (s:ByteArray):∀ (m:Nat) (i:Int) (a:Nat) (acc:List Ad) (b:Bool),dpR s m i a acc b=lpR (tA s) (tB s) (fun a=>(kd s a).1.a) m i a acc b
 | 0,_,_,_,_=>rfl
 | m+1,i,a,acc,b=>by
  simp only [dpR,lpR]
  cases b
  ·split
   ·exact dpR_lp s m _ _ _ _
   ·rfl
  ·rw [if_neg (by simp),if_neg (by simp)]
theorem dpG_lp (s:ByteArray):∀ (n a:Nat) (acc:List Ad),dpG (kd s) n a acc=lpG (tN s) n a acc
 | 0,_,_=>rfl
 | n+1,a,acc=>by
  simp only [dpG,lpG]
  by_cases h:((kd s a).2.2 != 0||(kd s a).1.n != 1)=true
  ·have e:tN s a=none:=by unfold tN; rw [if_pos h]
   rw [if_pos h,e]
  ·have e:tN s a=some ((kd s a).1.a,e1 s a):=by unfold tN; rw [if_neg h]
   rw [if_neg h,e]
   exact dpG_lp s n _ _
theorem tLnk (s:ByteArray):Lnk s.size (tA s) (tB s) (fun a=>(kd s a).1.a) (tN s) where
 yes a p ha h:=by
  unfold tN at h
  split at h
  ·simp at h
  ·rename_i hb
   simp only [Option.some.injEq] at h
   subst h
   refine ⟨rfl,?_,rfl⟩
   unfold tB
   rw [b1_f]
   simpa using hb
 no a ha h:=by
  unfold tN at h
  split at h
  ·rename_i hb
   unfold tB
   rw [b1_f]
   exact hb
  ·simp at h
 rg a ha:=by
  refine ⟨e1_ge s a,e1_le s a ha,fun h=> ?_⟩
  unfold tB at h
  rw [b1_f] at h
  simp only [Bool.or_eq_false_iff,bne_eq_false_iff_eq] at h
  have:=kd_pos s a h.1
  show a<e1 s a
  unfold e1; omega
def gEn (s:ByteArray) (a:Nat):Option (En×Nat):=gEnG s (kd s) (vl s) (sh s) a
theorem flag_1 (s:ByteArray)(a:Nat)(h:byteN s a≤3):(bitsI .and .u64 (byteN s a) 1 != 0)=((byteN s a).tmod 2==1)∧(bitsI .and .u64 (byteN s a) 2 != 0)=decide (byteN s a>1):=by
 have hl:=byteN_lt s a
 have h0:0≤byteN s a:=by unfold byteN; omega
 generalize byteN s a=x at *
 have hx:x=0∨x=1∨x=2∨x=3:=by omega
 rcases hx with rfl|rfl|rfl|rfl<;>decide +kernel
theorem fg_ok {s:ByteArray}{a:Nat}(h:a<s.size):fgV s a=byteN s a∧fgE s a=0∧(mn s a).toNat=1:=by
 refine ⟨?_,?_,?_⟩
 ·unfold fgV; rw [if_neg (by omega)]
 ·unfold fgE; rw [if_neg (by omega)]
 ·rw [mn_eq]; omega
theorem fg_no {s:ByteArray}{a:Nat}(h:s.size≤a):fgE s a=2:=by unfold fgE; rw [if_pos (by omega)]
theorem ent_b4 {s:ByteArray}{a:Nat}(h:b4 s a false=true):(dpS s a false).2.2=true:=by
 unfold dpS
 rw [h,dpR_bad]
theorem b2_f (s:ByteArray)(a:Nat):b2 s a false=((kd s a).2.2 != 0||fgE s (e1 s a) != 0||decide (fgV s (e1 s a)>3)):=by unfold b2; rw [b1_f]
theorem ent_no {s:ByteArray}(hs:s.size≤4294967296){a:Nat}(ha:a≤s.size)(h:gEn s a=none):(dpS s a false).2.2=true:=by
 unfold gEn gEnG at h
 have r1:=kd_rg s a
 have ee:e1 s a=a+(kd s a).2.1.toNat:=rfl
 split at h
 ·rename_i hb
  refine ent_b4 ?_
  unfold b4 b3
  rw [b2_f]
  simp only [Bool.or_eq_true,bne_iff_ne,decide_eq_true_eq] at hb ⊢
  rcases hb with (hb|hb)|hb
  ·exact .inl (.inl (.inl (.inl hb)))
  ·have:=fg_no (s:=s) (a:=e1 s a) (by omega)
   refine .inl (.inl (.inl (.inr ?_)))
   rw [this]; decide
  ·by_cases hz:e1 s a<s.size
   ·have:=fg_ok hz
    refine .inl (.inl (.inr ?_))
    rw [this.1]; exact hb
   ·have:=fg_no (s:=s) (a:=e1 s a) (by omega)
    refine .inl (.inl (.inl (.inr ?_)))
    rw [this]; decide
 ·rename_i hb
  simp only [Bool.or_eq_true,bne_iff_ne,decide_eq_true_eq,not_or,Decidable.not_not] at hb
  have hz:e1 s a<s.size:=by omega
  have f:=fg_ok hz
  have eg1:g1 (kd s) a=e2 s a:=by
   unfold g1 e2; rw [f.2.2,ee]; omega
  have eg2:g2 (kd s) (vl s) a=e3 s a:=by unfold g2 e3; rw [eg1]
  have eg3:g3 (kd s) (vl s) (sh s) a=e4 s a:=by unfold g3 e4; rw [eg2]
  rw [eg1,eg2,eg3] at h
  split at h
  ·rename_i hv
   refine ent_b4 ?_
   unfold b4 b3
   rw [hv]; simp
  ·rename_i hv
   split at h
   ·rename_i hc
    simp only [Bool.or_eq_true,decide_eq_true_eq] at hc
    by_cases h4:b4 s a false=true
    ·exact ent_b4 h4
    ·have h4:b4 s a false=false:=by simpa using h4
     rcases hc with hc|hc
     ·refine ent_b4 ?_
      unfold b4; rw [hc]; simp
     ·unfold dpS
      rw [h4,dpR_lp]
      have g4:=e4_le s a ha
      have g4':=e4_ge s a
      have:=e1_ge s a
      exact lp_over (tLnk s) _ _ _ _ g4 (by omega) (by omega) (sh_v s _).2
   ·rename_i hc
    simp only [Option.map_eq_none_iff] at h
    by_cases h4:b4 s a false=true
    ·exact ent_b4 h4
    ·have h4:b4 s a false=false:=by simpa using h4
     unfold dpS
     rw [h4,dpR_lp]
     rw [dpG_lp] at h
     have hv:=sh_v s (e3 s a)
     have:=(lp_yes (tLnk s) (sh s (e3 s a)).1.toNat (s.size+2) (e4 s a) [] (e4_le s a ha) (by omega) (by omega)).2 h
     rw [Int.toNat_of_nonneg hv.1] at this
     exact this
theorem ent_yes {s:ByteArray}(hs:s.size≤4294967296){a:Nat}{p:En×Nat}(ha:a≤s.size)(h:gEn s a=some p):dpS s a false=(p.1.d,p.2,false)∧enS s a false=p.1∧0≤p.1.y.n∧a≤p.2∧p.2≤s.size:=by
 unfold gEn gEnG at h
 have r1:=kd_rg s a
 have ee:e1 s a=a+(kd s a).2.1.toNat:=rfl
 split at h
 ·simp at h
 ·rename_i hb
  have hb':=hb
  simp only [Bool.or_eq_true,bne_iff_ne,decide_eq_true_eq,not_or,Decidable.not_not] at hb
  have hz:e1 s a<s.size:=by omega
  have f:=fg_ok hz
  have eg1:g1 (kd s) a=e2 s a:=by
   unfold g1 e2; rw [f.2.2,ee]; omega
  have eg2:g2 (kd s) (vl s) a=e3 s a:=by unfold g2 e3; rw [eg1]
  have eg3:g3 (kd s) (vl s) (sh s) a=e4 s a:=by unfold g3 e4; rw [eg2]
  rw [eg1,eg2,eg3] at h
  split at h
  ·simp at h
  ·rename_i hv
   split at h
   ·simp at h
   ·rename_i hc
    simp only [Bool.or_eq_true,bne_iff_ne,decide_eq_true_eq,not_or,Decidable.not_not] at hc
    simp only [bne_iff_ne,ne_eq,Decidable.not_not] at hv
    rw [Option.map_eq_some_iff] at h
    obtain ⟨q,hq,rfl⟩:=h
    have h4:b4 s a false=false:=by
     unfold b4 b3
     rw [b2_f,f.1,f.2.1,hv,hc.1,hb.1.1]
     have:decide (byteN s (e1 s a)>3)=false:=decide_eq_false (by rw [ee]; exact hb.2)
     rw [this]; rfl
    rw [dpG_lp] at hq
    have hvv:=sh_v s (e3 s a)
    have L:=(lp_yes (tLnk s) (sh s (e3 s a)).1.toNat (s.size+2) (e4 s a) [] (e4_le s a ha) (by omega) (by omega)).1 q hq
    rw [Int.toNat_of_nonneg hvv.1] at L
    have eD:dpS s a false=(q.1,q.2,false):=by
     unfold dpS
     rw [h4,dpR_lp]; exact L
    have rg:=dpS_rg s a false ha
    rw [eD] at rg
    have:=e4_ge s a
    have:=e1_ge s a
    refine ⟨eD,?_,gKyA_n _,by show a≤q.2; have:e4 s a≤q.2:=rg.1; omega,rg.2⟩
    have fl:=flag_1 s (e1 s a) (by rw [ee]; omega)
    unfold enS
    rw [eD,f.1,fl.1,fl.2]
    rfl
def sA (s:ByteArray) (a:Nat):Nat:=(dpS s a false).2.1
def sB (s:ByteArray) (a:Nat):Bool:=(dpS s a false).2.2
theorem stRG_lp (s:ByteArray):∀ (m:Nat) (i:Int) (a:Nat) (acc:List En) (b:Bool),stR s m i a acc b=lpR (sA s) (sB s) (fun a=>enS s a false) m i a acc b
 | 0,_,_,_,_=>rfl
 | m+1,i,a,acc,b=>by
  unfold stR
  simp only [stRG,lpR]
  cases b
  ·split
   ·exact stRG_lp s m _ _ _ _
   ·rfl
  ·rw [if_neg (by simp),if_neg (by simp)]
theorem stG_lp (EN:Nat→Option (En×Nat)):∀ (n a:Nat) (acc:List En),stG EN n a acc=lpG EN n a acc
 | 0,_,_=>rfl
 | n+1,a,acc=>by
  cases h:EN a with
  | none=>simp only [stG,lpG,h]
  | some p=>simp only [stG,lpG,h]; exact stG_lp EN n _ _
theorem sLnk {s:ByteArray}(hs:s.size≤4294967296):Lnk s.size (sA s) (sB s) (fun a=>enS s a false) (gEn s) where
 yes a p ha h:=by
  have:=ent_yes hs ha h
  exact ⟨by unfold sA; rw [this.1],by unfold sB; rw [this.1],this.2.1⟩
 no a ha h:=ent_no hs ha h
 rg a ha:=by
  have:=dpS_rg s a false ha
  have:=e4_ge s a
  have:=e1_ge s a
  exact ⟨by unfold sA; omega,by unfold sA; omega,fun h=>dpS_pos ha h⟩
def rRef (s:ByteArray):St×Int:=if unE mgS s != 0 then (stz,unE mgS s) else rGetG s (sh s) (gEn s) (fun l=>okSt ⟨(sh s 40).1,(sh s (p1 s)).1,l⟩)
theorem rSt_e {s:ByteArray}(h:(unE mgS s != 0)=true):rSt s=(stz,unE mgS s):=by
 unfold rSt rStG unE unEG at *
 split
 ·rfl
 ·rename_i h1
  rw [if_neg h1] at h
  split
  ·rfl
  ·rename_i h2
   rw [if_neg h2] at h
   split
   ·rfl
   ·rename_i h3
    rw [if_neg h3] at h
    split
    ·rfl
    ·rename_i h4
     rw [if_neg h4] at h
     split
     ·rfl
     ·rename_i h5
      rw [if_neg h5] at h
      exact absurd h (by decide)
theorem rSt_0 {s:ByteArray}(h:unE mgS s=0):40≤s.size∧rSt s=if (stS s).2.2||decide (((s.size-(stS s).2.1:Nat):Int)>0)|| !okSt (rdS s) then (stz,4) else (rdS s,0):=by
 unfold rSt rStG unE unEG at *
 split at h
 ·exact absurd h (by decide)
 ·rename_i h1
  rw [if_neg h1]
  simp only [decide_eq_true_eq] at h1
  refine ⟨by omega,?_⟩
  split at h
  ·exact absurd h (by decide)
  ·rename_i h2
   rw [if_neg h2]
   split at h
   ·exact absurd h (by decide)
   ·rename_i h3
    rw [if_neg h3]
    split at h
    ·exact absurd h (by decide)
    ·rename_i h4
     rw [if_neg h4]
     split at h
     ·exact absurd h (by decide)
     ·rename_i h5
      rw [if_neg h5]
      rfl
theorem rRef_eq {s:ByteArray}(hs:s.size≤4294967296):rRef s=rSt s:=by
 unfold rRef
 by_cases h:(unE mgS s != 0)=true
 ·rw [if_pos h,rSt_e h]
 ·rw [if_neg h]
  obtain ⟨h40,e⟩:=rSt_0 (s:=s) (by simpa using h)
  rw [e]
  have q1:h1 (sh s)=p1 s:=rfl
  have q2:h2 (sh s)=p2 s:=rfl
  have q3:h3 (sh s)=p3 s:=rfl
  have l3:=p3_le s h40
  have bad:c3 s=true→(if (stS s).2.2||decide (((s.size-(stS s).2.1:Nat):Int)>0)|| !okSt (rdS s) then (stz,(4:Int)) else (rdS s,0))=(stz,4):=fun hc=>by
   have:(stS s).2.2=true:=by
    unfold stS
    rw [hc,stRG_lp,lpR_bad]
   rw [this]; rfl
  unfold rGetG
  rw [q1,q2,q3]
  by_cases g1:((sh s 40).2.2 != 0)=true
  ·rw [if_pos g1,bad (by unfold c3 c2 c1; rw [g1]; simp)]
  rw [if_neg g1]
  by_cases g2:((sh s (p1 s)).2.2 != 0)=true
  ·rw [if_pos g2,bad (by unfold c3 c2; rw [g2]; simp)]
  rw [if_neg g2]
  have hv:=sh_v s (p2 s)
  by_cases g3:((sh s (p2 s)).2.2 != 0)=true
  ·rw [if_pos (by rw [g3]; rfl),bad (by unfold c3; rw [g3]; simp)]
  have g1:((sh s 40).2.2 != 0)=false:=by simpa using g1
  have g2:((sh s (p1 s)).2.2 != 0)=false:=by simpa using g2
  have g3:((sh s (p2 s)).2.2 != 0)=false:=by simpa using g3
  have hc3:c3 s=false:=by unfold c3 c2 c1; rw [g1,g2,g3]; rfl
  rw [g3,Bool.false_or]
  have eS:stS s=lpR (sA s) (sB s) (fun a=>enS s a false) (s.size+2) (sh s (p2 s)).1 (p3 s) [] false:=by
   unfold stS; rw [hc3,stRG_lp]
  by_cases g4:(sh s (p2 s)).1>((s.size-40:Nat):Int)
  ·rw [if_pos (decide_eq_true g4)]
   have:(stS s).2.2=true:=by
    rw [eS]
    have:40≤p3 s:=by unfold p3 p2 p1; omega
    exact lp_over (sLnk hs) _ _ _ _ l3 (by omega) (by omega) hv.2
   rw [this]; rfl
  ·rw [if_neg (by simpa using g4)]
   have L:=lp_yes (sLnk hs) (sh s (p2 s)).1.toNat (s.size+2) (p3 s) [] l3 (by omega) (by omega)
   rw [Int.toNat_of_nonneg hv.1,← eS,← stG_lp] at L
   cases hG:stG (gEn s) (sh s (p2 s)).1.toNat (p3 s) [] with
   | none =>
    rw [L.2 hG]
    rfl
   | some p =>
    have hp:=L.1 p hG
    have rg:=lpG_rg (z:=s.size) (EN:=gEn s) (fun a p ha h=>(ent_yes hs ha h).2.2.2) _ _ _ p l3 (by rw [← stG_lp]; exact hG)
    have h40':40≤p3 s:=by unfold p3 p2 p1; omega
    have er:rdS s=⟨(sh s 40).1,(sh s (p1 s)).1,p.1⟩:=by unfold rdS; rw [hp]
    rw [hp,er]
    show (if ((p.2-40:Nat):Int) != ((s.size-40:Nat):Int)|| !okSt ⟨(sh s 40).1,(sh s (p1 s)).1,p.1⟩ then _ else _)=if (false||decide (((s.size-p.2:Nat):Int)>0)|| !okSt ⟨(sh s 40).1,(sh s (p1 s)).1,p.1⟩)=true then _ else _
    have:(((p.2-40:Nat):Int) != ((s.size-40:Nat):Int))=decide (((s.size-p.2:Nat):Int)>0):=by
     rw [Bool.eq_iff_iff,bne_iff_ne,decide_eq_true_eq]
     omega
    rw [this,Bool.false_or]
end Go.Proofs.YtiodgjgngfklkaaGreatDoor
namespace Go.Proofs.YtiodgjgngfklkaaGreatDoor
open Go Go.VA
def eqK (a b:Ky):Bool:=a.a.t==b.a.t&&(a.a.n==b.a.n&&(a.a.k==b.a.k&&(a.a.i==b.a.i&&(a.a.s==b.a.s&&a.n==b.n))))
theorem off {f:Nat}{t:Bool}{s:ByteArray}{a n:Nat}{r:AV}(h:ACall Tryz.prog gl f [.c (.sl t 1 (s.size-(a+n)) (fun i=>strCells s (a+n+i)))] [] r):ACall Tryz.prog gl f [.c (.sl t 1 (s.size-a-n) (fun i=>strCells s (a+(n+i))))] [] r :=
 h.le ⟨leSl (by omega) (fun i hi=>by rw [Nat.add_assoc]),trivial⟩
end Go.Proofs.YtiodgjgngfklkaaGreatDoor
