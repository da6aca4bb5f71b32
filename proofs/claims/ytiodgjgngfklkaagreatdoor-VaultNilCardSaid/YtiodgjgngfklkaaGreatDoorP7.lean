/- Contracts of functions of the program,and the laws that stand on them: what each function answers,whatever its arguments. -/
import Derived.Test.YtiodgjgngfklkaaGreatDoorP5
import Derived.Test.YtiodgjgngfklkaaGreatDoorP4
import Derived.Test.YtiodgjgngfklkaaGreatDoorTT
import Derived.Test.YtiodgjgngfklkaaGreatDoorA1
import Derived.Test.YtiodgjgngfklkaaGreatDoorC18
import Derived.Test.YtiodgjgngfklkaaGreatDoorC9
import Derived.Test.YtiodgjgngfklkaaGreatDoorE7
import Derived.Test.YtiodgjgngfklkaaGreatDoorEr
import Derived.Test.YtiodgjgngfklkaaGreatDoorC13
import Derived.Test.YtiodgjgngfklkaaGreatDoorA3
set_option linter.all false
set_option maxRecDepth 100000
set_option maxHeartbeats 8000000
namespace Go.Proofs.YtiodgjgngfklkaaGreatDoor
open Go Go.VA
def grD (a:Ad):Bool:=decide (IntKind.i64.wrap (IntKind.i64.wrap ((a.t.size:Int)+(a.n.size:Int))+(a.s.size:Int))>200)
def grE (e:En):Bool:=decide ((e.d.length:Int)>40)||decide (greatV e.v 10>600)||grD e.y.a
def grQ (l:List En) (j:Nat):Bool:= !(grE (l.getD j en0))&&allQ (fun k=> !grD ((l.getD j en0).d.getD k ad0)) (l.getD j en0).d.length
def greatS (s:St):Bool:=decide ((s.l.length:Int)>70)|| !allQ (grQ s.l) s.l.length
theorem greatS_h {s:St}(h:decide ((s.l.length:Int)>70)=true):greatS s=true:=by unfold greatS; rw [h]; rfl
theorem greatS_f {s:St}{c:Nat}(hc:c<s.l.length)(h:grQ s.l c=false):greatS s=true:=by unfold greatS; rw [allQ_f hc h]; simp
theorem greatS_t {s:St}(h0:decide ((s.l.length:Int)>70)=false)(h:∀ j,j<s.l.length→grQ s.l j=true):greatS s=false:=by unfold greatS; rw [h0,allQ_t h]; rfl
theorem grQ_1 {l:List En}{c:Nat}(h:grE (l.getD c en0)=true):grQ l c=false:=by unfold grQ; rw [h]; rfl
theorem grQ_2 {l:List En}{c k:Nat}(hk:k<(l.getD c en0).d.length)(h:grD ((l.getD c en0).d.getD k ad0)=true):grQ l c=false:=by unfold grQ; rw [allQ_f hk (by rw [h]; rfl),Bool.and_false]
theorem grQ_3 {l:List En}{c:Nat}(h:grE (l.getD c en0)=false)(hd:∀ k,k<(l.getD c en0).d.length→(!grD ((l.getD c en0).d.getD k ad0))=true):grQ l c=true:=by unfold grQ; rw [h,allQ_t hd]; rfl
theorem aGreatS (s:St):ACall Tryz.prog gl 4 [.ag (cSt s)] [] (boolA (greatS s)):=by
 refine acall_of_vcb htb hmix (f:=4) rfl rfl rfl (by kernel_rfl) rfl rfl fun hb=> ?_; simp only [bndAll,AV.bnd,bnds,C.bnd,cVt,cS,true_and,and_true] at hb; conv=>whnf
 have hn:s.l.length≤140737488355328:=hb.1
 repeat' (first|(refine And.intro (fun h=> ?_) (fun h=> ?_)<;>(first|(with_reducible have hd:_<_:=of_decide_eq_true h)|(with_reducible have hd:¬ (_<_):=of_decide_eq_false h)|fail)<;>(first|(conv=>whnf)))|fail)
 ·exact leB (greatS_h h).symm
 ·have h0:=h
  refine loopI Nat (fun c=>c≤s.l.length∧∀ j,j<c→grQ s.l j=true) (fun c=>[(3,intA .i64 c)]) (fun _=>[.box ((cSt s).map .c)]) (fun c=>s.l.length-c) 0 ⟨Nat.zero_le _,fun j hj=>absurd hj (Nat.not_lt_zero _)⟩ ?_ (fun _=>rfl) fun c ⟨hc,hp⟩=> ?_
  ·(refine And.intro ?_ (And.intro ?_ (And.intro ?_ rfl))<;>(conv=>whnf)<;>repeat' (first|exact trivial|exact LeE.of (Le.refl _)|(first|exact rfl|fail)|((with_reducible refine And.intro ?_ ?_)<;>conv=>whnf)))
  ·by_cases hcl:c<s.l.length
   ·have hC:(0:Int)≤(c:Int)∧(c:Int)<(s.l.length:Int):=by omega
    have G:=aGreat false false (s.l.getD c en0).v
    conv=>whnf
    repeat' (first|((with_reducible refine GOr.l ?_); (conv=>whnf); refine Exists.intro _ (And.intro (chainI (G)) ?_); conv=>whnf)|(refine And.intro (fun h=> ?_) (fun h=> ?_)<;>(first|(with_reducible have hd:_<_:=of_decide_eq_true h)|(with_reducible have hd:¬ (_<_):=of_decide_eq_false h)|skip)<;>(first|omega|(conv=>whnf)))|(refine And.intro ?_ ?_; (focus (first|(first|exact hC|fail)|fail)); conv=>whnf)|fail)
    ·exact leB (greatS_f hcl (grQ_1 h)).symm
    ·have hg:grE (s.l.getD c en0)=false:=h
     have hd40:(s.l.getD c en0).d.length≤40:=by
      unfold grE at hg
      simp only [Bool.or_eq_false_iff,decide_eq_false_iff_not] at hg
      omega
     refine loopI Nat (fun k=>k≤(s.l.getD c en0).d.length∧∀ j,j<k→(!grD ((s.l.getD c en0).d.getD j ad0))=true) (fun k=>[(5,intA .i64 k)]) (fun _=>[.box ((cSt s).map .c),.box ((cEn (s.l.getD c en0)).map .c)]) (fun k=>(s.l.getD c en0).d.length-k) 0 ⟨Nat.zero_le _,fun j hj=>absurd hj (Nat.not_lt_zero _)⟩ ?_ (fun _=>rfl) fun k ⟨hk,hq⟩=> ?_
     ·(refine And.intro ?_ (And.intro ?_ (And.intro ?_ rfl))<;>(conv=>whnf)<;>repeat' (first|exact trivial|exact LeE.of (Le.refl _)|(first|exact rfl|fail)|((with_reducible refine And.intro ?_ ?_)<;>conv=>whnf)))
     ·by_cases hkl:k<(s.l.getD c en0).d.length
      ·have hC2:(0:Int)≤(k:Int)∧(k:Int)<((s.l.getD c en0).d.length:Int):=by omega
       conv=>whnf
       repeat' (first|(refine And.intro (fun h=> ?_) (fun h=> ?_)<;>(first|(with_reducible have hd:_<_:=of_decide_eq_true h)|(with_reducible have hd:¬ (_<_):=of_decide_eq_false h)|fail)<;>(first|omega|(conv=>whnf)))|(refine And.intro ?_ ?_; (focus (first|(first|exact hC2|fail)|fail)); conv=>whnf)|fail)
       ·exact leB (greatS_f hcl (grQ_2 hkl h)).symm
       ·have h:grD ((s.l.getD c en0).d.getD k ad0)=false:=h
        refine ⟨k+1,⟨hkl,next_q hq (by rw [h]; rfl)⟩,?_,by omega⟩
        (refine And.intro ?_ (And.intro ?_ (And.intro ?_ rfl))<;>(conv=>whnf)<;>repeat' (first|exact trivial|exact LeE.of (Le.refl _)|(with_reducible refine LeE.of ?_)|(first|exact rfl|exact leI (by first|rfl|(rw [wrap64 (by omega) (by omega)]; omega)|fail)|fail)|((with_reducible refine And.intro ?_ ?_)<;>conv=>whnf)))
      ·obtain rfl:k=(s.l.getD c en0).d.length:=by omega
       conv=>whnf
       repeat' (first|(refine And.intro (fun h=> ?_) (fun h=> ?_)<;>(first|(with_reducible have hd:_<_:=of_decide_eq_true h)|(with_reducible have hd:¬ (_<_):=of_decide_eq_false h)|fail)<;>(first|omega|(conv=>whnf)))|fail)
       refine ⟨c+1,⟨hcl,next_q hp (grQ_3 hg hq)⟩,?_,by omega⟩
       (refine And.intro ?_ (And.intro ?_ (And.intro ?_ rfl))<;>(conv=>whnf)<;>repeat' (first|exact trivial|exact LeE.of (Le.refl _)|(with_reducible refine LeE.of ?_)|(first|exact rfl|exact leI (by first|rfl|(rw [wrap64 (by omega) (by omega)]; omega)|fail)|fail)|((with_reducible refine And.intro ?_ ?_)<;>conv=>whnf)))
   ·obtain rfl:c=s.l.length:=by omega
    conv=>whnf
    repeat' (first|(refine And.intro (fun h=> ?_) (fun h=> ?_)<;>(first|(with_reducible have hd:_<_:=of_decide_eq_true h)|(with_reducible have hd:¬ (_<_):=of_decide_eq_false h)|fail)<;>(first|omega|(conv=>whnf)))|fail)
    exact leB (greatS_t h0 hp).symm
theorem cGet_rg (x:ByteArray):0≤(cGet x).2.1∧(cGet x).2.1≤x.size:=by
 unfold cGet
 split
 ·exact ⟨Int.le_refl _,by show (0:Int)≤_; omega⟩
 ·have:=gV_ok false x
  exact ⟨this.1,this.2.1⟩
theorem kyFin_rg {s:ByteArray}{k:Ky}{i n a e:Int}(h:RgOk s a e):0≤(kyFin k i n a e).2.1∧(kyFin k i n a e).2.1≤s.size:=by
 have z:(0:Int)≤0∧(0:Int)≤s.size:=⟨Int.le_refl _,by omega⟩
 unfold kyFin
 split
 ·exact z
 ·rename_i he
  split
  ·exact z
  ·exact h (by simpa using he)
theorem gKyA_rg (s:ByteArray):0≤(gKyA s).2.1∧(gKyA s).2.1≤s.size:=by
 have r1:RgOk s (gK1 s).2.1 (gK1 s).2.2:=rTx_rg (rg0 s)
 have r2:RgOk s (gK2 s).2.1 (gK2 s).2.2:=rTx_rg r1
 have r3:RgOk s (gK3 s).2.1 (gK3 s).2.2:=rKd_rg r2
 have r4:RgOk s (gK4 s).2.1 (gK4 s).2.2:=rSh_rg r3
 have r5:RgOk s (gK5 s).2.1 (gK5 s).2.2:=rTx_rg r3
 unfold gKyA
 split
 ·exact kyFin_rg (rSh_rg r4)
 ·split
  ·exact kyFin_rg (rSh_rg r5)
  ·exact kyFin_rg r4
theorem kyFin_n {k:Ky}{i n a e:Int}(h:0≤k.n):0≤(kyFin k i n a e).1.n:=by
 unfold kyFin
 split
 ·exact Int.le_refl _
 ·split
  ·exact Int.le_refl _
  ·exact h
theorem gKyA_n (s:ByteArray):0≤(gKyA s).1.n:=by
 have u (x:Int):0≤IntKind.u32.wrap x:=Int.emod_nonneg _ (by decide)
 unfold gKyA
 split
 ·exact kyFin_n (u _)
 ·split
  ·exact kyFin_n (u _)
  ·exact kyFin_n (u _)
def tS (s:ByteArray) (a:Nat):ByteArray:=subS s a (s.size-a)
theorem tS_size (s:ByteArray)(a:Nat):(tS s a).size=s.size-a:=sub_size s a _
def kd (s:ByteArray) (a:Nat):Ky×Int×Int:=gKyA (tS s a)
def sh (s:ByteArray) (a:Nat):Int×Int×Int:=gS s a (s.size-a) 0 0
def vl (s:ByteArray) (a:Nat):V×Int×Int:=cGet (tS s a)
theorem kd_rg (s:ByteArray)(a:Nat):0≤(kd s a).2.1∧(kd s a).2.1≤((s.size-a:Nat):Int):=by
 have:=gKyA_rg (tS s a)
 rwa [tS_size] at this
theorem vl_rg (s:ByteArray)(a:Nat):0≤(vl s a).2.1∧(vl s a).2.1≤((s.size-a:Nat):Int):=by
 have:=cGet_rg (tS s a)
 rwa [tS_size] at this
theorem sh_rg (s:ByteArray)(a:Nat):0≤(sh s a).2.1∧(sh s a).2.1≤((s.size-a:Nat):Int):=by
 unfold sh
 by_cases h:(gS s a (s.size-a) 0 0).2.2=0
 ·have:=gS_ok s a (s.size-a) 0 0 (Int.le_refl 0) h
  omega
 ·have:=gS_bad s a (s.size-a) 0 0 h
  omega
abbrev cRd (t:Bool) (s:ByteArray) (a:Nat) (b:Bool):List C:=[.sl t 1 (s.size-a) (fun i=>strCells s (a+i)),.v (.bool b)]
theorem leRd {t:Bool}{s:ByteArray}{a n:Nat}:LeC (.sl t 1 (s.size-a-n) (fun i=>strCells s (a+(n+i)))) (.sl t 1 (s.size-(a+n)) (fun i=>strCells s (a+n+i))) :=
 LeC.sl (by omega) (fun i hi=>by rw [Nat.add_assoc])
theorem aGetKyT (t:Bool)(s:ByteArray)(a:Nat):ACall Tryz.prog gl 95 [.c (.sl t 1 (s.size-a) (fun i=>strCells s (a+i)))] [] (.tup [.ag (cKy (kd s a).1),intA .i64 (kd s a).2.1,intA .i64 (kd s a).2.2]):=aGetKyS t s a _
theorem aGetVT (t:Bool)(s:ByteArray)(a:Nat):ACall Tryz.prog gl 68 [.c (.sl t 1 (s.size-a) (fun i=>strCells s (a+i)))] [] (.tup [.ag (cV (vl s a).1),intA .i64 (vl s a).2.1,intA .i64 (vl s a).2.2]) :=
 (aGet t (tS s a)).le ⟨leSl (tS_size s a).symm (fun i hi=>(sub_cells s a _ i (by rwa [tS_size] at hi)).symm),trivial⟩
theorem aGetST (t:Bool)(s:ByteArray)(a:Nat):ACall Tryz.prog gl 65 [.c (.sl t 1 (s.size-a) (fun i=>strCells s (a+i)))] [] (.tup [intA .u64 (sh s a).1,intA .i64 (sh s a).2.1,intA .i64 (sh s a).2.2]):=aGetShort t _ s a
theorem mTakeS (t:Bool)(s:ByteArray)(a:Nat)(b:Bool)(n e:Int)(h:0≤n∧n≤((s.size-a:Nat):Int)):MCall Tryz.prog gl 66 [cRd t s a b] [.ptr 0 0,intA .i64 n,intA .i64 e] [cRd t s (a+n.toNat) (b||e != 0)] (.tup []):=by
 have hM:=h
 refine mcall_of_vcb htb hmix (f:=66) rfl rfl rfl (by kernel_rfl) rfl rfl rfl fun hb hb2=> ?_; simp only [bndPre,bndAll,AV.bnd,bnds,C.bnd,true_and,and_true] at hb hb2; conv=>whnf
 repeat' (first|(refine And.intro ?_ ?_; (focus (first|(first|exact hM|fail)|fail)); conv=>whnf)|fail)
 exact ⟨Le.refl _,⟨leRd,LeC.refl _,trivial⟩,trivial⟩
theorem mShortS (t:Bool)(s:ByteArray)(a:Nat)(b:Bool):MCall Tryz.prog gl 39 [cRd t s a b] [.ptr 0 0] [cRd t s (a+(sh s a).2.1.toNat) (b||(sh s a).2.2 != 0)] (intA .u64 (sh s a).1):=by
 have TK:=mTakeS t s a b _ (sh s a).2.2 (sh_rg s a)
 refine mcall_of_vcb htb hmix (f:=39) rfl rfl rfl (by kernel_rfl) rfl rfl rfl fun hb hb2=> ?_; simp only [bndPre,bndAll,AV.bnd,bnds,C.bnd,true_and,and_true] at hb hb2; conv=>whnf
 repeat' (first|(refine Exists.intro _ (And.intro (aGetST t s a) ?_); conv=>whnf)|((with_reducible refine xc_guard ?_); refine xc_mb (by first|(((conv=>whnf); repeat' (first|exact trivial|exact rfl|exact LeC.refl _|((with_reducible refine And.intro ?_ ?_)<;>conv=>whnf))); done)|fail) (TK) rfl rfl rfl rfl ?_; conv=>whnf)|((with_reducible refine xc_pure ?_); conv=>whnf))
 exact ⟨Le.refl _,⟨LeC.refl _,LeC.refl _,trivial⟩,trivial⟩
theorem mKeyS (t:Bool)(s:ByteArray)(a:Nat)(b:Bool):MCall Tryz.prog gl 67 [cRd t s a b] [.ptr 0 0] [cRd t s (a+(kd s a).2.1.toNat) (b||(kd s a).2.2 != 0)] (.ag (cKy (kd s a).1)):=by
 have TK:=mTakeS t s a b _ (kd s a).2.2 (kd_rg s a)
 refine mcall_of_vcb htb hmix (f:=67) rfl rfl rfl (by kernel_rfl) rfl rfl rfl fun hb hb2=> ?_; simp only [bndPre,bndAll,AV.bnd,bnds,C.bnd,true_and,and_true] at hb hb2; conv=>whnf
 repeat' (first|(refine Exists.intro _ (And.intro (aGetKyT t s a) ?_); conv=>whnf)|((with_reducible refine xc_guard ?_); refine xc_mb (by first|(((conv=>whnf); repeat' (first|exact trivial|exact rfl|exact LeC.refl _|((with_reducible refine And.intro ?_ ?_)<;>conv=>whnf))); done)|fail) (TK) rfl rfl rfl rfl ?_; conv=>whnf)|((with_reducible refine xc_pure ?_); conv=>whnf))
 exact ⟨Le.refl _,⟨LeC.refl _,LeC.refl _,trivial⟩,trivial⟩
def fgV (s:ByteArray) (a:Nat):Int:=if s.size-a<1 then 0 else byteN s a
def fgE (s:ByteArray) (a:Nat):Int:=if s.size-a<1 then 2 else 0
def e1 (s:ByteArray) (a:Nat):Nat:=a+(kd s a).2.1.toNat
def mn (s:ByteArray) (a:Nat):Int:=if ((s.size-a:Nat):Int)<1 then ((s.size-a:Nat):Int) else 1
theorem mn_rg (s:ByteArray)(a:Nat):0≤mn s a∧mn s a≤((s.size-a:Nat):Int):=by unfold mn; split<;>omega
theorem mn_eq (s:ByteArray)(a:Nat):(mn s a).toNat=min 1 (s.size-a):=by unfold mn; split<;>omega
def e2 (s:ByteArray) (a:Nat):Nat:=e1 s a+(mn s (e1 s a)).toNat
def e3 (s:ByteArray) (a:Nat):Nat:=e2 s a+(vl s (e2 s a)).2.1.toNat
def e4 (s:ByteArray) (a:Nat):Nat:=e3 s a+(sh s (e3 s a)).2.1.toNat
def b1 (s:ByteArray) (a:Nat) (b:Bool):Bool:=b||(kd s a).2.2 != 0
def b2 (s:ByteArray) (a:Nat) (b:Bool):Bool:=b1 s a b||fgE s (e1 s a) != 0||decide (fgV s (e1 s a)>3)
def b3 (s:ByteArray) (a:Nat) (b:Bool):Bool:=b2 s a b||(vl s (e2 s a)).2.2 != 0
def b4 (s:ByteArray) (a:Nat) (b:Bool):Bool:=b3 s a b||(sh s (e3 s a)).2.2 != 0
def dpR (s:ByteArray):Nat→Int→Nat→List Ad→Bool→List Ad×Nat×Bool
 | 0,_,a,acc,b=>(acc,a,b)
 | m+1,i,a,acc,b=>if decide (i>0)&& !b then dpR s m (IntKind.u64.wrap (i-1)) (e1 s a) (acc++[(kd s a).1.a]) (b1 s a b||(kd s a).1.n != 1) else (acc,a,b)
def dpS (s:ByteArray) (a:Nat) (b:Bool):List Ad×Nat×Bool:=dpR s (s.size+2) (sh s (e3 s a)).1 (e4 s a) [] (b4 s a b)
def enS (s:ByteArray) (a:Nat) (b:Bool):En:=⟨(kd s a).1,(vl s (e2 s a)).1,bitsI .and .u64 (fgV s (e1 s a)) 1 != 0,bitsI .and .u64 (fgV s (e1 s a)) 2 != 0,(dpS s a b).1⟩
theorem aGet1 (t:Bool)(s:ByteArray)(a:Nat):ACall Tryz.prog gl 37 [.c (.sl t 1 (s.size-a) (fun i=>strCells s (a+i))),intA .i64 1] [] (.tup [intA .u64 (fgV s a),intA .i64 (fgE s a)]):=by
 have:=aNumGet t (s.size-a) (fun i=>(s.data.toList[a+i]?).getD 0) 1 (by decide) (by decide)
 rw [nB_one] at this
 exact this
theorem rSh_pos {s:ByteArray}{a b:Int}(h:RgOk s a b)(h0:(rShort s a b).2.2=0):0<(rShort s a b).2.1:=by
 unfold rShort at h0 ⊢
 split
 ·rename_i hb
  rw [if_pos hb] at h0
  have h0:b=0:=h0
  rw [h0] at hb
  exact absurd hb (by decide)
 ·rename_i hb
  rw [if_neg hb] at h0
  have hb:b=0:=by simpa using hb
  have:=gS_ok s a.toNat (s.size-a.toNat) 0 0 (Int.le_refl 0) h0
  have:=h hb
  show 0<a+(gS s a.toNat (s.size-a.toNat) 0 0).2.1
  omega
theorem kyFin_pos {k:Ky}{i n a e:Int}(h:e=0→0<a)(h0:(kyFin k i n a e).2.2=0):0<(kyFin k i n a e).2.1:=by
 unfold kyFin at h0 ⊢
 split
 ·rename_i he
  rw [if_pos he] at h0
  have h0:e=0:=h0
  rw [h0] at he
  exact absurd he (by decide)
 ·rename_i he
  rw [if_neg he] at h0
  split
  ·rename_i h2
   rw [if_pos h2] at h0
   exact absurd h0 (by show (4:Int)≠0; decide)
  ·exact h (by simpa using he)
theorem gKyA_pos (s:ByteArray)(h0:(gKyA s).2.2=0):0<(gKyA s).2.1:=by
 have r1:RgOk s (gK1 s).2.1 (gK1 s).2.2:=rTx_rg (rg0 s)
 have r2:RgOk s (gK2 s).2.1 (gK2 s).2.2:=rTx_rg r1
 have r3:RgOk s (gK3 s).2.1 (gK3 s).2.2:=rKd_rg r2
 have r4:RgOk s (gK4 s).2.1 (gK4 s).2.2:=rSh_rg r3
 have r5:RgOk s (gK5 s).2.1 (gK5 s).2.2:=rTx_rg r3
 by_cases h1:((gK3 s).1==1)=true
 ·rw [gKyA_1 h1] at h0 ⊢
  exact kyFin_pos (fun h=>rSh_pos r4 h) h0
 ·have h1:((gK3 s).1==1)=false:=by simpa using h1
  by_cases h2:((gK3 s).1==2)=true
  ·rw [gKyA_2 h1 h2] at h0 ⊢
   exact kyFin_pos (fun h=>rSh_pos r5 h) h0
  ·have h2:((gK3 s).1==2)=false:=by simpa using h2
   rw [gKyA_0 h1 h2] at h0 ⊢
   exact kyFin_pos (fun h=>rSh_pos r3 h) h0
theorem kd_pos (s:ByteArray)(a:Nat)(h:(kd s a).2.2=0):0<(kd s a).2.1:=gKyA_pos _ h
theorem e1_le (s:ByteArray)(a:Nat)(h:a≤s.size):e1 s a≤s.size:=by
 have:=kd_rg s a
 unfold e1; omega
theorem e2_le (s:ByteArray)(a:Nat)(h:a≤s.size):e2 s a≤s.size:=by
 have:=e1_le s a h
 have h2:=mn_rg s (e1 s a)
 unfold e2; omega
theorem e3_le (s:ByteArray)(a:Nat)(h:a≤s.size):e3 s a≤s.size:=by
 have:=e2_le s a h
 have h2:=vl_rg s (e2 s a)
 unfold e3; omega
theorem e4_le (s:ByteArray)(a:Nat)(h:a≤s.size):e4 s a≤s.size:=by
 have:=e3_le s a h
 have h2:=sh_rg s (e3 s a)
 unfold e4; omega
theorem mEntryS (t:Bool)(s:ByteArray)(a:Nat)(b:Bool)(hs:s.size≤4294967296)(ha:a≤s.size):MCall Tryz.prog gl 40 [cRd t s a b] [.ptr 0 0] [cRd t s (dpS s a b).2.1 (dpS s a b).2.2] (.ag (cEn (enS s a b))):=by
 have K:=mKeyS t s a b
 have F:=aGet1 t s (e1 s a)
 have T1:=mTakeS t s (e1 s a) (b1 s a b) _ (fgE s (e1 s a)) (mn_rg s (e1 s a))
 have V:=aGetVT t s (e2 s a)
 have T2:=mTakeS t s (e2 s a) (b2 s a b) _ (vl s (e2 s a)).2.2 (vl_rg s (e2 s a))
 have S:=mShortS t s (e3 s a) (b3 s a b)
 refine mcall_of_vcb htb hmix (f:=40) rfl rfl rfl (by kernel_rfl) rfl rfl rfl fun hb hb2=> ?_; simp only [bndPre,bndAll,AV.bnd,bnds,C.bnd,true_and,and_true] at hb hb2; conv=>whnf
 repeat' (first|(refine Exists.intro _ (And.intro (F) ?_); conv=>whnf)|(refine Exists.intro _ (And.intro (V) ?_); conv=>whnf)|((with_reducible refine xc_guard ?_); refine xc_mb (by first|(((conv=>whnf); repeat' (first|exact trivial|exact rfl|exact LeC.refl _|((with_reducible refine And.intro ?_ ?_)<;>conv=>whnf))); done)|fail) (K) rfl rfl rfl rfl ?_; conv=>whnf)|((with_reducible refine xc_guard ?_); refine xc_mb (by first|(((conv=>whnf); repeat' (first|exact trivial|exact rfl|exact LeC.refl _|((with_reducible refine And.intro ?_ ?_)<;>conv=>whnf))); done)|fail) (T1) rfl rfl rfl rfl ?_; conv=>whnf)|((with_reducible refine xc_guard ?_); refine xc_mb (by first|(((conv=>whnf); repeat' (first|exact trivial|exact rfl|exact LeC.refl _|((with_reducible refine And.intro ?_ ?_)<;>conv=>whnf))); done)|fail) (T2) rfl rfl rfl rfl ?_; conv=>whnf)|((with_reducible refine xc_guard ?_); refine xc_mb (by first|(((conv=>whnf); repeat' (first|exact trivial|exact rfl|exact LeC.refl _|((with_reducible refine And.intro ?_ ?_)<;>conv=>whnf))); done)|fail) (S) rfl rfl rfl rfl ?_; conv=>whnf)|((with_reducible refine xc_pure ?_); conv=>whnf))
 refine loopI (Nat×Int×Nat×List Ad×Bool) (fun p=>dpR s p.1 p.2.1 p.2.2.1 p.2.2.2.1 p.2.2.2.2=dpS s a b∧p.2.2.1≤s.size∧p.2.2.2.1.length≤p.2.2.1+(if p.2.2.2.2=true then 1 else 0)∧s.size-p.2.2.1+(if p.2.2.2.2=true then 0 else 1)<p.1)
  (fun p=>[(8,intA .u64 p.2.1)])
  (fun p=>[.box ((cRd t s p.2.2.1 p.2.2.2.2).map .c),.box (boxC (tb 56).zero),.box ((cKy (kd s a).1++(cV (vl s (e2 s a)).1++[C.v (.bool (bitsI .and .u64 (fgV s (e1 s a)) 1 != 0)),C.v (.bool (bitsI .and .u64 (fgV s (e1 s a)) 2 != 0))])).map AV.c++[AV.own 4 5 0 p.2.2.2.1.length]),.box ((cV (vl s (e2 s a)).1).map .c),.row 5 p.2.2.2.1.length (rA p.2.2.2.1)])
  (fun p=>p.1) (s.size+2,(sh s (e3 s a)).1,e4 s a,[],b4 s a b) ⟨rfl,?_,Nat.zero_le _,?_⟩ ?_ (fun _=>rfl) fun ⟨m,i,a',acc,b'⟩ ⟨h1,h2,h3,h4⟩=> ?_
 ·exact e4_le s a ha
 ·have:=e4_le s a ha
  show s.size-e4 s a+(if b4 s a b=true then 0 else 1)<s.size+2
  split<;>omega
 ·(refine And.intro ?_ (And.intro ?_ (And.intro ?_ rfl))<;>(conv=>whnf)<;>repeat' (first|exact trivial|exact LeE.of (Le.refl _)|exact LeE.nil rfl|(first|exact rfl|fail)|((with_reducible refine And.intro ?_ ?_)<;>conv=>whnf)))
 ·change dpR s m i a' acc b'=dpS s a b at h1
  change a'≤s.size at h2
  change acc.length≤a'+(if b'=true then 1 else 0) at h3
  have h3':acc.length≤a'+1:=by split at h3<;>omega
  change s.size-a'+(if b'=true then 0 else 1)<m at h4
  obtain ⟨k,rfl⟩:∃ k,m=k+1:=⟨m-1,by omega⟩
  have K2:=mKeyS t s a' b'
  have B1:(acc.length+1)*(tb 27).bytes≤140737488355328:=by show (acc.length+1)*64≤_; omega
  conv=>whnf
  repeat' (first|(refine And.intro (fun h=> ?_) (fun h=> ?_)<;>(first|skip)<;>(first|(conv=>whnf)))|((with_reducible refine OwnOr.l ?_); (conv=>whnf))|(refine And.intro ?_ ?_; (focus (first|(first|exact B1|fail)|fail)); conv=>whnf)|((with_reducible refine xc_guard ?_); refine xc_mb (by first|(((conv=>whnf); repeat' (first|exact trivial|exact rfl|exact LeC.refl _|((with_reducible refine And.intro ?_ ?_)<;>conv=>whnf))); done)|fail) (K2) rfl rfl rfl rfl ?_; conv=>whnf)|fail)
  ·have h:(decide (i>0)&& !b')=true:=h
   have hi:0<i∧b'=false:=by simpa using h
   obtain ⟨hi,rfl⟩:=hi
   have hp:=kd_pos s a'
   have hr:=kd_rg s a'
   have e:dpR s (k+1) i a' acc false=dpR s k (IntKind.u64.wrap (i-1)) (e1 s a') (acc++[(kd s a').1.a]) (b1 s a' false||(kd s a').1.n != 1):=by simp only [dpR]; rw [if_pos h]
   rw [e] at h1
   simp only [Bool.false_eq_true,if_false] at h3 h4
   refine ⟨(k,IntKind.u64.wrap (i-1),e1 s a',acc++[(kd s a').1.a],b1 s a' false||(kd s a').1.n != 1),⟨h1,e1_le s a' h2,?_,?_⟩,?_,Nat.lt_succ_self _⟩
   ·show (acc++[(kd s a').1.a]).length≤e1 s a'+_
    rw [List.length_append,List.length_singleton]
    by_cases hz:(kd s a').2.2=0
    ·have:=hp hz
     unfold e1; omega
    ·have:(b1 s a' false||(kd s a').1.n != 1)=true:=by unfold b1; simp [hz]
     show _≤e1 s a'+(if (b1 s a' false||(kd s a').1.n != 1)=true then 1 else 0)
     rw [if_pos this]
     unfold e1; omega
   ·show s.size-e1 s a'+(if (b1 s a' false||(kd s a').1.n != 1)=true then 0 else 1)<k
    by_cases hz:(kd s a').2.2=0
    ·have:=hp hz
     have:s.size-e1 s a'<s.size-a':=by unfold e1; omega
     split<;>omega
    ·have:(b1 s a' false||(kd s a').1.n != 1)=true:=by unfold b1; simp [hz]
     rw [if_pos this]
     unfold e1; omega
   ·have hL:acc.length+1=(acc++[(kd s a').1.a]).length:=by simp
    (refine And.intro ?_ (And.intro ?_ (And.intro ?_ rfl))<;>(conv=>whnf)<;>repeat' (first|exact trivial|exact LeE.of (Le.refl _)|(with_reducible refine LeE.of ?_)|(first|exact leOwn hL|exact rfl|fail)|((with_reducible refine And.intro ?_ ?_)<;>conv=>whnf)))
    all_goals first
     | exact hL
     | exact fun i hi=>LeCs.of_eq (rowE_snoc (enc:=cAd) (d:=ad0) acc _ acc.length rfl i (by simpa using hi))
  ·have h:(decide (i>0)&& !b')=false:=h
   have e:dpR s (k+1) i a' acc b'=(acc,a',b'):=by simp only [dpR]; rw [h,if_neg (by decide)]
   rw [e] at h1
   unfold enS
   rw [← h1]
   exact ⟨leAg ⟨LeC.refl _,LeC.refl _,LeC.refl _,LeC.refl _,LeC.refl _,LeC.refl _,LeC.refl _,LeC.refl _,LeC.refl _,LeC.refl _,LeC.refl _,LeC.refl _,LeC.refl _,LeC.refl _,LeC.refl _,LeC.refl _,LeC.sl rfl fun i hi=>by rw [Nat.zero_add],trivial⟩,⟨LeC.refl _,LeC.refl _,trivial⟩,trivial⟩
end Go.Proofs.YtiodgjgngfklkaaGreatDoor
