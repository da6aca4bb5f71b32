/- Contracts of functions of the program,and the laws that stand on them: what each function answers,whatever its arguments. -/
import Derived.Test.YtaecnniddhikbaaGreatDoorP19
import Derived.Test.YtaecnniddhikbaaGreatDoorR3
import Derived.Test.YtaecnniddhikbaaGreatDoorP12
set_option linter.unusedSectionVars false
set_option linter.unnecessarySimpa false
set_option linter.unusedSimpArgs false
set_option linter.unusedVariables false
set_option maxRecDepth 100000
set_option maxHeartbeats 8000000
namespace Go.Proofs.YtaecnniddhikbaaGreatDoor
open Go Go.VA
theorem AtL.app {s:ByteArray} {a:Nat} {A B:List Int} (h:AtL s a A) (h2:AtL s (a+A.length) B):AtL s a (A++B):=by
 have z:=h2.1
 refine ⟨by rw [List.length_append]; omega,fun j hj=> ?_⟩
 rw [List.length_append] at hj
 by_cases hl:j<A.length
 ·rw [h.2 j hl]
  simp [List.getD_eq_getElem?_getD,List.getElem?_append_left hl]
 ·have:=h2.2 (j-A.length) (by omega)
  rw [show a+A.length+(j-A.length)=a+j from by omega] at this
  rw [this]
  simp [List.getD_eq_getElem?_getD,List.getElem?_append_right (show A.length≤j by omega)]
theorem AtL.one {s:ByteArray} {a:Nat} {x:Int} (h:byteN s a=x) (h1:a<s.size):AtL s a [x]:=⟨by rw [List.length_singleton]; omega,fun j hj=>by
 obtain rfl:j=0:=by simpa using hj
 exact h⟩
theorem AtL.none {s:ByteArray} {a:Nat} (h:a≤s.size):AtL s a []:=⟨by simpa using h,fun j hj=>absurd hj (Nat.not_lt_zero _)⟩
theorem gS_fwd (s:ByteArray) (k:Nat):∀ (M i acc:Nat),i≤9→acc<2 ^ (7*i)→k+i+M≤s.size→(gS s k M i acc).2.2=0 →
  ∃ n:Nat,(gS s k M i acc).1=((acc+n*2 ^ (7*i):Nat):Int)∧acc+n*2 ^ (7*i)<2 ^ 64∧(0<n∨i=0)∧AtL s (k+i) (shortF (9-i) n)∧(gS s k M i acc).2.1=((i+(shortF (9-i) n).length:Nat):Int)
 | 0,i,acc,_,_,_,h=>absurd h (by simp [gS])
 | M+1,i,acc,hi,ha,hz,h=>by
  have hb:=byteN_lt s (k+i)
  obtain ⟨c,hc⟩:∃ c:Nat,byteN s (k+i)=(c:Int):=⟨(byteN s (k+i)).toNat,by omega⟩
  simp only [gS] at h ⊢
  rw [hc] at h hb ⊢
  by_cases h1:((i:Int)==9&&decide ((c:Int)>1))=true
  ·rw [if_pos h1] at h; exact absurd h (by decide)
  rw [if_neg h1] at h ⊢
  simp only [Bool.and_eq_true,beq_iff_eq,decide_eq_true_eq,not_and] at h1
  have h9:i=9→c≤1:=fun e=>by have:=h1 (by omega); omega
  by_cases h2:decide ((c:Int)<128)=true
  ·rw [if_pos h2] at h ⊢
   have h2:c<128:=by have:=of_decide_eq_true h2; omega
   by_cases h3:((c:Int)==0&&decide ((i:Int)>0))=true
   ·rw [if_pos h3] at h; exact absurd h (by decide)
   rw [if_neg h3]
   simp only [Bool.and_eq_true,beq_iff_eq,decide_eq_true_eq,not_and] at h3
   have e:shortF (9-i) c=[(c:Int)]:=by
    cases hm:9-i with
    | zero=>rfl
    | succ m=>simp only [shortF]; rw [if_pos h2]
   refine ⟨c,?_,?_,?_,?_,?_⟩
   ·rw [gSt_eq acc i c (by omega) hi ha h9,Nat.mod_eq_of_lt h2]
   ·by_cases h9':i=9
    ·subst h9'
     have:=h9 rfl
     have:c*2 ^ (7*9)≤1*2 ^ (7*9):=Nat.mul_le_mul_right _ this
     omega
    ·have hp:=pow7s i
     have h7:c*2 ^ (7*i)≤127*2 ^ (7*i):=Nat.mul_le_mul_right _ (by omega)
     have:2 ^ (7*(i+1))≤2 ^ 63:=Nat.pow_le_pow_right (by decide) (by omega)
     omega
   ·by_cases hc0:c=0
    ·right
     have:=h3 (by omega)
     omega
    ·left; omega
   ·rw [e]; exact AtL.one hc (by omega)
   ·rw [e]; rfl
  ·rw [if_neg h2] at h ⊢
   have h2:¬ c<128:=fun hh=>h2 (decide_eq_true (by omega))
   have hi8:i≤8:=by
    by_cases h9':i=9
    ·have:=h9 h9'; omega
    ·omega
   have hg:=gSt_eq acc i c (by omega) hi ha h9
   rw [hg] at h ⊢
   have hp:=pow7s i
   have hlt:acc+c%128*2 ^ (7*i)<2 ^ (7*(i+1)):=by
    rw [hp]
    have:=Nat.mul_le_mul_right (2 ^ (7*i)) (show c%128≤127 by omega)
    omega
   obtain ⟨n,e1,e2,e3,e4,e5⟩:=gS_fwd s k M (i+1) _ (by omega) hlt (by omega) h
   have hn:0<n:=by omega
   have hd:acc+c%128*2 ^ (7*i)+n*2 ^ (7*(i+1))=acc+(n*128+c%128)*2 ^ (7*i):=by
    rw [hp]
    grind
   have e:shortF (9-i) (n*128+c%128)=(c:Int)::shortF (9-(i+1)) n:=by
    rw [show 9-i=(9-(i+1))+1 from by omega]
    simp only [shortF]
    rw [if_neg (by omega),show (n*128+c%128)%128+128=c by omega,show (n*128+c%128)/128=n by omega]
   refine ⟨n*128+c%128,?_,?_,.inl (by omega),?_,?_⟩
   ·rw [e1,hd]
   ·rw [← hd]; exact e2
   ·rw [e]
    exact AtL.app (A:=[(c:Int)]) (AtL.one hc (by omega)) e4
   ·rw [e5,e,List.length_cons]
    congr 1
    omega
theorem gS0_fwd {s:ByteArray} {a:Nat} (ha:a≤s.size) (h:(gS s a (s.size-a) 0 0).2.2=0):AtL s a (shortL (gS s a (s.size-a) 0 0).1.toNat)∧(gS s a (s.size-a) 0 0).2.1=((shortL (gS s a (s.size-a) 0 0).1.toNat).length:Int):=by
 obtain ⟨n,e1,_,_,e4,e5⟩:=gS_fwd s a (s.size-a) 0 0 (by decide) (by decide) (by omega) h
 have e0:(0+n*2 ^ (7*0):Nat)=n:=by simp
 rw [e0] at e1
 have e1:(gS s a (s.size-a) 0 0).1=(n:Int):=e1
 rw [e1,Int.toNat_natCast]
 refine ⟨e4,e5.trans ?_⟩
 rw [Nat.zero_add]; rfl
theorem bytesL_at (x:ByteArray) (j:Nat) (h:j<x.size):(bytesL x).getD j 0=byteN x j:=by
 have hl:j<x.data.toList.length:=by simpa using h
 simp [bytesL,byteN,List.getD_eq_getElem?_getD,List.getElem?_map,List.getElem?_eq_getElem hl]
theorem subS_byte (s:ByteArray) (a m j:Nat) (h:j<m):byteN (subS s a m) j=byteN s (a+j):=by
 have:=sub_cells s a m j h
 simp only [strCells,List.cons.injEq,and_true,C.v.injEq,Value.int.injEq,true_and] at this
 exact this
theorem sub_at {s:ByteArray} {a m:Nat} (h:a+m≤s.size):AtL s a (bytesL (subS s a m)):=by
 refine ⟨by rw [bytesL_len,sub_size]; exact h,fun j hj=> ?_⟩
 rw [bytesL_len,sub_size] at hj
 rw [bytesL_at _ _ (by rw [sub_size]; exact hj),subS_byte _ _ _ _ hj]
theorem AtL.of_sub {s:ByteArray} {a m:Nat} {L:List Int} (hm:a+m≤s.size) (h:AtL (subS s a m) 0 L):AtL s a L:=by
 have z:=h.1
 rw [sub_size] at z
 refine ⟨by omega,fun j hj=> ?_⟩
 have:=h.2 j hj
 rw [Nat.zero_add,subS_byte _ _ _ _ (by omega)] at this
 exact this
theorem gStr_fwd {s:ByteArray} {a:Nat} {most:Int} (ha:a≤s.size) (h:(gStr s a (s.size-a) most).2.2=0) :
  AtL s a (strL (gStr s a (s.size-a) most).1)∧(gStr s a (s.size-a) most).2.1=((strL (gStr s a (s.size-a) most).1).length:Int):=by
 unfold gStr at h ⊢
 by_cases h1:((gS s a (s.size-a) 0 0).2.2 != 0)=true
 ·rw [if_pos h1] at h
  have h:(gS s a (s.size-a) 0 0).2.2=0:=h
  rw [h] at h1
  exact absurd h1 (by decide)
 rw [if_neg h1] at h ⊢
 have h1:(gS s a (s.size-a) 0 0).2.2=0:=by simpa using h1
 by_cases h2:decide ((gS s a (s.size-a) 0 0).1>IntKind.u64.wrap (if 0>most then 0 else most))=true
 ·rw [if_pos h2] at h; exact absurd h (by show ¬((3:Int)=0); decide)
 rw [if_neg h2] at h ⊢
 by_cases h3:decide ((gS s a (s.size-a) 0 0).1>((s.size-a:Nat):Int)-(gS s a (s.size-a) 0 0).2.1)=true
 ·rw [if_pos h3] at h; exact absurd h (by show ¬((2:Int)=0); decide)
 rw [if_neg h3]
 have h3:=of_decide_eq_false (by simpa using h3:decide ((gS s a (s.size-a) 0 0).1>((s.size-a:Nat):Int)-(gS s a (s.size-a) 0 0).2.1)=false)
 obtain ⟨f1,f2⟩:=gS0_fwd ha h1
 have o:=gS_ok s a (s.size-a) 0 0 (Int.le_refl 0) h1
 generalize gS s a (s.size-a) 0 0=g at *
 obtain ⟨v,n,e⟩:=g
 simp only at *
 obtain ⟨w,rfl⟩:∃ w:Nat,v=(w:Int):=⟨v.toNat,by omega⟩
 rw [Int.toNat_natCast] at *
 subst f2
 rw [Int.toNat_natCast]
 have hs:(subS s (a+(shortL w).length) w).size=w:=sub_size _ _ _
 have hA:AtL s (a+(shortL w).length) (bytesL (subS s (a+(shortL w).length) w)):=sub_at (by omega)
 unfold strL
 rw [hs]
 refine ⟨f1.app hA,?_⟩
 rw [List.length_append,bytesL_len,hs]
 push_cast; rfl
structure Rd (s:ByteArray) (a e:Int) (L:List Int):Prop where
 p:e=0→a=(L.length:Int)∧AtL s 0 L
theorem Rd.zero (s:ByteArray):Rd s 0 0 []:=⟨fun _=>⟨rfl,AtL.none (Nat.zero_le _)⟩⟩
theorem rTx_b {s:ByteArray} {a b:Int} (h:(rTx s a b).2.2=0):b=0:=by
 unfold rTx at h
 by_cases hb:(b != 0)=true
 ·rw [if_pos hb] at h; exact h
 ·simpa using hb
theorem rTx_fwd {s:ByteArray} {a b:Int} {L:List Int} (r:Rd s a b L):Rd s (rTx s a b).2.1 (rTx s a b).2.2 (L++strL (rTx s a b).1):=⟨fun h=>by
 have hb:=rTx_b h
 subst hb
 obtain ⟨rfl,h2⟩:=r.p rfl
 have z:=h2.1
 unfold rTx at h ⊢
 rw [if_neg (by decide)] at h ⊢
 rw [Int.toNat_natCast] at h ⊢
 have f:=gStr_fwd (s:=s) (a:=L.length) (most:=24) (by omega) h
 refine ⟨?_,h2.app (by rw [Nat.zero_add]; exact f.1)⟩
 show (L.length:Int)+(gStr s L.length (s.size-L.length) 24).2.1=_
 rw [f.2,List.length_append]
 push_cast; rfl⟩
theorem rSh_b {s:ByteArray} {a b:Int} (h:(rShort s a b).2.2=0):b=0:=by
 unfold rShort at h
 by_cases hb:(b != 0)=true
 ·rw [if_pos hb] at h; exact h
 ·simpa using hb
theorem rSh_fwd {s:ByteArray} {a b:Int} {L:List Int} (r:Rd s a b L):Rd s (rShort s a b).2.1 (rShort s a b).2.2 (L++shortL (rShort s a b).1.toNat):=⟨fun h=>by
 have hb:=rSh_b h
 subst hb
 obtain ⟨rfl,h2⟩:=r.p rfl
 have z:=h2.1
 unfold rShort at h ⊢
 rw [if_neg (by decide)] at h ⊢
 rw [Int.toNat_natCast] at h ⊢
 have f:=gS0_fwd (s:=s) (a:=L.length) (by omega) h
 refine ⟨?_,h2.app (by rw [Nat.zero_add]; exact f.1)⟩
 show (L.length:Int)+(gS s L.length (s.size-L.length) 0 0).2.1=_
 rw [f.2,List.length_append]
 push_cast; rfl⟩
theorem rKd_p {s:ByteArray} {a b:Int} (h:(rKd s a b).2.2=0):b=0∧¬ a≥s.size∧(rKd s a b).1=byteAt s a∧byteAt s a≤2:=by
 unfold rKd at h ⊢
 by_cases hb:(b != 0)=true
 ·rw [if_pos hb] at h
  have h:b=0:=h
  rw [h] at hb
  exact absurd hb (by decide)
 rw [if_neg hb] at h ⊢
 refine ⟨by simpa using hb,?_⟩
 by_cases h1:decide (a≥s.size)=true
 ·rw [if_pos h1] at h; exact absurd h (by show ¬((2:Int)=0); decide)
 rw [if_neg h1] at h ⊢
 refine ⟨by simpa using h1,rfl,?_⟩
 by_cases h2:decide (byteAt s a>2)=true
 ·have h:(if decide (byteAt s a>2)=true then (4:Int) else 0)=0:=h
  rw [if_pos h2] at h; exact absurd h (by decide)
 ·simpa using h2
theorem rKd_fwd {s:ByteArray} {a b:Int} {L:List Int} (r:Rd s a b L):Rd s (rKd s a b).2.1 (rKd s a b).2.2 (L++[(rKd s a b).1]):=⟨fun h=>by
 obtain ⟨rfl,h1,h2,_⟩:=rKd_p h
 obtain ⟨rfl,h3⟩:=r.p rfl
 rw [h2]
 have e:(rKd s (L.length:Int) 0).2.1=(L.length:Int)+1:=by
  unfold rKd
  rw [if_neg (by decide),if_neg (by simpa using h1)]
 rw [e,List.length_append]
 refine ⟨by push_cast; rfl,h3.app (AtL.one ?_ (by omega))⟩
 rw [Nat.zero_add]
 show byteN s L.length=byteN s ((L.length:Int)).toNat
 rw [Int.toNat_natCast]⟩
theorem kyFin_0 {k:Ky} {i n a e:Int} (h:(kyFin k i n a e).2.2=0):e=0∧i≤9223372036854775807∧n≤4294967295∧okKy k=true∧kyFin k i n a e=(k,a,0):=by
 unfold kyFin at h ⊢
 by_cases he:(e != 0)=true
 ·rw [if_pos he] at h
  have h:e=0:=h
  rw [h] at he
  exact absurd he (by decide)
 rw [if_neg he] at h ⊢
 by_cases h2:(decide (i>9223372036854775807)||decide (n>4294967295)|| !okKy k)=true
 ·rw [if_pos h2] at h; exact absurd h (by show ¬((4:Int)=0); decide)
 rw [if_neg h2]
 have h2:(decide (i>9223372036854775807)||decide (n>4294967295)|| !okKy k)=false:=by simpa using h2
 simp only [Bool.or_eq_false_iff,decide_eq_false_iff_not,Bool.not_eq_false'] at h2
 exact ⟨by simpa using he,by omega,by omega,h2.2,rfl⟩
theorem and63 {n:Int} (h0:0≤n) (h1:n≤9223372036854775807):IntKind.i64.wrap (bitsI .and .u64 n 9223372036854775807)=n:=by
 obtain ⟨k,rfl⟩:∃ k:Nat,n=(k:Int):=⟨n.toNat,by omega⟩
 have hk:k<2 ^ 64:=by omega
 unfold bitsI
 show IntKind.i64.wrap (IntKind.u64.wrap (((BitVec.ofInt 64 (k:Int) &&& BitVec.ofInt 64 9223372036854775807).toNat:Nat):Int))=_
 rw [BitVec.toNat_and,show (BitVec.ofInt 64 9223372036854775807).toNat=2 ^ 63-1 from by decide,ofNat64 _ hk,Nat.and_two_pow_sub_one_eq_mod,Nat.mod_eq_of_lt (by omega),wrapU (by omega) (by omega),wrap64 (by omega) (by omega)]
theorem rSh_nn (s:ByteArray) (a b:Int):0≤(rShort s a b).1:=by
 unfold rShort
 split
 ·exact Int.le_refl _
 ·exact gS_nn s _ _ 0 0 (Int.le_refl 0)
theorem gKyA_fwd {s:ByteArray} (h:(gKyA s).2.2=0):AtL s 0 (kyL (gKyA s).1)∧(gKyA s).2.1=((kyL (gKyA s).1).length:Int)∧okKy (gKyA s).1=true∧0≤(gKyA s).1.n∧(gKyA s).1.n≤4294967295:=by
 have r1:Rd s (gK1 s).2.1 (gK1 s).2.2 _:=rTx_fwd (Rd.zero s)
 have r2:Rd s (gK2 s).2.1 (gK2 s).2.2 _:=rTx_fwd r1
 have r3:Rd s (gK3 s).2.1 (gK3 s).2.2 _:=rKd_fwd r2
 have r4:Rd s (gK4 s).2.1 (gK4 s).2.2 _:=rSh_fwd r3
 have r5:Rd s (gK5 s).2.1 (gK5 s).2.2 _:=rTx_fwd r3
 have u32:∀ n:Int,0≤n→n≤4294967295→IntKind.u32.wrap n=n:=fun n h0 h1=>by show n%4294967296=n; omega
 have fin:∀ (k:Ky) (i n a e:Int) (L:List Int),(gKyA s)=kyFin k i n a e→(kyFin k i n a e).2.2=0→Rd s a e L→(0≤n)→(k.n=IntKind.u32.wrap n)→((i≤9223372036854775807∧n≤4294967295∧e=0)→L=kyL k) →
   AtL s 0 (kyL (gKyA s).1)∧(gKyA s).2.1=((kyL (gKyA s).1).length:Int)∧okKy (gKyA s).1=true∧0≤(gKyA s).1.n∧(gKyA s).1.n≤4294967295:=by
  intro k i n a e L hk h0 hr hn hkn hL
  obtain ⟨e0,i0,n0,o0,hf⟩:=kyFin_0 h0
  obtain ⟨p1,p2⟩:=hr.p e0
  have hL:=hL ⟨i0,n0,e0⟩
  subst hL
  rw [hk,hf]
  rw [u32 n hn n0] at hkn
  refine ⟨p2,p1,o0,?_,?_⟩
  ·show 0≤k.n
   rw [hkn]; exact hn
  ·show k.n≤_
   rw [hkn]; exact n0
 have byt:∀ e:Int,(gK3 s).2.2=0→IntKind.u8.wrap (gK3 s).1=(gK3 s).1:=fun _ h3=>by
  obtain ⟨_,_,q,q2⟩:=rKd_p (s:=s) h3
  have q:(gK3 s).1=byteAt s (gK2 s).2.1:=q
  have:=byteN_lt s (gK2 s).2.1.toNat
  have hq:byteAt s (gK2 s).2.1=byteN s (gK2 s).2.1.toNat:=rfl
  rw [q,hq]
  show byteN s (gK2 s).2.1.toNat%256=_
  omega
 by_cases h1:((gK3 s).1==1)=true
 ·have e:=gKyA_1 h1
  rw [e] at h
  refine fin _ _ _ _ _ _ e h (rSh_fwd r4) (rSh_nn _ _ _) rfl fun ⟨i0,n0,e0⟩=> ?_
  have b4:=rSh_b e0
  have b3:=rSh_b (s:=s) b4
  have hn:=rSh_nn s (gK4 s).2.1 (gK4 s).2.2
  have hi:0≤(gK4 s).1:=rSh_nn s _ _
  unfold kyL
  simp only
  rw [if_pos h1,byt 0 b3,u32 _ hn n0,and63 hi i0,wrapU hi i0,wrapU hn (by omega)]
  simp only [List.nil_append,List.append_assoc]
  rfl
 ·have h1:((gK3 s).1==1)=false:=by simpa using h1
  by_cases h2:((gK3 s).1==2)=true
  ·have e:=gKyA_2 h1 h2
   rw [e] at h
   refine fin _ _ _ _ _ _ e h (rSh_fwd r5) (rSh_nn _ _ _) rfl fun ⟨i0,n0,e0⟩=> ?_
   have b4:=rSh_b e0
   have b3:=rTx_b (s:=s) b4
   have hn:=rSh_nn s (gK5 s).2.1 (gK5 s).2.2
   unfold kyL
   simp only
   rw [if_neg (by rw [h1]; decide),if_pos h2,byt 0 b3,u32 _ hn n0,wrapU hn (by omega)]
   simp only [List.nil_append,List.append_assoc]
   rfl
  ·have h2:((gK3 s).1==2)=false:=by simpa using h2
   have e:=gKyA_0 h1 h2
   rw [e] at h
   refine fin _ _ _ _ _ _ e h r4 (rSh_nn _ _ _) rfl fun ⟨i0,n0,e0⟩=> ?_
   have b3:=rSh_b (s:=s) e0
   have hn:0≤(gK4 s).1:=rSh_nn s _ _
   unfold kyL
   simp only
   rw [if_neg (by rw [h1]; decide),if_neg (by rw [h2]; decide),byt 0 b3,u32 _ hn n0,wrapU hn (by omega)]
   simp only [List.nil_append,List.append_assoc]
   rfl
theorem kd_fwd {s:ByteArray} {a:Nat} (ha:a≤s.size) (h:(kd s a).2.2=0):AtL s a (kyL (kd s a).1)∧(kd s a).2.1=((kyL (kd s a).1).length:Int)∧okKy (kd s a).1=true∧0≤(kd s a).1.n∧(kd s a).1.n≤4294967295:=by
 have f:=gKyA_fwd (s:=tS s a) h
 exact ⟨AtL.of_sub (by omega) f.1,f.2⟩
theorem sh_fwd {s:ByteArray} {a:Nat} (ha:a≤s.size) (h:(sh s a).2.2=0):AtL s a (shortL (sh s a).1.toNat)∧(sh s a).2.1=((shortL (sh s a).1.toNat).length:Int):=gS0_fwd ha h
end Go.Proofs.YtaecnniddhikbaaGreatDoor
namespace Go.Proofs.YtaecnniddhikbaaGreatDoor
open Go Go.VA
theorem zigX_eq {i:Int} (h0: -9223372036854775808≤i) (h1:i≤9223372036854775807):zigI i=if i<0 then -1-2*i else 2*i:=by
 unfold zigI
 have hs:shrI .i64 i 63=if i<0 then -1 else 0:=by
  unfold shrI
  have:min ((63:Int)).toNat IntKind.i64.bits=63:=by decide
  rw [this,Int.fdiv_eq_ediv_of_nonneg i (by decide)]
  split<;>omega
 have hl:shlI .u64 (IntKind.u64.wrap i) 1=if i<0 then 18446744073709551616+2*i else 2*i:=by
  show (i%18446744073709551616*2 ^ 1)%18446744073709551616=_
  split<;>omega
 rw [hs,hl]
 by_cases hi:i<0
 ·rw [if_pos hi,if_pos hi,if_pos hi]
  obtain ⟨n,hn⟩:∃ n:Nat,18446744073709551616+2*i=(n:Int):=⟨(18446744073709551616+2*i).toNat,by omega⟩
  rw [hn]
  have hn':n<2 ^ 64:=by omega
  unfold bitsI
  show IntKind.u64.wrap (((BitVec.ofInt 64 (n:Int) ^^^ BitVec.ofInt 64 (IntKind.u64.wrap (-1))).toNat:Nat):Int)=_
  rw [show BitVec.ofInt 64 (IntKind.u64.wrap (-1))=BitVec.allOnes 64 from by decide,BitVec.xor_allOnes,BitVec.toNat_not,ofNat64 _ hn']
  show (((2 ^ 64-1-n:Nat):Int))%18446744073709551616=_
  omega
 ·rw [if_neg hi,if_neg hi,if_neg hi]
  obtain ⟨n,hn⟩:∃ n:Nat,2*i=(n:Int):=⟨(2*i).toNat,by omega⟩
  rw [hn]
  have hn':n<2 ^ 64:=by omega
  unfold bitsI
  show IntKind.u64.wrap (((BitVec.ofInt 64 (n:Int) ^^^ BitVec.ofInt 64 (IntKind.u64.wrap 0)).toNat:Nat):Int)=_
  rw [show BitVec.ofInt 64 (IntKind.u64.wrap 0)=0#64 from by decide,BitVec.xor_zero,ofNat64 _ hn']
  show ((n:Nat):Int)%18446744073709551616=_
  omega
theorem zag_fwd {n:Nat} (hn:n<2 ^ 64):zigI (zgR (n:Int))=n∧ -9223372036854775808≤zgR (n:Int)∧zgR (n:Int)≤9223372036854775807:=by
 have ht:((n:Nat):Int).tdiv 2=((n/2:Nat):Int):=by rw [Int.tdiv_eq_ediv_of_nonneg (by omega)]; omega
 have hm:((n:Nat):Int).tmod 2=((n%2:Nat):Int):=by rw [Int.tmod_eq_emod_of_nonneg (by omega)]; omega
 by_cases h:n%2=1
 ·have e:zgR (n:Int)= -1-((n/2:Nat):Int):=by
   unfold zgR
   rw [ht,hm,h,if_pos (by decide),wrapU (by omega) (by omega),wrap64 (n:=((n/2:Nat):Int)) (by omega) (by omega),wrap64 (by omega) (by omega)]
  rw [e]
  refine ⟨?_,by omega,by omega⟩
  rw [zigX_eq (by omega) (by omega),if_pos (by omega)]
  omega
 ·have h:n%2=0:=by omega
  have e:zgR (n:Int)=((n/2:Nat):Int):=by
   unfold zgR
   rw [ht,hm,h,if_neg (by decide),wrapU (by omega) (by omega),wrap64 (by omega) (by omega)]
  rw [e]
  refine ⟨?_,by omega,by omega⟩
  rw [zigX_eq (by omega) (by omega),if_neg (by omega)]
  omega
theorem first_fwd (c:Nat) (hc:c<256) (h:kdR (c:Int)≤6):(if scR (c:Int) then bitsI .or .u8 (IntKind.u8.wrap (kdR (c:Int))) 128 else IntKind.u8.wrap (kdR (c:Int)))=(c:Int)∧0≤kdR (c:Int):=by
 have hf:∀ c:Fin 256,decide (kdR (c.val:Int)≤6)=true→(if scR (c.val:Int) then bitsI .or .u8 (IntKind.u8.wrap (kdR (c.val:Int))) 128 else IntKind.u8.wrap (kdR (c.val:Int)))=(c.val:Int)∧0≤kdR (c.val:Int):=by decide +kernel
 exact hf ⟨c,hc⟩ (decide_eq_true h)
theorem ty_fwd (c:Nat) (hc:c<256) (h:chkR (tyR (c:Int))=true):codeT ((tyR (c:Int)).1,(tyR (c:Int)).2)=(c:Int):=by
 have hf:∀ c:Fin 256,chkR (tyR (c.val:Int))=true→codeT ((tyR (c.val:Int)).1,(tyR (c.val:Int)).2)=(c.val:Int):=by decide +kernel
 exact hf ⟨c,hc⟩ h
theorem layIts_congr {v v':V} {rs rs':List (List Int)}:∀ c,(∀ j,j<c→(if v.k==5 then strL (v.ks.getD j ByteArray.empty) else [])++rs.getD j []=(if v'.k==5 then strL (v'.ks.getD j ByteArray.empty) else [])++rs'.getD j [])→layIts v rs c=layIts v' rs' c
 | 0,_=>rfl
 | c+1,h=>by rw [layIts_succ,layIts_succ,layIts_congr c fun j hj=>h j (by omega),h c (by omega)]
def itsL (kd:Int) (ks:List ByteArray) (l:List V):List Int:=layIts (V.mk kd 0 ByteArray.empty l ks 0 0 false) (l.map layL) l.length
theorem getD_left {α:Type} {l r:List α} {j:Nat} (d:α) (h:j<l.length):(l++r).getD j d=l.getD j d:=by
 simp [List.getD_eq_getElem?_getD,List.getElem?_append_left h]
theorem getD_last {α:Type} {l:List α} {x d:α} {j:Nat} (h:j=l.length):(l++[x]).getD j d=x:=by
 subst h
 simp [List.getD_eq_getElem?_getD]
theorem itsL_snoc {kd:Int} {ks:List ByteArray} {l:List V} (y:ByteArray) (x:V) (h:(kd==5)=true→ks.length=l.length) :
  itsL kd (if kd==5 then ks++[y] else ks) (l++[x])=itsL kd ks l++((if kd==5 then strL y else [])++layL x):=by
 unfold itsL
 rw [List.length_append,List.length_singleton,layIts_succ,List.map_append,List.map_singleton]
 by_cases h5:(kd==5)=true
 ·have e:kd=5:=by simpa using h5
  subst e
  have hl:=h h5
  show layIts (V.mk 5 0 ByteArray.empty (l++[x]) (ks++[y]) 0 0 false) (List.map layL l++[layL x]) l.length++(strL ((ks++[y]).getD l.length ByteArray.empty)++(List.map layL l++[layL x]).getD l.length [])=_++(strL y++layL x)
  rw [getD_last hl.symm,getD_last (by rw [List.length_map])]
  congr 1
  refine layIts_congr _ fun j hj=> ?_
  show strL ((ks++[y]).getD j ByteArray.empty)++(List.map layL l++[layL x]).getD j []=strL (ks.getD j ByteArray.empty)++(List.map layL l).getD j []
  rw [getD_left _ (show j<ks.length by rw [hl]; exact hj),getD_left _ (show j<(List.map layL l).length by rw [List.length_map]; exact hj)]
 ·have e5:(kd==5)=false:=by simpa using h5
  have e:layIts (V.mk kd 0 ByteArray.empty (l++[x]) (if (kd==5)=true then ks++[y] else ks) 0 0 false) (List.map layL l++[layL x]) l.length=layIts (V.mk kd 0 ByteArray.empty l ks 0 0 false) (List.map layL l) l.length:=by
   refine layIts_congr _ fun j hj=> ?_
   rw [getD_left _ (by rw [List.length_map]; exact hj)]
   simp [V.k,V.ks,e5]
  rw [e,getD_last (by rw [List.length_map])]
  simp [V.k,V.ks,e5]
def FwdV (s:ByteArray) (val:Int→V×Int×Int):Prop:=∀ a:Nat,a≤s.size→(val (a:Int)).2.2=0→AtL s a (layL (val (a:Int)).1)∧(val (a:Int)).2.1=((a+(layL (val (a:Int)).1).length:Nat):Int)∧rgV (val (a:Int)).1=true
theorem rIt_fwd {val:Int→V×Int×Int} {s:ByteArray} {kd:Int} (hv:FwdV s val) (a0:Nat):∀ (m:Nat) (ks:List ByteArray) (l:List V) (a:Nat),((kd==5)=true→ks.length=l.length)→AtL s a0 (itsL kd ks l)→a=a0+(itsL kd ks l).length→(∀ x ∈ l,rgV x=true) →
  (rIt val s kd m ks l (a:Int)).2.2.2=0 →
  AtL s a0 (itsL kd (rIt val s kd m ks l (a:Int)).1 (rIt val s kd m ks l (a:Int)).2.1)∧(rIt val s kd m ks l (a:Int)).2.2.1=((a0+(itsL kd (rIt val s kd m ks l (a:Int)).1 (rIt val s kd m ks l (a:Int)).2.1).length:Nat):Int)∧(rIt val s kd m ks l (a:Int)).2.1.length=l.length+m∧(∀ x ∈ (rIt val s kd m ks l (a:Int)).2.1,rgV x=true)
 | 0,ks,l,a,hk,hL,ha,hr,h=>⟨hL,by show (a:Int)=_; rw [ha]; rfl,rfl,hr⟩
 | m+1,ks,l,a,hk,hL,ha,hr,h=>by
  have hz:a≤s.size:=by rw [ha]; exact hL.1
  simp only [rIt] at h ⊢
  by_cases h5:(kd==5)=true
  ·rw [if_pos h5] at h ⊢
   by_cases h1:((gTx s (a:Int)).2.2 != 0)=true
   ·rw [if_pos h1] at h
    have h:(gTx s (a:Int)).2.2=0:=h
    rw [h] at h1; exact absurd h1 (by decide)
   rw [if_neg h1] at h ⊢
   by_cases h2:keyBad ks (gTx s (a:Int)).1=true
   ·rw [if_pos h2] at h; exact absurd h (by show ¬((4:Int)=0); decide)
   rw [if_neg h2] at h ⊢
   have h1:(gTx s (a:Int)).2.2=0:=by simpa using h1
   have f:AtL s a (strL (gTx s (a:Int)).1)∧(gTx s (a:Int)).2.1=((strL (gTx s (a:Int)).1).length:Int):=by
    unfold gTx at h1 ⊢
    rw [Int.toNat_natCast] at h1 ⊢
    exact gStr_fwd hz h1
   generalize gTx s (a:Int)=g at *
   obtain ⟨y,n,e⟩:=g
   simp only at *
   obtain ⟨f1,rfl⟩:=f
   have hq:(a:Int)+((strL y).length:Int)=((a+(strL y).length:Nat):Int):=by push_cast; rfl
   rw [hq] at h ⊢
   by_cases h3:((val ((a+(strL y).length:Nat):Int)).2.2 != 0)=true
   ·rw [if_pos h3] at h
    have h:(val ((a+(strL y).length:Nat):Int)).2.2=0:=h
    rw [h] at h3; exact absurd h3 (by decide)
   rw [if_neg h3] at h ⊢
   have h3:(val ((a+(strL y).length:Nat):Int)).2.2=0:=by simpa using h3
   obtain ⟨v1,v2,v3⟩:=hv _ f1.1 h3
   generalize val ((a+(strL y).length:Nat):Int)=w at *
   obtain ⟨x,n,e⟩:=w
   simp only at *
   subst v2
   have es:=itsL_snoc (kd:=kd) (ks:=ks) (l:=l) y x hk
   rw [if_pos h5,if_pos h5] at es
   have ih:=rIt_fwd hv a0 m (ks++[y]) (l++[x]) (a+(strL y).length+(layL x).length) (fun _=>by rw [List.length_append,List.length_append,hk h5]; rfl)
    (by rw [es]; exact hL.app (by rw [← ha]; exact f1.app v1)) (by rw [es,List.length_append,List.length_append]; omega) (fun z hz=>by
     rcases List.mem_append.1 hz with hz|hz
     ·exact hr z hz
     ·rw [List.mem_singleton.1 hz]; exact v3) h
   refine ⟨ih.1,ih.2.1,?_,ih.2.2.2⟩
   rw [ih.2.2.1,List.length_append,List.length_singleton]; omega
  ·rw [if_neg h5] at h ⊢
   by_cases h3:((val (a:Int)).2.2 != 0)=true
   ·rw [if_pos h3] at h
    have h:(val (a:Int)).2.2=0:=h
    rw [h] at h3; exact absurd h3 (by decide)
   rw [if_neg h3] at h ⊢
   have h3:(val (a:Int)).2.2=0:=by simpa using h3
   obtain ⟨v1,v2,v3⟩:=hv _ hz h3
   generalize val (a:Int)=w at *
   obtain ⟨x,n,e⟩:=w
   simp only at *
   subst v2
   have es:=itsL_snoc (kd:=kd) (ks:=ks) (l:=l) ByteArray.empty x hk
   rw [if_neg h5,if_neg h5,List.nil_append] at es
   have ih:=rIt_fwd hv a0 m ks (l++[x]) (a+(layL x).length) (fun h=>absurd h h5)
    (by rw [es]; exact hL.app (by rw [← ha]; exact v1)) (by rw [es,List.length_append]; omega) (fun z hz=>by
     rcases List.mem_append.1 hz with hz|hz
     ·exact hr z hz
     ·rw [List.mem_singleton.1 hz]; exact v3) h
   refine ⟨ih.1,ih.2.1,?_,ih.2.2.2⟩
   rw [ih.2.2.1,List.length_append,List.length_singleton]; omega
def FwdB (s:ByteArray) (a:Nat) (kd:Int) (sc:Bool) (r:V×Int×Int):Prop:=AtL s a (layB r.1 (r.1.l.map layL))∧r.2.1=((a+(layB r.1 (r.1.l.map layL)).length:Nat):Int)∧r.1.k=kd∧r.1.sec=sc∧rgV r.1=true
theorem rGk_fwd {val:Int→V×Int×Int} {s:ByteArray} (hv:FwdV s val) (kd:Int) (sc:Bool) (a:Nat) (ha:a≤s.size) (h:(rGk val s kd sc (a:Int)).2.2=0):FwdB s a kd sc (rGk val s kd sc (a:Int)):=by
 have rg:∀ (i:Int) (st:ByteArray) (ks:List ByteArray) (tk to:Int),-9223372036854775808≤i→i≤9223372036854775807→rgV (.mk kd i st [] ks tk to sc)=true:=fun i st ks tk to h0 h1=>by
  rw [rgV_eq]
  show (decide (-9223372036854775808≤i)&&decide (i≤9223372036854775807)&&true)=true
  rw [decide_eq_true h0,decide_eq_true h1]; rfl
 have hb:=byteN_lt s a
 have hbt:byteAt s (a:Int)=byteN s a:=by show byteN s (a:Int).toNat=_; rw [Int.toNat_natCast]
 have ga:gSx s (a:Int)=gS s a (s.size-a) 0 0:=by unfold gSx; rw [Int.toNat_natCast]
 have gt:gTx s (a:Int)=gStr s a (s.size-a) 1024:=by unfold gTx; rw [Int.toNat_natCast]
 unfold rGk at h ⊢
 by_cases k0:(kd==0)=true
 ·rw [if_pos k0]
  have k0:kd=0:=by simpa using k0
  subst k0
  exact ⟨AtL.none ha,rfl,rfl,rfl,rg 0 _ _ _ _ (by decide) (by decide)⟩
 rw [if_neg k0] at h ⊢
 by_cases k1:(kd==1)=true
 ·rw [if_pos k1] at h ⊢
  have k1:kd=1:=by simpa using k1
  subst k1
  by_cases q1:decide ((a:Int)≥s.size)=true
  ·rw [if_pos q1] at h; exact absurd h (by show ¬((2:Int)=0); decide)
  rw [if_neg q1] at h ⊢
  by_cases q2:decide (byteAt s (a:Int)>1)=true
  ·rw [if_pos q2] at h; exact absurd h (by show ¬((4:Int)=0); decide)
  rw [if_neg q2]
  simp only [decide_eq_true_eq] at q1 q2
  rw [hbt] at q2 ⊢
  have w:IntKind.i64.wrap (byteN s a)=byteN s a:=wrap64 (by omega) (by omega)
  rw [w]
  have e:layB (V.mk 1 (byteN s a) ByteArray.empty [] [] 0 0 sc) ((V.mk 1 (byteN s a) ByteArray.empty [] [] 0 0 sc).l.map layL)=[byteN s a]:=by
   show [IntKind.u8.wrap (byteN s a)]=_
   rw [show IntKind.u8.wrap (byteN s a)=byteN s a from by show byteN s a%256=_; omega]
  unfold FwdB
  simp only [e]
  exact ⟨AtL.one rfl (by omega),by push_cast; rfl,rfl,rfl,rg _ _ _ _ _ (by omega) (by omega)⟩
 rw [if_neg k1] at h ⊢
 by_cases k2:(kd==2)=true
 ·rw [if_pos k2] at h ⊢
  have k2:kd=2:=by simpa using k2
  subst k2
  rw [ga] at h ⊢
  by_cases q1:((gS s a (s.size-a) 0 0).2.2 != 0)=true
  ·rw [if_pos q1] at h
   have h:(gS s a (s.size-a) 0 0).2.2=0:=h
   rw [h] at q1; exact absurd q1 (by decide)
  rw [if_neg q1]
  have q1:(gS s a (s.size-a) 0 0).2.2=0:=by simpa using q1
  have f:=gS0_fwd ha q1
  have n0:=gS_nn s a (s.size-a) 0 0 (Int.le_refl 0)
  have n1:=gS_lt s a (s.size-a) 0 0 (by decide)
  generalize gS s a (s.size-a) 0 0=g at *
  obtain ⟨n,m,e⟩:=g
  simp only at *
  obtain ⟨n,rfl⟩:∃ k:Nat,n=(k:Int):=⟨n.toNat,by omega⟩
  rw [Int.toNat_natCast] at f
  obtain ⟨f1,rfl⟩:=f
  obtain ⟨z1,z2,z3⟩:=zag_fwd (n:=n) (by omega)
  have e:layB (V.mk 2 (zgR (n:Int)) ByteArray.empty [] [] 0 0 sc) ((V.mk 2 (zgR (n:Int)) ByteArray.empty [] [] 0 0 sc).l.map layL)=shortL n:=by
   show shortL (zigI (zgR (n:Int))).toNat=_
   rw [z1,Int.toNat_natCast]
  unfold FwdB
  simp only [e]
  exact ⟨f1,by push_cast; rfl,rfl,rfl,rg _ _ _ _ _ z2 z3⟩
 rw [if_neg k2] at h ⊢
 by_cases k3:(kd==3)=true
 ·rw [if_pos k3] at h ⊢
  have k3:kd=3:=by simpa using k3
  subst k3
  rw [gt] at h ⊢
  by_cases q1:((gStr s a (s.size-a) 1024).2.2 != 0)=true
  ·rw [if_pos q1] at h
   have h:(gStr s a (s.size-a) 1024).2.2=0:=h
   rw [h] at q1; exact absurd q1 (by decide)
  rw [if_neg q1]
  have q1:(gStr s a (s.size-a) 1024).2.2=0:=by simpa using q1
  obtain ⟨f1,f2⟩:=gStr_fwd ha q1
  unfold FwdB
  rw [f2]
  exact ⟨f1,by push_cast; rfl,rfl,rfl,rg _ _ _ _ _ (by decide) (by decide)⟩
 rw [if_neg k3] at h ⊢
 by_cases k6:(kd==6)=true
 ·rw [if_pos k6] at h ⊢
  have k6:kd=6:=by simpa using k6
  subst k6
  by_cases q1:decide ((a:Int)≥s.size)=true
  ·rw [if_pos q1] at h; exact absurd h (by show ¬((2:Int)=0); decide)
  rw [if_neg q1] at h ⊢
  by_cases q2:(!(chkR (tyR (byteAt s (a:Int)))))=true
  ·rw [if_pos q2] at h; exact absurd h (by show ¬((4:Int)=0); decide)
  rw [if_neg q2]
  simp only [decide_eq_true_eq] at q1
  have q2:chkR (tyR (byteAt s (a:Int)))=true:=by simpa using q2
  rw [hbt] at q2 ⊢
  have t:=ty_fwd (byteN s a).toNat (by omega) (by rw [Int.toNat_of_nonneg hb.1]; exact q2)
  rw [Int.toNat_of_nonneg hb.1] at t
  have e:layB (V.mk 6 0 ByteArray.empty [] [] (tyR (byteN s a)).1 (tyR (byteN s a)).2 sc) ((V.mk 6 0 ByteArray.empty [] [] (tyR (byteN s a)).1 (tyR (byteN s a)).2 sc).l.map layL)=[byteN s a]:=by
   show [codeT ((tyR (byteN s a)).1,(tyR (byteN s a)).2)]=_
   rw [t]
  unfold FwdB
  simp only [e]
  exact ⟨AtL.one rfl (by omega),by push_cast; rfl,rfl,rfl,rg _ _ _ _ _ (by decide) (by decide)⟩
 rw [if_neg k6] at h ⊢
 by_cases k45:(kd==4||kd==5)=true
 ·rw [if_pos k45] at h ⊢
  rw [ga] at h ⊢
  by_cases q1:((gS s a (s.size-a) 0 0).2.2 != 0)=true
  ·rw [if_pos q1] at h
   have h:(gS s a (s.size-a) 0 0).2.2=0:=h
   rw [h] at q1; exact absurd q1 (by decide)
  rw [if_neg q1] at h ⊢
  by_cases q2:decide ((gS s a (s.size-a) 0 0).1>128)=true
  ·rw [if_pos q2] at h; exact absurd h (by show ¬((3:Int)=0); decide)
  rw [if_neg q2] at h ⊢
  have q1:(gS s a (s.size-a) 0 0).2.2=0:=by simpa using q1
  have f:=gS0_fwd ha q1
  have n0:=gS_nn s a (s.size-a) 0 0 (Int.le_refl 0)
  by_cases q3:((rAll val s kd (a:Int)).2.2.2 != 0)=true
  ·rw [if_pos q3] at h
   have h:(rAll val s kd (a:Int)).2.2.2=0:=h
   rw [h] at q3; exact absurd q3 (by decide)
  rw [if_neg q3]
  have q3:(rAll val s kd (a:Int)).2.2.2=0:=by simpa using q3
  unfold rAll at q3 ⊢
  rw [ga] at q3 ⊢
  generalize gS s a (s.size-a) 0 0=g at *
  obtain ⟨n,m,e⟩:=g
  simp only at *
  obtain ⟨n,rfl⟩:∃ k:Nat,n=(k:Int):=⟨n.toNat,by omega⟩
  rw [Int.toNat_natCast] at *
  obtain ⟨f1,rfl⟩:=f
  have hq:(a:Int)+((shortL n).length:Int)=((a+(shortL n).length:Nat):Int):=by push_cast; rfl
  rw [hq] at q3 ⊢
  have e0:itsL kd [] []=[]:=rfl
  obtain ⟨i1,i2,i3,i4⟩:=rIt_fwd hv (a+(shortL n).length) n [] [] (a+(shortL n).length) (fun _=>rfl) (by rw [e0]; exact AtL.none f1.1) (by rw [e0]; rfl) (fun x hx=>absurd hx List.not_mem_nil) q3
  generalize rIt val s kd n [] [] ((a+(shortL n).length:Nat):Int)=R at *
  obtain ⟨KS,L,A,E⟩:=R
  simp only at *
  have i3:L.length=n:=by rw [i3]; simp
  subst i2
  have e:layB (V.mk kd 0 ByteArray.empty L KS 0 0 sc) ((V.mk kd 0 ByteArray.empty L KS 0 0 sc).l.map layL)=shortL n++itsL kd KS L:=by
   have g1:(kd==1)=false:=by simpa using k1
   have g2:(kd==2)=false:=by simpa using k2
   have g3:(kd==3)=false:=by simpa using k3
   have g6:(kd==6)=false:=by simpa using k6
   have e1:layB (V.mk kd 0 ByteArray.empty L KS 0 0 sc) ((V.mk kd 0 ByteArray.empty L KS 0 0 sc).l.map layL)=shortL L.length++layIts (V.mk kd 0 ByteArray.empty L KS 0 0 sc) (L.map layL) L.length:=by
    unfold layB
    simp only [V.k,V.l,g1,g2,g3,g6,k45,if_true,Bool.false_eq_true,if_false]
   rw [e1,i3]
   unfold itsL
   rw [i3]
   congr 1
  unfold FwdB
  simp only [e]
  refine ⟨f1.app i1,?_,rfl,rfl,?_⟩
  ·rw [List.length_append,Nat.add_assoc]
  ·rw [rgV_eq]
   show (true&&L.all rgV)=true
   rw [Bool.true_and,List.all_eq_true]
   exact i4
 ·rw [if_neg k45] at h
  exact absurd h (by show ¬((4:Int)=0); decide)
theorem rG1_fwd {val:Int→V×Int×Int} {s:ByteArray} (hv:FwdV s val) (deep:Int):FwdV s (rG1 val s deep):=by
 intro a ha h
 unfold rG1 at h ⊢
 by_cases q1:decide (deep>8)=true
 ·rw [if_pos q1] at h; exact absurd h (by show ¬((12:Int)=0); decide)
 rw [if_neg q1] at h ⊢
 by_cases q2:decide ((a:Int)≥s.size)=true
 ·rw [if_pos q2] at h; exact absurd h (by show ¬((2:Int)=0); decide)
 rw [if_neg q2] at h ⊢
 simp only [decide_eq_true_eq] at q2
 have hbt:byteAt s (a:Int)=byteN s a:=by show byteN s (a:Int).toNat=_; rw [Int.toNat_natCast]
 rw [hbt] at h ⊢
 have hb:=byteN_lt s a
 have hq:(a:Int)+1=((a+1:Nat):Int):=by push_cast; rfl
 rw [hq] at h ⊢
 have F:=rGk_fwd hv (kdR (byteN s a)) (scR (byteN s a)) (a+1) (by omega) h
 have k6:kdR (byteN s a)≤6:=by
  unfold rGk at h
  by_cases hk:kdR (byteN s a)≤6
  ·exact hk
  ·rw [if_neg (by simp; omega),if_neg (by simp; omega),if_neg (by simp; omega),if_neg (by simp; omega),if_neg (by simp; omega),if_neg (by simp; omega)] at h
   exact absurd h (by show ¬((4:Int)=0); decide)
 obtain ⟨c,hc⟩:∃ c:Nat,byteN s a=(c:Int):=⟨(byteN s a).toNat,by omega⟩
 have ff:=first_fwd c (by omega) (by rw [← hc]; exact k6)
 rw [← hc] at ff
 generalize rGk val s (kdR (byteN s a)) (scR (byteN s a)) ((a+1:Nat):Int)=r at *
 obtain ⟨F1,F2,F3,F4,F5⟩:=F
 have e:firstB r.1=byteN s a:=by
  unfold firstB
  rw [F3,F4]
  exact ff.1
 rw [layL_eq,e]
 refine ⟨AtL.app (A:=[byteN s a]) (AtL.one rfl (by omega)) F1,?_,F5⟩
 rw [F2,List.length_cons]
 congr 1
 omega
theorem rGet_fwd (s:ByteArray):∀ (m:Nat) (deep:Int),1≤deep→deep+m≤1000→9≤deep+m→FwdV s (rGet s m deep)
 | 0,deep,h0,h1,h2=>by
  intro a ha h
  unfold rGet rG1 at h
  rw [if_pos (by simp; omega)] at h
  exact absurd h (by show ¬((12:Int)=0); decide)
 | m+1,deep,h0,h1,h2=>by
  have w:IntKind.i64.wrap (deep+1)=deep+1:=wrap64 (by omega) (by omega)
  show FwdV s (rG1 (rGet s m (IntKind.i64.wrap (deep+1))) s deep)
  rw [w]
  exact rG1_fwd (rGet_fwd s m (deep+1) (by omega) (by omega) (by omega)) deep
theorem cGet_fwd {s:ByteArray} (h:(cGet s).2.2=0):AtL s 0 (layL (cGet s).1)∧(cGet s).2.1=((layL (cGet s).1).length:Int)∧rgV (cGet s).1=true:=by
 rw [cGet_eq] at h ⊢
 unfold dGet at h ⊢
 by_cases q:(dGe s != 0)=true
 ·rw [if_pos q] at h
  have h:dGe s=0:=h
  rw [h] at q; exact absurd q (by decide)
 rw [if_neg q]
 have q:dGe s=0:=by simpa using q
 have h0:(rGet s 8 1 0).2.2=0:=by
  unfold dGe at q
  split at q
  ·exact absurd q (by decide)
  ·exact q
 have F:=rGet_fwd s 8 1 (by decide) (by decide) (by decide) 0 (Nat.zero_le _) h0
 refine ⟨F.1,?_,F.2.2⟩
 have:=F.2.1
 rw [Nat.zero_add] at this
 exact this
theorem vl_fwd {s:ByteArray} {a:Nat} (ha:a≤s.size) (h:(vl s a).2.2=0):AtL s a (layL (vl s a).1)∧(vl s a).2.1=((layL (vl s a).1).length:Int)∧rgV (vl s a).1=true:=by
 have f:=cGet_fwd (s:=tS s a) h
 exact ⟨AtL.of_sub (by omega) f.1,f.2⟩
end Go.Proofs.YtaecnniddhikbaaGreatDoor
namespace Go.Proofs.YtaecnniddhikbaaGreatDoor
open Go Go.VA
def n1 (s:ByteArray) (a:Nat):Nat:=a+(tx s a).2.1.toNat
def n2 (s:ByteArray) (a:Nat):Nat:=a+(vl s a).2.1.toNat
def bdA (s:ByteArray) (a:Nat):Nat:=n2 s (n1 s a)
def bdB (s:ByteArray) (a:Nat):Bool:=false||(tx s a).2.2 != 0||(vl s (n1 s a)).2.2 != 0
def bdE (s:ByteArray) (a:Nat):Bd:=⟨(tx s a).1,(vl s (n1 s a)).1⟩
def k1 (s:ByteArray) (a:Nat):Nat:=a+(kd s a).2.1.toNat
def k2 (s:ByteArray) (a:Nat):Nat:=a+smN s a
def spA (s:ByteArray) (a:Nat):Nat:=k2 s (k1 s a)
def spB (s:ByteArray) (a:Nat):Bool:=false||(kd s a).2.2 != 0||decide (s.size-k1 s a<32)
def spE (s:ByteArray) (a:Nat):Sp:=⟨(kd s a).1,smF s (k1 s a)⟩
def acA (s:ByteArray) (a:Nat):Nat:=(acS s a false).2.1
def acB (s:ByteArray) (a:Nat):Bool:=(acS s a false).2.2
def acE (s:ByteArray) (a:Nat):Ac:=acV s a false
def shE (s:ByteArray) (a:Nat):Bool:=(sh s a).2.2 != 0
section
variable {α:Type}
theorem lp_back {A:Nat→Nat} {B:Nat→Bool} {E:Nat→α} {enc:α→List Int} {s:ByteArray}:∀ (l:List α) (m a:Nat) (acc:List α),(∀ x ∈ l,∀ a,AtL s a (enc x)→A a=a+(enc x).length∧B a=false∧E a=x)→AtL s a (l.flatMap enc)→l.length<m→l.length≤1000000 →
  lpR A B E m (l.length:Int) a acc false=(acc++l,a+(l.flatMap enc).length,false)
 | [],m,a,acc,_,_,hm,_=>by
  obtain ⟨m,rfl⟩:∃ k,m=k+1:=⟨m-1,by simp at hm; omega⟩
  simp only [lpR]
  rw [if_neg (by simp)]
  simp
 | x::l,m,a,acc,h,hL,hm,hb=>by
  rw [List.length_cons] at hm hb
  obtain ⟨m,rfl⟩:∃ k,m=k+1:=⟨m-1,by omega⟩
  rw [List.flatMap_cons] at hL
  obtain ⟨e1,e2,e3⟩:=h x (by simp) a hL.left
  have ih:=lp_back l m (a+(enc x).length) (acc++[x]) (fun y hy=>h y (by simp [hy])) hL.right (by omega) (by omega)
  have hw:IntKind.u64.wrap (((l.length+1:Nat):Int)-1)=(l.length:Int):=(wrapU2 (by omega) (by omega)).trans (by omega)
  rw [List.length_cons,List.flatMap_cons,List.length_append]
  simp only [lpR]
  rw [if_pos (by first|(simp; done)|fail),hw,e1,e2,e3,ih,List.append_assoc,Nat.add_assoc]
  rfl
theorem lp_fwd {A:Nat→Nat} {B:Nat→Bool} {E:Nat→α} {enc:α→List Int} {s:ByteArray} {P:α→Prop} (hp:∀ x,0<(enc x).length) (h:∀ a,a≤s.size→B a=false→AtL s a (enc (E a))∧A a=a+(enc (E a)).length∧P (E a)) :
  ∀ (m:Nat) (i:Int) (a:Nat) (acc:List α) (b:Bool),0≤i→i<18446744073709551616→a≤s.size→s.size-a<m→(lpR A B E m i a acc b).2.2=false →
  b=false∧∃ l:List α,(lpR A B E m i a acc b).1=acc++l∧(l.length:Int)=i∧AtL s a (l.flatMap enc)∧(lpR A B E m i a acc b).2.1=a+(l.flatMap enc).length∧∀ x ∈ l,P x
 | 0,i,a,acc,b,_,_,_,hm,_=>by omega
 | m+1,i,a,acc,true,_,_,_,hm,hr=>by rw [lpR_bad] at hr; exact absurd hr (by decide)
 | m+1,i,a,acc,false,h0,h1,ha,hm,hr=>by
  refine ⟨rfl,?_⟩
  by_cases hi:i>0
  ·have e:lpR A B E (m+1) i a acc false=lpR A B E m (i-1) (A a) (acc++[E a]) (B a):=by
    simp only [lpR]
    rw [if_pos (by simp; omega),wrapU2 (by omega) (by omega)]
   rw [e] at hr ⊢
   have hB:B a=false:=by
    cases hb:B a
    ·rfl
    ·rw [hb,lpR_bad] at hr; exact absurd hr (by decide)
   obtain ⟨f1,f2,f3⟩:=h a ha hB
   have hpos:=hp (E a)
   have hz:=f1.1
   obtain ⟨_,l,l1,l2,l3,l4,l5⟩:=lp_fwd hp h m (i-1) (A a) (acc++[E a]) (B a) (by omega) (by omega) (by omega) (by omega) hr
   refine ⟨E a::l,?_,?_,?_,?_,?_⟩
   ·rw [l1,List.append_assoc]; rfl
   ·rw [List.length_cons]; omega
   ·rw [List.flatMap_cons]
    exact f1.app (by rw [← f2]; exact l3)
   ·rw [l4,f2,List.flatMap_cons,List.length_append,Nat.add_assoc]
   ·intro x hx
    rcases List.mem_cons.1 hx with rfl|hx
    ·exact f3
    ·exact l5 x hx
  ·have hi0:i=0:=by omega
   subst hi0
   have e:lpR A B E (m+1) 0 a acc false=(acc,a,false):=by
    simp only [lpR]
    rw [if_neg (by simp)]
   rw [e]
   exact ⟨[],by simp,rfl,AtL.none ha,rfl,fun x hx=>absurd hx List.not_mem_nil⟩
end
theorem sm_back {s:ByteArray} {a:Nat} {d:Nat→UInt8} (hd:∀ i,32≤i→d i=0) (h:AtL s a (sumL d)):smN s a=32∧smF s a=d∧decide (s.size-a<32)=false:=by
 have hz:=h.1
 rw [sumL_len] at hz
 have e:smN s a=32:=by unfold smN; omega
 refine ⟨e,?_,decide_eq_false (by omega)⟩
 unfold smF smK
 rw [e]
 funext i
 by_cases hi:i<32
 ·rw [if_pos hi]
  have:=h.2 i (by rw [sumL_len]; exact hi)
  rw [sumL,getD_bys 32 _ i hi] at this
  exact byte_of this
 ·rw [if_neg hi,hd i (by omega)]
theorem sm_fwd {s:ByteArray} {a:Nat} (h:¬ s.size-a<32):AtL s a (sumL (smF s a))∧smN s a=32∧∀ i,32≤i→smF s a i=0:=by
 have e:smN s a=32:=by unfold smN; omega
 refine ⟨⟨by rw [sumL_len]; omega,fun j hj=> ?_⟩,e,fun i hi=> ?_⟩
 ·rw [sumL_len] at hj
  rw [sumL,getD_bys 32 _ j hj]
  unfold smF smK
  rw [e,if_pos hj]
  rfl
 ·unfold smF smK
  rw [e,if_neg (by omega)]
theorem tx_back {s t:ByteArray} {a:Nat} (ht:t.size≤1024) (h:AtL s a (strL t)):tx s a=(t,((strL t).length:Int),0):=by
 have:=gTx_back s t a ht h
 unfold gTx at this
 rw [Int.toNat_natCast] at this
 exact this
theorem txx_fwd {s:ByteArray} {a:Nat} (ha:a≤s.size) (h:(tx s a).2.2=0):AtL s a (strL (tx s a).1)∧(tx s a).2.1=((strL (tx s a).1).length:Int):=gStr_fwd ha h
theorem ne0f {x:Int} (h:(x != 0)=false):x=0:=by simpa using h
theorem bd_back {s:ByteArray} {b:Bd} (o:OkB b) (r:rgV b.v=true) (a:Nat) (h:AtL s a (bdL b)):bdA s a=a+(bdL b).length∧bdB s a=false∧bdE s a=b:=by
 unfold bdL at h
 have e1:=tx_back (by have:=o.n; omega) h.left
 have q1:n1 s a=a+(strL b.n).length:=by unfold n1; rw [e1]; rfl
 have e2:=vl_back o.v r h.right
 rw [← q1] at e2
 refine ⟨?_,?_,?_⟩
 ·unfold bdA n2 bdL
  rw [e2,q1,List.length_append,Nat.add_assoc]; rfl
 ·unfold bdB; rw [e2,e1]; rfl
 ·unfold bdE; rw [e2,e1]
theorem bdL_pos (b:Bd):0<(bdL b).length:=by
 unfold bdL
 rw [List.length_append,layL_eq,List.length_cons]
 omega
theorem bd_fwd {s:ByteArray} (a:Nat) (ha:a≤s.size) (h:bdB s a=false):AtL s a (bdL (bdE s a))∧bdA s a=a+(bdL (bdE s a)).length∧rgV (bdE s a).v=true:=by
 unfold bdB at h
 rw [Bool.false_or,Bool.or_eq_false_iff] at h
 obtain ⟨f1,f2⟩:=txx_fwd ha (ne0f h.1)
 have q1:n1 s a=a+(strL (tx s a).1).length:=by unfold n1; rw [f2]; rfl
 have hz:=f1.1
 obtain ⟨g1,g2,g3⟩:=vl_fwd (by omega) (ne0f h.2)
 unfold bdE bdL
 refine ⟨f1.app (by rw [← q1]; exact g1),?_,g3⟩
 unfold bdA n2
 rw [g2,q1,List.length_append,Nat.add_assoc]; rfl
theorem sp_back {s:ByteArray} {x:Sp} (o:okKy x.y=true) (r:0≤x.y.n∧x.y.n≤4294967295∧∀ i,32≤i→x.s i=0) (a:Nat) (h:AtL s a (spL x)):spA s a=a+(spL x).length∧spB s a=false∧spE s a=x:=by
 unfold spL at h
 have e1:=kd_back o r.1 r.2.1 h.left
 have q1:k1 s a=a+(kyL x.y).length:=by unfold k1; rw [e1]; rfl
 have e2:=sm_back r.2.2 h.right
 rw [← q1] at e2
 obtain ⟨g1,g2,g3⟩:=e2
 refine ⟨?_,?_,?_⟩
 ·unfold spA k2 spL
  rw [g1,q1,List.length_append,Nat.add_assoc,sumL_len]
 ·unfold spB; rw [e1,g3]; rfl
 ·unfold spE; rw [e1,g2]
theorem spL_pos (x:Sp):0<(spL x).length:=by
 unfold spL
 rw [List.length_append,sumL_len]
 omega
theorem sp_fwd {s:ByteArray} (a:Nat) (ha:a≤s.size) (h:spB s a=false):AtL s a (spL (spE s a))∧spA s a=a+(spL (spE s a)).length∧0≤(spE s a).y.n∧(spE s a).y.n≤4294967295∧∀ i,32≤i→(spE s a).s i=0:=by
 unfold spB at h
 rw [Bool.false_or,Bool.or_eq_false_iff,decide_eq_false_iff_not] at h
 obtain ⟨f1,f2,f3,f4,f5⟩:=kd_fwd ha (ne0f h.1)
 have q1:k1 s a=a+(kyL (kd s a).1).length:=by unfold k1; rw [f2]; rfl
 obtain ⟨g1,g2,g3⟩:=sm_fwd h.2
 unfold spE spL
 refine ⟨f1.app (by rw [← q1]; exact g1),?_,f4,f5,g3⟩
 unfold spA k2
 rw [g2,q1,List.length_append,Nat.add_assoc,sumL_len]
def hdE (s:ByteArray) (a:Nat):Int:=IntKind.i64.wrap (bitsI .and .u64 (sh s a).1 2147483647)
def hdB (s:ByteArray) (a:Nat):Bool:=false||shE s a||decide ((sh s a).1>2147483647)
theorem hdG_lp (s:ByteArray):∀ (m:Nat) (i:Int) (a:Nat) (acc:List Int) (b:Bool),hdG (s1 s) (fun a=>(sh s a).2.2 != 0) (fun a=>(sh s a).1) m i a acc b=lpR (s1 s) (hdB s) (hdE s) m i a acc b
 | 0,_,_,_,_=>rfl
 | m+1,i,a,acc,b=>by
  simp only [hdG,lpR]
  cases b
  ·split
   ·exact hdG_lp s m _ _ _ _
   ·rfl
  ·rw [if_neg (by simp),if_neg (by simp)]
theorem and31 {n:Int} (h0:0≤n) (h1:n≤2147483647):IntKind.i64.wrap (bitsI .and .u64 n 2147483647)=n:=by
 obtain ⟨k,rfl⟩:∃ k:Nat,n=(k:Int):=⟨n.toNat,by omega⟩
 have hk:k<2 ^ 64:=by omega
 unfold bitsI
 show IntKind.i64.wrap (IntKind.u64.wrap (((BitVec.ofInt 64 (k:Int) &&& BitVec.ofInt 64 2147483647).toNat:Nat):Int))=_
 rw [BitVec.toNat_and,show (BitVec.ofInt 64 2147483647).toNat=2 ^ 31-1 from by decide,ofNat64 _ hk,Nat.and_two_pow_sub_one_eq_mod,Nat.mod_eq_of_lt (by omega),wrapU (by omega) (by omega),wrap64 (by omega) (by omega)]
def hL (k:Int):List Int:=shortL k.toNat
theorem hL_pos (k:Int):0<(hL k).length:=by
 unfold hL shortL
 simp only [shortF]
 split<;>simp
theorem hd_back {s:ByteArray} {k:Int} (h0:0≤k) (h1:k≤2147483647) (a:Nat) (h:AtL s a (hL k)):s1 s a=a+(hL k).length∧hdB s a=false∧hdE s a=k:=by
 unfold hL at h ⊢
 have e:=sh_back (n:=k.toNat) (by omega) h
 rw [Int.toNat_of_nonneg h0] at e
 refine ⟨?_,?_,?_⟩
 ·unfold s1; rw [e]; rfl
 ·unfold hdB shE; rw [e]
  simp only [Bool.false_or,Bool.or_eq_false_iff,decide_eq_false_iff_not]
  exact ⟨by decide,by omega⟩
 ·unfold hdE; rw [e]; exact and31 h0 h1
theorem hd_fwd {s:ByteArray} (a:Nat) (ha:a≤s.size) (h:hdB s a=false):AtL s a (hL (hdE s a))∧s1 s a=a+(hL (hdE s a)).length∧True:=by
 unfold hdB shE at h
 rw [Bool.false_or,Bool.or_eq_false_iff,decide_eq_false_iff_not] at h
 have hv:=sh_v s a
 have e:hdE s a=(sh s a).1:=and31 hv.1 (by omega)
 obtain ⟨f1,f2⟩:=sh_fwd ha (ne0f h.1)
 rw [e]
 exact ⟨f1,by unfold s1; rw [f2]; rfl,trivial⟩
theorem acL_all (x:Ac):acL x=[IntKind.u8.wrap x.k]++kyL x.y++layL x.p++layL x.w++shortL x.h.length++x.h.flatMap hL:=by
 unfold acL acH ahL
 rw [List.take_length]
 rfl
theorem acS_lp (s:ByteArray) (a:Nat):acS s a false=lpR (s1 s) (hdB s) (hdE s) (s.size+2) (sh s (y4 s a)).1 (y5 s a) [] (bq4 s a false):=hdG_lp s _ _ _ _ _
theorem bq4_f {s:ByteArray} {a:Nat}:bq4 s a false=false ↔ fgE s a=0∧(kd s (y1 s a)).2.2=0∧(vl s (y2 s a)).2.2=0∧(vl s (y3 s a)).2.2=0∧(sh s (y4 s a)).2.2=0:=by
 unfold bq4 bq3 bq2 bq1 bq0
 simp only [Bool.false_or,Bool.or_eq_false_iff,bne_eq_false_iff_eq]
 exact ⟨fun h=>⟨h.1.1.1.1,h.1.1.1.2,h.1.1.2,h.1.2,h.2⟩,fun h=>⟨⟨⟨⟨h.1,h.2.1⟩,h.2.2.1⟩,h.2.2.2.1⟩,h.2.2.2.2⟩⟩
structure RgA (x:Ac):Prop where
 y0:0≤x.y.n
 y1:x.y.n≤4294967295
 p:rgV x.p=true
 w:rgV x.w=true
attribute [local irreducible] kyL layL shortL kd vl sh
theorem ac_back {s:ByteArray} {x:Ac} (o:OkA x) (r:RgA x) (a:Nat) (h:AtL s a (acL x)):acA s a=a+(acL x).length∧acB s a=false∧acE s a=x:=by
 have el:=congrArg List.length (acL_all x)
 simp only [List.length_append,List.length_singleton] at el
 rw [acL_all] at h
 have hF:=h.left.left.left.left.left
 have hK:=h.left.left.left.left.right
 have hP:=h.left.left.left.right
 have hW:=h.left.left.right
 have hS:=h.left.right
 have hD:=h.right
 simp only [List.length_append,List.length_singleton,← Nat.add_assoc] at hK hP hW hS hD
 have ok:=o.k
 have ol:=o.l
 have hb:=hF.head
 have w8:IntKind.u8.wrap x.k=x.k:=by show x.k%256=x.k; omega
 rw [w8] at hb
 have eV:fgV s a=x.k:=by unfold fgV; rw [if_neg (by omega)]; exact hb.1
 have eE:fgE s a=0:=by unfold fgE; rw [if_neg (by omega)]
 have q1:y1 s a=a+1:=by unfold y1; rw [mn_eq]; omega
 have eK:=kd_back o.y r.y0 r.y1 hK
 rw [← q1] at eK hP hW hS hD
 have q2:y2 s a=y1 s a+(kyL x.y).length:=by unfold y2; rw [eK]; rfl
 rw [← q2] at hP hW hS hD
 have eP:=vl_back o.p r.p hP
 have q3:y3 s a=y2 s a+(layL x.p).length:=by unfold y3; rw [eP]; rfl
 rw [← q3] at hW hS hD
 have eW:=vl_back o.w r.w hW
 have q4:y4 s a=y3 s a+(layL x.w).length:=by unfold y4; rw [eW]; rfl
 rw [← q4] at hS hD
 have eS:=sh_back (n:=x.h.length) (by omega) hS
 have q5:y5 s a=y4 s a+(shortL x.h.length).length:=by unfold y5; rw [eS]; rfl
 rw [← q5] at hD
 have hB:bq4 s a false=false:=bq4_f.2 ⟨eE,by rw [eK],by rw [eP],by rw [eW],by rw [eS]⟩
 have L:lpR (s1 s) (hdB s) (hdE s) (s.size+2) (x.h.length:Int) (y5 s a) [] false=([]++x.h,y5 s a+(x.h.flatMap hL).length,false):=lp_back (enc:=hL) x.h (s.size+2) (y5 s a) [] (fun k hk a' ha'=>by
  obtain ⟨i,hi,rfl⟩:=List.mem_iff_getElem.1 hk
  have:=o.h i hi
  rw [List.getD_eq_getElem?_getD,List.getElem?_eq_getElem hi] at this
  exact hd_back this.1 (by have:=this.2; simp only [Option.getD_some] at this; omega) a' ha') hD (by
   have hz:=hD.1
   have:x.h.length≤(x.h.flatMap hL).length:=by
    rw [List.length_flatMap]
    have:∀ l:List Int,l.length≤(l.map fun a=>(hL a).length).sum:=fun l=>by
     induction l with
     | nil=>simp
     | cons y l ih =>
      have:=hL_pos y
      simp only [List.map_cons,List.sum_cons,List.length_cons]
      omega
    exact this _
   omega) (by omega)
 have eA:acS s a false=(x.h,y5 s a+(x.h.flatMap hL).length,false):=by
  rw [acS_lp,eS,hB]
  exact L
 refine ⟨?_,?_,?_⟩
 ·unfold acA
  rw [eA]
  show y5 s a+_=_
  omega
 ·unfold acB; rw [eA]
 ·unfold acE acV
  rw [eA,eK,eP,eW,eV,wrap64 (by omega) (by omega)]
theorem acL_pos (x:Ac):0<(acL x).length:=by
 rw [acL_all]
 simp only [List.length_append,List.length_singleton]
 omega
theorem ac_fwd {s:ByteArray} (a:Nat) (ha:a≤s.size) (h:acB s a=false):AtL s a (acL (acE s a))∧acA s a=a+(acL (acE s a)).length∧RgA (acE s a):=by
 unfold acB at h
 rw [acS_lp] at h
 have hv:=sh_v s (y4 s a)
 obtain ⟨hB,l,l1,l2,l3,l4,l5⟩:=lp_fwd (enc:=hL) (P:=fun _=>True) hL_pos (fun a ha h=>hd_fwd a ha h) (s.size+2) (sh s (y4 s a)).1 (y5 s a) [] (bq4 s a false) hv.1 hv.2 (y5_le s a ha) (by omega) h
 obtain ⟨b1,b2,b3,b4,b5⟩:=bq4_f.1 hB
 have hE:1≤s.size-a:=by
  unfold fgE at b1
  split at b1
  ·exact absurd b1 (by decide)
  ·omega
 have q1:y1 s a=a+1:=by unfold y1; rw [mn_eq]; omega
 obtain ⟨f1,f2,f3,f4,f5⟩:=kd_fwd (y1_le s a ha) b2
 have q2:y2 s a=y1 s a+(kyL (kd s (y1 s a)).1).length:=by unfold y2; rw [f2]; rfl
 obtain ⟨g1,g2,g3⟩:=vl_fwd (y2_le s a ha) b3
 have q3:y3 s a=y2 s a+(layL (vl s (y2 s a)).1).length:=by unfold y3; rw [g2]; rfl
 obtain ⟨i1,i2,i3⟩:=vl_fwd (y3_le s a ha) b4
 have q4:y4 s a=y3 s a+(layL (vl s (y3 s a)).1).length:=by unfold y4; rw [i2]; rfl
 obtain ⟨j1,j2⟩:=sh_fwd (y4_le s a ha) b5
 have q5:y5 s a=y4 s a+(shortL (sh s (y4 s a)).1.toNat).length:=by unfold y5; rw [j2]; rfl
 have hb:=byteN_lt s a
 have eV:fgV s a=byteN s a:=by unfold fgV; rw [if_neg (by omega)]
 have w1:IntKind.i64.wrap (byteN s a)=byteN s a:=wrap64 (by omega) (by omega)
 have w8:IntKind.u8.wrap (byteN s a)=byteN s a:=by show byteN s a%256=_; omega
 have eL:(acS s a false).1=l:=by rw [acS_lp,l1]; rfl
 have eE:acE s a=⟨byteN s a,(kd s (y1 s a)).1,(vl s (y2 s a)).1,(vl s (y3 s a)).1,l⟩:=by
  unfold acE acV
  rw [eL,eV,w1]
 have hn:l.length=(sh s (y4 s a)).1.toNat:=by omega
 have eF:acL (acE s a)=[byteN s a]++kyL (kd s (y1 s a)).1++layL (vl s (y2 s a)).1++layL (vl s (y3 s a)).1++shortL (sh s (y4 s a)).1.toNat++l.flatMap hL:=by
  rw [acL_all,eE]
  simp only
  rw [w8,hn]
 rw [eF,eE]
 refine ⟨?_,?_,f4,f5,g3,i3⟩
 ·refine ((((AtL.one rfl (by omega):AtL s a [byteN s a]).app ?_).app ?_).app ?_).app ?_ |>.app ?_
  ·rw [List.length_singleton,← q1]; exact f1
  ·rw [List.length_append,List.length_singleton,← Nat.add_assoc,← q1,← q2]; exact g1
  ·simp only [List.length_append,List.length_singleton,← Nat.add_assoc]; rw [← q1,← q2,← q3]; exact i1
  ·simp only [List.length_append,List.length_singleton,← Nat.add_assoc]; rw [← q1,← q2,← q3,← q4]; exact j1
  ·simp only [List.length_append,List.length_singleton,← Nat.add_assoc]; rw [← q1,← q2,← q3,← q4,← q5]; exact l3
 ·unfold acA
  rw [acS_lp,l4]
  simp only [List.length_append,List.length_singleton]
  omega
end Go.Proofs.YtaecnniddhikbaaGreatDoor
namespace Go.Proofs.YtaecnniddhikbaaGreatDoor
open Go Go.VA
def ua (s:ByteArray):Nat:=k2 s 40
def ub (s:ByteArray):Nat:=s1 s (ua s)
def uc (s:ByteArray):Nat:=s1 s (ub s)
def ud (s:ByteArray):Nat:=s1 s (uc s)
def fa (s:ByteArray):Bool:=false||decide (s.size-40<32)
def fb (s:ByteArray):Bool:=fa s||shE s (ua s)
def fc (s:ByteArray):Bool:=fb s||shE s (ub s)
def fd (s:ByteArray):Bool:=fc s||shE s (uc s)
def vrS (s:ByteArray):List Bd×Nat×Bool:=lpR (bdA s) (bdB s) (bdE s) (s.size+2) (sh s (uc s)).1 (ud s) [] (fd s)
def tsS (s:ByteArray):List Sp×Nat×Bool:=lpR (spA s) (spB s) (spE s) (s.size+2) (sh s (vrS s).2.1).1 (s1 s (vrS s).2.1) [] ((vrS s).2.2||shE s (vrS s).2.1)
def axS (s:ByteArray):List Ac×Nat×Bool:=lpR (acA s) (acB s) (acE s) (s.size+2) (sh s (tsS s).2.1).1 (s1 s (tsS s).2.1) [] ((tsS s).2.2||shE s (tsS s).2.1)
def rdP (s:ByteArray):Pl:=⟨smF s 40,(sh s (ua s)).1,(sh s (ub s)).1,(vrS s).1,(tsS s).1,(axS s).1⟩
def rPl (s:ByteArray):Pl×Int:=rPlG s (preM mgP s) (be4 s) (sumB s (wXs s)) (axS s).2.1 (axS s).2.2 (okPl (rdP s)) (rdP s)
theorem n1_le {s:ByteArray} {a:Nat} (h:a≤s.size):a≤n1 s a∧n1 s a≤s.size:=by
 have:=tx_rg s a
 unfold n1; omega
theorem n2_le {s:ByteArray} {a:Nat} (h:a≤s.size):a≤n2 s a∧n2 s a≤s.size:=by
 have:=vl_rg s a
 unfold n2; omega
theorem k1_le {s:ByteArray} {a:Nat} (h:a≤s.size):a≤k1 s a∧k1 s a≤s.size:=by
 have:=kd_rg s a
 unfold k1; omega
theorem k2_le {s:ByteArray} {a:Nat} (h:a≤s.size):a≤k2 s a∧k2 s a≤s.size:=by
 unfold k2 smN; omega
theorem tx_pos {s:ByteArray} {a:Nat} (h:(tx s a).2.2=0):0<(tx s a).2.1:=by
 unfold tx gStr at *
 by_cases h1:((gS s a (s.size-a) 0 0).2.2 != 0)=true
 ·rw [if_pos h1] at h
  have h:(gS s a (s.size-a) 0 0).2.2=0:=h
  rw [h] at h1; exact absurd h1 (by decide)
 rw [if_neg h1] at h ⊢
 have o:=gS_ok s a (s.size-a) 0 0 (Int.le_refl 0) (by simpa using h1)
 by_cases h2:decide ((gS s a (s.size-a) 0 0).1>IntKind.u64.wrap (if 0>(1024:Int) then 0 else 1024))=true
 ·rw [if_pos h2] at h; exact absurd h (by show ¬((3:Int)=0); decide)
 rw [if_neg h2] at h ⊢
 by_cases h3:decide ((gS s a (s.size-a) 0 0).1>((s.size-a:Nat):Int)-(gS s a (s.size-a) 0 0).2.1)=true
 ·rw [if_pos h3] at h; exact absurd h (by show ¬((2:Int)=0); decide)
 rw [if_neg h3]
 have o1:((0:Nat):Int)<(gS s a (s.size-a) 0 0).2.1:=o.1
 show 0<(gS s a (s.size-a) 0 0).2.1+(gS s a (s.size-a) 0 0).1
 omega
theorem bd_rg {s:ByteArray} (a:Nat) (h:a≤s.size):a≤bdA s a∧bdA s a≤s.size∧(bdB s a=false→a<bdA s a):=by
 have h1:=n1_le h
 have h2:=n2_le h1.2
 refine ⟨Nat.le_trans h1.1 h2.1,h2.2,fun hb=> ?_⟩
 unfold bdB at hb
 rw [Bool.false_or,Bool.or_eq_false_iff] at hb
 have:=tx_pos (ne0f hb.1)
 have:a<n1 s a:=by unfold n1; omega
 exact Nat.lt_of_lt_of_le this h2.1
theorem sp_rg {s:ByteArray} (a:Nat) (h:a≤s.size):a≤spA s a∧spA s a≤s.size∧(spB s a=false→a<spA s a):=by
 have h1:=k1_le h
 have h2:=k2_le h1.2
 refine ⟨Nat.le_trans h1.1 h2.1,h2.2,fun hb=> ?_⟩
 unfold spB at hb
 rw [Bool.false_or,Bool.or_eq_false_iff] at hb
 have:=kd_pos s a (ne0f hb.1)
 have:a<k1 s a:=by unfold k1; omega
 exact Nat.lt_of_lt_of_le this h2.1
theorem hdR_rg (s:ByteArray):∀ (m:Nat) (i:Int) (a:Nat) (acc:List Int) (b:Bool),a≤s.size→a≤(lpR (s1 s) (hdB s) (hdE s) m i a acc b).2.1∧(lpR (s1 s) (hdB s) (hdE s) m i a acc b).2.1≤s.size
 | 0,i,a,acc,b,h=>⟨Nat.le_refl _,h⟩
 | m+1,i,a,acc,b,h=>by
  simp only [lpR]
  split
  ·have:=hdR_rg s m (IntKind.u64.wrap (i-1)) (s1 s a) (acc++[hdE s a]) (hdB s a) (s1_le h)
   have h2:a≤s1 s a:=by unfold s1; omega
   omega
  ·exact ⟨Nat.le_refl _,h⟩
theorem y5_y1 (s:ByteArray) (a:Nat):y1 s a≤y5 s a:=by unfold y5 y4 y3 y2; omega
theorem y5_ge (s:ByteArray) (a:Nat):a≤y5 s a:=by unfold y5 y4 y3 y2 y1; omega
theorem ac_rg {s:ByteArray} (a:Nat) (h:a≤s.size):a≤acA s a∧acA s a≤s.size∧(acB s a=false→a<acA s a):=by
 have h1:y5 s a≤acA s a∧acA s a≤s.size:=by
  unfold acA
  rw [acS_lp]
  exact hdR_rg s _ _ _ _ _ (y5_le s a h)
 have h2:=y5_ge s a
 refine ⟨Nat.le_trans h2 h1.1,h1.2,fun hb=> ?_⟩
 unfold acB at hb
 rw [acS_lp] at hb
 have hq:bq4 s a false=false:=by
  cases hq:bq4 s a false
  ·rfl
  ·rw [hq,lpR_bad] at hb; exact absurd hb (by decide)
 have hE:=(bq4_f.1 hq).1
 have:a<y1 s a:=by
  unfold fgE at hE
  split at hE
  ·exact absurd hE (by decide)
  ·unfold y1; rw [mn_eq]; omega
 exact Nat.lt_of_lt_of_le (Nat.lt_of_lt_of_le this (y5_y1 s a)) h1.1
theorem aGetP (t:Bool) (s:ByteArray) (hs:s.size≤4294967296):ACall Tryz.prog gl 13 [.c (.sl t 1 s.size (strCells s))] [] (.tup [.ag (cPl false false false (rPl s).1),intA .i64 (rPl s).2]):=by
 by_cases hA:(s.size:Int)<40
 ·have e:rPl s=(plz,2):=by unfold rPl rPlG; rw [if_pos (by simpa using hA)]
  rw [e]
  have hcond:true=true:=rfl
  refine acall_of_vc htb hmix (f:=13) rfl rfl rfl (by kernel_rfl) rfl rfl ?_; conv=>whnf
  repeat' (first|(refine And.intro (fun h=> ?_) (fun h=> ?_)<;>(first|(with_reducible have hd:_<_:=of_decide_eq_true h)|(with_reducible have hd:¬ (_<_):=of_decide_eq_false h)|fail)<;>(first|(first|omega)|(conv=>whnf)))|((with_reducible refine FzOr.l ?_); conv=>whnf)|fail)
  exact leTup2 plzLe (Le.refl _)
 ·have h40:40≤s.size:=by omega
  exact aGetPG t s hs h40 (preM mgP s) (be4 s) (shaA (wXs s)) (sumB s (wXs s)) (ua s) (ub s) (uc s) (ud s) (fa s) (fb s) (fc s) (fd s) (smF s 40) _ _ _
   (s1 s) (shE s) (fun a=>(sh s a).1) (n1 s) (n2 s) (k1 s) (k2 s) (fun a=>(tx s a).2.2 != 0) (fun a=>(vl s a).2.2 != 0) (fun a=>(kd s a).2.2 != 0) (fun a=>decide (s.size-a<32)) (fun a=>(tx s a).1) (fun a=>(vl s a).1) (fun a=>(kd s a).1) (smF s)
   (acA s) (acB s) (acE s) okPl
   (fun u=>aPreM mgP t u s _ (by omega) mgIP mgEP) (aGet4 t s (by omega))
   (fun u=>aSha1S u t s 40 (s.size-40) _ (fun i hi=>by
    obtain rfl:i=0:=by omega
    rfl) (by omega))
   (fun u v=>aSumEq u v s (wXs s))
   (mSumP t s 40 false) (mShortP t s (ua s) (fa s)) (mShortP t s (ub s) (fb s)) (mShortP t s (uc s) (fc s))
   (fun a b=>mShortP t s a b) (fun a b=>mNameP t s a b) (fun a b=>mValP t s a b) (fun a b=>mKeyP t s a b) (fun a b=>mSumP t s a b)
   (fun a ha=>mActP t s a false hs ha)
   (s1_le (s1_le (s1_le (k2_le h40).2))) (fun a h=>s1_le h) (fun a h=>bd_rg a h) (fun a h=>sp_rg a h) (fun a h=>ac_rg a h)
   (fun u v w p=>aCheckP u v w p) (vrS s) rfl (tsS s) rfl (axS s) rfl (rPl s) rfl
theorem rPl_e {s:ByteArray} (h:(unE mgP s != 0)=true):rPl s=(plz,unE mgP s):=by
 unfold rPl rPlG unE unEG at *
 split
 ·rfl
 ·rename_i h1
  rw [if_neg h1] at h
  split
  ·rfl
  ·rename_i h2
   rw [if_neg h2] at h
   split
   ·rfl
   ·rename_i h3
    rw [if_neg h3] at h
    split
    ·rfl
    ·rename_i h4
     rw [if_neg h4] at h
     split
     ·rfl
     ·rename_i h5
      rw [if_neg h5] at h
      exact absurd h (by decide)
theorem unE_parts {mg s:ByteArray} (h:unE mg s=0):40≤s.size∧preM mg s=true∧IntKind.u64.wrap ((s.size-(40:Int).toNat:Nat):Int)=be4 s∧sumB s (wXs s)=true:=by
 unfold unE unEG at h
 split at h
 ·exact absurd h (by decide)
 ·rename_i h1
  simp only [decide_eq_true_eq] at h1
  refine ⟨by omega,?_⟩
  split at h
  ·exact absurd h (by decide)
  ·rename_i h2
   refine ⟨by simpa using h2,?_⟩
   split at h
   ·exact absurd h (by decide)
   ·rename_i h3
    split at h
    ·exact absurd h (by decide)
    ·rename_i h4
     split at h
     ·exact absurd h (by decide)
     ·rename_i h5
      simp only [decide_eq_true_eq] at h3 h4
      exact ⟨by omega,by simpa using h5⟩
theorem rPl_0 {s:ByteArray} (h:unE mgP s=0):rPl s=if (axS s).2.2||decide (((s.size-(axS s).2.1:Nat):Int)>0)|| !okPl (rdP s) then (plz,4) else (rdP s,0):=by
 obtain ⟨h1,h2,h3,h4⟩:=unE_parts h
 unfold rPl rPlG
 rw [if_neg (by simp; omega),if_neg (by rw [h2]; decide),if_neg (by rw [h3]; simp),if_neg (by rw [h3]; simp),if_neg (by rw [h4]; decide)]
end Go.Proofs.YtaecnniddhikbaaGreatDoor
namespace Go.Proofs.YtaecnniddhikbaaGreatDoor
open Go Go.VA
theorem inP_all (p:Pl):inP p=sumL p.c++shortL p.a.toNat++shortL p.s.toNat++shortL p.b.length++p.b.flatMap bdL++shortL p.t.length++p.t.flatMap spL++shortL p.x.length++p.x.flatMap acL:=by
 unfold inP pxH px0 ptH pt0 pbH pb0 bdsL spsL acsL
 rw [List.take_length,List.take_length,List.take_length]
theorem flat_len {α:Type} {enc:α→List Int} (hp:∀ x,0<(enc x).length):∀ l:List α,l.length≤(l.flatMap enc).length
 | []=>Nat.le_refl _
 | x::l=>by
  have ih:=flat_len hp l
  have:=hp x
  rw [List.flatMap_cons,List.length_append,List.length_cons]
  omega
theorem mem_getD {α:Type} {l:List α} {x d:α} {P:α→Prop} (h:∀ j,j<l.length→P (l.getD j d)) (hx:x ∈ l):P x:=by
 obtain ⟨i,hi,rfl⟩:=List.mem_iff_getElem.1 hx
 have:=h i hi
 rw [List.getD_eq_getElem?_getD,List.getElem?_eq_getElem hi] at this
 exact this
theorem shE_b {s:ByteArray} {a n:Nat} (hn:n<2 ^ 64) (h:AtL s a (shortL n)):(sh s a).1=(n:Int)∧s1 s a=a+(shortL n).length∧shE s a=false:=by
 have e:=sh_back hn h
 refine ⟨by rw [e],?_,?_⟩
 ·unfold s1; rw [e]; rfl
 ·unfold shE; rw [e]; rfl
theorem inP_len {p:Pl} (o:OkP p):(inP p).length≤520000000:=pxH_len o _ (Nat.le_refl _)
attribute [local irreducible] sh shortL sumL bdL spL acL kyL layL lpR okPl inP
theorem pl_back {s:ByteArray} {p:Pl} (ho:okPl p=true) (o:OkP p) (r:RgPl p) (hz:s.size=(fmP p).length) (h:AtL s 0 (fmP p)):rPl s=(p,0):=by
 have hl:=inP_len o
 have fl:=fmP_len p
 have hs:s.size≤4294967296:=by omega
 have hu:=unE_back (mg:=mgP) rfl hs (by omega) (by omega) h
 have a0:=r.a0
 have a1:=r.a1
 have s0:=r.s0
 have s1':=r.s1
 have obl:=o.bl
 have otl:=o.tl
 have oxl:=o.xl
 have hr:=h.right
 rw [List.length_append,List.length_append,be4L_len,sumL_len,show (bytesL mgP).length=4 from rfl] at hr
 have el:=congrArg List.length (inP_all p)
 rw [inP_all] at hr
 simp only [List.length_append] at el
 have g1:=hr.left.left.left.left.left.left.left.left
 have g2:=hr.left.left.left.left.left.left.left.right
 have g3:=hr.left.left.left.left.left.left.right
 have g4:=hr.left.left.left.left.left.right
 have g5:=hr.left.left.left.left.right
 have g6:=hr.left.left.left.right
 have g7:=hr.left.left.right
 have g8:=hr.left.right
 have g9:=hr.right
 simp only [List.length_append,← Nat.add_assoc,Nat.zero_add] at g1 g2 g3 g4 g5 g6 g7 g8 g9
 obtain ⟨m1,m2,m3⟩:=sm_back r.c g1
 have q1:ua s=4+4+32+(sumL p.c).length:=by unfold ua k2; rw [m1,sumL_len]
 rw [← q1] at g2 g3 g4 g5 g6 g7 g8 g9
 obtain ⟨e1,q2,n1'⟩:=shE_b (by omega) g2
 have q2:ub s=_:=q2
 rw [← q2] at g3 g4 g5 g6 g7 g8 g9
 obtain ⟨e2,q3,n2'⟩:=shE_b (by omega) g3
 have q3:uc s=_:=q3
 rw [← q3] at g4 g5 g6 g7 g8 g9
 obtain ⟨e3,q4,n3'⟩:=shE_b (by omega) g4
 have q4:ud s=_:=q4
 rw [← q4] at g5 g6 g7 g8 g9
 have wa:(p.a.toNat:Int)=p.a:=Int.toNat_of_nonneg a0
 have ws:(p.s.toNat:Int)=p.s:=Int.toNat_of_nonneg s0
 have hfa:fa s=false:=by
  unfold fa
  rw [show (40:Nat)=4+4+32 from rfl,m3]; rfl
 have hfd:fd s=false:=by unfold fd fc fb; rw [hfa,n1',n2',n3']; rfl
 have L1:vrS s=(p.b,ud s+(p.b.flatMap bdL).length,false):=by
  unfold vrS
  rw [e3,hfd]
  have:=lp_back (A:=bdA s) (B:=bdB s) (E:=bdE s) (enc:=bdL) (s:=s) p.b (s.size+2) (ud s) [] (fun x hx a ha=>bd_back (mem_getD (P:=fun x:Bd=>OkB x) o.b hx) (r.b x hx) a ha) g5 (by have:=flat_len bdL_pos p.b; omega) (by omega)
  rw [List.nil_append] at this
  exact this
 have p1':(vrS s).2.1=ud s+(p.b.flatMap bdL).length:=by rw [L1]
 rw [← p1'] at g6 g7 g8 g9
 obtain ⟨e4,q5,n4'⟩:=shE_b (n:=p.t.length) (by omega) g6
 rw [← q5] at g7 g8 g9
 have L2:tsS s=(p.t,s1 s (vrS s).2.1+(p.t.flatMap spL).length,false):=by
  unfold tsS
  rw [e4,n4',show (vrS s).2.2=false from by rw [L1]]
  have:=lp_back (A:=spA s) (B:=spB s) (E:=spE s) (enc:=spL) (s:=s) p.t (s.size+2) (s1 s (vrS s).2.1) [] (fun x hx a ha=>sp_back (mem_getD (P:=fun x:Sp=>okKy x.y=true) o.t hx) (r.t x hx) a ha) g7 (by have:=flat_len spL_pos p.t; omega) (by omega)
  rw [List.nil_append] at this
  exact this
 have p2':(tsS s).2.1=s1 s (vrS s).2.1+(p.t.flatMap spL).length:=by rw [L2]
 rw [← p2'] at g8 g9
 obtain ⟨e5,q6,n5'⟩:=shE_b (n:=p.x.length) (by omega) g8
 rw [← q6] at g9
 have L3:axS s=(p.x,s1 s (tsS s).2.1+(p.x.flatMap acL).length,false):=by
  unfold axS
  rw [e5,n5',show (tsS s).2.2=false from by rw [L2]]
  have:=lp_back (A:=acA s) (B:=acB s) (E:=acE s) (enc:=acL) (s:=s) p.x (s.size+2) (s1 s (tsS s).2.1) [] (fun x hx a ha=>ac_back (mem_getD (P:=fun x:Ac=>OkA x) o.x hx) (by have:=r.x x hx; exact ⟨this.1,this.2.1,this.2.2.1,this.2.2.2⟩) a ha) g9 (by have:=flat_len acL_pos p.x; omega) (by omega)
  rw [List.nil_append] at this
  exact this
 have er:rdP s=p:=by
  unfold rdP
  rw [show smF s 40=p.c from m2,e1,e2,wa,ws,L1,L2,L3]
 rw [rPl_0 hu,L3,er,ho,if_neg]
 simp only [Bool.false_or,Bool.not_true,Bool.or_false,decide_eq_true_eq]
 omega
theorem fmP_bys {p:Pl} (o:OkP p) (r:RgPl p):Bys (fmP p):=bys_wrap (by intro x hx; revert x; decide +kernel) (bys_inP o r)
theorem fmP_at {p:Pl} (o:OkP p) (r:RgPl p):AtL (baL (fmP p)) 0 (fmP p):=⟨by rw [baL_size]; omega,fun j hj=>by rw [Nat.zero_add]; exact baL_byte (fmP_bys o r) j hj⟩
end Go.Proofs.YtaecnniddhikbaaGreatDoor
namespace Go.Proofs.YtaecnniddhikbaaGreatDoor
open Go Go.VA
theorem preM_fwd {mg s:ByteArray} (h4:mg.size=4) (hz:4≤s.size) (h:preM mg s=true):AtL s 0 (bytesL mg):=by
 unfold preM at h
 have e:bytesOf 4 (fun i=>strCells s (0+i))=mg:=eqs_iff.1 h
 have:AtL s 0 (bytesL (subS s 0 4)):=sub_at (by omega)
 rw [show subS s 0 4=mg from e] at this
 exact this
theorem be4_fwd {s:ByteArray} (hz:8≤s.size):AtL s 4 (be4L (be4 s)):=by
 refine ⟨by rw [be4L_len]; omega,fun j hj=> ?_⟩
 rw [be4L_len] at hj
 rw [be4L,getD_bys 4 _ j hj]
 unfold be4 byteN
 congr 1
 simp only [nB,putB,UInt8.toNat_ofNat']
 have b0:=((s.data.toList[4+0]?).getD 0).toNat_lt
 have b1:=((s.data.toList[4+1]?).getD 0).toNat_lt
 have b2:=((s.data.toList[4+2]?).getD 0).toNat_lt
 have b3:=((s.data.toList[4+3]?).getD 0).toNat_lt
 match j,hj with
 | 0,_=>simp at *; omega
 | 1,_=>simp at *; omega
 | 2,_=>simp at *; omega
 | 3,_=>simp at* <;> omega
theorem sum_fwd {s x:ByteArray} (hz:40≤s.size) (h:sumB s x=true):AtL s 8 (sumL (shaA x)):=by
 unfold sumB at h
 rw [bytesOf_eq,decide_eq_true_eq] at h
 refine ⟨by rw [sumL_len]; omega,fun j hj=> ?_⟩
 rw [sumL_len] at hj
 rw [sumL,getD_bys 32 _ j hj]
 have:=h j hj
 rw [Nat.zero_add,← arr_sumC,nthCC_arr _ _ _ hj] at this
 simp only [byteC,strCells] at this
 unfold byteN
 have e2:∀ y:UInt8,UInt8.ofNat y.toNat=y:=fun y=>by simp
 simp [e2] at this
 rw [this]
 simp
theorem wrap_fwd {mg s:ByteArray} {L:List Int} (h4:mg.size=4) (hs:s.size≤4294967296) (h:unE mg s=0) (hz:s.size=40+L.length) (hL:AtL s 40 L):AtL s 0 (wrapL (bytesL mg) L):=by
 obtain ⟨h1,h2,h3,h5⟩:=unE_parts h
 have l4:(bytesL mg).length=4:=by rw [bytesL_len]; exact h4
 have hw:IntKind.u64.wrap ((s.size-(40:Int).toNat:Nat):Int)=((L.length:Nat):Int):=by
  have:(40:Int).toNat=40:=rfl
  rw [this,wrapU (by omega) (by omega)]; omega
 have e4:be4 s=L.length:=by omega
 have eX:wXs s=baL L:=by
  unfold wXs
  rw [show s.size-40=L.length from by omega]
  exact subS_ba hL
 rw [eX] at h5
 have b:=be4_fwd (s:=s) (by omega)
 rw [e4] at b
 unfold wrapL
 refine (((preM_fwd h4 (by omega) h2).app ?_).app ?_).app ?_
 ·rw [l4]; exact b
 ·rw [List.length_append,l4,be4L_len]; exact sum_fwd h1 h5
 ·rw [List.length_append,List.length_append,l4,be4L_len,sumL_len]; exact hL
theorem AtL.app' {s:ByteArray} {a b:Nat} {A B:List Int} (h:AtL s a A) (h2:AtL s b B) (e:b=a+A.length):AtL s a (A++B):=h.app (e ▸ h2)
theorem chain9 {s:ByteArray} {p0 p1 p2 p3 p4 p5 p6 p7 p8:Nat} {L0 L1 L2 L3 L4 L5 L6 L7 L8:List Int} (m0:AtL s p0 L0) (m1:AtL s p1 L1) (m2:AtL s p2 L2) (m3:AtL s p3 L3) (m4:AtL s p4 L4) (m5:AtL s p5 L5) (m6:AtL s p6 L6) (m7:AtL s p7 L7) (m8:AtL s p8 L8)
  (q1:p1=p0+L0.length) (q2:p2=p1+L1.length) (q3:p3=p2+L2.length) (q4:p4=p3+L3.length) (q5:p5=p4+L4.length) (q6:p6=p5+L5.length) (q7:p7=p6+L6.length) (q8:p8=p7+L7.length) :
  AtL s p0 (L0++L1++L2++L3++L4++L5++L6++L7++L8)∧p8+L8.length=p0+(L0++L1++L2++L3++L4++L5++L6++L7++L8).length:=by
 subst q1; subst q2; subst q3; subst q4; subst q5; subst q6; subst q7; subst q8
 refine ⟨(((((((m0.app m1).app' m2 ?_).app' m3 ?_).app' m4 ?_).app' m5 ?_).app' m6 ?_).app' m7 ?_).app' m8 ?_,?_⟩
 all_goals
  simp only [List.length_append]
  omega
theorem gv_rg {α:Type} {s:ByteArray} {A:Nat→Nat} {B:Nat→Bool} {E:Nat→α} (h:∀ a,a≤s.size→A a≤s.size):∀ (m:Nat) (i:Int) (a:Nat) (acc:List α) (b:Bool),a≤s.size→(lpR A B E m i a acc b).2.1≤s.size
 | 0,i,a,acc,b,ha=>ha
 | m+1,i,a,acc,b,ha=>by
  simp only [lpR]
  split
  ·exact gv_rg h m _ _ _ _ (h a ha)
  ·exact ha
theorem mem_flat {l:List Ac} {x:Ac} (h:x ∈ l):(acL x).length≤(l.flatMap acL).length:=by
 induction l with
 | nil=>exact absurd h List.not_mem_nil
 | cons y l ih =>
  rw [List.flatMap_cons,List.length_append]
  rcases List.mem_cons.1 h with rfl|h
  ·omega
  ·have:=ih h; omega
theorem s1_eq {s:ByteArray} {a n:Nat} (h:(sh s a).2.1=(n:Int)):s1 s a=a+n:=by unfold s1; rw [h]; rfl
theorem shE_0 {s:ByteArray} {a:Nat} (h:shE s a=false):(sh s a).2.2=0:=ne0f h
theorem stop_eq {n a:Nat} (h:a≤n) (c:¬ ((n-a:Nat):Int)>0):n=a:=by omega
theorem stop_le {n0 f n1 n2 x p z:Nat} (h0:n0≤f) (h1:n1≤n2) (h2:n1=x+f) (hz:p+n2≤z) (hs:z≤4294967296):n0≤140737488355328:=by omega
attribute [local irreducible] sh shortL sumL bdL spL acL kyL layL lpR okPl inP smF
theorem pl_fwd {s:ByteArray} (hs:s.size≤4294967296) (h:(rPl s).2=0):unE mgP s=0∧okPl (rPl s).1=true∧RgPl (rPl s).1∧OkP (rPl s).1∧s.size=(fmP (rPl s).1).length∧AtL s 0 (fmP (rPl s).1):=by
 by_cases hu:(unE mgP s != 0)=true
 ·rw [rPl_e hu] at h
  have h:unE mgP s=0:=h
  rw [h] at hu; exact absurd hu (by decide)
 have hu:unE mgP s=0:=by simpa using hu
 refine ⟨hu,?_⟩
 have h40:=(unE_parts hu).1
 rw [rPl_0 hu] at h ⊢
 by_cases hc:((axS s).2.2||decide (((s.size-(axS s).2.1:Nat):Int)>0)|| !okPl (rdP s))=true
 ·rw [if_pos hc] at h; exact absurd h (by show ¬((4:Int)=0); decide)
 rw [if_neg hc]
 have hc:((axS s).2.2||decide (((s.size-(axS s).2.1:Nat):Int)>0)|| !okPl (rdP s))=false:=by simpa using hc
 simp only [Bool.or_eq_false_iff,decide_eq_false_iff_not,Bool.not_eq_false'] at hc
 obtain ⟨⟨c1',c2'⟩,c3'⟩:=hc
 have l1:=(k2_le (s:=s) h40).2
 have l2:ub s≤s.size:=s1_le l1
 have l3:uc s≤s.size:=s1_le l2
 have l4:ud s≤s.size:=s1_le l3
 have l5:(vrS s).2.1≤s.size:=gv_rg (fun a h=>(bd_rg a h).2.1) _ _ _ _ _ l4
 have l6:s1 s (vrS s).2.1≤s.size:=s1_le l5
 have l7:(tsS s).2.1≤s.size:=gv_rg (fun a h=>(sp_rg a h).2.1) _ _ _ _ _ l6
 have l8:s1 s (tsS s).2.1≤s.size:=s1_le l7
 have v1:=sh_v s (tsS s).2.1
 obtain ⟨b1,lx,x1,x2,x3,x4,x5⟩:=lp_fwd (enc:=acL) (P:=fun x=>RgA x) acL_pos (fun a ha hb=>ac_fwd a ha hb) (s.size+2) (sh s (tsS s).2.1).1 (s1 s (tsS s).2.1) [] ((tsS s).2.2||shE s (tsS s).2.1) v1.1 v1.2 l8 (by omega) c1'
 rw [Bool.or_eq_false_iff] at b1
 have v2:=sh_v s (vrS s).2.1
 obtain ⟨b2,lt,t1,t2,t3,t4,t5⟩:=lp_fwd (enc:=spL) (P:=fun x=>0≤x.y.n∧x.y.n≤4294967295∧∀ i,32≤i→x.s i=0) spL_pos (fun a ha hb=>sp_fwd a ha hb) (s.size+2) (sh s (vrS s).2.1).1 (s1 s (vrS s).2.1) [] ((vrS s).2.2||shE s (vrS s).2.1) v2.1 v2.2 l6 (by omega) b1.1
 rw [Bool.or_eq_false_iff] at b2
 have v3:=sh_v s (uc s)
 obtain ⟨b3,lb,d1,d2,d3,d4,d5⟩:=lp_fwd (enc:=bdL) (P:=fun x=>rgV x.v=true) bdL_pos (fun a ha hb=>bd_fwd a ha hb) (s.size+2) (sh s (uc s)).1 (ud s) [] (fd s) v3.1 v3.2 l4 (by omega) b2.1
 unfold fd fc fb fa at b3
 simp only [Bool.false_or,Bool.or_eq_false_iff,decide_eq_false_iff_not] at b3
 obtain ⟨⟨⟨b4,b5⟩,b6⟩,b7⟩:=b3
 obtain ⟨m1,m2,m3⟩:=sm_fwd b4
 obtain ⟨i1,i2⟩:=sh_fwd l1 (shE_0 b5)
 obtain ⟨i3,i4⟩:=sh_fwd l2 (shE_0 b6)
 obtain ⟨i5,i6⟩:=sh_fwd l3 (shE_0 b7)
 obtain ⟨i7,i8⟩:=sh_fwd l5 (shE_0 b2.2)
 obtain ⟨i9,i10⟩:=sh_fwd l7 (shE_0 b1.2)
 have w1:=sh_v s (ua s)
 have w2:=sh_v s (ub s)
 have eb:(vrS s).1=lb:=d1
 have et:(tsS s).1=lt:=t1
 have ex:(axS s).1=lx:=x1
 have q0:ua s=40+(sumL (smF s 40)).length:=by unfold ua k2; rw [m2,sumL_len]
 have q1:ub s=_:=s1_eq i2
 have q2:uc s=_:=s1_eq i4
 have q3:ud s=_:=s1_eq i6
 have q4:(vrS s).2.1=ud s+(lb.flatMap bdL).length:=d4
 have q5:=s1_eq i8
 have q6:(tsS s).2.1=s1 s (vrS s).2.1+(lt.flatMap spL).length:=t4
 have q7:=s1_eq i10
 have q8:(axS s).2.1=s1 s (tsS s).2.1+(lx.flatMap acL).length:=x4
 have nb:(sh s (uc s)).1.toNat=lb.length:=by rw [← d2]; rfl
 have nt:(sh s (vrS s).2.1).1.toNat=lt.length:=by rw [← t2]; rfl
 have nx:(sh s (tsS s).2.1).1.toNat=lx.length:=by rw [← x2]; rfl
 rw [nb] at i5 q3
 rw [nt] at i7 q5
 rw [nx] at i9 q7
 obtain ⟨hA0,hz0⟩:=chain9 m1 i1 i3 i5 d3 i7 t3 i9 x3 q0 q1 q2 q3 q4 q5 q6 q7
 have eA:inP (rdP s)=sumL (smF s 40)++shortL (sh s (ua s)).1.toNat++shortL (sh s (ub s)).1.toNat++shortL lb.length++lb.flatMap bdL++shortL lt.length++lt.flatMap spL++shortL lx.length++lx.flatMap acL:=by
  rw [inP_all]
  unfold rdP
  rw [eb,et,ex]
 have hA0:AtL s 40 (inP (rdP s)):=by rw [eA]; exact hA0
 have hz0:s1 s (tsS s).2.1+(lx.flatMap acL).length=40+(inP (rdP s)).length:=by rw [eA]; exact hz0
 have hlen:s.size=40+(inP (rdP s)).length:=by
  rw [← hz0,← q8]
  have hz:=hA0.1
  rw [← hz0,← q8] at hz
  exact stop_eq hz c2'
 have rg:RgPl (rdP s):=⟨w1.1,w1.2,w2.1,w2.2,m3,fun x hx=>d5 x (by rw [← eb]; exact hx),fun x hx=>t5 x (by rw [← et]; exact hx),fun x hx=>by
  have:=x5 x (by rw [← ex]; exact hx)
  exact ⟨this.y0,this.y1,this.p,this.w⟩⟩
 have ok:OkP (rdP s):=okP_of c3' (fun j hj=>by
  have hx:(rdP s).x=lx:=ex
  rw [hx] at hj ⊢
  rw [List.getD_eq_getElem?_getD,List.getElem?_eq_getElem hj,Option.getD_some]
  have h0:=flat_len hL_pos (lx[j]).h
  have h1:=mem_flat (List.getElem_mem hj)
  have h2:=congrArg List.length (acL_all lx[j])
  have hz:=x3.1
  rw [List.length_append] at h2
  exact stop_le h0 h1 h2 hz hs)
 have hf:=wrap_fwd (mg:=mgP) rfl hs hu hlen hA0
 exact ⟨c3',rg,ok,by rw [fmP_len]; exact hlen,hf⟩
end Go.Proofs.YtaecnniddhikbaaGreatDoor
